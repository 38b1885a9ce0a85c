/- Lemmas on the way to LinearAcceptsSequential. No condition. -/
import Derived.Test.YtbcgpjfejpcgnaaGreatRAj
set_option linter.unusedSimpArgs false
set_option linter.unusedVariables false
set_option linter.unusedSectionVars false
section
namespace Go.Proofs.YtbcgpjfejpcgnaaGreat
open Go.RowKit
set_option maxRecDepth 100000
set_option linter.unusedSimpArgs false
variable {w w' : World} {base ww : Nat} {bv sv cv : Value} {vs : List Value} {s : WS}
theorem results_ct {fn : Func} {p u : Tmp} {ty : TypeId} (h : fn.results = #[.cell p ty, .tmp u]) (tmps : Array Value) (w : World) (g : Nat) (cs : List Value) (d : Array Field)
    (hp : tmps.getD p undef = .pointer (some ⟨g, 0, none⟩)) (hb : Blk w g cs) (hu : Tryz.prog.underlying ty = some (.struct d)) (hi : (Tryz.prog.info? ty).map (·.size) = some cs.length) :
    (results fn tmps).run Tryz.prog w = .ok (.tuple #[.agg cs.toArray, tmps.getD u undef]) w := by
  obtain ⟨T, ht⟩ := hb
  have := run_loadVar_row (P := Tryz.prog) w g T ty cs.toArray _ (.struct d) ht hu rfl (by simpa using hi)
  have e : (results fn tmps).run Tryz.prog w = ((asAddr (tmps.getD p undef)).run Tryz.prog w).andThen fun a w₁ => ((loadVar ty a).run Tryz.prog w₁).andThen fun v w₂ => .ok (.tuple #[v, tmps.getD u undef]) w₂ := by
    simp only [results, h]
    simp [Sem.run_bind, Result.andThen]
  rw [e, hp]
  simp [asAddr, Result.andThen, this]
theorem results_ctt {fn : Func} {p u v : Tmp} {ty : TypeId} (h : fn.results = #[.cell p ty, .tmp u, .tmp v]) (tmps : Array Value) (w : World) (g : Nat) (cs : List Value) (d : Array Field)
    (hp : tmps.getD p undef = .pointer (some ⟨g, 0, none⟩)) (hb : Blk w g cs) (hu : Tryz.prog.underlying ty = some (.struct d)) (hi : (Tryz.prog.info? ty).map (·.size) = some cs.length) :
    (results fn tmps).run Tryz.prog w = .ok (.tuple #[.agg cs.toArray, tmps.getD u undef, tmps.getD v undef]) w := by
  obtain ⟨T, ht⟩ := hb
  have := run_loadVar_row (P := Tryz.prog) w g T ty cs.toArray _ (.struct d) ht hu rfl (by simpa using hi)
  have e : (results fn tmps).run Tryz.prog w = ((asAddr (tmps.getD p undef)).run Tryz.prog w).andThen fun a w₁ => ((loadVar ty a).run Tryz.prog w₁).andThen fun x w₂ => .ok (.tuple #[x, tmps.getD u undef, tmps.getD v undef]) w₂ := by
    simp only [results, h]
    simp [Sem.run_bind, Result.andThen]
  rw [e, hp]
  simp [asAddr, Result.andThen, this]
set_option maxHeartbeats 2000000 in
theorem xmoved_any (l : List Ent) (hn : l.length ≤ 4000) (T pl : Nat) (hpl : pl ≤ 2) (at_ : Str) (mv : Nat) (hmv : mv ≤ 4) (key : Str) (lv : Value) (w : World) (hlv : Lst w lv l.length (eCs l)) :
    Calls Tryz.prog 39 #[lv, .int .u64 (T : Int), .int .i64 (pl : Int), .string ⟨at_.toArray⟩, .int .i64 (mv : Int), .string ⟨key.toArray⟩] w fun e w' => ∃ m, m = moved l T (spot l pl at_ mv key) ∧ e = .returned (.tuple #[ansV m.1, .int .i64 (m.2.1 : Int), .string ⟨m.2.2.toArray⟩]) ∧ Keeps [] w w' := by
  have ka := (Keeps.refl [] w).alloc (.cells #[.int .i64 0, .int .u64 0, .string ⟨#[]⟩, .string ⟨#[]⟩] 32)
  have bA := Blk.new w [.int .i64 0, .int .u64 0, .string ⟨#[]⟩, .string ⟨#[]⟩] 32
  have hs := fun u (k : Keeps [] w u) => xspot_any l hn pl hpl at_ mv hmv key lv u (hlv.keeps k)
  obtain ⟨i, hi⟩ : ∃ i, spot l pl at_ mv key = i := ⟨_, rfl⟩
  rw [hi] at hs ⊢
  obtain ⟨A, cap, b, o, rfl, hA, har⟩ := hlv
  obtain ⟨n, hnn⟩ : ∃ n, l.length = n := ⟨_, rfl⟩
  rw [hnn] at hA hn hs ⊢
  have Hn := Lib.hid hnn
  clear hi hnn
  by_cases h0 : i = 0
  · subst h0
    obtain ⟨bS, kS⟩ := bA.set4 (.int .i64 10) (.int .u64 (T : Int)) (.string ⟨#[]⟩) (.string ⟨#[]⟩)
    have k1 := ka.fresh kS (Nat.le_refl _)
    go_enter Tryz.func39, Tryz.ntmps39
    go_wp2_with fail
    refine (hs _ ka).mono ?_
    rintro e w2 ⟨rfl, rfl⟩
    obtain ⟨o0, o1, o2, o3, o4, o5⟩ := bA.o4
    clear hs
    go_wp2_with fail
    refine bodyPost_ret (results_ctt rfl _ _ w.heap.size [.int .i64 10, .int .u64 (T : Int), .string ⟨#[]⟩, .string ⟨#[]⟩] _ rfl (Blk.new w [.int .i64 10, .int .u64 (T : Int), .string ⟨#[]⟩, .string ⟨#[]⟩] 32) Tryz.underlying32 sizAn) rfl ?_
    exact ⟨(⟨10, T, [], []⟩, 0, []), by simp [moved], rfl, (Keeps.refl [] w).alloc _⟩
  · have h0' : ((i : Int) == 0) = false := by rw [beq_eq_false_iff_ne]; omega
    by_cases hlt : n < i
    · have hlt' : (n : Int) < (i : Int) := by omega
      go_enter Tryz.func39, Tryz.ntmps39
      go_wp2_with fail
      refine (hs _ ka).mono ?_
      rintro e w2 ⟨rfl, rfl⟩
      obtain ⟨o0, o1, o2, o3, o4, o5⟩ := bA.o4
      clear hs
      go_wp2_with fail
      refine bodyPost_ret (results_ctt rfl _ _ w.heap.size [.int .i64 10, .int .u64 (T : Int), .string ⟨#[]⟩, .string ⟨#[]⟩] _ rfl (Blk.new w [.int .i64 10, .int .u64 (T : Int), .string ⟨#[]⟩, .string ⟨#[]⟩] 32) Tryz.underlying32 sizAn) rfl ?_
      refine ⟨(⟨10, T, [], []⟩, 2, []), ?_, rfl, (Keeps.refl [] w).alloc _⟩
      unfold moved
      rw [if_neg h0, List.getElem?_eq_none (by rw [Hn.out]; omega)]
    · have hlt' : ¬ (n : Int) < (i : Int) := by omega
      obtain ⟨j, rfl⟩ : ∃ j, i = j + 1 := ⟨i - 1, by omega⟩
      obtain rfl := hA (by omega)
      obtain ⟨y, hy⟩ : ∃ y, l[j]? = some y := ⟨_, List.getElem?_eq_getElem (by rw [Hn.out]; omega)⟩
      obtain ⟨c0, c1, c2⟩ := (har.keeps ka (by simp)).ent hy
      have hj1 : IntKind.i64.wrap ((j : Int) + 1 - 1) = (j : Int) := by rw [IntKind.wrap_i64]; omega
      have hj2 : (j : Int) + 1 - 1 = (j : Int) := by omega
      have hjn : (j : Int) < (n : Int) := by omega
      have Hy := Lib.hid hy
      clear hy h0 hlt har
      go_enter Tryz.func39, Tryz.ntmps39
      go_wp2_with fail
      refine (hs _ ka).mono ?_
      rintro e w2 ⟨rfl, rfl⟩
      obtain ⟨o0, o1, o2, o3, o4, o5⟩ := bA.o4
      clear hs
      go_wp2_with fail
      go_region
      all_goals (
        go_wp2_with fail
        refine bodyPost_ret (results_ctt rfl _ _ w.heap.size [.int .i64 0, .int .u64 (T : Int), .string ⟨y.k.toArray⟩, .string ⟨y.v.toArray⟩] _ rfl (((Blk.new w [.int .i64 0, .int .u64 (T : Int), .string ⟨y.k.toArray⟩, .string ⟨y.v.toArray⟩] 32).alloc _).drew) Tryz.underlying32 sizAn) rfl ?_
        refine ⟨(⟨0, T, y.k, y.v⟩, 1, y.k), ?_, rfl, (((Keeps.refl [] w).alloc _).alloc _).drew⟩
        unfold moved
        rw [if_neg (by omega), Nat.add_sub_cancel, Hy.out])
theorem infoWS : (Tryz.prog.info? 27).map (fun i => (i.zero, i.size, i.bytes)) = some (some (.slice none 0 0), 1, 24) := by kernel_rfl
theorem infoSN : (Tryz.prog.info? 89).map (fun i => (i.zero, i.size, i.bytes)) = some (some (.agg #[.int .i64 0, .int .i64 0, .int .u64 0]), 3, 24) := by kernel_rfl
theorem infoCU : (Tryz.prog.info? 92).map (fun i => (i.zero, i.size, i.bytes)) = some (some (.agg #[.int .i64 0, .int .i64 0, .int .i64 0, .int .u64 0, .int .i64 0, .string ⟨#[]⟩]), 6, 56) := by kernel_rfl
theorem infoWt : (Tryz.prog.info? 53).map (fun i => (i.zero, i.size, i.bytes)) = some (some (.agg #[.string ⟨#[]⟩, .string ⟨#[]⟩, .bool false]), 3, 40) := by kernel_rfl
set_option maxHeartbeats 2000000 in
theorem xadd_any (h : WX w base ww bv sv cv vs s) (hn : s.Bs.length ≤ 200) (b : List Wrt) (hb : b.length ≤ 1000) (xv : Value) (hx : Lst w xv b.length (wCs b)) :
    Calls Tryz.prog 35 #[.pointer (some ⟨ww, 0, none⟩), xv] w fun e w' => e = .returned (.int .u64 ((s.Bs.length + 1 : Nat) : Int)) ∧ PX w base ww bv sv cv vs ⟨s.Bs ++ [b], s.F, s.Ss, s.Cs⟩ w' := by
  obtain ⟨i0, hi0, hz0, hz1, hz2⟩ := info_parts infoWt
  obtain ⟨i1, hi1, hz3, hz4, hz5⟩ := info_parts infoWS
  have kd : Keeps [] w w.drew := (Keeps.refl [] w).drew
  obtain ⟨v1, w1, hr1, r1, k1, f1⟩ := row_nil (w := w.drew) 27 27 53 i0 _ 40 3 Tryz.underlying27 hi0 hz0 hz1 hz2 rfl (by decide) b.length xv (wCs b) (hx.keeps kd) (wCs_length b) (fun u hu => wCs_one' hu) (by omega) (by decide)
  obtain ⟨vA, vc, rfl⟩ := r1.len
  obtain ⟨bA, bc, rfl⟩ := h.hb.len
  have K1 : Keeps [] w w1 := k1.undrew
  have kA := (Keeps.refl [] w1).alloc (.cells #[.slice vA b.length vc] 27)
  have hb1 := ((h.hb.keeps K1 (by simp)).keeps kA (by simp))
  obtain ⟨v2, w2, hr2, r2, k2, f2⟩ := row_append hb1 54 54 27 i1 _ 24 Tryz.underlying54 hi1 hz3 hz4 hz5 rfl (by decide) ⟨w1.heap.size, 0, none⟩ 1 1 [.slice vA b.length vc] rfl
    (fun j u hj => by match j, hj with | 0, hj => simp at hj; subst hj; simp [Addr.add]) (fun u hu => by simp only [List.mem_cons, List.mem_nil_iff, or_false] at hu; subst hu; rfl) (by omega) (by decide)
  obtain ⟨v2A, v2c, rfl⟩ := r2.len
  obtain ⟨hW, hWq⟩ := h.add (K1.trans kA (by simp)) (r1.keeps kA (by simp)) f1 k2 r2 (fun g hg => f2 g hg)
  have ht := xtime_any hW (by simp; omega)
  simp only [List.length_append, List.length_singleton] at ht
  obtain ⟨d0, d1, d2, d3, d4, d5⟩ := h.hw.o4
  have kd0 := kd.cellEq d0 (by simp)
  have e0 := K1.cellEq d0 (by simp)
  have e1 := kA.cellEq e0 (by simp)
  have ek : Keeps (Value.slice bA s.Bs.length bc).ownBlock.toList w w2 := (((K1.trans kA (by simp)).mono (S' := (Value.slice bA s.Bs.length bc).ownBlock.toList) (by simp))).trans k2 (fun i hi => .inl hi)
  have hb2 := ek.blk h.hw (fun hm => (h.hq.2 ww (.inl (by simpa using hm))).2 rfl)
  obtain ⟨f0, f1', f2', f3, f4, f5⟩ := hb2.o4
  have hbl := d5
  have HF := Lib.hid (And.intro hW hWq)
  clear hi0 hz0 hz1 hz2 hi1 hz3 hz4 hz5 f1 f2 hW hWq
  go_enter Tryz.func35, Tryz.ntmps35
  go_wp2_with fail
  go_region_law (first
    | (refine step_append_eq rfl _ _ 27 27 rfl (.slice none 0 0) xv (by simp [Act.eval, Act.put]) (by simp [Act.eval, Act.put]) hr1 ?_)
    | (refine step_append_eq rfl _ _ 54 54 rfl (.slice bA s.Bs.length bc) (.slice (some ⟨w1.heap.size, 0, none⟩) 1 1) (by simp [Act.eval, Act.put]) (by simp [Act.eval, Act.put]) hr2 ?_))
  all_goals (
    go_wp2_with fail
    refine ht.mono ?_
    rintro e w7 ⟨rfl, rfl⟩
    go_wp2_with fail
    go_ret
    exact ⟨rfl, _, _, _, _, HF.out.1, HF.out.2⟩)
end Go.Proofs.YtbcgpjfejpcgnaaGreat
end
section
namespace Go.Proofs.YtbcgpjfejpcgnaaGreat
open Go.RowKit
set_option maxRecDepth 100000
set_option linter.unusedSimpArgs false
variable {w w' : World} {base ww : Nat} {bv sv cv : Value} {vs : List Value} {s : WS}
theorem cut_row {K : Nat} (hK : 0 < K) {W : World} {g cap k n : Nat} {A M B rest : List Value} (hb : Blk W g (A ++ (M ++ B) ++ rest)) (hA : A.length = k * K) (hM : M.length = K) (hB : B.length = n * K) (hcap : k + 1 + n ≤ cap)
    (hone : ∀ u ∈ A ++ B, u.oneCell' = true) (t e : TypeId) (i : TypeInfo) (z : Value) (bytes : Nat) (hu : Tryz.prog.underlying t = some (.slice e)) (hi : Tryz.prog.info? e = some i) (hz : i.zero = some z) (hs : i.size = K) (hby : i.bytes = bytes) (hzs : z.cells.size = K) (hb1 : bytes ≤ 1000) (hn : k + n ≤ 100000) :
    ∃ vA vc w1 a v2A v2c w2, (Builtin.append_ #[t, t] t #[.slice none 0 0, .slice (some ⟨g, 0, none⟩) k cap]).run Tryz.prog W.drew = .ok (.slice vA k vc) w1 ∧ (if cap = k + 1 then (some ⟨g, 0, none⟩ : Option Addr) else some ⟨g, (k + 1) * K, none⟩) = some a ∧
      (Builtin.append_ #[t, t] t #[.slice vA k vc, .slice (some a) n (cap - (k + 1))]).run Tryz.prog w1 = .ok (.slice v2A (k + n) v2c) w2 ∧ Row w2 (.slice v2A (k + n) v2c) (k + n) K (A ++ B) ∧ Keeps [] W w1 ∧ Keeps [] W w2 ∧ ∀ g', (Value.slice v2A (k + n) v2c).ownBlock = some g' → W.heap.size ≤ g' := by
  have hlst1 : Lst W.drew (.slice (some ⟨g, 0, none⟩) k cap) k A := by
    rw [List.append_assoc] at hb
    exact Lst.blk hb.drew
  obtain ⟨v1, w1, hr1, r1, k1, f1⟩ := row_nil (w := W.drew) t t e i z bytes K hu hi hz hs hby hzs hK k _ A hlst1 hA (fun u hu => hone u (List.mem_append_left _ hu)) (by omega) hb1
  obtain ⟨vA, vc, rfl⟩ := r1.len
  have hb1' := k1.blk hb.drew (by simp)
  obtain ⟨a, ha, hsrc⟩ : ∃ a : Addr, (if cap = k + 1 then (some ⟨g, 0, none⟩ : Option Addr) else some ⟨g, (k + 1) * K, none⟩) = some a ∧ ∀ i u, B[i]? = some u → w1.cell? (a.add i) = some u := by
    by_cases hc : cap = k + 1
    · refine ⟨_, by rw [if_pos hc], fun i u hi => ?_⟩
      have : n = 0 := by omega
      subst this
      rw [Nat.zero_mul] at hB
      rw [List.eq_nil_of_length_eq_zero hB] at hi; simp at hi
    · refine ⟨_, by rw [if_neg hc], fun i u hi => ?_⟩
      have hil := (List.getElem?_eq_some_iff.1 hi).1
      have e1 : (k + 1) * K = k * K + K := by rw [Nat.add_mul, Nat.one_mul]
      rw [Addr.add_lit, hb1'.cell, List.append_assoc, List.getElem?_append_right (by omega), hA, List.append_assoc, List.getElem?_append_right (by omega), hM]
      rw [show (k + 1) * K + i - k * K - K = i by omega, List.getElem?_append_left hil, hi]
  obtain ⟨v2, w2, hr2, r2, k2, f2⟩ := row_append r1 t t e i z bytes hu hi hz hs hby hzs hK a n (cap - (k + 1)) B hB hsrc (fun u hu => hone u (List.mem_append_right _ hu)) (by omega) hb1
  obtain ⟨v2A, v2c, rfl⟩ := r2.len
  have K1 : Keeps [] W w1 := k1.undrew
  have K2 : Keeps [] W w2 := K1.trans k2 (fun i hi => .inr (f1 i (by simpa using hi)))
  refine ⟨vA, vc, w1, a, v2A, v2c, w2, hr1, ha, hr2, r2, K1, K2, fun x hx => ?_⟩
  rcases f2 x hx with q | q
  · exact f1 x q
  · exact Nat.le_trans K1.size q
theorem split3 {α : Type} {f : α → List Value} {l : List α} {k : Nat} {p : α} (h : l[k]? = some p) : l.flatMap f = (l.take k).flatMap f ++ (f p ++ (l.drop (k + 1)).flatMap f) := by
  obtain ⟨hk, hkp⟩ := List.getElem?_eq_some_iff.1 h
  have hs : l = l.take k ++ p :: l.drop (k + 1) := by
    rw [← hkp]
    exact (List.take_append_drop k l).symm.trans (by rw [List.drop_eq_getElem_cons hk])
  conv => lhs; rw [hs]
  rw [List.flatMap_append, List.flatMap_cons]
set_option maxHeartbeats 1000000 in
theorem xrel_none (h : WX w base ww bv sv cv vs s) (hs : s.Ss.length ≤ 4096) (t j : Nat) (hd : s.Ss.Pairwise (fun p q => ¬ (p.t = q.t ∧ p.j = q.j))) (hno : snF s.Ss t j = none) :
    Calls Tryz.prog 37 #[.pointer (some ⟨ww, 0, none⟩), .int .i64 (t : Int), .int .i64 (j : Int)] w fun e w' => e = .returned (.tuple #[]) ∧ Keeps [] w w' := by
  have hsn := xsnap_any h hs t j
  clear h
  go_enter Tryz.func37, Tryz.ntmps37
  go_wp2_with fail
  refine hsn.mono ?_
  rintro e w1 ⟨r, rfl, hr, z, rfl⟩
  have kz := (Keeps.refl [] w).drewN z
  rcases hr.fnd hd with ⟨hr1, _⟩ | ⟨k, p, rfl, hp, h2, _⟩
  · have hr0 : r < 0 := by omega
    clear hr1 hr
    go_wp2_with fail
    refine bodyPost_ret (results_none rfl _ _ _) rfl ?_
    exact ⟨rfl, kz⟩
  · rw [hno] at h2
    exact absurd h2 (by simp)
set_option maxHeartbeats 4000000 in
theorem xrel_some (h : WX w base ww bv sv cv vs s) (hs : s.Ss.length ≤ 4096) (hc : s.Cs.length ≤ 4096) (t j : Nat) (hd : s.Ss.Pairwise (fun p q => ¬ (p.t = q.t ∧ p.j = q.j))) (p0 : SnE) (hyes : snF s.Ss t j = some p0) :
    Calls Tryz.prog 37 #[.pointer (some ⟨ww, 0, none⟩), .int .i64 (t : Int), .int .i64 (j : Int)] w fun e w' => e = .returned (.tuple #[]) ∧ PX w base ww bv sv cv vs ⟨s.Bs, s.F, s.Ss.filter (fun p => !isS t j p), s.Cs.filter (fun p => !onS t j p)⟩ w' := by
  have hsn := xsnap_any h hs t j
  have H := Lib.hid h
  clear h
  obtain ⟨FS, hFS⟩ : ∃ FS, s.Ss.filter (fun p => !isS t j p) = FS := ⟨_, rfl⟩
  obtain ⟨FC, hFC⟩ : ∃ FC, s.Cs.filter (fun p => !onS t j p) = FC := ⟨_, rfl⟩
  rw [hFS, hFC]
  have HFS := Lib.hid hFS
  have HFC := Lib.hid hFC
  clear hFS hFC
  go_enter Tryz.func37, Tryz.ntmps37
  go_wp2_with fail
  refine hsn.mono ?_
  rintro e w1 ⟨r, rfl, hr, z, rfl⟩
  have kz := (Keeps.refl [] w).drewN z
  rcases hr.fnd hd with ⟨_, h2⟩ | ⟨k, p, rfl, hp, h2, hfil⟩
  · rw [hyes] at h2
    exact absurd h2 (by simp)
  have hkl := (List.getElem?_eq_some_iff.1 hp).1
  have h1 := H.out.keeps kz
  rw [HFS.out] at hfil
  obtain ⟨Ss, hSs⟩ : ∃ Ss, s.Ss = Ss := ⟨_, rfl⟩
  rw [hSs] at hp hkl hs hfil
  obtain ⟨n, hn⟩ : ∃ n, Ss.length = k + 1 + n := ⟨Ss.length - (k + 1), by omega⟩
  obtain ⟨W, hW⟩ : ∃ W, W = w.drewN z := ⟨_, rfl⟩
  rw [← hW] at h1 kz ⊢
  have hsR := h1.hs
  rw [hSs] at hsR
  have hsplit : sCs Ss = sCs (Ss.take k) ++ (sC p ++ sCs (Ss.drop (k + 1))) := split3 hp
  have hl1 : (sCs (Ss.take k)).length = k * 3 := by rw [sCs_len, List.length_take]; omega
  have hl2 : (sCs (Ss.drop (k + 1))).length = n * 3 := by rw [sCs_len, List.length_drop]; omega
  obtain ⟨i0, hi0, hz0, hz1, hz2⟩ := info_parts infoSN
  obtain ⟨_, ⟨hv, h0⟩ | ⟨g, cap, rest, hv, hb, q2, q3, q4⟩⟩ := hsR
  · omega
  rw [hsplit] at hb
  rw [hn] at hv q2
  obtain ⟨vA, vc, w1, a, v2A, v2c, w2, hr1, ha, hr2, r2, K1, K2, f2⟩ := cut_row (by omega) hb hl1 rfl hl2 q2 (fun u hu => by
    rw [← sCs_append] at hu; exact sCs_one' hu) 55 89 i0 _ 24 Tryz.underlying55 hi0 hz0 hz1 hz2 rfl (by decide) (by omega)
  subst hv
  have hlen : (Ss.take k ++ Ss.drop (k + 1)).length = k + n := by rw [List.length_append, List.length_take, List.length_drop]; omega
  obtain ⟨hWR2, hWq⟩ := h1.setS (K2.mono (by simp)) (Ss' := Ss.take k ++ Ss.drop (k + 1)) (by rw [hlen, sCs_append]; exact r2) (fun x hx => .inr (f2 x hx))
  have hwb := h1.hw
  have kd : Keeps [] W W.drew := (Keeps.refl [] W).drew
  have e2 : W.cell? ⟨ww, 2, none⟩ = some (.slice (some ⟨g, 0, none⟩) (k + 1 + n) cap) := hwb.o4.2.2.1
  have e2d := kd.cellEq e2 (by simp)
  have e3 := K1.cellEq e2 (by simp)
  have hb2 := K2.blk hwb (by simp)
  obtain ⟨g0, g1, g2, g3, g4, g5⟩ := hb2.o4
  have hwl := hwb.lt
  obtain ⟨cA, cc, rfl⟩ := h1.hc.len
  obtain ⟨Cs, hCs⟩ : ∃ Cs, s.Cs = Cs := ⟨_, rfl⟩
  have HCs := Lib.hid hCs
  rw [hCs] at hc hWR2 HFC
  rw [← hfil] at hWR2
  obtain ⟨y0, y1, y2, y3, y4, y5⟩ := hWR2.hw.o4
  have hCR := hWR2.hc
  have hwq3 := Ef.before kz hWq
  have HF := Lib.hid (And.intro hWR2 hwq3)
  have HC := Lib.hid hCR
  simp only at y1
  obtain ⟨q, hq⟩ : ∃ q, Cs.length = q := ⟨_, rfl⟩
  have Hq := Lib.hid hq
  rw [hq] at hc y3 HC
  have hca : k ≤ cap := by omega
  have hcb : k + 1 ≤ cap := by omega
  have hcc : k + 1 ≤ k + 1 + n := by omega
  have hcd : k + 1 + n - (k + 1) = n := by omega
  have hce : (0 : Int) ≤ (k : Int) + 1 := by omega
  have hcf : (k : Int) + 1 ≤ (k : Int) + 1 + (n : Int) := by omega
  have hcg : ((k : Int) + 1).toNat = k + 1 := by omega
  have hch : (k : Int) ≤ (k : Int) + 1 + (n : Int) := by omega
  have hci : ¬ cap = 0 := by omega
  have hcw : IntKind.i64.wrap ((k : Int) + 1) = (k : Int) + 1 := IntWalk.i64_in _ ⟨by omega, by omega⟩
  clear hWR2 hWq hwq3 r2 f2 hb h1 hwb hb2 kz hi0 hz0 hz1 hz2 hp q2 q3 q4 hlen hkl hW K1 K2 hSs hn hl1 hl2 hsplit h2 hfil hr hCR hCs hq hsn
  go_wp2_with fail
  go_region_law (first
    | (refine step_append_eq rfl _ _ 55 55 rfl (.slice none 0 0) (.slice (some ⟨g, 0, none⟩) k cap) (by simp [Act.eval, Act.put]) (by simp [Act.eval, Act.put]) hr1 ?_)
    | (refine step_append_eq rfl _ _ 55 55 rfl (.slice vA k vc) (.slice (some a) n (cap - (k + 1))) (by simp [Act.eval, Act.put]) (by simp [Act.eval, Act.put]) hr2 ?_))
  all_goals (
    obtain ⟨W3, hW3⟩ : ∃ W3, W3 = w2.setCell ⟨ww, 2, none⟩ (.slice v2A (k + n) v2c) := ⟨_, rfl⟩
    rw [← hW3] at HF HC y0 y1 y2 y3 y4 y5 ⊢
    clear hW3
    go_wp2_with fail
    go_loopw [7, 8] (fun l i wr => ∃ (k : Nat) (acc : List CuE), k ≤ q ∧ i = .int .i64 k ∧ Row wr l acc.length 6 (cCs acc) ∧ (∀ g, l.ownBlock = some g → W3.heap.size ≤ g) ∧ Hid (acc = (Cs.take k).filter (fun p => !onS t j p)) ∧ Keeps [] W3 wr) (fun _ i _ => q - (intOf i).toNat)
    case atStart => exact ⟨0, [], by omega, rfl, Row.nil _ _, fun g hg => by simp [Value.ownBlock] at hg, Lib.hid (by simp), Keeps.refl _ _⟩
    case round =>
      obtain ⟨k, acc, hk, rfl, hr, hf, hacc, kk⟩ := hrel
      have d3 := kk.cellEq y3 (by simp)
      have hal : acc.length ≤ 4096 := by
        rw [hacc.out]
        have h1 := List.length_filter_le (fun p => !onS t j p) (Cs.take k)
        rw [List.length_take] at h1
        omega
      obtain ⟨lA, lc, rfl⟩ := hr.len
      by_cases hlt : k < q
      · obtain ⟨p, hp⟩ : ∃ p, Cs[k]? = some p := ⟨_, List.getElem?_eq_getElem (by rw [Hq.out]; exact hlt)⟩
        have HH := HC.out.keeps kk (by simp)
        obtain ⟨g, cap', hv, c0, c1, c2, c3, c4, c5, hg⟩ := Row.at6 (by rw [Hq.out]; exact HH) hp
        rw [Hq.out] at hv
        injection hv with hA _ hcap
        subst hA
        have hkq : (k : Int) < (q : Int) := by omega
        have hyes : onS t j p = true → (Cs.take (k + 1)).filter (fun p => !onS t j p) = acc := fun h => by
          rw [List.take_add_one, hp, List.filter_append, hacc.out]
          simp [h]
        have hno : onS t j p = false → (Cs.take (k + 1)).filter (fun p => !onS t j p) = acc ++ [p] := fun h => by
          rw [List.take_add_one, hp, List.filter_append, hacc.out]
          simp [h]
        have Hy := Lib.hid hyes
        have Hn := Lib.hid hno
        have kA := kk.alloc (.cells #[.int .i64 (p.t : Int), .int .i64 (p.c : Int), .int .i64 (p.j : Int), .int .u64 (p.T : Int), .int .i64 (p.pl : Int), .string ⟨p.key.toArray⟩] 92)
        have bn := Blk.new wr (cC p) 92
        obtain ⟨i1, hi0, hz0, hz1, hz2⟩ := info_parts infoCU
        obtain ⟨v5, w5, hr5, r5, k5, f5⟩ := row_append (hr.keeps ((Keeps.refl [] wr).alloc (.cells (cC p).toArray 92)) (by simp)) 56 56 92 i1 _ 56 Tryz.underlying56 hi0 hz0 hz1 hz2 rfl (by decide) ⟨wr.heap.size, 0, none⟩ 1 1 (cC p) rfl
          (fun j u hj => by rw [Addr.add_lit, Nat.zero_add, bn.cell, hj]) (fun u hu => cCs_one' (l := [p]) (by rw [cCs_one]; exact hu)) (by omega) (by decide)
        have k6 : Keeps [] W3 w5 := kA.trans k5 (fun i hi => .inr (hf i (by simpa using hi)))
        have r6 : Row w5 v5 (acc ++ [p]).length 6 (cCs (acc ++ [p])) := by rw [List.length_append, cCs_append, cCs_one]; exact r5
        have f6 : ∀ g, v5.ownBlock = some g → W3.heap.size ≤ g := fun g hg => by
          rcases f5 g hg with h | h
          · exact hf g h
          · exact Nat.le_trans kA.size h
        have HR := Lib.hid (And.intro r6 (And.intro f6 k6))
        have hr5' : (Builtin.append_ #[56, 56] 56 #[.slice lA acc.length lc, .slice (some ⟨wr.heap.size, 0, none⟩) 1 1]).run Tryz.prog (wr.alloc (.cells #[.int .i64 (p.t : Int), .int .i64 (p.c : Int), .int .i64 (p.j : Int), .int .u64 (p.T : Int), .int .i64 (p.pl : Int), .string ⟨p.key.toArray⟩] 92)) = .ok v5 w5 := hr5
        clear hyes hno hp HH kA bn hi0 hz0 hz1 hz2 hr5 r5 k5 f5 k6 r6 f6
        by_cases h1 : p.t = t
        · have b1 : ((p.t : Int) != (t : Int)) = false := by rw [bne_eq_false_iff_eq]; omega
          by_cases h2 : p.j = j
          · have b2 : ((p.j : Int) != (j : Int)) = false := by rw [bne_eq_false_iff_eq]; omega
            have He := Lib.hid (Hy.out (by simp [onS, h1, h2]))
            clear h1 h2
            go_wp2_with fail
            exact ⟨⟨k + 1, acc, by omega, by go_num, hr, hf, Lib.hid He.out.symm, kk⟩, by simp [intOf]; omega⟩
          · have b2 : ((p.j : Int) != (j : Int)) = true := by rw [bne_iff_ne]; omega
            have He := Lib.hid (Hn.out (by simp [onS, h2]))
            clear h1 h2
            go_wp2_with (at_builtin; refine list_append_eq rfl _ _ 56 56 rfl _ _ rfl rfl hr5' ?_)
            exact ⟨⟨k + 1, acc ++ [p], by omega, by go_num, HR.out.1, HR.out.2.1, Lib.hid He.out.symm, HR.out.2.2⟩, by simp [intOf]; omega⟩
        · have b1 : ((p.t : Int) != (t : Int)) = true := by rw [bne_iff_ne]; omega
          have He := Lib.hid (Hn.out (by simp [onS, h1]))
          clear h1
          go_wp2_with (at_builtin; refine list_append_eq rfl _ _ 56 56 rfl _ _ rfl rfl hr5' ?_)
          exact ⟨⟨k + 1, acc ++ [p], by omega, by go_num, HR.out.1, HR.out.2.1, Lib.hid He.out.symm, HR.out.2.2⟩, by simp [intOf]; omega⟩
      · obtain rfl : k = q := by omega
        have e := hacc.out
        rw [List.take_of_length_le (by rw [Hq.out]; omega), HFC.out] at e
        subst e
        obtain ⟨hX, hG⟩ := HF.out.1.setC (kk.mono (by simp)) hr (fun g hg => .inr (hf g hg))
        rw [← HCs.out] at hG
        have HX := Lib.hid (And.intro hX (HF.out.2.trans hG))
        have d4 := fun j => (kk.blk HF.out.1.hw (by simp)).frozen j
        have d5 := (kk.blk HF.out.1.hw (by simp)).lt
        clear hX hG hacc
        go_wp2_with fail
        go_end0
        exact ⟨rfl, _, _, _, _, HX.out.1, HX.out.2⟩)
end Go.Proofs.YtbcgpjfejpcgnaaGreat
end
section
namespace Go.Proofs.YtbcgpjfejpcgnaaGreat
open Go.RowKit
set_option maxRecDepth 100000
set_option linter.unusedSimpArgs false
variable {w w' : World} {base ww : Nat} {bv sv cv : Value} {vs : List Value} {s : WS}
set_option maxHeartbeats 2000000 in
theorem xopen_any (h : WX w base ww bv sv cv vs s) (hn : s.Bs.length ≤ 200) (hs : s.Ss.length ≤ 4000) (t j : Nat) (hd : s.Ss.Pairwise (fun p q => ¬ (p.t = q.t ∧ p.j = q.j))) (hno : snF s.Ss t j = none) :
    Calls Tryz.prog 26 #[.pointer (some ⟨ww, 0, none⟩), .int .i64 (t : Int), .int .i64 (j : Int)] w fun e w' => e = .returned (.int .u64 ((s.Bs.length : Nat) : Int)) ∧ PX w base ww bv sv cv vs ⟨s.Bs, s.F, s.Ss ++ [⟨t, j, s.Bs.length⟩], s.Cs⟩ w' := by
  have hrl := xrel_none h (by omega) t j hd hno
  obtain ⟨T, hT⟩ : ∃ T, s.Bs.length = T := ⟨_, rfl⟩
  rw [hT]
  have HT := Lib.hid hT
  have H := Lib.hid h
  clear h hT
  go_enter Tryz.func26, Tryz.ntmps26
  go_wp2_with fail
  refine hrl.mono ?_
  rintro e w1 ⟨rfl, k1⟩
  have h1 := H.out.keeps k1
  obtain ⟨sA, sc, rfl⟩ := h1.hs.len
  obtain ⟨i0, hi0, hz0, hz1, hz2⟩ := info_parts infoSN
  have kd : Keeps [] w1 w1.drew := (Keeps.refl [] w1).drew
  have ht := xtime_any (h1.keeps kd) (by rw [HT.out] at hn ⊢; omega)
  have kA := kd.alloc (.cells #[.int .i64 (t : Int), .int .i64 (j : Int), .int .u64 (T : Int)] 89)
  obtain ⟨v2, w2, hr2, r2, k2, f2⟩ := row_append (h1.hs.keeps kA (by simp)) 55 55 89 i0 _ 24 Tryz.underlying55 hi0 hz0 hz1 hz2 rfl (by decide) ⟨w1.drew.heap.size, 0, none⟩ 1 1 (sC ⟨t, j, T⟩) rfl
    (fun i u hi => cells3_new w1.drew _ _ _ 89 i u hi) (fun u hu => sCs_one' (l := [⟨t, j, T⟩]) (by rw [sCs_one]; exact hu)) (by omega) (by decide)
  obtain ⟨v2A, v2c, rfl⟩ := r2.len
  have hlen : (s.Ss ++ [(⟨t, j, T⟩ : SnE)]).length = s.Ss.length + 1 := by simp
  obtain ⟨hW, hWq⟩ := h1.setS (((kA.mono (by simp)).trans k2 (fun i hi => .inl hi))) (Ss' := s.Ss ++ [⟨t, j, T⟩]) (by rw [hlen, sCs_append, sCs_one]; exact r2) (fun g hg => by
    rcases f2 g hg with q | q
    · exact .inl q
    · exact .inr (Nat.le_trans kA.size q))
  have ht2 := xtime_any hW (by simp only; rw [HT.out] at hn ⊢; omega)
  simp only at ht2
  have HF := Lib.hid (And.intro hW (Ef.before k1 hWq))
  rw [HT.out] at ht ht2
  obtain ⟨d0, d1, d2, d3, d4, d5⟩ := h1.hw.o4
  have kd2 := kd.cellEq d2 (by simp)
  have ka2 := kA.cellEq d2 (by simp)
  have hb2 := (((kA.mono (S' := (Value.slice sA s.Ss.length sc).ownBlock.toList) (by simp)).trans k2 (fun i hi => .inl hi))).blk h1.hw (fun hm => (h1.hq.2 ww (.inr (.inl (by simpa using hm)))).2 rfl)
  obtain ⟨f0, f1', f2', f3, f4, f5⟩ := hb2.o4
  obtain ⟨N, hN⟩ : ∃ N, s.Ss.length = N := ⟨_, rfl⟩
  rw [hN] at d2 kd2 ka2 f2' hr2 HF
  rw [hN] at ht2
  have HN := Lib.hid hN
  clear hi0 hz0 hz1 hz2 f2 r2 k2 hW hWq hlen hrl hN
  go_wp2_with fail
  go_region_law (first
    | (refine step_append_eq rfl _ _ 55 55 rfl (.slice sA N sc) (.slice (some ⟨w1.drew.heap.size, 0, none⟩) 1 1) (by simp [Act.eval, Act.put]) (by simp [Act.eval, Act.put]) hr2 ?_)
    | (go_simp
       go_at_call 22
       refine ht.mono ?_
       rintro e w6 ⟨rfl, rfl⟩))
  all_goals (
    go_wp2_with fail
    refine ht2.mono ?_
    rintro e w7 ⟨rfl, rfl⟩
    go_wp2_with fail
    go_ret
    exact ⟨rfl, _, _, _, _, HF.out.1, by rw [HN.out]; exact HF.out.2⟩)
end Go.Proofs.YtbcgpjfejpcgnaaGreat
end
section
namespace Go.Proofs.YtbcgpjfejpcgnaaGreat
open Go.RowKit
set_option maxRecDepth 100000
set_option linter.unusedSimpArgs false
variable {w w' : World} {base ww : Nat} {bv sv cv : Value} {vs : List Value} {s : WS}
def OkX' (w : World) (x : RX) : Prop := Lst w (.slice x.bA x.b.length x.bc) x.b.length (wCs x.b)
theorem OkX'.keeps {x : RX} (h : OkX' w x) (k : Keeps [] w w') : OkX' w' x := Lst.keeps h k
def ResP (w : World) (base ww : Nat) (bv sv cv : Value) (vs : List Value) (r : Res) (e : Ending) (w' : World) : Prop := e = .returned (.tuple #[ansV r.1, .bool r.2.1]) ∧ PX w base ww bv sv cv vs r.2.2 w'
set_option maxHeartbeats 2000000 in
theorem xapply_any (h : WX w base ww bv sv cv vs s) (hn : s.Bs.length ≤ 100) (x : RX) (hx : OkX' w x) (hb : x.b.length ≤ 1000) :
    Calls Tryz.prog 23 #[.pointer (some ⟨ww, 0, none⟩), .agg #[.int .i64 (x.t : Int), .int .i64 x.ix, .int .i64 x.inv, .int .i64 x.pt, .int .i64 x.rs, .int .i64 (x.code : Int), .string ⟨x.key.toArray⟩, .int .u64 (x.time : Int), .slice x.bA x.b.length x.bc, .int .i64 (x.hd : Int), .int .i64 (x.cu : Int), .int .i64 (x.mo : Int), .int .i64 x.er, .int .u64 (x.at_ : Int), .string ⟨x.ak.toArray⟩, .string ⟨x.av.toArray⟩]] w (ResP w base ww bv sv cv vs (appW s x)) := by
  have ka := ((Keeps.refl [] w).alloc (.cells #[.int .i64 (x.t : Int), .int .i64 x.ix, .int .i64 x.inv, .int .i64 x.pt, .int .i64 x.rs, .int .i64 (x.code : Int), .string ⟨x.key.toArray⟩, .int .u64 (x.time : Int), .slice x.bA x.b.length x.bc, .int .i64 (x.hd : Int), .int .i64 (x.cu : Int), .int .i64 (x.mo : Int), .int .i64 x.er, .int .u64 (x.at_ : Int), .string ⟨x.ak.toArray⟩, .string ⟨x.av.toArray⟩] 34)).alloc (.cells #[.int .i64 0, .int .u64 0, .string ⟨#[]⟩, .string ⟨#[]⟩] 32)
  have bR := (Blk.new w [.int .i64 (x.t : Int), .int .i64 x.ix, .int .i64 x.inv, .int .i64 x.pt, .int .i64 x.rs, .int .i64 (x.code : Int), .string ⟨x.key.toArray⟩, .int .u64 (x.time : Int), .slice x.bA x.b.length x.bc, .int .i64 (x.hd : Int), .int .i64 (x.cu : Int), .int .i64 (x.mo : Int), .int .i64 x.er, .int .u64 (x.at_ : Int), .string ⟨x.ak.toArray⟩, .string ⟨x.av.toArray⟩] 34).alloc (.cells #[.int .i64 0, .int .u64 0, .string ⟨#[]⟩, .string ⟨#[]⟩] 32)
  have bA := Blk.new_at (w.alloc (.cells #[.int .i64 (x.t : Int), .int .i64 x.ix, .int .i64 x.inv, .int .i64 x.pt, .int .i64 x.rs, .int .i64 (x.code : Int), .string ⟨x.key.toArray⟩, .int .u64 (x.time : Int), .slice x.bA x.b.length x.bc, .int .i64 (x.hd : Int), .int .i64 (x.cu : Int), .int .i64 (x.mo : Int), .int .i64 x.er, .int .u64 (x.at_ : Int), .string ⟨x.ak.toArray⟩, .string ⟨x.av.toArray⟩] 34)) (w.heap.size + 1) [.int .i64 0, .int .u64 0, .string ⟨#[]⟩, .string ⟨#[]⟩] 32 (by simp)
  have hbl := h.base_le
  have hck := fun u (k : Keeps [] w u) => refCheck_any x.b (by omega) _ u (hx.keeps k)
  have hadd := fun u (k : Keeps [] w u) => xadd_any (h.keeps k) (by omega) x.b hb _ (hx.keeps k)
  have heq : ∀ w : World, (binOp .eql 32 (.agg #[.int .i64 x.er, .int .u64 (x.at_ : Int), .string ⟨x.ak.toArray⟩, .string ⟨x.av.toArray⟩]) (.agg #[.int .i64 x.er, .int .u64 0, .string ⟨#[]⟩, .string ⟨#[]⟩])).run Tryz.prog w = .ok (.bool (anB (ansX x) (errA x.er))) w := fun w => eq_ans (ansX x) (errA x.er) w
  obtain ⟨bb, hbb⟩ : ∃ bb, anB (ansX x) (errA x.er) = bb := ⟨_, rfl⟩
  rw [hbb] at heq
  obtain ⟨c, hc⟩ : ∃ c, checkR 8 1 x.b = c := ⟨_, rfl⟩
  rw [hc] at hck
  have H := Lib.hid h
  have Hc := Lib.hid hc
  have Hbb := Lib.hid hbb
  clear h hc hbb
  by_cases h0 : c = 0
  · subst h0
    by_cases h2 : x.er = 2 ∨ x.er = 9
    · have hr : appW s x = (ansX x, bb, s) := by unfold appW; rw [if_pos Hc.out, if_pos h2, Hbb.out]
      rw [hr]
      rcases h2 with h2 | h2
      · have hb2 : (x.er == 2) = true := by rw [h2]; rfl
        clear h2 hr
        go_enter Tryz.func23, Tryz.ntmps23
        go_wp2_with fail
        refine (hck _ ka).mono ?_
        rintro e w2 ⟨rfl, k2⟩
        have k1 := ka.trans k2 (by simp)
        have bB := k2.blk bA (by simp)
        have bQ := k2.blk bR (by simp)
        have c12 : w2.cell? ⟨w.heap.size, 12, none⟩ = some (.int .i64 x.er) := bQ.cell 12
        have c13 : w2.cell? ⟨w.heap.size, 13, none⟩ = some (.int .u64 (x.at_ : Int)) := bQ.cell 13
        have c14 : w2.cell? ⟨w.heap.size, 14, none⟩ = some (.string ⟨x.ak.toArray⟩) := bQ.cell 14
        have c15 : w2.cell? ⟨w.heap.size, 15, none⟩ = some (.string ⟨x.av.toArray⟩) := bQ.cell 15
        have cl := bQ.lt
        obtain ⟨bS, kS⟩ := bB.set4 (.int .i64 x.er) (.int .u64 (x.at_ : Int)) (.string ⟨x.ak.toArray⟩) (.string ⟨x.av.toArray⟩)
        obtain ⟨o0, o1, o2, o3, o4, o5⟩ := bB.o4
        have hX := H.out.past k1 kS (by omega)
        have hG := (Ef.refl (O := OwnW ww bv sv cv vs) k1).fresh kS (by omega)
        clear hck bA bR ka k2 bQ bB
        go_wp2_with fail
        go_region
        all_goals (
          go_wp2_with fail
          refine bodyPost_ret (results_ct rfl _ _ (w.heap.size + 1) [.int .i64 x.er, .int .u64 (x.at_ : Int), .string ⟨x.ak.toArray⟩, .string ⟨x.av.toArray⟩] _ rfl bS.drew Tryz.underlying32 sizAn) rfl ?_
          exact ⟨rfl, _, _, _, _, hX.keeps ((Keeps.refl [] _).drew), hG.after ((Keeps.refl [] _).drew)⟩)
      · have hb2 : (x.er == 2) = false := by rw [h2]; rfl
        have hb3 : (x.er == 9) = true := by rw [h2]; rfl
        clear h2 hr
        go_enter Tryz.func23, Tryz.ntmps23
        go_wp2_with fail
        refine (hck _ ka).mono ?_
        rintro e w2 ⟨rfl, k2⟩
        have k1 := ka.trans k2 (by simp)
        have bB := k2.blk bA (by simp)
        have bQ := k2.blk bR (by simp)
        have c12 : w2.cell? ⟨w.heap.size, 12, none⟩ = some (.int .i64 x.er) := bQ.cell 12
        have c13 : w2.cell? ⟨w.heap.size, 13, none⟩ = some (.int .u64 (x.at_ : Int)) := bQ.cell 13
        have c14 : w2.cell? ⟨w.heap.size, 14, none⟩ = some (.string ⟨x.ak.toArray⟩) := bQ.cell 14
        have c15 : w2.cell? ⟨w.heap.size, 15, none⟩ = some (.string ⟨x.av.toArray⟩) := bQ.cell 15
        have cl := bQ.lt
        obtain ⟨bS, kS⟩ := bB.set4 (.int .i64 x.er) (.int .u64 (x.at_ : Int)) (.string ⟨x.ak.toArray⟩) (.string ⟨x.av.toArray⟩)
        obtain ⟨o0, o1, o2, o3, o4, o5⟩ := bB.o4
        have hX := H.out.past k1 kS (by omega)
        have hG := (Ef.refl (O := OwnW ww bv sv cv vs) k1).fresh kS (by omega)
        clear hck bA bR ka k2 bQ bB
        go_wp2_with fail
        go_region
        all_goals (
          go_wp2_with fail
          refine bodyPost_ret (results_ct rfl _ _ (w.heap.size + 1) [.int .i64 x.er, .int .u64 (x.at_ : Int), .string ⟨x.ak.toArray⟩, .string ⟨x.av.toArray⟩] _ rfl bS.drew Tryz.underlying32 sizAn) rfl ?_
          exact ⟨rfl, _, _, _, _, hX.keeps ((Keeps.refl [] _).drew), hG.after ((Keeps.refl [] _).drew)⟩)
    · have hr : appW s x = (okA (s.Bs.length + 1), true, ⟨s.Bs ++ [x.b], s.F, s.Ss, s.Cs⟩) := by unfold appW; rw [if_pos Hc.out, if_neg h2]
      rw [hr]
      have hb2 : (x.er == 2) = false := by rw [beq_eq_false_iff_ne]; exact fun e => h2 (.inl e)
      have hb3 : (x.er == 9) = false := by rw [beq_eq_false_iff_ne]; exact fun e => h2 (.inr e)
      clear h2 hr
      go_enter Tryz.func23, Tryz.ntmps23
      go_wp2_with fail
      refine (hck _ ka).mono ?_
      rintro e w2 ⟨rfl, k2⟩
      have k1 := ka.trans k2 (by simp)
      have bB := k2.blk bA (by simp)
      have bQ := k2.blk bR (by simp)
      have c8 : w2.cell? ⟨w.heap.size, 8, none⟩ = some (.slice x.bA x.b.length x.bc) := bQ.cell 8
      have c12 : w2.cell? ⟨w.heap.size, 12, none⟩ = some (.int .i64 x.er) := bQ.cell 12
      have cl := bQ.lt
      clear hck bA bR ka k2 bQ
      go_wp2_with fail
      refine (hadd _ k1).mono ?_
      rintro e w3 ⟨rfl, b1', b2', b3', b4', hX, hG⟩
      have no : ¬ OwnW ww bv sv cv vs (w.heap.size + 1) := fun h => by have := (H.out.oge h).2; omega
      obtain ⟨bB3, no'⟩ := hG.blk bB no
      obtain ⟨bS, kS⟩ := bB3.set4 (.int .i64 0) (.int .u64 ((s.Bs.length + 1 : Nat) : Int)) (.string ⟨#[]⟩) (.string ⟨#[]⟩)
      obtain ⟨o0, o1, o2, o3, o4, o5⟩ := bB3.o4
      have hX2 := hX.beside kS no'
      have hG2 := (Ef.before k1 hG).fresh kS (by omega)
      have HH := Lib.hid (And.intro hX2 hG2)
      clear hX hG hX2 hG2 no no' bB bB3 k1
      go_wp2_with fail
      refine bodyPost_ret (results_ct rfl _ _ (w.heap.size + 1) [.int .i64 0, .int .u64 ((s.Bs.length + 1 : Nat) : Int), .string ⟨#[]⟩, .string ⟨#[]⟩] _ rfl bS Tryz.underlying32 sizAn) rfl ?_
      exact ⟨rfl, _, _, _, _, HH.out.1, HH.out.2⟩
  · have hr : appW s x = (errA c, true, s) := by unfold appW; rw [if_neg (by rw [Hc.out]; exact h0), Hc.out]
    rw [hr]
    have hb1 : (c != 0) = true := by rw [bne_iff_ne]; exact h0
    clear h0 hr
    go_enter Tryz.func23, Tryz.ntmps23
    go_wp2_with fail
    refine (hck _ ka).mono ?_
    rintro e w2 ⟨rfl, k2⟩
    have k1 := ka.trans k2 (by simp)
    have bB := k2.blk bA (by simp)
    obtain ⟨bS, kS⟩ := bB.set4 (.int .i64 c) (.int .u64 0) (.string ⟨#[]⟩) (.string ⟨#[]⟩)
    obtain ⟨o0, o1, o2, o3, o4, o5⟩ := bB.o4
    have hX := H.out.past k1 kS (by omega)
    have hG := (Ef.refl (O := OwnW ww bv sv cv vs) k1).fresh kS (by omega)
    clear hck bA bR bB ka k2
    go_wp2_with fail
    refine bodyPost_ret (results_ct rfl _ _ (w.heap.size + 1) [.int .i64 c, .int .u64 0, .string ⟨#[]⟩, .string ⟨#[]⟩] _ rfl bS Tryz.underlying32 sizAn) rfl ?_
    exact ⟨rfl, _, _, _, _, hX, hG⟩
end Go.Proofs.YtbcgpjfejpcgnaaGreat
end
section
namespace Go.Proofs.YtbcgpjfejpcgnaaGreat
open Go.RowKit
set_option maxRecDepth 100000
set_option linter.unusedSimpArgs false
set_option linter.unusedVariables false
variable {w w' : World} {base ww : Nat} {bv sv cv : Value} {vs : List Value} {s : WS}
theorem SnAt.ex (Ss : List SnE) (t j : Nat) : ∃ r, SnAt Ss t j r := by
  cases h : snF Ss t j with
  | none => exact ⟨-1, .inl ⟨rfl, snF_none h⟩⟩
  | some p =>
    obtain ⟨h1, h2, h3⟩ := snF_some h
    obtain ⟨k, hk⟩ := List.mem_iff_getElem?.1 h1
    exact ⟨k, .inr ⟨k, p, rfl, hk, h2, h3⟩⟩
theorem CuAt.ex (Cs : List CuE) (t c : Nat) : ∃ r, CuAt Cs t c r := by
  cases h : cuF Cs t c with
  | none => exact ⟨-1, .inl ⟨rfl, cuF_none h⟩⟩
  | some p =>
    obtain ⟨h1, h2, h3⟩ := cuF_some h
    obtain ⟨k, hk⟩ := List.mem_iff_getElem?.1 h1
    exact ⟨k, .inr ⟨k, p, rfl, hk, h2, h3⟩⟩
theorem pair_uniq {α : Type} {P : α → α → Prop} {l : List α} (h : l.Pairwise (fun p q => ¬ P p q)) (hs : ∀ p q, P p q → P q p) {i j : Nat} {p q : α} (hp : l[i]? = some p) (hq : l[j]? = some q) (hpq : P p q) : i = j := by
  obtain ⟨hi, hip⟩ := List.getElem?_eq_some_iff.1 hp
  obtain ⟨hj, hjq⟩ := List.getElem?_eq_some_iff.1 hq
  have h' := List.pairwise_iff_getElem.1 h
  rcases Nat.lt_trichotomy i j with hlt | he | hlt
  · exact absurd hpq (by have := h' i j hi hj hlt; rwa [hip, hjq] at this)
  · exact he
  · exact absurd (hs _ _ hpq) (by have := h' j i hj hi hlt; rwa [hip, hjq] at this)
theorem SnAt.uniq {Ss : List SnE} {t j : Nat} {r r' : Int} (hd : Ss.Pairwise (fun p q => ¬ (p.t = q.t ∧ p.j = q.j))) (h : SnAt Ss t j r) (h' : SnAt Ss t j r') : r = r' := by
  rcases h with ⟨h1, h2⟩ | ⟨k, p, h1, h2, h3, h4⟩ <;> rcases h' with ⟨g1, g2⟩ | ⟨k', p', g1, g2, g3, g4⟩
  · rw [h1, g1]
  · exact absurd ⟨g3, g4⟩ (h2 p' (List.mem_of_getElem? g2))
  · exact absurd ⟨h3, h4⟩ (g2 p (List.mem_of_getElem? h2))
  · have := pair_uniq hd (fun p q h => ⟨h.1.symm, h.2.symm⟩) h2 g2 ⟨by rw [h3, g3], by rw [h4, g4]⟩
    rw [h1, g1, this]
theorem CuAt.uniq {Cs : List CuE} {t c : Nat} {r r' : Int} (hd : Cs.Pairwise (fun p q => ¬ (p.t = q.t ∧ p.c = q.c))) (h : CuAt Cs t c r) (h' : CuAt Cs t c r') : r = r' := by
  rcases h with ⟨h1, h2⟩ | ⟨k, p, h1, h2, h3, h4⟩ <;> rcases h' with ⟨g1, g2⟩ | ⟨k', p', g1, g2, g3, g4⟩
  · rw [h1, g1]
  · exact absurd ⟨g3, g4⟩ (h2 p' (List.mem_of_getElem? g2))
  · exact absurd ⟨h3, h4⟩ (g2 p (List.mem_of_getElem? h2))
  · have := pair_uniq hd (fun p q h => ⟨h.1.symm, h.2.symm⟩) h2 g2 ⟨by rw [h3, g3], by rw [h4, g4]⟩
    rw [h1, g1, this]
theorem xsnap_q (h : WX w base ww bv sv cv vs s) (hs : s.Ss.length ≤ 4096) (hd : s.Ss.Pairwise (fun p q => ¬ (p.t = q.t ∧ p.j = q.j))) {t j : Nat} {r : Int} (hr : SnAt s.Ss t j r) (z : Nat) :
    Calls Tryz.prog 25 #[.pointer (some ⟨ww, 0, none⟩), .int .i64 (t : Int), .int .i64 (j : Int)] (w.drewN z) fun e w' => e = .returned (.int .i64 r) ∧ ∃ z', w' = w.drewN z' := by
  refine (xsnap_any (h.keeps ((Keeps.refl [] w).drewN z)) hs t j).mono ?_
  rintro e w' ⟨r', rfl, h', z', rfl⟩
  exact ⟨by rw [hr.uniq hd h'], z + z', by simp [World.drewN, Nat.add_assoc]⟩
theorem xcur_q (h : WX w base ww bv sv cv vs s) (hs : s.Cs.length ≤ 4096) (hd : s.Cs.Pairwise (fun p q => ¬ (p.t = q.t ∧ p.c = q.c))) {t j : Nat} {r : Int} (hr : CuAt s.Cs t j r) (z : Nat) :
    Calls Tryz.prog 38 #[.pointer (some ⟨ww, 0, none⟩), .int .i64 (t : Int), .int .i64 (j : Int)] (w.drewN z) fun e w' => e = .returned (.int .i64 r) ∧ ∃ z', w' = w.drewN z' := by
  refine (xcur_any (h.keeps ((Keeps.refl [] w).drewN z)) hs t j).mono ?_
  rintro e w' ⟨r', rfl, h', z', rfl⟩
  exact ⟨by rw [hr.uniq hd h'], z + z', by simp [World.drewN, Nat.add_assoc]⟩
def LocP (w : World) (base ww : Nat) (bv sv cv : Value) (vs : List Value) (r : Res) (e : Ending) (w' : World) : Prop := e = .returned (ansV r.1) ∧ r.2.1 = true ∧ PX w base ww bv sv cv vs r.2.2 w'
end Go.Proofs.YtbcgpjfejpcgnaaGreat
end
