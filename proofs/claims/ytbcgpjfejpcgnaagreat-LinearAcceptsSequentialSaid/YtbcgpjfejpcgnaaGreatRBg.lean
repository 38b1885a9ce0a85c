/- Lemmas on the way to LinearAcceptsSequential. No condition. -/
import Derived.Test.YtbcgpjfejpcgnaaGreatRAr
import Derived.Test.YtbcgpjfejpcgnaaGreatRAt
import Derived.Test.YtbcgpjfejpcgnaaGreatRBf
import Derived.Deep.RegionHeld3
import Derived.Deep.CutRange
set_option linter.unusedSimpArgs false
set_option linter.unusedVariables false
set_option linter.unusedSectionVars false
section
namespace Go.Proofs.YtbcgpjfejpcgnaaGreat
open Go.RowKit Go.Maps Go.MapKept Go.ChangeMaps
set_option maxRecDepth 100000
set_option linter.unusedSimpArgs false
set_option linter.unusedVariables false
set_option linter.unusedSectionVars false
theorem mnew_ex (w : World) : Calls Tryz.prog 29 #[] w fun e w' => ∃ m sb mb, e = .returned (.pointer (some ⟨m, 0, none⟩)) ∧ MO w' w.heap.size [] m sb 1 mb 0 [.slice none 0 0] [] [[]] 0 (.map []) ∧ Keeps [] w w' := by
  have hmm := @run_makeMap Tryz.prog
  go_enter Tryz.func29, Tryz.ntmps29
  go_wp2
  go_ret
  have k1 : Keeps [] w (w.alloc (.cells #[.slice none 0 0] 84)) := (Keeps.refl [] w).alloc _
  have b1 : Blk (w.alloc (.cells #[.slice none 0 0] 84)) w.heap.size [.slice none 0 0] := Blk.new w [.slice none 0 0] 84
  have s1 : (w.alloc (.cells #[.slice none 0 0] 84)).heap.size = w.heap.size + 1 := by simp
  obtain ⟨w1, hw1⟩ : ∃ w1, w1 = w.alloc (.cells #[.slice none 0 0] 84) := ⟨_, rfl⟩
  rw [← hw1] at k1 b1 s1 ⊢
  have o2 := World.ownsMap_made w1 Tryz.prog 134 (plainElem (H := Unit) Tryz.prog 22)
  have k2 : Keeps [] w1 (w1.alloc (.map #[] 0)) := (Keeps.refl [] w1).alloc _
  have s2 : (w1.alloc (.map #[] 0)).heap.size = w1.heap.size + 1 := by simp
  obtain ⟨w2, hw2⟩ : ∃ w2, w2 = w1.alloc (.map #[] 0) := ⟨_, rfl⟩
  rw [← hw2] at k2 o2 s2 ⊢
  have s1' : w.heap.size + 1 = w1.heap.size := by omega
  rw [s1'] 
  have b3 : Blk (w2.alloc (.cells #[.slice (some ⟨w.heap.size, 0, none⟩) 1 1, .int .u64 0, .map (some w1.heap.size)] 98)) w2.heap.size [.slice (some ⟨w.heap.size, 0, none⟩) 1 1, .int .u64 0, .map (some w1.heap.size)] := Blk.new w2 [.slice (some ⟨w.heap.size, 0, none⟩) 1 1, .int .u64 0, .map (some w1.heap.size)] 98
  have k3 : Keeps [] w2 (w2.alloc (.cells #[.slice (some ⟨w.heap.size, 0, none⟩) 1 1, .int .u64 0, .map (some w1.heap.size)] 98)) := (Keeps.refl [] w2).alloc _
  refine ⟨w2.heap.size, w.heap.size, w1.heap.size, by rw [s2]; rfl, ?_, (k1.trans k2 (by simp)).trans k3 (by simp)⟩
  exact {
    hm := b3
    hs := k3.blk (k2.blk b1 (by simp)) (by simp)
    hl := rfl
    hp := by simp
    hcap := by simp
    hcl := rfl
    hcm := by unfold maxLen; omega
    hne := by omega
    he := fun i v l hv hl => by
      match i, hv, hl with
      | 0, hv, hl =>
        simp at hv hl
        subst hv; subst hl
        exact ⟨.inl ⟨rfl, rfl⟩, fun g hg => by simp [Value.ownBlock] at hg⟩
    hmap := ownsMap_keepsU o2 k3 (by simp)
    hb := ⟨by omega, Nat.le_refl _, by omega⟩
    hq := by simp
    hd := fun _ _ _ _ => by simp }
def sx (x : RX) : RX := { x with bA := none, bc := 0 }
theorem explW_sx : ∀ (L : List RX) (s : WS), explW s (L.map sx) = explW s L
  | [], _ => rfl
  | x :: L, s => by
    have h1 : perfW s (sx x) = perfW s x := rfl
    have h2 : fitsW (perfW s x) (sx x) = fitsW (perfW s x) x := rfl
    rw [List.map_cons, explW_cons, explW_cons, h1, h2, explW_sx L]
theorem explW_strip {xs ys : List RV} (h : ys.map strip = xs.map strip) (s : WS) : explW s (ys.map rxO) = explW s (xs.map rxO) := by
  have e : ∀ l : List RV, (l.map rxO).map sx = (l.map strip).map rxO := fun l => by
    rw [List.map_map, List.map_map]
    rfl
  rw [← explW_sx (ys.map rxO), ← explW_sx (xs.map rxO), e, e, h]
theorem OkXN.strip {x y : RV} (h : OkXN x) (e : strip y = strip x) : OkXN y := by
  have h' : OkXN (Go.Proofs.YtbcgpjfejpcgnaaGreat.strip x) := ⟨h.th, h.code, h.hd, h.cu, h.mo, h.rs, h.nt⟩
  rw [← e] at h'
  exact ⟨h'.th, h'.code, h'.hd, h'.cu, h'.mo, h'.rs, h'.nt⟩
theorem no_str {cs : List Value} (h : ∀ v ∈ cs, ∀ s, v ≠ .string s) {o : Nat} {s : ByteArray} : cs[o]? ≠ some (.string s) := fun e => h _ (List.mem_of_getElem? e) _ rfl
theorem MO.setQ {w w' : World} {base m sb cap mb nb F : Nat} {rest : List Value} {St : List (List Ent)} {D : DataW Unit} (h : MO w base [] m sb cap mb nb [.slice none 0 0] rest St F D) (k : Keeps [] w w') :
    MO w' base ((List.range w'.heap.size).filter fun i => decide (i ≠ m ∧ i ≠ sb ∧ i ≠ mb)) m sb cap mb nb [.slice none 0 0] rest St F D := by
  have h' := h.keeps k
  refine ⟨h'.hm, h'.hs, h'.hl, h'.hp, h'.hcap, h'.hcl, h'.hcm, h'.hne, h'.he, h'.hmap, h'.hb, fun q hq => ?_, fun v hv g hg hm => ?_⟩
  · obtain ⟨h1, h2⟩ := List.mem_filter.1 hq
    have h3 := of_decide_eq_true h2
    exact ⟨h3.1, h3.2.1, h3.2.2, List.mem_range.1 h1⟩
  · simp at hv
    subst hv
    simp [Value.ownBlock] at hg
def RpQ (T S N C R F K : Int) (xs : List RV) (w : World) (e : Ending) (w' : World) : Prop :=
  Keeps [] w w' ∧ ((exE T S N C R F K xs = 0 ∧ Inv (ordL xs).length (explW s0 ((ordL xs).map rxO)).2 ∧ ∃ (m base n : Nat) (Q : List Nat), e = .returned (.tuple #[.pointer (some ⟨m, 0, none⟩), .int .i64 0]) ∧ w.heap.size ≤ base ∧ n ≤ 25 ∧
      MoP w' base Q m n (explW s0 ((ordL xs).map rxO)).2.Bs (explW s0 ((ordL xs).map rxO)).2.F (explW s0 ((ordL xs).map rxO)).2.Ss)
    ∨ (exE T S N C R F K xs ≠ 0 ∧ e = .returned (.tuple #[.pointer none, .int .i64 (exE T S N C R F K xs)])))
set_option maxHeartbeats 8000000 in
theorem preplay_any (T S N C R F K : Int) (xs : List RV) (hn : xs.length ≤ 25) (v : Value) (w : World) (hv : Lst w v xs.length (rCs xs)) (hN : ∀ x ∈ xs, NatX x) (hr : ∀ x ∈ xs, RngA x.n) (hb : ∀ x ∈ xs, OkB w x ∧ x.b.length ≤ 1000) :
    Calls Tryz.prog 17 #[.agg #[.int .i64 T, .int .i64 S, .int .i64 N, .int .i64 C, .int .i64 R, .int .i64 F, .int .u64 K], v] w (RpQ T S N C R F K xs w) := by
  have hmm := @run_makeMap Tryz.prog
  have kB := (Keeps.refl [] w).alloc (.cells #[.int .i64 T, .int .i64 S, .int .i64 N, .int .i64 C, .int .i64 R, .int .i64 F, .int .u64 K] 24)
  have bc := Blk.new w [.int .i64 T, .int .i64 S, .int .i64 N, .int .i64 C, .int .i64 R, .int .i64 F, .int .u64 K] 24
  obtain ⟨W, hW⟩ : ∃ W, W = w.alloc (.cells #[.int .i64 T, .int .i64 S, .int .i64 N, .int .i64 C, .int .i64 R, .int .i64 F, .int .u64 K] 24) := ⟨_, rfl⟩
  have bc' : Blk W w.heap.size [.int .i64 T, .int .i64 S, .int .i64 N, .int .i64 C, .int .i64 R, .int .i64 F, .int .u64 K] := by rw [hW]; exact bc
  rw [← hW] at kB
  have hvl := pvalid_any T S N C R F K xs (by omega) v W (hv.keeps kB) hN hr
  have hod := fun u (k : Keeps [] w u) => order_any xs (by omega) v u (hv.keeps k) (fun x hx => ⟨(hb x hx).1.keeps k, by have := (hb x hx).2; omega⟩)
  obtain ⟨d0, d1, d2, d3, d4, d5, d6, df, dl⟩ := bc'.o7
  have HW := Lib.hid hW
  have HB := Lib.hid kB
  obtain ⟨n, hn'⟩ : ∃ n, xs.length = n := ⟨_, rfl⟩
  have Hn := Lib.hid hn'
  clear hW kB bc bc' hn' hv
  go_enter Tryz.func17, Tryz.ntmps17
  go_upto_region 1 with fail
  rw [← HW.out]
  go_wp2_with fail
  refine hvl.mono ?_
  rintro e w1 ⟨r, rfl, hok, k1⟩
  have kB1 := HB.out.trans k1 (by simp)
  have H1 := Lib.hid kB1
  clear k1 kB1 HW HB hvl d0 d1 d2 d3 d4 d5 d6 df dl
  cases r with
  | false =>
    have HE := Lib.hid (exE_bad (fun h => by simpa using hok.2 h : ¬ exOk T S N C R F K xs))
    clear hok
    go_wp2_with fail
    go_ret2
    exact ⟨H1.out, .inr ⟨by rw [HE.out]; decide, by rw [HE.out]; rfl⟩⟩
  | true =>
    have Hok := Lib.hid (hok.1 rfl)
    have HE := Lib.hid (exE_good Hok.out)
    have hnew := mnew_ex w1
    clear hok
    go_wp2_with fail
    refine hnew.mono ?_
    rintro e w2 ⟨m, sb, mb, rfl, hmo, k2⟩
    have kA1 := (Keeps.refl [] w2).alloc (.map #[] 0)
    have kA2 := kA1.alloc (.map #[] 0)
    have kA3 := kA2.alloc (.cells #[.pointer (some ⟨m, 0, none⟩), .map (some w2.heap.size), .map (some (w2.heap.size + 1))] 80)
    have om1 := World.ownsMap_made w2 Tryz.prog 117 heldR
    have om2 := World.ownsMap_made (w2.alloc (.map #[] 0)) Tryz.prog 117 heldR
    have bp := Blk.new_at ((w2.alloc (.map #[] 0)).alloc (.map #[] 0)) (w2.heap.size + 1 + 1) [.pointer (some ⟨m, 0, none⟩), .map (some w2.heap.size), .map (some (w2.heap.size + 1))] 80 (by simp)
    obtain ⟨w3, hw3⟩ : ∃ w3, w3 = ((w2.alloc (.map #[] 0)).alloc (.map #[] 0)).alloc (.cells #[.pointer (some ⟨m, 0, none⟩), .map (some w2.heap.size), .map (some (w2.heap.size + 1))] 80) := ⟨_, rfl⟩
    have bp3 : Blk w3 (w2.heap.size + 1 + 1) [.pointer (some ⟨m, 0, none⟩), .map (some w2.heap.size), .map (some (w2.heap.size + 1))] := by rw [hw3]; exact bp
    have on3 : w3.ownsMap Tryz.prog 117 heldR w2.heap.size 0 (.map []) := by rw [hw3]; exact ownsMap_keeps om1 (((Keeps.refl [] _).alloc _).alloc _) (by simp)
    have oc3 : w3.ownsMap Tryz.prog 117 heldR (w2.heap.size + 1) 0 (.map []) := by
      have := ownsMap_keeps om2 ((Keeps.refl [] _).alloc (.cells #[.pointer (some ⟨m, 0, none⟩), .map (some w2.heap.size), .map (some (w2.heap.size + 1))] 80)) (by simp)
      rw [hw3]
      simpa using this
    rw [← hw3] at kA3
    have Hw3 := Lib.hid hw3
    have k13 := H1.out.trans (k2.trans kA3 (by simp)) (by simp)
    have hod3 := hod w3 k13
    have H3 := Lib.hid (And.intro k13 (And.intro hmo (And.intro (k2.size) (And.intro kA3 (And.intro bp3 (And.intro on3 oc3))))))
    clear kA1 kA2 kA3 om1 om2 bp hw3 bp3 on3 oc3 k13 hmo k2 hod hnew
    go_wp2_with fail
    try rw [← Hw3.out]
    refine hod3.mono ?_
    rintro e w4 ⟨u, ys, rfl, hpk, hst, k4⟩
    obtain ⟨k13, hmo, s2, kA3, bp3, on3, oc3⟩ := H3.out
    have lm := hmo.hm.lt
    have lsb := hmo.hs.lt
    have lmb := hmo.hmap.lt
    have sA := kA3.size
    have s4 := k4.size
    have lp := bp3.lt
    obtain ⟨B, hBB⟩ : ∃ B, w2.heap.size = B := ⟨_, rfl⟩
    rw [hBB] at bp3 on3 oc3 lm lsb lmb sA lp ⊢
    have hmo4 := hmo.setQ (kA3.trans k4 (by simp))
    obtain ⟨Q, hQ⟩ : ∃ Q, Q = (List.range w4.heap.size).filter fun i => decide (i ≠ m ∧ i ≠ sb ∧ i ≠ mb) := ⟨_, rfl⟩
    rw [← hQ] at hmo4
    have hin : ∀ i, i ∈ Q ↔ i < w4.heap.size ∧ (i ≠ m ∧ i ≠ sb ∧ i ≠ mb) := fun i => by rw [hQ, List.mem_filter, List.mem_range, decide_eq_true_eq]
    have hPR : PR w4 w1.heap.size (B + 1 + 1) m B (B + 1) Q 0 s0 := {
      hp := k4.blk bp3 (by simp)
      mo := ⟨.map [], ⟨sb, 1, mb, 0, _, _, Nat.le_refl _, hmo4⟩, MapL.nil⟩
      sn := ⟨0, .map [], Nat.le_refl _, ownsMap_keeps on3 k4 (by simp), MapL.nil⟩
      cu := ⟨0, .map [], Nat.le_refl _, ownsMap_keeps oc3 k4 (by simp), MapL.nil⟩
      q := ⟨(hin _).2 ⟨by omega, by omega⟩, (hin _).2 ⟨by omega, by omega⟩, (hin _).2 ⟨by omega, by omega⟩⟩
      ne := by omega
      ge := by omega }
    have hkeep : ∀ (g : Nat) (wr : World), g < w4.heap.size → g ≠ m → g ≠ sb → g ≠ mb → g ≠ B → g ≠ B + 1 → Kq w1.heap.size Q B (B + 1) w4 wr → ∃ S', Keeps S' w4 wr ∧ g ∉ S' := by
      intro g wr h1 h2 h3 h4 h5 h6 ⟨S', q1, q2⟩
      refine ⟨S', q2, fun hm => ?_⟩
      rcases (q1 g hm).2 with h | h | h
      · exact h ((hin g).2 ⟨h1, h2, h3, h4⟩)
      · exact h5 h
      · exact h6 h
    have bm4 := hmo4.hm
    have bs4 := hmo4.hs
    have om4 := hmo4.hmap
    have on4 : w4.ownsMap Tryz.prog 117 heldR B 0 (.map []) := ownsMap_keeps on3 k4 (by simp)
    have oc4 : w4.ownsMap Tryz.prog 117 heldR (B + 1) 0 (.map []) := ownsMap_keeps oc3 k4 (by simp)
    have mapb : ∀ (g : Nat) (v : Value) (o : Nat), w4.cell? ⟨g, o, none⟩ = some v → g ≠ mb ∧ g ≠ B ∧ g ≠ B + 1 := by
      intro g v o hg
      refine ⟨?_, ?_, ?_⟩
      · rintro rfl
        obtain ⟨es, clock, h1, _⟩ := om4
        simp [World.cell?, h1] at hg
      · rintro rfl
        obtain ⟨es, clock, h1, _⟩ := on4
        simp [World.cell?, h1] at hg
      · rintro rfl
        obtain ⟨es, clock, h1, _⟩ := oc4
        simp [World.cell?, h1] at hg
    have hlen : ys.length ≤ 25 := by
      have := congrArg List.length hst
      rw [List.length_map, List.length_map] at this
      have := ordL_len xs
      have := Hn.out
      omega
    have hleq : ys.length = (ordL xs).length := by
      have := congrArg List.length hst
      rwa [List.length_map, List.length_map] at this
    have hmem : ∀ y ∈ ys, OkXN y ∧ y.b.length ≤ 1000 ∧ ∀ wr, Kq w1.heap.size Q B (B + 1) w4 wr → OkB wr y := by
      intro y hy
      obtain ⟨x, hx, hxy⟩ : ∃ x ∈ ordL xs, strip x = strip y := by
        have : strip y ∈ (ordL xs).map strip := by rw [← hst]; exact List.mem_map.2 ⟨y, hy, rfl⟩
        exact List.mem_map.1 this
      have hxm := (ordL_mem hx).1
      have hyb : y.b = x.b := (congrArg RV.b hxy).symm
      refine ⟨(OkXN.of Hok.out hxm (hN x hxm)).strip hxy.symm, by rw [hyb]; exact (hb x hxm).2, fun wr hkq => ?_⟩
      obtain ⟨bb, o, h1, h2⟩ := hpk.ok y hy
      rcases Nat.eq_zero_or_pos y.b.length with h0 | h0
      · have hnil := List.eq_nil_of_length_eq_zero h0
        exact ⟨_, _, 0, 0, rfl, fun h => by omega, by rw [hnil]; exact Arr.nil _⟩
      · have hl := h2.lt (by rw [wCs_length]; omega)
        obtain ⟨z, zs, hz⟩ : ∃ z zs, y.b = z :: zs := by
          cases hyb' : y.b with
          | nil => rw [hyb'] at h0; simp at h0
          | cons z zs => exact ⟨z, zs, rfl⟩
        have hc0 := h2.cells 0 (by rw [wCs_length]; omega)
        have hs0 : ∃ s, w4.cell? ⟨bb, o, none⟩ = some (.string s) := by
          rw [Nat.add_zero] at hc0
          rw [hc0, hz]
          exact ⟨_, rfl⟩
        obtain ⟨s, hs0⟩ := hs0
        obtain ⟨n3, n4, n5⟩ := mapb bb _ o hs0
        have n1 : bb ≠ m := by
          rintro rfl
          rw [bm4.cell] at hs0
          exact no_str (by intro v hv s; simp at hv; rcases hv with rfl | rfl | rfl <;> simp) hs0
        have n2 : bb ≠ sb := by
          rintro rfl
          rw [bs4.cell] at hs0
          exact no_str (by intro v hv s; simp at hv; subst hv; simp) hs0
        obtain ⟨S', q1, q2⟩ := hkeep bb wr hl n1 n2 n3 n4 n5 hkq
        exact ⟨_, _, bb, o, rfl, fun h => (h1 h).1, h2.keeps q1 q2⟩
    have hexp := explW_strip hst s0
    have HEx := Lib.hid hexp
    obtain ⟨n2, hn2⟩ : ∃ n2, ys.length = n2 := ⟨_, rfl⟩
    have hrow := hpk.row
    rw [hn2] at hrow hlen hleq
    obtain ⟨A2, cap2, rfl⟩ := hrow.len
    have Hn2 := Lib.hid hn2
    have K4 := k13.trans k4 (by simp)
    have hrowk : ∀ wr, Kq w1.heap.size Q B (B + 1) w4 wr → 0 < n2 → Row wr (.slice A2 n2 cap2) n2 16 (rCs ys) := by
      intro wr hkq h0
      obtain ⟨_, ⟨h1, h2⟩ | ⟨g, c9, r9, h9, hb9, q2, q3, q4⟩⟩ := id hrow
      · omega
      · obtain ⟨y, ys', hy⟩ : ∃ y ys', ys = y :: ys' := by
          cases hyy : ys with
          | nil => rw [hyy] at hn2; simp at hn2; omega
          | cons y ys' => exact ⟨y, ys', rfl⟩
        have hc0 : w4.cell? ⟨g, 0, none⟩ = some (.int .i64 y.n.th) := by rw [hb9.cell, hy]; rfl
        obtain ⟨n3, n4, n5⟩ := mapb g _ 0 hc0
        have n1 : g ≠ m := by
          rintro rfl
          rw [bm4.cell] at hc0
          simp at hc0
        have n2' : g ≠ sb := by
          rintro rfl
          rw [bs4.cell] at hc0
          simp at hc0
        obtain ⟨S', q5, q6⟩ := hkeep g wr hb9.lt n1 n2' n3 n4 n5 hkq
        exact hrow.keeps q5 (fun g' hg' => by rw [h9] at hg'; simp [Value.ownBlock] at hg'; subst hg'; exact q6)
    have HL4 := Lib.hid (And.intro hPR (And.intro K4 (And.intro hrowk (And.intro hmem (And.intro hleq hrow)))))
    clear hpk hst k4 k13 hmo s2 kA3 bp3 on3 oc3 lm lsb lmb sA s4 lp hBB hmo4 hQ hin hPR hkeep bm4 bs4 om4 on4 oc4 mapb hexp hn2 hrow hrowk hmem hleq K4 H3 Hw3 hod3 hmm
    by_cases hn0 : n2 = 0
    · have hnil : ys = [] := List.eq_nil_of_length_eq_zero (by have := Hn2.out; omega)
      have hE0 : Hid (exE T S N C R F K xs = 0) := Lib.hid (by rw [HE.out, ← HEx.out, hnil]; rfl)
      have hS0 : Hid ((explW s0 ((ordL xs).map rxO)).2 = s0) := Lib.hid (by rw [← HEx.out, hnil]; rfl)
      subst hn0
      clear hnil
      obtain ⟨z0, z1, z2, zf, zl⟩ := HL4.out.1.hp.o3
      go_wp2_with fail
      go_loopw [21] (fun i wr => i = .int .i64 0 ∧ wr = w4) (fun i _ => 0)
      case atStart => exact ⟨rfl, rfl⟩
      case round =>
        obtain ⟨rfl, rfl⟩ := hrel
        go_wp2_with fail
        go_ret2
        exact ⟨HL4.out.2.1, .inl ⟨hE0.out, by rw [hS0.out]; exact Inv.zero.mono (Nat.zero_le _), m, _, 0, Q, rfl, H1.out.size, by omega, by rw [hS0.out]; exact HL4.out.1.mo⟩⟩
    · obtain ⟨y0, hy0⟩ : ∃ y, ys[0]? = some y := ⟨_, List.getElem?_eq_getElem (by have := Hn2.out; omega)⟩
      obtain ⟨g, o, rfl, _, _⟩ := HL4.out.2.2.2.2.2.lst.atS Hn2.out hy0
      have hpos : 0 < n2 := by omega
      have HP := Lib.hid hpos
      clear hn0 hy0 hpos
      go_wp2_with fail
      go_loopw [21] (fun i wr => ∃ (k : Nat) (s : WS), k ≤ n2 ∧ i = .int .i64 k ∧ PR wr w1.heap.size (B + 1 + 1) m B (B + 1) Q k s ∧ Kq w1.heap.size Q B (B + 1) w4 wr ∧ Inv k s ∧ Hid (Left (ys.map rxO) k s)) (fun i _ => n2 - (intOf i).toNat)
      case atStart => exact ⟨0, s0, by omega, rfl, HL4.out.1, Kq.of (Keeps.refl [] _), Inv.zero, Lib.hid rfl⟩
      case round =>
        obtain ⟨k, s, hk, rfl, hR, kq, hinv, HL⟩ := hrel
        by_cases hlt : k < n2
        · obtain ⟨y, hy⟩ : ∃ y, ys[k]? = some y := ⟨_, List.getElem?_eq_getElem (by rw [Hn2.out]; exact hlt)⟩
          obtain ⟨hokn, hbl, hbk⟩ := HL4.out.2.2.2.1 y (List.mem_of_getElem? hy)
          have hrw := HL4.out.2.2.1 wr kq HP.out
          obtain ⟨g', o', hgo, hc, hg⟩ := hrw.lst.atS Hn2.out hy
          have e1 : g' = g := by simp at hgo; exact hgo.1.symm
          have e2 : o' = o := by simp at hgo; exact hgo.2.symm
          rw [e1, e2] at hc
          clear hgo e1 e2 hg hrw
          have hback := hokn.back
          have hokx := hokn.ok
          have htm := hokn.tm
          have hob := hbk wr kq
          have hLk : (ys.map rxO)[k]? = some (rxO y) := by rw [List.getElem?_map, hy]; rfl
          obtain ⟨x, hx⟩ : ∃ x, rxO y = x := ⟨_, rfl⟩
          rw [hx] at hback hokx htm hLk
          subst hback
          have hl0 := hc.load
          have hst := store_new wr (rvX x)
          have Hbk := Lib.hid (new_rec wr (rvX x))
          have hkn : (k : Int) < (n2 : Int) := by omega
          have hstep := hinv.step hokx
          have hLs := HL.out.step hLk
          obtain ⟨x1, x2⟩ := expO_eq s x hokx
          have Hst := Lib.hid (And.intro hstep (And.intro hLs (And.intro x1 x2)))
          have hbox : OkX' wr x := hob
          have HY := Lib.hid (And.intro hR (And.intro kq (And.intro hinv (And.intro hokx (And.intro hbox (And.intro hbl htm))))))
          clear hy hokn hbl hbk hc hokx htm hob hLk hx hR kq hinv HL hstep hLs x1 x2 hbox
          go_upto_region 6 with fail
          go_cut [8] from 23 to 29 (fun s8 wx => ∃ g8 : Nat, s8 = .pointer (some ⟨g8, 0, none⟩) ∧ Blk wx g8 [.int .i64 (x.t : Int), .int .i64 x.ix, .int .i64 x.inv, .int .i64 x.pt, .int .i64 x.rs, .int .i64 (x.code : Int), .string ⟨x.key.toArray⟩, .int .u64 (x.time : Int), .slice x.bA x.b.length x.bc, .int .i64 (x.hd : Int), .int .i64 (x.cu : Int), .int .i64 (x.mo : Int), .int .i64 x.er, .int .u64 (x.at_ : Int), .string ⟨x.ak.toArray⟩, .string ⟨x.av.toArray⟩] ∧ Keeps [] wr wx)
          case first =>
            go_wp2_with (first
              | (refine list_load_eq rfl 34 _ rfl _ rfl _ hl0 ?_)
              | (refine list_store_eq rfl 34 _ _ rfl _ rfl _ rfl (hst _ rfl) ?_))
            go_meet
            case rel => exact ⟨_, rfl, Hbk.out, (Keeps.refl [] wr).alloc _⟩
          case rest =>
          obtain ⟨g8, rfl, b8, k8⟩ := hcut
          obtain ⟨w8, hw8⟩ : ∃ w8, w8 = wc := ⟨_, rfl⟩
          rw [← hw8] at b8 k8 ⊢
          clear hl0 hst Hbk hw8
          obtain ⟨r0, r1, r2, r3, r4, r5, r6, r7, r8, r9, r10, r11, r12, r13, r14, r15, rf, rl⟩ := Blk.o16 b8
          have hpx := pexplain_any (HY.out.1.keeps k8) HY.out.2.2.1 (by omega) (by omega) x HY.out.2.2.2.1 (OkX'.keeps HY.out.2.2.2.2.1 k8) HY.out.2.2.2.2.2.1 HY.out.2.2.2.2.2.2
          have kq8 := Lib.hid (HY.out.2.1.trans (Kq.of k8))
          obtain ⟨⟨bb, s'⟩, hr⟩ : ∃ r, expO s x = r := ⟨_, rfl⟩
          rw [hr] at hpx
          have Hr := Lib.hid hr
          clear b8 k8 hr
          go_wp2_with fail
          refine hpx.mono ?_
          rintro e w9 ⟨rfl, hR9, k9⟩
          have kq9 := kq8.out.trans k9
          clear r0 r1 r2 r3 r4 r5 r6 r7 r8 r9 r10 r11 r12 r13 r14 r15 rf rl hpx
          cases bb with
          | true =>
            have hs' : s' = (perfW s x).2.2 := by
              have := Hst.out.2.2.2
              rw [Hr.out] at this
              exact this rfl
            have hft : fitsW (perfW s x) x = true := by
              have := Hst.out.2.2.1
              rw [Hr.out] at this
              exact this.symm
            have hL1 := Lib.hid (Hst.out.2.1.1 hft)
            have hI1 := Hst.out.1
            rw [← hs'] at hL1 hI1
            have HN := Lib.hid (And.intro hR9 (And.intro kq9 hI1))
            clear hs' hft hI1 hR9 kq9 k9
            go_wp2_with fail
            exact ⟨⟨k + 1, s', by omega, by go_num, HN.out.1, HN.out.2.1, HN.out.2.2, hL1⟩, by simp [intOf]; omega⟩
          | false =>
            have hft : fitsW (perfW s x) x = false := by
              have := Hst.out.2.2.1
              rw [Hr.out] at this
              exact this.symm
            have h13 : Hid (exE T S N C R F K xs = 13) := Lib.hid (by
              rw [HE.out, ← HEx.out, if_neg]
              rw [Hst.out.2.1.2 hft]; simp)
            have HK9 := Lib.hid (kq9.keeps HL4.out.2.1 H1.out.size)
            clear hft hR9 kq9 k9
            go_wp2_with fail
            go_ret2
            exact ⟨HK9.out, .inr ⟨by rw [h13.out]; decide, by rw [h13.out]; rfl⟩⟩
        · obtain rfl : k = n2 := by omega
          have hdone : explW s0 ((ordL xs).map rxO) = (true, s) := by rw [← HEx.out]; exact HL.out.done (by rw [List.length_map, Hn2.out]; exact Nat.le_refl _)
          have hE0 : Hid (exE T S N C R F K xs = 0) := Lib.hid (by rw [HE.out, hdone]; rfl)
          have hS0 : Hid ((explW s0 ((ordL xs).map rxO)).2 = s) := Lib.hid (by rw [hdone])
          have HK9 := Lib.hid (kq.keeps HL4.out.2.1 H1.out.size)
          obtain ⟨z0, z1, z2, zf, zl⟩ := hR.hp.o3
          have HN := Lib.hid (And.intro hR hinv)
          clear hdone hR kq hinv HL hlt hk
          go_wp2_with fail
          go_ret2
          exact ⟨HK9.out, .inl ⟨hE0.out, by rw [hS0.out, ← HL4.out.2.2.2.2.1]; exact HN.out.2, m, _, k, Q, rfl, H1.out.size, hlen, by rw [hS0.out]; exact HN.out.1.mo⟩⟩
theorem pexplain2_any (T S N C R F K : Int) (xs : List RV) (hn : xs.length ≤ 25) (v : Value) (w : World) (hv : Lst w v xs.length (rCs xs)) (hN : ∀ x ∈ xs, NatX x) (hr : ∀ x ∈ xs, RngA x.n) (hb : ∀ x ∈ xs, OkB w x ∧ x.b.length ≤ 1000) :
    Calls Tryz.prog 8 #[.agg #[.int .i64 T, .int .i64 S, .int .i64 N, .int .i64 C, .int .i64 R, .int .i64 F, .int .u64 K], v] w fun e w' => e = .returned (.int .i64 (exE T S N C R F K xs)) ∧ Keeps [] w w' := by
  have kB := (Keeps.refl [] w).alloc (.cells #[.int .i64 T, .int .i64 S, .int .i64 N, .int .i64 C, .int .i64 R, .int .i64 F, .int .u64 K] 24)
  have bc := Blk.new w [.int .i64 T, .int .i64 S, .int .i64 N, .int .i64 C, .int .i64 R, .int .i64 F, .int .u64 K] 24
  obtain ⟨W, hW⟩ : ∃ W, W = w.alloc (.cells #[.int .i64 T, .int .i64 S, .int .i64 N, .int .i64 C, .int .i64 R, .int .i64 F, .int .u64 K] 24) := ⟨_, rfl⟩
  have bc' : Blk W w.heap.size [.int .i64 T, .int .i64 S, .int .i64 N, .int .i64 C, .int .i64 R, .int .i64 F, .int .u64 K] := by rw [hW]; exact bc
  rw [← hW] at kB
  have hrp := preplay_any T S N C R F K xs hn v W (hv.keeps kB) hN hr (fun x hx => ⟨(hb x hx).1.keeps kB, (hb x hx).2⟩)
  obtain ⟨d0, d1, d2, d3, d4, d5, d6, df, dl⟩ := bc'.o7
  have HW := Lib.hid hW
  have HB := Lib.hid kB
  clear hW kB bc bc'
  go_enter Tryz.func8, Tryz.ntmps8
  go_upto_region 1 with fail
  rw [← HW.out]
  go_wp2_with fail
  refine hrp.mono ?_
  rintro e w1 ⟨k1, ⟨h0, hi, m, base, n, Q, rfl, h1, h2, h3⟩ | ⟨h0, rfl⟩⟩
  · have HH := Lib.hid (And.intro h0 (HB.out.trans k1 (by simp)))
    clear h0 hi h1 h2 h3 k1
    go_wp2_with fail
    go_ret
    exact ⟨by rw [HH.out.1]; rfl, HH.out.2⟩
  · have HH := Lib.hid (HB.out.trans k1 (by simp))
    clear h0 k1
    go_wp2_with fail
    go_ret
    exact ⟨rfl, HH.out⟩
end Go.Proofs.YtbcgpjfejpcgnaaGreat
end
section
namespace Go.Proofs.YtbcgpjfejpcgnaaGreat
open Go.RowKit
set_option maxRecDepth 100000
set_option linter.unusedVariables false
def aw0 (A : Option Addr) : RV := ⟨⟨0, 0, 0, 5, 6⟩, 3, ⟨#[]⟩, 0, A, 1, [⟨[97], [49], false⟩], 0, 0, 0, 0, 1, ⟨#[]⟩, ⟨#[]⟩⟩
def aw1 (p : Int) : RV := ⟨⟨1, 0, 1, p, 8⟩, 1, ⟨#[97]⟩, 0, none, 0, [], 0, 0, 0, 0, 1, ⟨#[97]⟩, ⟨#[49]⟩⟩
theorem aw_good (A : Option Addr) (p : Int) (hp : p = 7 ∨ p = 4) : Good (([aw0 A, aw1 p]).map (·.n)) := by
  have h1 : Good ([] ++ [(aw0 A).n]) := Good.nil.snoc.2 (by simp [aw0, SoundR])
  have h2 : Good (([] ++ [(aw0 A).n]) ++ [(aw1 p).n]) := h1.snoc.2 (by rcases hp with rfl | rfl <;> simp [aw0, aw1, SoundR])
  exact h2
theorem aw_ok (A : Option Addr) (p : Int) (hp : p = 7 ∨ p = 4) : exOk 2 2 100 100 200 4 1000 [aw0 A, aw1 p] := by
  refine ⟨by decide +kernel, aw_good A p hp, fun x hx => ?_⟩
  simp only [List.mem_cons, List.mem_nil_iff, or_false] at hx
  rcases hx with rfl | rfl
  · exact ⟨by show (0 : Int) < 2; omega, rfl⟩
  · exact ⟨by show (1 : Int) < 2; omega, rfl⟩
theorem aw_yes (A : Option Addr) : (explW s0 ((ordL [aw0 A, aw1 7]).map rxO)).1 = true := rfl
theorem aw_no (A : Option Addr) : (explW s0 ((ordL [aw0 A, aw1 4]).map rxO)).1 = false := rfl
theorem aw_n (A : Option Addr) (p : Int) (hp : p = 7 ∨ p = 4) : (∀ x ∈ [aw0 A, aw1 p], NatX x) ∧ (∀ x ∈ [aw0 A, aw1 p], RngA x.n) := by
  constructor
  · intro x hx
    simp only [List.mem_cons, List.mem_nil_iff, or_false] at hx
    rcases hx with rfl | rfl <;> simp [NatX, aw0, aw1]
  · intro x hx
    simp only [List.mem_cons, List.mem_nil_iff, or_false] at hx
    rcases hx with rfl | rfl
    · simp [RngA, Rng, aw0]
    · rcases hp with rfl | rfl <;> simp [RngA, Rng, aw1]
theorem blk_arr {w : World} {g : Nat} {cs : List Value} (h : Blk w g cs) : Arr w g 0 cs := ⟨fun i _ => by rw [Nat.zero_add]; exact h.cell i, fun _ => h.lt⟩
theorem aw_call (g h : Nat) (p : Int) (hp : p = 7 ∨ p = 4) (w : World) (bb : Blk w g [.string ⟨#[97]⟩, .string ⟨#[49]⟩, .bool false]) (br : Blk w h [.int .i64 0, .int .i64 0, .int .i64 0, .int .i64 5, .int .i64 6, .int .i64 3, .string ⟨#[]⟩, .int .u64 0, .slice (some ⟨g, 0, none⟩) 1 1, .int .i64 0, .int .i64 0, .int .i64 0, .int .i64 0, .int .u64 1, .string ⟨#[]⟩, .string ⟨#[]⟩, .int .i64 1, .int .i64 0, .int .i64 1, .int .i64 p, .int .i64 8, .int .i64 1, .string ⟨#[97]⟩, .int .u64 0, .slice none 0 0, .int .i64 0, .int .i64 0, .int .i64 0, .int .i64 0, .int .u64 1, .string ⟨#[97]⟩, .string ⟨#[49]⟩]) :
    Calls Tryz.prog 8 #[.agg #[.int .i64 2, .int .i64 2, .int .i64 100, .int .i64 100, .int .i64 200, .int .i64 4, .int .u64 1000], .slice (some ⟨h, 0, none⟩) 2 2] w fun e w' => e = .returned (.int .i64 (if p = 7 then 0 else 13)) ∧ Keeps [] w w' := by
  have hv : Lst w (.slice (some ⟨h, 0, none⟩) 2 2) [aw0 (some ⟨g, 0, none⟩), aw1 p].length (rCs [aw0 (some ⟨g, 0, none⟩), aw1 p]) := ⟨_, 2, h, 0, rfl, fun _ => rfl, blk_arr br⟩
  have hb : ∀ x ∈ [aw0 (some ⟨g, 0, none⟩), aw1 p], OkB w x ∧ x.b.length ≤ 1000 := by
    intro x hx
    simp only [List.mem_cons, List.mem_nil_iff, or_false] at hx
    rcases hx with rfl | rfl
    · exact ⟨⟨_, 1, g, 0, rfl, fun _ => rfl, blk_arr bb⟩, by show (1 : Nat) ≤ 1000; omega⟩
    · exact ⟨⟨_, 0, 0, 0, rfl, fun h => absurd h (by show ¬ (0 : Nat) < 0; omega), Arr.nil _⟩, by show (0 : Nat) ≤ 1000; omega⟩
  have := pexplain2_any 2 2 100 100 200 4 1000 _ (by show (2 : Nat) ≤ 25; omega) _ w hv (aw_n _ p hp).1 (aw_n _ p hp).2 hb
  have he : exE 2 2 100 100 200 4 1000 [aw0 (some ⟨g, 0, none⟩), aw1 p] = (if p = 7 then 0 else 13) := by
    rw [exE_good (aw_ok _ p hp)]
    rcases hp with rfl | rfl
    · rw [aw_yes]; rfl
    · rw [aw_no]; rfl
  rw [he] at this
  exact this
set_option maxHeartbeats 4000000 in
theorem awake25_any (w : World) : Calls Tryz.prog 5 #[] w fun e w' => e = .returned (.bool true) ∧ Keeps [] w w' := by
  go_enter Tryz.func5, Tryz.ntmps5
  go_wp2_with fail
  refine (O.config_kit 2 0 (by omega) (by omega) w).mono ?_
  rintro e w1 ⟨rfl, k1⟩
  have h4 : (4 : Int) + 0 % 3 = 4 := by decide
  rw [h4]
  clear h4
  have K := ((k1.alloc (.cells #[.int .i64 2, .int .i64 2, .int .i64 100, .int .i64 100, .int .i64 200, .int .i64 4, .int .u64 1000] 24)).alloc (.cells #[.string ⟨#[97]⟩, .string ⟨#[49]⟩, .bool false] 53)).alloc (.cells #[.int .i64 0, .int .i64 0, .int .i64 0, .int .i64 5, .int .i64 6, .int .i64 3, .string ⟨#[]⟩, .int .u64 0, .slice (some ⟨(w1.heap.size + 1), 0, none⟩) 1 1, .int .i64 0, .int .i64 0, .int .i64 0, .int .i64 0, .int .u64 1, .string ⟨#[]⟩, .string ⟨#[]⟩, .int .i64 1, .int .i64 0, .int .i64 1, .int .i64 7, .int .i64 8, .int .i64 1, .string ⟨#[97]⟩, .int .u64 0, .slice none 0 0, .int .i64 0, .int .i64 0, .int .i64 0, .int .i64 0, .int .u64 1, .string ⟨#[97]⟩, .string ⟨#[49]⟩] 34)
  have b1 := ((Blk.new w1 [.int .i64 2, .int .i64 2, .int .i64 100, .int .i64 100, .int .i64 200, .int .i64 4, .int .u64 1000] 24).alloc (.cells #[.string ⟨#[97]⟩, .string ⟨#[49]⟩, .bool false] 53)).alloc (.cells #[.int .i64 0, .int .i64 0, .int .i64 0, .int .i64 5, .int .i64 6, .int .i64 3, .string ⟨#[]⟩, .int .u64 0, .slice (some ⟨(w1.heap.size + 1), 0, none⟩) 1 1, .int .i64 0, .int .i64 0, .int .i64 0, .int .i64 0, .int .u64 1, .string ⟨#[]⟩, .string ⟨#[]⟩, .int .i64 1, .int .i64 0, .int .i64 1, .int .i64 7, .int .i64 8, .int .i64 1, .string ⟨#[97]⟩, .int .u64 0, .slice none 0 0, .int .i64 0, .int .i64 0, .int .i64 0, .int .i64 0, .int .u64 1, .string ⟨#[97]⟩, .string ⟨#[49]⟩] 34)
  have b2 := (Blk.new_at (w1.alloc (.cells #[.int .i64 2, .int .i64 2, .int .i64 100, .int .i64 100, .int .i64 200, .int .i64 4, .int .u64 1000] 24)) (w1.heap.size + 1) [.string ⟨#[97]⟩, .string ⟨#[49]⟩, .bool false] 53 (by simp)).alloc (.cells #[.int .i64 0, .int .i64 0, .int .i64 0, .int .i64 5, .int .i64 6, .int .i64 3, .string ⟨#[]⟩, .int .u64 0, .slice (some ⟨(w1.heap.size + 1), 0, none⟩) 1 1, .int .i64 0, .int .i64 0, .int .i64 0, .int .i64 0, .int .u64 1, .string ⟨#[]⟩, .string ⟨#[]⟩, .int .i64 1, .int .i64 0, .int .i64 1, .int .i64 7, .int .i64 8, .int .i64 1, .string ⟨#[97]⟩, .int .u64 0, .slice none 0 0, .int .i64 0, .int .i64 0, .int .i64 0, .int .i64 0, .int .u64 1, .string ⟨#[97]⟩, .string ⟨#[49]⟩] 34)
  have b3 := Blk.new_at ((w1.alloc (.cells #[.int .i64 2, .int .i64 2, .int .i64 100, .int .i64 100, .int .i64 200, .int .i64 4, .int .u64 1000] 24)).alloc (.cells #[.string ⟨#[97]⟩, .string ⟨#[49]⟩, .bool false] 53)) (w1.heap.size + 1 + 1) [.int .i64 0, .int .i64 0, .int .i64 0, .int .i64 5, .int .i64 6, .int .i64 3, .string ⟨#[]⟩, .int .u64 0, .slice (some ⟨(w1.heap.size + 1), 0, none⟩) 1 1, .int .i64 0, .int .i64 0, .int .i64 0, .int .i64 0, .int .u64 1, .string ⟨#[]⟩, .string ⟨#[]⟩, .int .i64 1, .int .i64 0, .int .i64 1, .int .i64 7, .int .i64 8, .int .i64 1, .string ⟨#[97]⟩, .int .u64 0, .slice none 0 0, .int .i64 0, .int .i64 0, .int .i64 0, .int .i64 0, .int .u64 1, .string ⟨#[97]⟩, .string ⟨#[49]⟩] 34 (by simp)
  go_upto_region 4 with fail
  obtain ⟨w2, hw2⟩ : ∃ w2, w2 = (((w1.alloc (.cells #[.int .i64 2, .int .i64 2, .int .i64 100, .int .i64 100, .int .i64 200, .int .i64 4, .int .u64 1000] 24)).alloc (.cells #[.string ⟨#[97]⟩, .string ⟨#[49]⟩, .bool false] 53)).alloc (.cells #[.int .i64 0, .int .i64 0, .int .i64 0, .int .i64 5, .int .i64 6, .int .i64 3, .string ⟨#[]⟩, .int .u64 0, .slice (some ⟨(w1.heap.size + 1), 0, none⟩) 1 1, .int .i64 0, .int .i64 0, .int .i64 0, .int .i64 0, .int .u64 1, .string ⟨#[]⟩, .string ⟨#[]⟩, .int .i64 1, .int .i64 0, .int .i64 1, .int .i64 7, .int .i64 8, .int .i64 1, .string ⟨#[97]⟩, .int .u64 0, .slice none 0 0, .int .i64 0, .int .i64 0, .int .i64 0, .int .i64 0, .int .u64 1, .string ⟨#[97]⟩, .string ⟨#[49]⟩] 34)) := ⟨_, rfl⟩
  rw [← hw2] at K b1 b2 b3 ⊢
  clear hw2
  have hc1 := aw_call _ _ 7 (.inl rfl) w2 b2 b3
  rw [if_pos rfl] at hc1
  obtain ⟨d0, d1, d2, d3, d4, d5, d6, df, dl⟩ := b1.o7
  have HB := Lib.hid (And.intro K (And.intro b1 (And.intro b2 b3)))
  have hs1 := k1.size
  clear K b1 b2 b3 k1
  go_wp2_with fail
  refine hc1.mono ?_
  rintro e w3 ⟨rfl, k3⟩
  obtain ⟨K, b1, b2, b3⟩ := HB.out
  have K3 := K.trans k3 (by simp)
  have b13 := k3.blk b1 (by simp)
  have b23 := k3.blk b2 (by simp)
  have b33 := k3.blk b3 (by simp)
  have kS : Keeps [w1.heap.size + 1 + 1] w3 (w3.setCell ⟨w1.heap.size + 1 + 1, 19, none⟩ (.int .i64 4)) := (Keeps.refl _ w3).setCell _ _ (.inl (by simp))
  have b34 : Blk (w3.setCell ⟨w1.heap.size + 1 + 1, 19, none⟩ (.int .i64 4)) (w1.heap.size + 1 + 1) [.int .i64 0, .int .i64 0, .int .i64 0, .int .i64 5, .int .i64 6, .int .i64 3, .string ⟨#[]⟩, .int .u64 0, .slice (some ⟨(w1.heap.size + 1), 0, none⟩) 1 1, .int .i64 0, .int .i64 0, .int .i64 0, .int .i64 0, .int .u64 1, .string ⟨#[]⟩, .string ⟨#[]⟩, .int .i64 1, .int .i64 0, .int .i64 1, .int .i64 4, .int .i64 8, .int .i64 1, .string ⟨#[97]⟩, .int .u64 0, .slice none 0 0, .int .i64 0, .int .i64 0, .int .i64 0, .int .i64 0, .int .u64 1, .string ⟨#[97]⟩, .string ⟨#[49]⟩] := b33.set 19 (.int .i64 4)
  have hc2 := aw_call _ _ 4 (.inr rfl) _ (kS.blk b23 (by simp)) b34
  rw [if_neg (by decide)] at hc2
  have c19 : w3.cell? ⟨w1.heap.size + 1 + 1, 19, none⟩ = some (.int .i64 7) := b33.cell 19
  have cf := b33.frozen
  have cl := b33.lt
  have b14 := kS.blk b13 (by simp; omega)
  have HK := Lib.hid (And.intro (K3.trans kS (fun i hi => .inr (by simp at hi; omega))) b14)
  clear K b1 b2 b3 K3 b23 b33 kS b34 k3 HB hc1 b14 d0 d1 d2 d3 d4 d5 d6 df dl
  obtain ⟨d0, d1, d2, d3, d4, d5, d6, df, dl⟩ := b13.o7
  clear b13
  go_wp2_with fail
  refine hc2.mono ?_
  rintro e w5 ⟨rfl, k5⟩
  go_wp2_with fail
  go_ret
  exact ⟨rfl, HK.out.1.trans k5 (by simp)⟩
end Go.Proofs.YtbcgpjfejpcgnaaGreat
end
