/- Lemmas on the way to LinearAcceptsSequential. No condition. -/
import Derived.Test.YtbcgpjfejpcgnaaGreatRAb
set_option linter.unusedSimpArgs false
set_option linter.unusedVariables false
set_option linter.unusedSectionVars false
section
namespace Go.Proofs.YtbcgpjfejpcgnaaGreat
open Go.RowKit
set_option maxHeartbeats 1000000 in
set_option maxRecDepth 100000 in
theorem insert_end (A : List Ent) (x : Ent) (hn : A.length < 4096) (base : Nat) (v : Value) (w : World) (ho : Own w base v A) (hbase : base ≤ w.heap.size) (vb : Nat) (hv : Blk w vb (eC x)) :
    Calls Tryz.prog 88 #[v, .int .i64 A.length, .slice (some ⟨vb, 0, none⟩) 1 1] w fun e w' => ∃ u, e = .returned u ∧ Own w' base u (A ++ [x]) ∧ Keeps v.ownBlock.toList w w' := by
  obtain ⟨v', w', hr, h1, h2⟩ := appendO ho hn hbase ⟨vb, 0, none⟩ 1 x (fun j u hj => by rw [Addr.add_lit, hv.cell, Nat.zero_add, hj])
  have H1 := Lib.hid h1
  have H2 := Lib.hid h2
  clear h1 h2 hv
  rcases ho with ⟨rfl, rfl⟩ | ⟨g, cap, rest, rfl, hb, hg, hc1, hc2, hc3⟩
  · go_enter Tryz.func88, Tryz.ntmps88
    go_wp2_with (at_builtin; refine list_append_eq rfl _ _ 84 84 rfl _ _ rfl rfl (hr _) ?_)
    go_ret
    exact ⟨_, rfl, H1.out, H2.out⟩
  · clear hb hc3
    go_enter Tryz.func88, Tryz.ntmps88
    go_wp2_with (at_builtin; refine list_append_eq rfl _ _ 84 84 rfl _ _ rfl rfl (hr _) ?_)
    all_goals go_ret
    all_goals exact ⟨_, rfl, H1.out, H2.out⟩
theorem spl_drop {cs news : List Value} {o : Nat} (hf : o ≤ cs.length) : (spl cs o news).drop o = news ++ cs.drop (o + news.length) := by
  unfold spl
  rw [List.append_assoc, List.drop_append_of_le_length (by simp; omega), List.drop_of_length_le (by simp; omega), List.nil_append]
set_option maxHeartbeats 1000000 in
set_option maxRecDepth 100000 in
theorem insert_room (A B : List Ent) (x : Ent) (i m : Nat) (hi : A.length = i) (hm : B.length = m) (hm0 : 0 < m) (hs : i + m < 4096) (g cap : Nat) (rest : List Value) (w : World) (hb : Blk w g (eCs (A ++ B) ++ rest)) (hc1 : i + m + 1 ≤ cap) (hc2 : cap ≤ maxLen) (hc3 : (eCs (A ++ B) ++ rest).length = cap * 2) (vb : Nat) (hv : Blk w vb (eC x)) (hvg : vb ≠ g) :
    Calls Tryz.prog 88 #[.slice (some ⟨g, 0, none⟩) (i + m) cap, .int .i64 i, .slice (some ⟨vb, 0, none⟩) 1 1] w fun e w' => e = .returned (.slice (some ⟨g, 0, none⟩) (i + m + 1) cap) ∧ (∃ rest', Blk w' g (eCs (A ++ x :: B) ++ rest') ∧ (eCs (A ++ x :: B) ++ rest').length = cap * 2) ∧ Keeps [g] w w' := by
  obtain ⟨i0, hi0, hz0, hz1, hz2⟩ := info_parts infoE
  have hsz : (Tryz.prog.info? 104).map (·.size) = some 2 := by rw [hi0]; simp [hz1]
  unfold maxLen at hc2
  obtain ⟨cs, hcs⟩ : ∃ cs, eCs (A ++ B) ++ rest = cs := ⟨_, rfl⟩
  have hB : (eCs B).length = m * 2 := by rw [eCs_length, hm]
  have hget : ∀ j u, (eCs B)[j]? = some u → cs[i * 2 + j]? = some u := by
    intro j u hj
    have hjl : j < (eCs B).length := (List.getElem?_eq_some_iff.1 hj).1
    rw [← hcs, eCs_append, List.append_assoc, List.getElem?_append_right (by rw [eCs_length]; omega), List.getElem?_append_left (by rw [eCs_length, hi]; omega), ← hj]
    congr 1
    rw [eCs_length, hi]; omega
  have htk : cs.take (i * 2) = eCs A := by
    rw [← hcs, eCs_append, List.append_assoc, List.take_append_of_le_length (by rw [eCs_length]; omega), List.take_of_length_le (by rw [eCs_length]; omega)]
  rw [hcs] at hb hc3
  obtain ⟨w1, hr1, hb1, k1⟩ := run_copyK (P := Tryz.prog) w.drew 84 104 2 g ((i + 1) * 2) m (cap - (i + 1)) ⟨g, i * 2, none⟩ (m + 1) (cap - i) cs (eCs B) Tryz.underlying84 hsz hb.drew (by rw [hB]; simp) (fun j u hj => by rw [Addr.add_lit]; exact (hb.cell _).trans (hget j u hj)) (by rw [hB, hc3]; omega) (fun u hu => eCs_one' hu)
  have hl1 : (spl cs ((i + 1) * 2) (eCs B)).length = cap * 2 := by rw [spl_length (by rw [hB, hc3]; omega), hc3]
  have hone : ∀ u ∈ eC x, u.oneCell' = true := fun u hu => by
    simp only [eC, List.mem_cons, List.mem_nil_iff, or_false] at hu
    rcases hu with rfl | rfl <;> rfl
  obtain ⟨w2, hr2, hb2, k2⟩ := run_copyK (P := Tryz.prog) w1 84 104 2 g (i * 2) (m + 1) (cap - i) ⟨vb, 0, none⟩ 1 1 _ (eC x) Tryz.underlying84 hsz hb1 (by simp [eC]) (fun j u hj => by rw [Addr.add_lit, (k1.blk hv.drew (by simpa using hvg)).cell, Nat.zero_add, hj]) (by rw [hl1]; simp [eC]; omega) hone
  have hX : spl (spl cs ((i + 1) * 2) (eCs B)) (i * 2) (eC x) = eCs (A ++ x :: B) ++ cs.drop ((i + 1) * 2 + (eCs B).length) := by
    have e1 : (spl cs ((i + 1) * 2) (eCs B)).take (i * 2) = eCs A := by rw [spl_take (by omega) (by rw [hc3]; omega), htk]
    have e2 : (spl cs ((i + 1) * 2) (eCs B)).drop (i * 2 + (eC x).length) = eCs B ++ cs.drop ((i + 1) * 2 + (eCs B).length) := by
      rw [show i * 2 + (eC x).length = (i + 1) * 2 by simp [eC]; omega, spl_drop (by rw [hc3]; omega)]
    rw [spl, e1, e2, eCs_append, eCs_cons]
    simp
  have hZ : (eCs (A ++ x :: B) ++ cs.drop ((i + 1) * 2 + (eCs B).length)).length = cap * 2 := by
    rw [← hX, spl_length (by rw [hl1]; simp [eC]; omega), hl1]
  rw [hX] at hb2
  have HY := Lib.hid hb2
  have HZ := Lib.hid hZ
  have K := Lib.hid ((k1.trans k2 (by simp)).undrew)
  obtain ⟨Tb, hTb⟩ := hb
  obtain ⟨Tv, hTv⟩ := hv
  have hsa : w.shape? vb = some (Tv, 2) := by simp [World.shape?, hTv, eC]
  have hsb : w.shape? g = some (Tb, cap * 2) := by simp [World.shape?, hTb, hc3]
  have hfr : ∀ j, w.frozen? ⟨vb, j, none⟩ = false := fun j => by simp [World.frozen?, hTv]
  have hov : ∀ lb cb, (callFunc 97 #[.slice (some ⟨vb, 0, none⟩) 1 1, .slice (some ⟨g, (i + 1) * 2, none⟩) lb cb]).run Tryz.prog w = .ok (.value (.bool false)) w := fun lb cb => by
    rw [run_callFunc_extern Tryz.func97 (by kernel_rfl) (by kernel_rfl) (by kernel_rfl) (e := Extern.SlicesOverlaps.overlaps #[84, 84] #[4]) (by kernel_rfl),
      Lib.run_overlaps_apart w 84 4 104 Tryz.underlying84 2 Tryz.sizeOf104 ⟨vb, 0, none⟩ ⟨g, (i + 1) * 2, none⟩ 1 1 lb cb hvg Tv Tb 2 (cap * 2) hsa hsb (by omega) (hfr 0) (hfr 2)]
    rfl
  clear hX hZ hb2 k1 k2 hl1 hb1 htk hget hcs hc3 hTb hTv hsa hsb hfr
  have mixed : Tryz.prog.follows .mixedOrders = true := by kernel_rfl
  have b1 : ¬ ((i : Int) = (i : Int) + (m : Int)) := by omega
  have b2 : ((i : Int) == (i : Int) + (m : Int)) = false := by simp; omega
  have b3 : ¬ ((cap : Int) < (i : Int) + (m : Int) + 1) := by omega
  have b4 : (0 : Int) ≤ (i : Int) + (m : Int) := by omega
  have b5 : (0 : Int) ≤ (i : Int) + (m : Int) + 1 := by omega
  have b6 : (i : Int) + (m : Int) + 1 ≤ (cap : Int) := by omega
  have b7 : (0 : Int) ≤ (i : Int) + 1 := by omega
  have b8 : (i : Int) + 1 ≤ (i : Int) + (m : Int) + 1 := by omega
  have b9 : i ≤ i + m := by omega
  have b10 : i ≤ i + m + 1 := by omega
  have b11 : ¬ cap = i + 1 := by omega
  have b12 : ¬ cap = i := by omega
  have b13 : i + m + 1 - (i + 1) = m := by omega
  have b14 : i + m + 1 - i = m + 1 := by omega
  have b15 : (i : Int) ≤ (i : Int) + (m : Int) + 1 := by omega
  have t1 : ((i : Int) + (m : Int) + 1).toNat = i + m + 1 := by omega
  have hw1 : IntKind.i64.wrap ((i : Int) + 1) = (i : Int) + 1 := by rw [IntKind.wrap_i64]; omega
  have t2 : ((i : Int) + 1).toNat = i + 1 := by omega
  go_enter Tryz.func88, Tryz.ntmps88
  go_wp2_with (simp only [hov])
  go_region_law_o (refine step_copy_eq rfl _ _ 84 84 rfl (.slice (some ⟨g, (i + 1) * 2, none⟩) m (cap - (i + 1))) (.slice (some ⟨g, i * 2, none⟩) (m + 1) (cap - i)) (by simp [Act.eval, Act.put]) (by simp [Act.eval, Act.put]) (hr1 _) ?_)
  go_wp2_with (at_builtin; refine list_copy_eq rfl _ _ 84 84 rfl (.slice (some ⟨g, i * 2, none⟩) (m + 1) (cap - i)) (.slice (some ⟨vb, 0, none⟩) 1 1) rfl rfl (hr2 _) ?_)
  go_ret
  exact ⟨rfl, ⟨_, HY.out, HZ.out⟩, K.out⟩
set_option maxRecDepth 100000 in
theorem grow_pre (A B : List Ent) (x : Ent) (i m : Nat) (hi : A.length = i) (hm : B.length = m) (hm0 : 0 < m) (hs : i + m < 4096) (g cap : Nat) (rest : List Value) (w : World) (hb : Blk w g (eCs (A ++ B) ++ rest)) (hc0 : i + m ≤ cap) (hc1 : cap < i + m + 1) (vb : Nat) (hv : Blk w vb (eC x)) :
    ∃ (G : Nat) (w0 w1 w2 : World), i + m + 1 ≤ G ∧ G ≤ maxLen ∧
      (∀ ty, (Builtin.append_ #[84, 3] ty #[.slice (some ⟨g, 0, none⟩) i cap, .int .i64 ((m + 1 : Nat) : Int)]).run Tryz.prog w = .ok (.slice (some ⟨w.heap.size, 0, none⟩) (i + m + 1) G) w0) ∧
      (∀ ty, (Builtin.copy_ #[84, 84] ty #[.slice (some ⟨w.heap.size, i * 2, none⟩) (m + 1) (G - i), .slice (some ⟨vb, 0, none⟩) 1 1]).run Tryz.prog w0 = .ok (goInt (Nat.min 1 (m + 1) : Nat)) w1) ∧
      (∀ ty, (Builtin.copy_ #[84, 84] ty #[.slice (some ⟨w.heap.size, (i + 1) * 2, none⟩) m (G - (i + 1)), .slice (some ⟨g, i * 2, none⟩) m (cap - i)]).run Tryz.prog w1.drew = .ok (goInt (Nat.min m m : Nat)) w2) ∧
      (∃ rest', Blk w2 w.heap.size (eCs (A ++ x :: B) ++ rest') ∧ (eCs (A ++ x :: B) ++ rest').length = G * 2) ∧ Keeps [] w w2 := by
  obtain ⟨i0, hi0, hz0, hz1, hz2⟩ := info_parts infoE
  have hsz : (Tryz.prog.info? 104).map (·.size) = some 2 := by rw [hi0]; simp [hz1]
  have hA : (eCs A).length = i * 2 := by rw [eCs_length, hi]
  have hB : (eCs B).length = m * 2 := by rw [eCs_length, hm]
  have hone : ∀ u ∈ eC x, u.oneCell' = true := fun u hu => by
    simp only [eC, List.mem_cons, List.mem_nil_iff, or_false] at hu
    rcases hu with rfl | rfl <;> rfl
  have hgA : ∀ j u, (eCs A)[j]? = some u → w.cell? ⟨g, j, none⟩ = some u := fun j u hj => by
    rw [hb.cell, eCs_append, List.append_assoc, List.getElem?_append_left (List.getElem?_eq_some_iff.1 hj).1, hj]
  have hgB : ∀ j u, (eCs B)[j]? = some u → w.cell? ⟨g, i * 2 + j, none⟩ = some u := fun j u hj => by
    have hjl : j < (eCs B).length := (List.getElem?_eq_some_iff.1 hj).1
    rw [hb.cell, eCs_append, List.append_assoc, List.getElem?_append_right (by rw [hA]; omega), List.getElem?_append_left (by rw [hA]; omega), ← hj]
    congr 1
    rw [hA]; omega
  have hold : (Builtin.firstCells i0.size i (.slice (some ⟨g, 0, none⟩) i cap)).run Tryz.prog w.drew = .ok (eCs A).toArray w.drew := by
    rw [hz1]
    exact run_firstCells_some w.drew 2 i ⟨g, 0, none⟩ i cap (eCs A) hA (fun j u hj => by rw [Addr.add_lit, Nat.zero_add]; exact hgA j u hj)
  obtain ⟨G, hG⟩ : ∃ G, G = grownCap w (i + (m + 1)) cap 104 := ⟨_, rfl⟩
  have hG1 : i + (m + 1) ≤ G := by rw [hG]; exact grownCap_ge _ _ _ _
  have hG2 : G ≤ maxLen := by rw [hG]; exact grownCap_le_maxLen _ _ _ _ (by unfold maxLen; omega)
  have hr0 := fun ty => Lib.run_append_grow_zeros (P := Tryz.prog) w 84 3 ty 104 i0 _ .i64 .i64 Tryz.underlying84 Tryz.underlying3 hi0 hz0 (some ⟨g, 0, none⟩) i cap (eCs A) hold (m + 1) (by omega) (by omega) (by omega) (by omega) (by rw [hz2]; omega) (by rw [hz2]; exact growslice_fits (by omega) (by omega))
  rw [← hG] at hr0
  have hn0 := new_blk w (eCs A) (zE (m + 1) ++ zE (G - (i + (m + 1)))) 104
  have eW : (eCs A).toArray ++ (zE (m + 1) ++ zE (G - (i + (m + 1)))) = (eCs A).toArray ++ Builtin.zeroCells (Value.agg #[.string ⟨#[]⟩, .string ⟨#[]⟩]).cells (m + 1) ++ Builtin.zeroCells (Value.agg #[.string ⟨#[]⟩, .string ⟨#[]⟩]).cells (G - (i + (m + 1))) := by rw [zE, zE, Array.append_assoc]
  rw [eW] at hn0
  have kw0 : Keeps [] w (w.drew.alloc (.cells ((eCs A).toArray ++ Builtin.zeroCells (Value.agg #[.string ⟨#[]⟩, .string ⟨#[]⟩]).cells (m + 1) ++ Builtin.zeroCells (Value.agg #[.string ⟨#[]⟩, .string ⟨#[]⟩]).cells (G - (i + (m + 1)))) 104)) := ((Keeps.refl [] w).drew).alloc _
  obtain ⟨w0, hw0⟩ : ∃ w0, w0 = w.drew.alloc (.cells ((eCs A).toArray ++ Builtin.zeroCells (Value.agg #[.string ⟨#[]⟩, .string ⟨#[]⟩]).cells (m + 1) ++ Builtin.zeroCells (Value.agg #[.string ⟨#[]⟩, .string ⟨#[]⟩]).cells (G - (i + (m + 1)))) 104) := ⟨_, rfl⟩
  rw [← hw0] at hr0 hn0 kw0
  obtain ⟨Z, hZ⟩ : ∃ Z, (zE (m + 1) ++ zE (G - (i + (m + 1)))).toList = Z := ⟨_, rfl⟩
  rw [hZ] at hn0
  have hZl : Z.length = (G - i) * 2 := by rw [← hZ, Array.toList_append, List.length_append, zero_len, zero_len]; omega
  obtain ⟨w1, hr1, hb1, k1⟩ := run_copyK (P := Tryz.prog) w0 84 104 2 w.heap.size (i * 2) (m + 1) (G - i) ⟨vb, 0, none⟩ 1 1 _ (eC x) Tryz.underlying84 hsz hn0 (by simp [eC]) (fun j u hj => by rw [Addr.add_lit, (kw0.blk hv (by simp)).cell, Nat.zero_add, hj]) (by rw [List.length_append, hA, hZl]; simp [eC]; omega) hone
  have hl1 : (spl (eCs A ++ Z) (i * 2) (eC x)).length = G * 2 := by rw [spl_length (by rw [List.length_append, hA, hZl]; simp [eC]; omega), List.length_append, hA, hZl]; omega
  have hgw := hb.lt
  have hne : g ∉ [w.heap.size] := by simp; omega
  obtain ⟨w2, hr2, hb2, k2⟩ := run_copyK (P := Tryz.prog) w1.drew 84 104 2 w.heap.size ((i + 1) * 2) m (G - (i + 1)) ⟨g, i * 2, none⟩ m (cap - i) _ (eCs B) Tryz.underlying84 hsz hb1.drew (by rw [hB]; simp) (fun j u hj => by rw [Addr.add_lit]; exact (k1.drew).cellEq (kw0.cellEq (hgB j u hj) (by simp)) hne) (by rw [hl1, hB]; omega) (fun u hu => eCs_one' hu)
  have hX : (spl (spl (eCs A ++ Z) (i * 2) (eC x)) ((i + 1) * 2) (eCs B)).take ((i + 1 + m) * 2) = eCs (A ++ x :: B) := by
    rw [show (i + 1 + m) * 2 = (i + 1) * 2 + (eCs B).length by rw [hB]; omega, spl_take_in (by rw [hl1]; omega), show (i + 1) * 2 = i * 2 + (eC x).length by simp [eC]; omega, spl_take_in (by rw [List.length_append, hA]; omega), List.take_append_of_le_length (by rw [hA]; omega), List.take_of_length_le (by rw [hA]; omega), eCs_append, eCs_cons, List.append_assoc]
  have hT : (eCs (A ++ x :: B) ++ (spl (spl (eCs A ++ Z) (i * 2) (eC x)) ((i + 1) * 2) (eCs B)).drop ((i + 1 + m) * 2)).length = G * 2 := by
    rw [← hX, List.take_append_drop, spl_length (by rw [hl1, hB]; omega), hl1]
  exact ⟨G, w0, w1, w2, by omega, hG2, hr0, hr1, hr2, ⟨_, hb2.cut hX, hT⟩, (kw0.trans k1 (by simp)).trans k2.undrew (by simp)⟩
set_option maxHeartbeats 1000000 in
set_option maxRecDepth 100000 in
theorem insert_grow (A B : List Ent) (x : Ent) (i m : Nat) (hi : A.length = i) (hm : B.length = m) (hm0 : 0 < m) (hs : i + m < 4096) (g cap : Nat) (rest : List Value) (w : World) (hb : Blk w g (eCs (A ++ B) ++ rest)) (hc0 : i + m ≤ cap) (hc1 : cap < i + m + 1) (vb : Nat) (hv : Blk w vb (eC x)) :
    Calls Tryz.prog 88 #[.slice (some ⟨g, 0, none⟩) (i + m) cap, .int .i64 i, .slice (some ⟨vb, 0, none⟩) 1 1] w fun e w' => ∃ u, e = .returned u ∧ Own w' w.heap.size u (A ++ x :: B) ∧ Keeps [] w w' := by
  obtain ⟨G, w0, w1, w2, hG1, hG2, hr0, hr1, hr2, ⟨rest', hb2, hT⟩, k2⟩ := grow_pre A B x i m hi hm hm0 hs g cap rest w hb hc0 hc1 vb hv
  have HY := Lib.hid hb2
  have HT := Lib.hid hT
  have K := Lib.hid k2
  have HA1 := Lib.hid hi
  have HB1 := Lib.hid hm
  clear hb hv hb2 hT k2 hi hm
  have hrz : ∀ ty, (Builtin.append_ #[84, 3] ty #[.slice (some ⟨g, 0, none⟩) i cap, .int .i64 ((i : Int) + (m : Int) + 1 - (i : Int))]).run Tryz.prog w = .ok (.slice (some ⟨w.heap.size, 0, none⟩) (i + m + 1) G) w0 := fun ty => by
    rw [show (i : Int) + (m : Int) + 1 - (i : Int) = ((m + 1 : Nat) : Int) by omega]; exact hr0 ty
  clear hr0
  have mixed : Tryz.prog.follows .mixedOrders = true := by kernel_rfl
  have b1 : ¬ ((i : Int) = (i : Int) + (m : Int)) := by omega
  have b2 : ((i : Int) == (i : Int) + (m : Int)) = false := by simp; omega
  have b3 : (cap : Int) < (i : Int) + (m : Int) + 1 := by omega
  have b7 : (0 : Int) ≤ (i : Int) + 1 := by omega
  have b8 : (i : Int) + 1 ≤ (i : Int) + (m : Int) + 1 := by omega
  have b9 : i ≤ i + m := by omega
  have b9' : i ≤ cap := by omega
  have b10 : i ≤ i + m + 1 := by omega
  have b11 : ¬ G = i + 1 := by omega
  have b12 : ¬ G = i := by omega
  have b12' : ¬ cap = i := by omega
  have b13 : i + m + 1 - (i + 1) = m := by omega
  have b14 : i + m + 1 - i = m + 1 := by omega
  have b15 : i + m - i = m := by omega
  have b16 : (i : Int) ≤ (i : Int) + (m : Int) := by omega
  have t2 : ((i : Int) + 1).toNat = i + 1 := by omega
  have hw1 : IntKind.i64.wrap ((i : Int) + 1) = (i : Int) + 1 := by rw [IntKind.wrap_i64]; omega
  go_enter Tryz.func88, Tryz.ntmps88
  go_wp2_with (first
    | (at_builtin; refine list_append_eq rfl _ _ 84 3 rfl _ _ rfl rfl (hrz _) ?_)
    | (at_builtin; refine list_copy_eq rfl _ _ 84 84 rfl (.slice (some ⟨w.heap.size, i * 2, none⟩) (m + 1) (G - i)) (.slice (some ⟨vb, 0, none⟩) 1 1) rfl rfl (hr1 _) ?_))
  go_region_law_o (refine step_copy_eq rfl _ _ 84 84 rfl (.slice (some ⟨w.heap.size, (i + 1) * 2, none⟩) m (G - (i + 1))) (.slice (some ⟨g, i * 2, none⟩) m (cap - i)) (by simp [Act.eval, Act.put]) (by simp [Act.eval, Act.put]) (hr2 _) ?_)
  go_wp2
  go_ret
  refine ⟨.slice (some ⟨w.heap.size, 0, none⟩) (i + m + 1) G, rfl, .inr ⟨w.heap.size, G, rest', ?_, HY.out, Nat.le_refl _, ?_, hG2, HT.out⟩, K.out⟩
  · have := HA1.out
    have := HB1.out
    rw [List.length_append, List.length_cons]
    congr 1
    omega
  · have := HA1.out
    have := HB1.out
    rw [List.length_append, List.length_cons]
    omega
theorem insert_any (A B : List Ent) (x : Ent) (i : Nat) (hi : A.length = i) (hs : (A ++ B).length < 4096) (base : Nat) (v : Value) (w : World) (ho : Own w base v (A ++ B)) (hbase : base ≤ w.heap.size) (vb : Nat) (hv : Blk w vb (eC x)) (hvg : ∀ g, v.ownBlock = some g → vb ≠ g) :
    Calls Tryz.prog 88 #[v, .int .i64 i, .slice (some ⟨vb, 0, none⟩) 1 1] w fun e w' => ∃ u, e = .returned u ∧ Own w' base u (A ++ x :: B) ∧ Keeps v.ownBlock.toList w w' := by
  by_cases hB : B = []
  · subst hB
    rw [List.append_nil] at ho hs
    rw [← hi]
    exact insert_end A x hs base v w ho hbase vb hv
  · have hm0 : 0 < B.length := List.length_pos_iff.2 hB
    rcases ho with ⟨rfl, h0⟩ | ⟨g, cap, rest, rfl, hb, hg, hc1, hc2, hc3⟩
    · exact absurd (List.append_eq_nil_iff.1 h0).2 hB
    · rw [List.length_append, hi] at hs hc1 ⊢
      by_cases hr : i + B.length + 1 ≤ cap
      · refine (insert_room A B x i B.length hi rfl hm0 hs g cap rest w hb hr hc2 hc3 vb hv (hvg g rfl)).mono ?_
        rintro e w' ⟨rfl, ⟨rest', h1, h2⟩, k⟩
        refine ⟨_, rfl, .inr ⟨g, cap, rest', ?_, h1, hg, ?_, hc2, h2⟩, k⟩
        · rw [List.length_append, List.length_cons, hi]
          congr 1
        · rw [List.length_append, List.length_cons, hi]; omega
      · refine (insert_grow A B x i B.length hi rfl hm0 hs g cap rest w hb hc1 (by omega) vb hv).mono ?_
        rintro e w' ⟨u, rfl, h1, k⟩
        refine ⟨u, rfl, ?_, k.mono (by simp)⟩
        rcases h1 with h1 | ⟨g', cap', rest', h1, h2, h3, h4⟩
        · exact .inl h1
        · exact .inr ⟨g', cap', rest', h1, h2, Nat.le_trans hbase h3, h4⟩
end Go.Proofs.YtbcgpjfejpcgnaaGreat
end
section
namespace Go.Proofs.YtbcgpjfejpcgnaaGreat
open Go.RowKit
theorem applyR_take_succ (l : List Ent) (b : List Wrt) (k : Nat) (x : Wrt) (h : b[k]? = some x) : applyR l (b.take (k + 1)) = stepR (applyR l (b.take k)) x := by
  rw [List.take_add_one, h]
  simp [applyR, List.foldl_append]
theorem parted {l : List Ent} (hl : Asc l) (k : Str) (h : at_ l k = true) : ∃ A e B, l = A ++ e :: B ∧ A.length = pos l k ∧ e.k = k ∧ (∀ x ∈ A, x.k < k) ∧ (∀ x ∈ B, k < x.k) := by
  have hlt : pos l k < l.length := by
    rcases Nat.lt_or_ge (pos l k) l.length with h1 | h1
    · exact h1
    · simp [at_, List.getElem?_eq_none h1] at h
  have he : l[pos l k]? = some l[pos l k] := List.getElem?_eq_getElem hlt
  have hek : l[pos l k].k = k := by
    unfold at_ at h
    rw [he] at h
    simpa using h
  refine ⟨l.take (pos l k), l[pos l k], l.drop (pos l k + 1), ?_, ?_, hek, ?_, ?_⟩
  · rw [List.getElem_cons_drop, List.take_append_drop]
  · rw [List.length_take]; omega
  · intro x hx
    obtain ⟨t, ht, rfl⟩ := List.mem_iff_getElem.1 hx
    rw [List.length_take] at ht
    rw [List.getElem_take]
    exact pos_lt (t := t) (by omega) (List.getElem?_eq_getElem (by omega))
  · intro x hx
    have hd : l.drop (pos l k) = l[pos l k] :: l.drop (pos l k + 1) := by rw [List.getElem_cons_drop]
    have := (hl.drop (i := pos l k))
    rw [hd] at this
    rw [← hek]
    exact (List.pairwise_cons.1 this).1 x hx
theorem parted' {l : List Ent} (hl : Asc l) (k : Str) (h : at_ l k = false) : ∃ A B, l = A ++ B ∧ A.length = pos l k ∧ (∀ x ∈ A, x.k < k) ∧ (∀ x ∈ B, k < x.k) := by
  have hle := pos_le l k
  refine ⟨l.take (pos l k), l.drop (pos l k), by rw [List.take_append_drop], by rw [List.length_take]; omega, ?_, ?_⟩
  · intro x hx
    obtain ⟨t, ht, rfl⟩ := List.mem_iff_getElem.1 hx
    rw [List.length_take] at ht
    rw [List.getElem_take]
    exact pos_lt (t := t) (by omega) (List.getElem?_eq_getElem (by omega))
  · intro x hx
    by_cases hlt : pos l k < l.length
    · have he : l[pos l k]? = some l[pos l k] := List.getElem?_eq_getElem hlt
      have hek : l[pos l k].k ≠ k := by
        unfold at_ at h
        rw [he] at h
        simpa using h
      have hgt : k < l[pos l k].k := slt_of (pos_ge hl (Nat.le_refl _) he) hek
      have hd : l.drop (pos l k) = l[pos l k] :: l.drop (pos l k + 1) := by rw [List.getElem_cons_drop]
      have hp := (hl.drop (i := pos l k))
      rw [hd] at hp hx
      rcases List.mem_cons.1 hx with rfl | hx
      · exact hgt
      · exact slt_trans hgt ((List.pairwise_cons.1 hp).1 x hx)
    · rw [List.drop_of_length_le (by omega)] at hx; simp at hx
theorem set_val (P R : List Ent) (k v v' : Str) (i : Nat) (hi : P.length = i) (rest : List Value) : (eCs (P ++ (⟨k, v⟩ : Ent) :: R) ++ rest).set (i * 2 + 1) (.string ⟨v'.toArray⟩) = eCs (P ++ (⟨k, v'⟩ : Ent) :: R) ++ rest := by
  have h : (eCs P).length = i * 2 := by rw [eCs_length, hi]
  rw [eCs_append, eCs_append, eCs_cons, eCs_cons, List.append_assoc, List.append_assoc, List.set_append_right _ _ (by omega), h, show i * 2 + 1 - i * 2 = 1 by omega]
  simp [eC]
theorem search_nil (k : Str) (w : World) :
    Calls Tryz.prog 84 #[.slice none 0 0, .string ⟨k.toArray⟩, .func (.func 85) #[] #[]] w fun x w' => x = .returned (.tuple #[.int .i64 0, .bool false]) ∧ Keeps [] w w' := by
  go_enter Tryz.func84, Tryz.ntmps84
  go_wp2_with fail
  go_loopw [9, 10] (fun i j wr => i = .int .i64 0 ∧ j = .int .i64 0 ∧ wr = w) (fun _ _ _ => 0)
  case atStart => exact ⟨rfl, rfl, rfl⟩
  case round =>
    obtain ⟨rfl, rfl, rfl⟩ := hrel
    go_wp2_with fail
    go_ret2
    exact ⟨rfl, Keeps.refl _ _⟩
theorem search_own (l : List Ent) (k : Str) (hl : Asc l) (hn : l.length ≤ 4096) (base : Nat) (v : Value) (w : World) (ho : Own w base v l) :
    Calls Tryz.prog 84 #[v, .string ⟨k.toArray⟩, .func (.func 85) #[] #[]] w fun x w' => x = .returned (.tuple #[.int .i64 (pos l k), .bool (at_ l k)]) ∧ Keeps [] w w' := by
  rcases ho with ⟨rfl, rfl⟩ | ⟨g, cap, rest, rfl, hb, _⟩
  · exact search_nil k w
  · exact search_any l k hl hn g cap rest w hb
set_option maxHeartbeats 2000000 in
set_option maxRecDepth 100000 in
theorem apply_any (l : List Ent) (b : List Wrt) (hl : Asc l) (hn : l.length + b.length ≤ 4000) (lv bv : Value) (w : World) (hlv : Lst w lv l.length (eCs l)) (hbv : Lst w bv b.length (wCs b)) :
    Calls Tryz.prog 76 #[lv, bv] w fun e w' => ∃ u, e = .returned u ∧ Own w' w.heap.size u (applyR l b) ∧ Keeps [] w w' := by
  obtain ⟨A, cap, bb, bo, rfl, hA, har⟩ := hbv
  obtain ⟨n, hnn⟩ : ∃ n, b.length = n := ⟨_, rfl⟩
  rw [hnn] at hA hn ⊢
  have Hn := Lib.hid hnn
  clear hnn
  go_enter Tryz.func76, Tryz.ntmps76
  go_wp2_with fail
  refine (clone_any l (by omega) lv w hlv).mono ?_
  rintro e w1 ⟨u1, rfl, ho1, k1⟩
  go_wp2_with fail
  go_loopw [5, 14] (fun v i wr => ∃ k : Nat, k ≤ n ∧ i = .int .i64 k ∧ Own wr w.heap.size v (applyR l (b.take k)) ∧ Keeps [] w wr) (fun _ i _ => n - (intOf i).toNat)
  case atStart => exact ⟨0, by omega, rfl, by rw [List.take_zero]; exact ho1, k1⟩
  case round =>
    obtain ⟨k, hk, rfl, ho, hkp⟩ := hrel
    by_cases hlt : k < n
    · obtain rfl := hA (by omega)
      obtain ⟨x, hx⟩ : ∃ x, b[k]? = some x := ⟨_, List.getElem?_eq_getElem (by rw [Hn.out]; exact hlt)⟩
      obtain ⟨c0, c1, c2, c3⟩ := (har.keeps hkp (by simp)).wrt hx
      have hst := applyR_take_succ l b k x hx
      have haL : Asc (applyR l (b.take k)) := asc_applyR _ hl
      have hlL := length_applyR l (b.take k)
      rw [List.length_take] at hlL
      obtain ⟨L, hL⟩ : ∃ L, applyR l (b.take k) = L := ⟨_, rfl⟩
      rw [hL] at hst haL hlL ho
      have hLn : L.length ≤ 4000 := by omega
      have Hst := Lib.hid hst
      clear hst hL hlL
      have hge := ho.ge
      have ho2 := ho.keeps ((Keeps.refl [] wr).alloc (.cells #[.string ⟨x.k.toArray⟩, .string ⟨x.v.toArray⟩, .bool x.d] 53)) (by simp)
      have hbx : Blk (wr.alloc (.cells #[.string ⟨x.k.toArray⟩, .string ⟨x.v.toArray⟩, .bool x.d] 53)) wr.heap.size (wC x) := Blk.new wr [.string ⟨x.k.toArray⟩, .string ⟨x.v.toArray⟩, .bool x.d] 53
      have kx := hkp.alloc (.cells #[.string ⟨x.k.toArray⟩, .string ⟨x.v.toArray⟩, .bool x.d] 53)
      have Hsz : wr.heap.size < (wr.alloc (.cells #[.string ⟨x.k.toArray⟩, .string ⟨x.v.toArray⟩, .bool x.d] 53)).heap.size := by simp
      go_wp2_with fail
      refine (search_own L x.k haL (by omega) w.heap.size u5 _ ho2).mono ?_
      rintro e w2 ⟨rfl, k2⟩
      have hb2 := k2.blk hbx (by simp)
      have ho3 := ho2.keeps k2 (by simp)
      have K2 := kx.trans k2 (by simp)
      clear k2 hbx ho2 kx c0 c1 c2 c3
      obtain ⟨d0, d1, d2, d3, d4⟩ := hb2.o3
      have hs2 := hkp.size
      obtain ⟨q, hq⟩ : ∃ q, wr.heap.size = q := ⟨_, rfl⟩
      rw [hq] at d0 d1 d2 d3 d4 hb2 hs2 hge ⊢
      clear hq
      by_cases hat : at_ L x.k = true
      · obtain ⟨P, e, R, rfl, hP, hek, hPl, hRl⟩ := parted haL x.k hat
        obtain ⟨ek, ev⟩ := e
        simp only at hek
        subst hek
        rw [hat, ← hP]
        have hlen : (P ++ (⟨x.k, ev⟩ : Ent) :: R).length = P.length + 1 + R.length := by rw [List.length_append, List.length_cons]; omega
        rcases ho3 with ⟨_, h0⟩ | ⟨g, gc, rest, rfl, hgb, hg1, hg2, hg3, hg4⟩
        · simp at h0
        · obtain ⟨-, hgq⟩ := hge g rfl
          rw [hlen] at hg2 hLn ⊢
          obtain ⟨i, hi⟩ : ∃ i, P.length = i := ⟨_, rfl⟩
          rw [hi] at hg2 hLn ⊢
          cases hd : x.d with
          | true =>
            rw [hd] at d2
            have hres : applyR l (b.take (k + 1)) = P ++ R := by rw [Hst.out, stepR, if_pos hd, dropR_split' x.k ev P R hPl hRl]
            have Hres := Lib.hid hres
            clear hres
            go_wp2_with fail
            refine (delete_any P R ⟨x.k, ev⟩ i R.length hi rfl (by omega) g gc rest _ hgb hg2 hg3 hg4).mono ?_
            rintro e w4 ⟨rfl, ⟨rest', hb4, hl4⟩, k4⟩
            go_wp2_with fail
            refine ⟨⟨k + 1, by omega, by go_num, ?_, K2.trans k4 (by simp; omega)⟩, by simp [intOf]; omega⟩
            rw [Hres.out]
            exact .inr ⟨g, gc, rest', by rw [List.length_append, hi], hb4, hg1, by rw [List.length_append, hi]; omega, hg3, hl4⟩
          | false =>
            rw [hd] at d2
            have hres : applyR l (b.take (k + 1)) = P ++ ⟨x.k, x.v⟩ :: R := by rw [Hst.out, stepR, if_neg (by simp [hd]), putR_split' ⟨x.k, x.v⟩ ev P R hPl hRl]
            have Hres := Lib.hid hres
            clear hres
            have hgl := hgb.lt
            have hgf := hgb.frozen
            have e0 : (eCs (P ++ (⟨x.k, ev⟩ : Ent) :: R) ++ rest)[i * 2 + 1]? = some (.string ⟨ev.toArray⟩) := (eCs_cells _ i ⟨x.k, ev⟩ (by rw [← hi]; simp) rest).2
            have hgc := (hgb.cell (i * 2 + 1)).trans e0
            go_wp2_with fail
            refine ⟨⟨k + 1, by omega, by go_num, ?_, K2.setCell _ _ (.inr hg1)⟩, by simp [intOf]; omega⟩
            rw [Hres.out]
            have hset := hgb.set (i * 2 + 1) (.string ⟨x.v.toArray⟩)
            have eset : (eCs (P ++ (⟨x.k, ev⟩ : Ent) :: R) ++ rest).set (i * 2 + 1) (.string ⟨x.v.toArray⟩) = eCs (P ++ (⟨x.k, x.v⟩ : Ent) :: R) ++ rest := set_val P R x.k ev x.v i hi rest
            rw [eset] at hset
            refine .inr ⟨g, gc, rest, by rw [List.length_append, List.length_cons, hi]; congr 1; omega, hset, hg1, by rw [List.length_append, List.length_cons, hi]; omega, hg3, ?_⟩
            rw [← eset, List.length_set]; exact hg4
      · have hat : at_ L x.k = false := by simpa using hat
        obtain ⟨P, R, rfl, hP, hPl, hRl⟩ := parted' haL x.k hat
        rw [hat, ← hP]
        cases hd : x.d with
        | true =>
          rw [hd] at d2
          have hres : applyR l (b.take (k + 1)) = P ++ R := by rw [Hst.out, stepR, if_pos hd, dropR_split x.k P R hPl hRl]
          go_wp2_with fail
          exact ⟨⟨k + 1, by omega, by go_num, by rw [hres]; exact ho3, K2⟩, by simp [intOf]; omega⟩
        | false =>
          rw [hd] at d2
          have hres : applyR l (b.take (k + 1)) = P ++ ⟨x.k, x.v⟩ :: R := by rw [Hst.out, stepR, if_neg (by simp [hd]), putR_split ⟨x.k, x.v⟩ P R hPl hRl]
          have Hres := Lib.hid hres
          have hsz := K2.size
          have hge3 := ho3.ge
          have ho4 := ho3.keeps ((Keeps.refl [] w2).alloc (.cells #[.string ⟨x.k.toArray⟩, .string ⟨x.v.toArray⟩] 104)) (by simp)
          have hb4 : Blk (w2.alloc (.cells #[.string ⟨x.k.toArray⟩, .string ⟨x.v.toArray⟩] 104)) w2.heap.size (eC ⟨x.k, x.v⟩) := Blk.new w2 [.string ⟨x.k.toArray⟩, .string ⟨x.v.toArray⟩] 104
          have k4 := K2.alloc (.cells #[.string ⟨x.k.toArray⟩, .string ⟨x.v.toArray⟩] 104)
          clear hres
          go_wp2_with fail
          refine (insert_any P R ⟨x.k, x.v⟩ _ hP (by omega) w.heap.size u5 _ ho4 (by simp; omega) w2.heap.size hb4 (fun g hg => by have := (hge3 g hg).2; omega)).mono ?_
          rintro e w5 ⟨u, rfl, ho5, k5⟩
          go_wp2_with fail
          refine ⟨⟨k + 1, by omega, by go_num, by rw [Hres.out]; exact ho5, k4.trans k5 (fun g hg => .inr (hge3 g (by simpa using hg)).1)⟩, by simp [intOf]; omega⟩
    · obtain rfl : k = n := by omega
      go_wp2_with fail
      go_ret
      rw [← Hn.out, List.take_length] at ho
      exact ⟨_, rfl, ho, hkp⟩
end Go.Proofs.YtbcgpjfejpcgnaaGreat
end
