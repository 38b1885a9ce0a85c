/- Lemmas on the way to LinearAcceptsSequential. No condition. -/
import Derived.Test.YtbcgpjfejpcgnaaGreatRAm
import Derived.Test.YtbcgpjfejpcgnaaGreatRAu
import Derived.Test.YtbcgpjfejpcgnaaGreatRBg
import Derived.Deep.RegionHeld3
import Derived.Deep.CutRange
set_option linter.unusedSimpArgs false
set_option linter.unusedVariables false
set_option linter.unusedSectionVars false
section
namespace Go.Proofs.YtbcgpjfejpcgnaaGreat
open Go.RowKit
set_option maxRecDepth 100000
set_option linter.unusedVariables false
set_option linter.unusedSimpArgs false
theorem Blk.set7 {w : World} {g : Nat} {a0 a1 a2 a3 a4 a5 a6 : Value} (h : Blk w g [a0, a1, a2, a3, a4, a5, a6]) (v0 v1 v2 v3 v4 v5 v6 : Value) :
    Blk (((((((w.setCell ⟨g, 0, none⟩ v0).setCell ⟨g, 1, none⟩ v1).setCell ⟨g, 2, none⟩ v2).setCell ⟨g, 3, none⟩ v3).setCell ⟨g, 4, none⟩ v4).setCell ⟨g, 5, none⟩ v5).setCell ⟨g, 6, none⟩ v6) g [v0, v1, v2, v3, v4, v5, v6] ∧ Keeps [g] w (((((((w.setCell ⟨g, 0, none⟩ v0).setCell ⟨g, 1, none⟩ v1).setCell ⟨g, 2, none⟩ v2).setCell ⟨g, 3, none⟩ v3).setCell ⟨g, 4, none⟩ v4).setCell ⟨g, 5, none⟩ v5).setCell ⟨g, 6, none⟩ v6) :=
  ⟨((((((h.set 0 v0).set 1 v1).set 2 v2).set 3 v3).set 4 v4).set 5 v5).set 6 v6, (((((((Keeps.refl [g] w).setCell _ _ (.inl (by simp))).setCell _ _ (.inl (by simp))).setCell _ _ (.inl (by simp))).setCell _ _ (.inl (by simp))).setCell _ _ (.inl (by simp))).setCell _ _ (.inl (by simp))).setCell _ _ (.inl (by simp))⟩
theorem spC_len (x : SpV) : (spC x).length = 10 := rfl
theorem spCs_len (l : List SpV) : (spCs l).length = l.length * 10 := flatK_len spC_len l
theorem spCs_cells (l : List SpV) (i : Nat) (p : SpV) (h : l[i]? = some p) (j : Nat) (hj : j < 10) : (spCs l)[i * 10 + j]? = (spC p)[j]? := by
  have := flatK_cells spC_len [] l i p h j hj
  rwa [List.append_nil] at this
theorem Lst.stepAt {w : World} {A : Option Addr} {n cap : Nat} {l : List SpV} (h : Lst w (.slice A n cap) n (spCs l)) (hn : l.length = n) {i : Nat} {x : SpV} (hx : l[i]? = some x) :
    ∃ g o, A = some ⟨g, o, none⟩ ∧ (∀ (j : Nat) (u : Value), (spC x)[j]? = some u → w.cell? ⟨g, o + i * 10 + j, none⟩ = some u) ∧ g < w.heap.size := by
  have hi := (List.getElem?_eq_some_iff.1 hx).1
  obtain ⟨A', cap', b, o, h1, hA, har⟩ := h
  injection h1 with e1 _ _
  obtain rfl := hA (by omega)
  refine ⟨b, o, e1, fun j u hj => ?_, har.lt (by rw [spCs_len]; omega)⟩
  have hj10 : j < 10 := by have := (List.getElem?_eq_some_iff.1 hj).1; rwa [spC_len] at this
  rw [Nat.add_assoc, har.cells _ (by rw [spCs_len]; omega), spCs_cells l i x hx j hj10, hj]
theorem rx0_cells (q : SqS) (k : Nat) (x : SpV) (a : An) : rC (rvX (rx0 q k x a)) = [.int .i64 ((k % 2 : Nat) : Int), .int .i64 ((ixS q k : Nat) : Int), .int .i64 ((n1S q x : Nat) : Int), .int .i64 ((n2S q x : Nat) : Int), .int .i64 ((n3S q x : Nat) : Int), .int .i64 (opS x).c, .string ⟨(opS x).k.toArray⟩, .int .u64 ((opS x).t : Int), .slice (opS x).bA (opS x).b.length (opS x).bc, .int .i64 (opS x).h, .int .i64 (opS x).u, .int .i64 (opS x).m, .int .i64 a.er, .int .u64 (a.tm : Int), .string ⟨a.k.toArray⟩, .string ⟨a.v.toArray⟩] := by
  obtain ⟨_, ⟨h2, _⟩, ⟨h3, _⟩, ⟨h4, _⟩, ⟨h5, _⟩, _⟩ := opS_ok x
  simp only [rx0, recS, rvX, rC, Int.toNat_of_nonneg h2, Int.toNat_of_nonneg h3, Int.toNat_of_nonneg h4, Int.toNat_of_nonneg h5]
theorem OkXN.ofX {x : RX} (h : OkX x) (ht : x.time ≤ 18446744073709551615) : OkXN (rvX x) := by
  obtain ⟨h1, h2, h3, h4, h5, h6⟩ := h
  refine ⟨⟨?_, ?_⟩, ⟨?_, ?_⟩, ⟨?_, ?_⟩, ⟨?_, ?_⟩, ⟨?_, ?_⟩, h6, ⟨?_, ?_⟩, ?_⟩ <;> simp only [rvX] <;> omega
theorem stS_now (q : SqS) (k : Nat) (x : SpV) (h : q.now ≤ 13 * k) : (stS q k x).now ≤ 13 * (k + 1) := by
  unfold stS
  split
  · omega
  · show n3S q x + 1 ≤ _
    unfold n3S n2S n1S
    have := Nat.mod_lt x.g (show 0 < 5 by omega)
    have := Nat.mod_lt x.a (show 0 < 5 by omega)
    have := Nat.mod_lt x.r (show 0 < 5 by omega)
    omega
theorem flat_set16 {l : List RV} {k : Nat} {p q : RV} (h : l[k]? = some p) (r : List Value) (e : ((((rC p).set 12 (.int .i64 q.er)).set 13 (.int .u64 q.at_)).set 14 (.string q.ak)).set 15 (.string q.av) = rC q) :
    ((((rCs l ++ r).set (k * 16 + 12) (.int .i64 q.er)).set (k * 16 + 13) (.int .u64 q.at_)).set (k * 16 + 14) (.string q.ak)).set (k * 16 + 15) (.string q.av) = rCs (l.set k q) ++ r := by
  obtain ⟨hk, hkp⟩ := List.getElem?_eq_some_iff.1 h
  have hs : l = l.take k ++ p :: l.drop (k + 1) := by
    rw [← hkp]
    exact (List.take_append_drop k l).symm.trans (by rw [List.drop_eq_getElem_cons hk])
  have hA : (l.take k).length = k := by rw [List.length_take]; omega
  have e1 : rCs l ++ r = rCs (l.take k) ++ (rC p ++ (rCs (l.drop (k + 1)) ++ r)) := by
    conv => lhs; rw [hs]
    rw [rCs_append]
    simp [rCs]
  have e2 : rCs (l.set k q) ++ r = rCs (l.take k) ++ (rC q ++ (rCs (l.drop (k + 1)) ++ r)) := by
    have e3 : l.set k q = l.take k ++ q :: l.drop (k + 1) := by
      conv => lhs; rw [hs]
      rw [List.set_append_right _ _ (by omega)]
      simp [hA]
    rw [e3, rCs_append]
    simp [rCs]
  have hl : (rCs (l.take k)).length = k * 16 := by rw [rCs_len, hA]
  rw [e1, e2, set_flat _ _ _ _ hl, set_flat _ _ _ _ hl, set_flat _ _ _ _ hl, set_flat _ _ _ _ hl, ← e]
  rfl
theorem Row.set16 {w : World} {g n cap : Nat} {l : List RV} (h : Row w (.slice (some ⟨g, 0, none⟩) n cap) n 16 (rCs l)) {k : Nat} {p : RV} (hp : l[k]? = some p) (q : RV) (e : ((((rC p).set 12 (.int .i64 q.er)).set 13 (.int .u64 q.at_)).set 14 (.string q.ak)).set 15 (.string q.av) = rC q) :
    Row ((((w.setCell ⟨g, k * 16 + 12, none⟩ (.int .i64 q.er)).setCell ⟨g, k * 16 + 13, none⟩ (.int .u64 q.at_)).setCell ⟨g, k * 16 + 14, none⟩ (.string q.ak)).setCell ⟨g, k * 16 + 15, none⟩ (.string q.av)) (.slice (some ⟨g, 0, none⟩) n cap) n 16 (rCs (l.set k q)) ∧ Keeps [g] w ((((w.setCell ⟨g, k * 16 + 12, none⟩ (.int .i64 q.er)).setCell ⟨g, k * 16 + 13, none⟩ (.int .u64 q.at_)).setCell ⟨g, k * 16 + 14, none⟩ (.string q.ak)).setCell ⟨g, k * 16 + 15, none⟩ (.string q.av)) := by
  obtain ⟨h1, ⟨h2, _⟩ | ⟨g', cap', rest, h2, hb, h3, h4, h5⟩⟩ := h
  · exact absurd h2 (by simp)
  · injection h2 with e1 _ e2
    injection e1 with e1
    injection e1 with e1 _ _
    subst e1
    subst e2
    have hb6 := (((hb.set (k * 16 + 12) (.int .i64 q.er)).set (k * 16 + 13) (.int .u64 q.at_)).set (k * 16 + 14) (.string q.ak)).set (k * 16 + 15) (.string q.av)
    rw [flat_set16 hp rest e] at hb6
    have hl : (rCs (l.set k q)).length = (rCs l).length := by rw [rCs_len, rCs_len, List.length_set]
    exact ⟨⟨by rw [hl]; exact h1, .inr ⟨g, cap, rest, rfl, hb6, h3, h4, by rw [List.length_append, hl, ← List.length_append]; exact h5⟩⟩, ((((Keeps.refl [g] w).setCell _ _ (.inl (by simp))).setCell _ _ (.inl (by simp))).setCell _ _ (.inl (by simp))).setCell _ _ (.inl (by simp))⟩
theorem Row.set13 {w : World} {g n cap : Nat} {l : List RV} (h : Row w (.slice (some ⟨g, 0, none⟩) n cap) n 16 (rCs l)) {k : Nat} {p : RV} (hp : l[k]? = some p) (q : RV) (v : Int) (e : (rC p).set 13 (.int .u64 v) = rC q) :
    Row (w.setCell ⟨g, k * 16 + 13, none⟩ (.int .u64 v)) (.slice (some ⟨g, 0, none⟩) n cap) n 16 (rCs (l.set k q)) := by
  obtain ⟨h1, ⟨h2, _⟩ | ⟨g', cap', rest, h2, hb, h3, h4, h5⟩⟩ := h
  · exact absurd h2 (by simp)
  · injection h2 with e1 _ e2
    injection e1 with e1
    injection e1 with e1 _ _
    subst e1
    subst e2
    have hb6 := hb.set (k * 16 + 13) (.int .u64 v)
    have hfl : (rCs l ++ rest).set (k * 16 + 13) (.int .u64 v) = rCs (l.set k q) ++ rest := by
      obtain ⟨hk, hkp⟩ := List.getElem?_eq_some_iff.1 hp
      have hs : l = l.take k ++ p :: l.drop (k + 1) := by
        rw [← hkp]
        exact (List.take_append_drop k l).symm.trans (by rw [List.drop_eq_getElem_cons hk])
      have hA : (l.take k).length = k := by rw [List.length_take]; omega
      have e1 : rCs l ++ rest = rCs (l.take k) ++ (rC p ++ (rCs (l.drop (k + 1)) ++ rest)) := by
        conv => lhs; rw [hs]
        rw [rCs_append]
        simp [rCs]
      have e2 : rCs (l.set k q) ++ rest = rCs (l.take k) ++ (rC q ++ (rCs (l.drop (k + 1)) ++ rest)) := by
        have e3 : l.set k q = l.take k ++ q :: l.drop (k + 1) := by
          conv => lhs; rw [hs]
          rw [List.set_append_right _ _ (by omega)]
          simp [hA]
        rw [e3, rCs_append]
        simp [rCs]
      have hl : (rCs (l.take k)).length = k * 16 := by rw [rCs_len, hA]
      rw [e1, e2, set_flat _ _ _ _ hl, ← e]
      rfl
    rw [hfl] at hb6
    have hl : (rCs (l.set k q)).length = (rCs l).length := by rw [rCs_len, rCs_len, List.length_set]
    exact ⟨by rw [hl]; exact h1, .inr ⟨g, cap, rest, rfl, hb6, h3, h4, by rw [List.length_append, hl, ← List.length_append]; exact h5⟩⟩
theorem opS_okb {w : World} {x : SpV} (h : O.OkB w x.o) : Lst w (.slice (opS x).bA (opS x).b.length (opS x).bc) (opS x).b.length (wCs (opS x).b) := by
  have h4 : Lst w (.slice x.o.bA (x.o.b.take 4).length x.o.bc) (x.o.b.take 4).length (wCs (x.o.b.take 4)) := by
    obtain ⟨A, cap, b, o, hv, hA, har⟩ := h
    injection hv with e1 _ e2
    subst e1
    subst e2
    refine ⟨_, _, b, o, rfl, fun h0 => hA (by rw [List.length_take] at h0; omega), ?_⟩
    refine ⟨fun i hi => ?_, fun h0 => har.lt ?_⟩
    · have hl := wCs_length x.o.b
      have hl4 := wCs_length (x.o.b.take 4)
      rw [hl4] at hi
      rw [List.length_take] at hi
      rw [har.cells i (by rw [hl]; omega)]
      have : wCs x.o.b = wCs (x.o.b.take 4) ++ wCs (x.o.b.drop 4) := by
        unfold wCs
        rw [← List.flatMap_append, List.take_append_drop]
      rw [this, List.getElem?_append_left (by rw [hl4, List.length_take]; omega)]
    · rw [wCs_length] at h0 ⊢
      rw [List.length_take] at h0
      omega
  have h0 : Lst w (.slice none ([] : List Wrt).length 0) ([] : List Wrt).length (wCs []) := ⟨_, _, 0, 0, rfl, fun h => absurd h (by simp), Arr.nil _⟩
  unfold opS O.normV O.onlyV
  simp only
  repeat' split
  all_goals first
    | exact h0
    | exact h4
set_option maxHeartbeats 8000000 in
theorem accepts_any (L : List SpV) (at_' : Int) (v : Value) (w : World) (hv : Lst w v L.length (spCs L)) (hL : L.length ≤ 9223372036854775807) (hN : ∀ x ∈ L, SpN w x) (ha : -9223372036854775808 ≤ at_' ∧ at_' ≤ 9223372036854775807) :
    Calls Tryz.prog 4 #[v, .int .i64 at_'] w fun e w' => e = .returned (.bool true) ∧ Keeps [] w w' := by
  have HV := Lib.hid hv
  obtain ⟨n, hn'⟩ : ∃ n, L.length = n := ⟨_, rfl⟩
  obtain ⟨A, cap, bv_, ov_, rfl, hA, _⟩ := hv
  rw [hn'] at HV hA hL ⊢
  have Hn := Lib.hid hn'
  clear hn'
  go_enter Tryz.func4, Tryz.ntmps4
  go_wp2_with fail
  refine (O.config_kit 2 0 (by omega) (by omega) w).mono ?_
  rintro e w1 ⟨rfl, k1⟩
  have h4 : (4 : Int) + 0 % 3 = 4 := by decide
  rw [h4]
  clear h4
  have K := (k1.alloc (.cells #[.int .i64 2, .int .i64 2, .int .i64 100, .int .i64 100, .int .i64 200, .int .i64 4, .int .u64 1000] 24)).alloc (.cells #[.int .i64 0, .int .i64 0] 43)
  have bC := (Blk.new w1 [.int .i64 2, .int .i64 2, .int .i64 100, .int .i64 100, .int .i64 200, .int .i64 4, .int .u64 1000] 24).alloc (.cells #[.int .i64 0, .int .i64 0] 43)
  have bI := Blk.new_at (w1.alloc (.cells #[.int .i64 2, .int .i64 2, .int .i64 100, .int .i64 100, .int .i64 200, .int .i64 4, .int .u64 1000] 24)) (w1.heap.size + 1) [.int .i64 0, .int .i64 0] 43 (by simp)
  go_upto_block 6 with fail
  obtain ⟨w2, hw2⟩ : ∃ w2, w2 = (w1.alloc (.cells #[.int .i64 2, .int .i64 2, .int .i64 100, .int .i64 100, .int .i64 200, .int .i64 4, .int .u64 1000] 24)).alloc (.cells #[.int .i64 0, .int .i64 0] 43) := ⟨_, rfl⟩
  obtain ⟨gC, hgC⟩ : ∃ gC, w1.heap.size = gC := ⟨_, rfl⟩
  have hs1 := k1.size
  rw [← hw2] at K bC bI ⊢
  rw [hgC] at bC bI hs1 ⊢
  have hCw : w.heap.size ≤ gC := by omega
  have H2 := Lib.hid (And.intro K (And.intro bC bI))
  clear K bC bI hw2 hgC hs1 k1
  go_loopw [6, 7, 9] (fun s6 s7 s9 wr => ∃ (k : Nat) (q : SqS) (A5 : Option Addr) (c5 : Nat), k ≤ n ∧ k ≤ 16 ∧ s6 = .slice A5 q.rs.length c5 ∧ s7 = .int .i64 (q.now : Int) ∧ s9 = .int .i64 (k : Int) ∧ SqI k q ∧ q.now ≤ 13 * k ∧ (q.i0 ≤ k ∧ q.i1 ≤ k) ∧ Row wr (.slice A5 q.rs.length c5) q.rs.length 16 (rCs (q.rs.map rvX)) ∧ (∀ g', (Value.slice A5 q.rs.length c5).ownBlock = some g' → w.heap.size ≤ g' ∧ g' ≠ gC ∧ g' ≠ (gC + 1)) ∧ Blk wr gC [.int .i64 2, .int .i64 2, .int .i64 100, .int .i64 100, .int .i64 200, .int .i64 4, .int .u64 1000] ∧ Blk wr (gC + 1) [.int .i64 (q.i0 : Int), .int .i64 (q.i1 : Int)] ∧ Keeps [] w wr ∧ Hid (∀ r ∈ q.rs, OkX' w r)) (fun _ _ s9 _ => n - (intOf s9).toNat)
  case atStart => exact ⟨0, ⟨[], s0, 0, 0, 0⟩, none, 0, by omega, by omega, rfl, rfl, rfl, SqI.zero, Nat.le_refl _, ⟨Nat.le_refl _, Nat.le_refl _⟩, Row.nil _ _, fun g' h => by simp [Value.ownBlock] at h, H2.out.2.1, H2.out.2.2, H2.out.1, Lib.hid (by simp)⟩
  case round =>
    obtain ⟨k, q, A5, c5, hkn, hk16, rfl, rfl, rfl, hI, hnow, hix, hrow, hown, bC, bI, K, HO⟩ := hrel
    clear H2
    by_cases hgo : k < n ∧ k < 16
    · obtain ⟨hlt, h16⟩ := hgo
      obtain ⟨x, hx⟩ : ∃ x, L[k]? = some x := ⟨_, List.getElem?_eq_getElem (by rw [Hn.out]; exact hlt)⟩
      obtain ⟨⟨hxO, hxN⟩, hxg, hxa, hxr⟩ := hN x (List.mem_of_getElem? hx)
      obtain ⟨g, o, hAo, hc, hg⟩ := (HV.out.keeps K).stepAt Hn.out hx
      have HAo := Lib.hid hAo
      clear hAo
      have hon := fun u (ku : Keeps [] wr u) => O.kon_any 2 2 100 100 200 4 1000 (by omega) x.o u (Lst.keeps hxO (K.trans ku (by simp))) hxN
      obtain ⟨y, hy⟩ : ∃ y, opS x = y := ⟨_, rfl⟩
      have hy' : O.onlyV (O.normV 2 x.o) = y := hy
      rw [hy'] at hon
      have Hy := Lib.hid hy
      obtain ⟨d0, d1, d2, d3, d4, d5, d6, df, dl⟩ := bC.o7
      have hc0 := hc 0 _ rfl
      have hc1 := hc 1 _ rfl
      have hc2 := hc 2 _ rfl
      have hc3 := hc 3 _ rfl
      have hc4 := hc 4 _ rfl
      have hc5 := hc 5 _ rfl
      have hc6 := hc 6 _ rfl
      have hc7 := hc 7 _ rfl
      have hc8 := hc 8 _ rfl
      have hc9 := hc 9 _ rfl
      rw [Nat.add_zero] at hc0
      have hS : ∀ w' : World, Keeps [] wr w' → (w'.cell? ⟨g, o + k * 10, none⟩ = some (.int .i64 x.o.c) ∧ w'.cell? ⟨g, o + k * 10 + 1, none⟩ = some (.string ⟨x.o.k.toArray⟩) ∧ w'.cell? ⟨g, o + k * 10 + 2, none⟩ = some (.int .u64 (x.o.t : Int)) ∧ w'.cell? ⟨g, o + k * 10 + 3, none⟩ = some (.slice x.o.bA x.o.b.length x.o.bc) ∧ w'.cell? ⟨g, o + k * 10 + 4, none⟩ = some (.int .i64 x.o.h) ∧ w'.cell? ⟨g, o + k * 10 + 5, none⟩ = some (.int .i64 x.o.u) ∧ w'.cell? ⟨g, o + k * 10 + 6, none⟩ = some (.int .i64 x.o.m) ∧ w'.cell? ⟨gC, 0, none⟩ = some (.int .i64 2) ∧ w'.cell? ⟨gC, 1, none⟩ = some (.int .i64 2) ∧ w'.cell? ⟨gC, 2, none⟩ = some (.int .i64 100) ∧ w'.cell? ⟨gC, 3, none⟩ = some (.int .i64 100) ∧ w'.cell? ⟨gC, 4, none⟩ = some (.int .i64 200) ∧ w'.cell? ⟨gC, 5, none⟩ = some (.int .i64 4) ∧ w'.cell? ⟨gC, 6, none⟩ = some (.int .u64 1000)) := fun w' k => ⟨k.cellEq hc0 (by simp), k.cellEq hc1 (by simp), k.cellEq hc2 (by simp), k.cellEq hc3 (by simp), k.cellEq hc4 (by simp), k.cellEq hc5 (by simp), k.cellEq hc6 (by simp), k.cellEq d0 (by simp), k.cellEq d1 (by simp), k.cellEq d2 (by simp), k.cellEq d3 (by simp), k.cellEq d4 (by simp), k.cellEq d5 (by simp), k.cellEq d6 (by simp)⟩
      have hkn' : (k : Int) < (n : Int) := by omega
      have hk16' : (k : Int) < 16 := by omega
      have HQ := Lib.hid (And.intro hI (And.intro hrow (And.intro hown (And.intro bC (And.intro bI K)))))
      have Hc := Lib.hid (And.intro hc7 (And.intro hc8 (And.intro hc9 hg)))
      have HxO := Lib.hid hxO
      clear hI hrow hown bC bI K hx hc hy hy' hxO hxN hc7 hc8 hc9
      go_upto_region 8 with fail
      go_cut [10] from 27 to 33 (fun s10 wx => ∃ g10 : Nat, s10 = .pointer (some ⟨g10, 0, none⟩) ∧ Blk wx g10 [.int .i64 y.c, .string ⟨y.k.toArray⟩, .int .u64 (y.t : Int), .slice y.bA y.b.length y.bc, .int .i64 y.h, .int .i64 y.u, .int .i64 y.m] ∧ wr.heap.size ≤ g10 ∧ Keeps [] wr wx)
      case first =>
        rw [HAo.out]
        go_region_held3 (fun w' => w'.cell? ⟨g, o + k * 10, none⟩ = some (.int .i64 x.o.c) ∧ w'.cell? ⟨g, o + k * 10 + 1, none⟩ = some (.string ⟨x.o.k.toArray⟩) ∧ w'.cell? ⟨g, o + k * 10 + 2, none⟩ = some (.int .u64 (x.o.t : Int)) ∧ w'.cell? ⟨g, o + k * 10 + 3, none⟩ = some (.slice x.o.bA x.o.b.length x.o.bc) ∧ w'.cell? ⟨g, o + k * 10 + 4, none⟩ = some (.int .i64 x.o.h) ∧ w'.cell? ⟨g, o + k * 10 + 5, none⟩ = some (.int .i64 x.o.u) ∧ w'.cell? ⟨g, o + k * 10 + 6, none⟩ = some (.int .i64 x.o.m) ∧ w'.cell? ⟨gC, 0, none⟩ = some (.int .i64 2) ∧ w'.cell? ⟨gC, 1, none⟩ = some (.int .i64 2) ∧ w'.cell? ⟨gC, 2, none⟩ = some (.int .i64 100) ∧ w'.cell? ⟨gC, 3, none⟩ = some (.int .i64 100) ∧ w'.cell? ⟨gC, 4, none⟩ = some (.int .i64 200) ∧ w'.cell? ⟨gC, 5, none⟩ = some (.int .i64 4) ∧ w'.cell? ⟨gC, 6, none⟩ = some (.int .u64 1000))
          (first
            | (with_reducible exact hS _ ((Keeps.refl [] wr).drew))
            | (with_reducible exact hS _ k5)
            | (with_reducible exact hS _ (((Keeps.refl [] wr).alloc _).drew))
            | (with_reducible exact hS _ (k5.alloc _))
            | (with_reducible exact hS _ (k5.trans bzS.2 (fun i hi => .inr (by simp at hi; subst hi; exact hz))))
            | fail)
          ((first
            | (go_at_call 10; refine (hon _ (by first | exact (Keeps.refl [] wr).drew | exact ((Keeps.refl [] wr).alloc _).drew)).mono ?_; rintro e w5 ⟨kr5, y5, hy5, rfl⟩; have hy5s := hy5.symm; subst hy5s; have k5 : Keeps [] wr w5 := Keeps.trans (by first | exact (Keeps.refl [] wr).drew | exact ((Keeps.refl [] wr).alloc _).drew) kr5 (by simp); (try (have bz5 := kr5.blk (Blk.drew (Blk.new wr [.int .i64 0, .string ⟨#[]⟩, .int .u64 0, .slice none 0 0, .int .i64 0, .int .i64 0, .int .i64 0] 29)) (by simp); have hz : wr.heap.size ≤ wr.heap.size := Nat.le_refl _; have bzS := bz5.set7 (.int .i64 y.c) (.string ⟨y.k.toArray⟩) (.int .u64 (y.t : Int)) (.slice y.bA y.b.length y.bc) (.int .i64 y.h) (.int .i64 y.u) (.int .i64 y.m); obtain ⟨bo0, bo1, bo2, bo3, bo4, bo5, bo6, bof, bol⟩ := bz5.o7)))
            | fail))
        all_goals
          go_wp2_with fail
          rw [← HAo.out]
          go_meet
          first
            | exact ⟨_, rfl, bzS.1, hz, k5.trans bzS.2 (fun i hi => .inr (by simp at hi; subst hi; exact hz))⟩
            | exact ⟨_, rfl, Blk.new w5 [.int .i64 y.c, .string ⟨y.k.toArray⟩, .int .u64 (y.t : Int), .slice y.bA y.b.length y.bc, .int .i64 y.h, .int .i64 y.u, .int .i64 y.m] 29, k5.size, k5.alloc _⟩
      case rest =>
      obtain ⟨g10, rfl, b10, hg10, kc⟩ := hcut
      obtain ⟨w3, hw3⟩ : ∃ w3, w3 = wc := ⟨_, rfl⟩
      rw [← hw3] at b10 kc ⊢
      clear hw3 hS hon d0 d1 d2 d3 d4 d5 d6 df dl hc0 hc1 hc2 hc3 hc4 hc5 hc6
      obtain ⟨hI, hrow, hown, bC, bI, K⟩ := HQ.out
      have hrow3 := hrow.keeps kc (by simp)
      have bC3 := kc.blk bC (by simp)
      have bI3 := kc.blk bI (by simp)
      have K3 := K.trans kc (by simp)
      have hc7 := kc.cellEq Hc.out.1 (by simp)
      have hc8 := kc.cellEq Hc.out.2.1 (by simp)
      have hc9 := kc.cellEq Hc.out.2.2.1 (by simp)
      have hg3 : g < w3.heap.size := Nat.lt_of_lt_of_le Hc.out.2.2.2 kc.size
      obtain ⟨y0, y1, y2, y3, y4, y5, y6, yf, yl⟩ := b10.o7
      have hstep := Lib.hid (hI.step (by omega) x)
      have hnow1 := Lib.hid (stS_now q k x hnow)
      by_cases h9 : y.c = 9
      · have e9 : (y.c == 9) = true := by rw [beq_iff_eq]; exact h9
        have hq : Hid (stS q k x = q) := Lib.hid (by unfold stS; rw [Hy.out, if_pos h9])
        have HZ := Lib.hid (And.intro hrow3 (And.intro bC3 (And.intro bI3 K3)))
        clear hI hrow hown bC bI K hrow3 bC3 bI3 K3 hc7 hc8 hc9 hg3 b10 kc h9
        go_wp2_with fail
        exact ⟨⟨k + 1, q, A5, c5, by omega, by omega, rfl, rfl, by go_num, by have := hstep.out; rw [hq.out] at this; exact this, by omega, by omega, HZ.out.1, HQ.out.2.2.1, HZ.out.2.1, HZ.out.2.2.1, HZ.out.2.2.2, HO⟩, by simp [intOf]; omega⟩
      · have e9 : (y.c == 9) = false := by rw [beq_eq_false_iff_ne]; exact h9
        obtain ⟨T, hT⟩ : ∃ T, k % 2 = T := ⟨_, rfl⟩
        have hTl : T < 2 := by omega
        have htm : (k : Int).tmod 2 = (T : Int) := by rw [Int.tmod_eq_emod_of_nonneg (by omega)]; omega
        obtain ⟨a1, ha1⟩ : ∃ a1, x.g % 5 = a1 := ⟨_, rfl⟩
        obtain ⟨a2, ha2⟩ : ∃ a2, x.a % 5 = a2 := ⟨_, rfl⟩
        obtain ⟨a3, ha3⟩ : ∃ a3, x.r % 5 = a3 := ⟨_, rfl⟩
        have hm1 : (x.g : Int).tmod 5 = (a1 : Int) := by rw [Int.tmod_eq_emod_of_nonneg (by omega)]; omega
        have hm2 : (x.a : Int).tmod 5 = (a2 : Int) := by rw [Int.tmod_eq_emod_of_nonneg (by omega)]; omega
        have hm3 : (x.r : Int).tmod 5 = (a3 : Int) := by rw [Int.tmod_eq_emod_of_nonneg (by omega)]; omega
        have hl1 : a1 < 5 := by omega
        have hl2 : a2 < 5 := by omega
        have hl3 : a3 < 5 := by omega
        obtain ⟨N0, hN0⟩ : ∃ N0, q.now = N0 := ⟨_, rfl⟩
        obtain ⟨N1, hN1⟩ : ∃ N1, N0 + a1 = N1 := ⟨_, rfl⟩
        obtain ⟨N2, hN2⟩ : ∃ N2, N1 + a2 = N2 := ⟨_, rfl⟩
        obtain ⟨N3, hN3⟩ : ∃ N3, N2 + a3 = N3 := ⟨_, rfl⟩
        have HN := Lib.hid (show n1S q x = N1 ∧ n2S q x = N2 ∧ n3S q x = N3 from by
          have e1 : n1S q x = N1 := by unfold n1S; rw [ha1, hN0, hN1]
          have e2 : n2S q x = N2 := by unfold n2S; rw [e1, ha2, hN2]
          exact ⟨e1, e2, by unfold n3S; rw [e2, ha3, hN3]⟩)
        have hs1 : IntKind.i64.wrap ((N0 : Int) + (a1 : Int)) = (N1 : Int) := by rw [IntWalk.i64_in _ ⟨by omega, by omega⟩]; omega
        have hs2 : IntKind.i64.wrap ((N1 : Int) + (a2 : Int)) = (N2 : Int) := by rw [IntWalk.i64_in _ ⟨by omega, by omega⟩]; omega
        have hs3 : IntKind.i64.wrap ((N2 : Int) + (a3 : Int)) = (N3 : Int) := by rw [IntWalk.i64_in _ ⟨by omega, by omega⟩]; omega
        have hs4 : IntKind.i64.wrap ((N3 : Int) + 1) = ((N3 + 1 : Nat) : Int) := by rw [IntWalk.i64_in _ ⟨by omega, by omega⟩]; omega
        rw [hN0]
        have Hlist := Lib.hid (And.intro hT (And.intro hN0 (And.intro h9 hTl)))
        have HZ := Lib.hid (And.intro hrow3 (And.intro bC3 (And.intro bI3 (And.intro K3 b10))))
        clear hI hrow hown bC bI K hrow3 bC3 K3 kc h9 hT ha1 ha2 ha3 hN0 hN1 hN2 hN3 b10
        have g7 : IntKind.u8.wrap (a1 : Int) = (a1 : Int) := by rw [IntKind.wrap_u8]; omega
        have g8 : IntKind.u8.wrap (a2 : Int) = (a2 : Int) := by rw [IntKind.wrap_u8]; omega
        have g9 : IntKind.u8.wrap (a3 : Int) = (a3 : Int) := by rw [IntKind.wrap_u8]; omega
        go_upto_region 11 with fail
        go_cut [7] from 39 to 48 (fun s7 wx => s7 = .int .i64 (N1 : Int) ∧ wx = w3)
        case first =>
          rw [HAo.out]
          go_wp2_with fail
          rw [← HAo.out]
          go_meet
          exact ⟨rfl, rfl⟩
        case rest =>
        obtain ⟨rfl, hwc⟩ := hcut
        have hwc' := hwc.symm
        subst hwc'
        clear hwc
        obtain ⟨IX, hIX⟩ : ∃ IX, ixS q k = IX := ⟨_, rfl⟩
        have hIXl : IX ≤ k := by rw [← hIX]; unfold ixS; split <;> omega
        have hci : w3.cell? ⟨gC + 1, T, none⟩ = some (.int .i64 (IX : Int)) := by
          rw [bI3.cell, ← hIX]
          unfold ixS
          rw [Hlist.out.1]
          rcases (show T = 0 ∨ T = 1 by have := Hlist.out.2.2.2; omega) with rfl | rfl
          · rfl
          · rfl
        have HIX := Lib.hid hIX
        have bil := bI3.lt
        have hT0 : (0 : Int) ≤ (T : Int) := by omega
        have hT2 : (T : Int) < 2 := by have := Hlist.out.2.2.2; omega
        clear hIX bI3
        go_upto_region 12 with fail
        go_cut [12] from 48 to 55 (fun s12 wx => ∃ g12 : Nat, s12 = .pointer (some ⟨g12, 0, none⟩) ∧ Blk wx g12 [.int .i64 (T : Int), .int .i64 (IX : Int), .int .i64 (N1 : Int), .int .i64 0, .int .i64 0, .int .i64 y.c, .string ⟨y.k.toArray⟩, .int .u64 (y.t : Int), .slice y.bA y.b.length y.bc, .int .i64 y.h, .int .i64 y.u, .int .i64 y.m, .int .i64 0, .int .u64 0, .string ⟨#[]⟩, .string ⟨#[]⟩] ∧ w3.heap.size ≤ g12 ∧ Keeps [] w3 wx)
        case first =>
          go_region
          all_goals
            go_wp2_with fail
            go_meet
            first
              | exact ⟨_, rfl, Blk.new_at w3.drew w3.heap.size [.int .i64 (T : Int), .int .i64 (IX : Int), .int .i64 (N1 : Int), .int .i64 0, .int .i64 0, .int .i64 y.c, .string ⟨y.k.toArray⟩, .int .u64 (y.t : Int), .slice y.bA y.b.length y.bc, .int .i64 y.h, .int .i64 y.u, .int .i64 y.m, .int .i64 0, .int .u64 0, .string ⟨#[]⟩, .string ⟨#[]⟩] 34 (by simp), Nat.le_refl _, ((Keeps.refl [] w3).drew).alloc _⟩
              | exact ⟨_, rfl, (Blk.new w3 [.int .i64 (T : Int), .int .i64 (IX : Int), .int .i64 (N1 : Int), .int .i64 0, .int .i64 0, .int .i64 y.c, .string ⟨y.k.toArray⟩, .int .u64 (y.t : Int), .slice y.bA y.b.length y.bc, .int .i64 y.h, .int .i64 y.u, .int .i64 y.m, .int .i64 0, .int .u64 0, .string ⟨#[]⟩, .string ⟨#[]⟩] 34).drew, Nat.le_refl _, ((Keeps.refl [] w3).alloc _).drew⟩
        case rest =>
        obtain ⟨g12, rfl, b12, hg12, kc4⟩ := hcut
        obtain ⟨w4, hw4⟩ : ∃ w4, w4 = wc := ⟨_, rfl⟩
        rw [← hw4] at b12 kc4 ⊢
        have hc84 := kc4.cellEq hc8 (by simp)
        have hc94 := kc4.cellEq hc9 (by simp)
        have hg4 : g < w4.heap.size := Nat.lt_of_lt_of_le hg3 kc4.size
        have hgn : g ≠ g12 := by omega
        clear hw4 hci hc7 hc8 hc9 y0 y1 y2 y3 y4 y5 y6 yf yl hm1 hs1 g7
        go_upto_region 13 with fail
        go_cut [7] from 55 to 64 (fun s7 wx => s7 = .int .i64 (N2 : Int) ∧ wx = w4)
        case first =>
          rw [HAo.out]
          go_wp2_with fail
          rw [← HAo.out]
          go_meet
          exact ⟨rfl, rfl⟩
        case rest =>
        obtain ⟨rfl, hwc⟩ := hcut
        have hwc' := hwc.symm
        subst hwc'
        clear hwc
        have k45 : Keeps [g12] w4 (w4.setCell ⟨g12, 3, none⟩ (.int .i64 (N2 : Int))) := (Keeps.refl _ w4).setCell _ _ (.inl (by simp))
        have b125 : Blk (w4.setCell ⟨g12, 3, none⟩ (.int .i64 (N2 : Int))) g12 [.int .i64 (T : Int), .int .i64 (IX : Int), .int .i64 (N1 : Int), .int .i64 (N2 : Int), .int .i64 0, .int .i64 y.c, .string ⟨y.k.toArray⟩, .int .u64 (y.t : Int), .slice y.bA y.b.length y.bc, .int .i64 y.h, .int .i64 y.u, .int .i64 y.m, .int .i64 0, .int .u64 0, .string ⟨#[]⟩, .string ⟨#[]⟩] := b12.set 3 _
        have hc95 := k45.cellEq hc94 (by simpa using hgn)
        have x3 : w4.cell? ⟨g12, 3, none⟩ = some (.int .i64 0) := b12.cell 3
        have xf := b12.frozen
        have xl := b12.lt
        clear hm2 hs2 g8 hc84
        go_upto_region 15 with fail
        obtain ⟨w5, hw5⟩ : ∃ w5, w5 = w4.setCell ⟨g12, 3, none⟩ (.int .i64 (N2 : Int)) := ⟨_, rfl⟩
        rw [← hw5] at k45 b125 hc95 ⊢
        have hg5 : g < w5.heap.size := Nat.lt_of_lt_of_le hg4 k45.size
        clear hw5 x3 xf xl hc94
        go_cut [7] from 66 to 75 (fun s7 wx => s7 = .int .i64 (N3 : Int) ∧ wx = w5)
        case first =>
          rw [HAo.out]
          go_wp2_with fail
          rw [← HAo.out]
          go_meet
          exact ⟨rfl, rfl⟩
        case rest =>
        obtain ⟨rfl, hwc⟩ := hcut
        have hwc' := hwc.symm
        subst hwc'
        clear hwc
        have k56 : Keeps [g12] w5 (w5.setCell ⟨g12, 4, none⟩ (.int .i64 (N3 : Int))) := (Keeps.refl _ w5).setCell _ _ (.inl (by simp))
        have b126 : Blk (w5.setCell ⟨g12, 4, none⟩ (.int .i64 (N3 : Int))) g12 [.int .i64 (T : Int), .int .i64 (IX : Int), .int .i64 (N1 : Int), .int .i64 (N2 : Int), .int .i64 (N3 : Int), .int .i64 y.c, .string ⟨y.k.toArray⟩, .int .u64 (y.t : Int), .slice y.bA y.b.length y.bc, .int .i64 y.h, .int .i64 y.u, .int .i64 y.m, .int .i64 0, .int .u64 0, .string ⟨#[]⟩, .string ⟨#[]⟩] := b125.set 4 _
        have x4 : w5.cell? ⟨g12, 4, none⟩ = some (.int .i64 0) := b125.cell 4
        have xf := b125.frozen
        have xl := b125.lt
        have gIn : gC + 1 ≠ g12 := by have := HZ.out.2.2.1.lt; omega
        have bI5 := k45.blk (kc4.blk HZ.out.2.2.1 (by simp)) (by simpa using gIn)
        have bI6 := k56.blk bI5 (by simpa using gIn)
        have xi : w5.cell? ⟨gC + 1, T, none⟩ = some (.int .i64 (IX : Int)) := by
          rw [bI5.cell, ← HIX.out]
          unfold ixS
          rw [Hlist.out.1]
          rcases (show T = 0 ∨ T = 1 by have := Hlist.out.2.2.2; omega) with rfl | rfl
          · rfl
          · rfl
        have xif := bI5.frozen
        have xil := bI5.lt
        have hwi : IntKind.i64.wrap ((IX : Int) + 1) = ((IX + 1 : Nat) : Int) := by rw [IntWalk.i64_in _ ⟨by omega, by omega⟩]; omega
        obtain ⟨J1, hJ1⟩ : ∃ J1, IX + 1 = J1 := ⟨_, rfl⟩
        rw [hJ1] at hwi
        have HJ := Lib.hid hJ1
        have gIn' : g12 ≠ gC + 1 := fun e => gIn e.symm
        clear hm3 hs3 g9 hc95 bI5 hJ1
        go_upto_region 19 with fail
        obtain ⟨w7, hw7⟩ : ∃ w7, w7 = (w5.setCell ⟨g12, 4, none⟩ (.int .i64 (N3 : Int))).setCell ⟨gC + 1, T, none⟩ (.int .i64 (J1 : Int)) := ⟨_, rfl⟩
        have k67 : Keeps [gC + 1] (w5.setCell ⟨g12, 4, none⟩ (.int .i64 (N3 : Int))) w7 := by rw [hw7]; exact (Keeps.refl _ _).setCell _ _ (.inl (by simp))
        have bI7 : Blk w7 (gC + 1) [.int .i64 ((stS q k x).i0 : Int), .int .i64 ((stS q k x).i1 : Int)] := by
          have e9' : ¬ (opS x).c = 9 := by rw [Hy.out]; exact Hlist.out.2.2.1
          have := bI6.set T (.int .i64 (J1 : Int))
          rw [← hw7] at this
          have hi0 : (stS q k x).i0 = if k % 2 = 0 then q.i0 + 1 else q.i0 := by unfold stS; rw [if_neg e9']
          have hi1 : (stS q k x).i1 = if k % 2 = 0 then q.i1 else q.i1 + 1 := by unfold stS; rw [if_neg e9']
          rw [hi0, hi1]
          have hix := HIX.out
          have hjx := HJ.out
          unfold ixS at hix
          rcases (show T = 0 ∨ T = 1 by have := Hlist.out.2.2.2; omega) with hT | hT
          · have hk2 : k % 2 = 0 := by rw [Hlist.out.1, hT]
            rw [if_pos hk2] at hix
            rw [if_pos hk2, if_pos hk2]
            subst hT
            rw [hix, hjx]
            exact this
          · have hk2 : ¬ k % 2 = 0 := by rw [Hlist.out.1, hT]; omega
            rw [if_neg hk2] at hix
            rw [if_neg hk2, if_neg hk2]
            subst hT
            rw [hix, hjx]
            exact this
        have k37 : Keeps [g12, gC + 1] w3 w7 := (((kc4.mono (S' := [g12, gC + 1]) (by simp)).trans (k45.mono (S' := [g12, gC + 1]) (by simp)) (fun i hi => .inl hi)).trans (k56.mono (S' := [g12, gC + 1]) (by simp)) (fun i hi => .inl hi)).trans (k67.mono (S' := [g12, gC + 1]) (by simp)) (fun i hi => .inl hi)
        have b127 : Blk w7 g12 [.int .i64 (T : Int), .int .i64 (IX : Int), .int .i64 (N1 : Int), .int .i64 (N2 : Int), .int .i64 (N3 : Int), .int .i64 y.c, .string ⟨y.k.toArray⟩, .int .u64 (y.t : Int), .slice y.bA y.b.length y.bc, .int .i64 y.h, .int .i64 y.u, .int .i64 y.m, .int .i64 0, .int .u64 0, .string ⟨#[]⟩, .string ⟨#[]⟩] := k67.blk b126 (by simpa using gIn')
        have hgw : w.heap.size ≤ g12 := by have := HZ.out.2.2.2.1.size; omega
        have K7 : Keeps [] w w7 := HZ.out.2.2.2.1.trans k37 (fun i hi => .inr (by simp at hi; rcases hi with rfl | rfl <;> omega))
        have bC7 : Blk w7 gC [.int .i64 2, .int .i64 2, .int .i64 100, .int .i64 100, .int .i64 200, .int .i64 4, .int .u64 1000] := k37.blk HZ.out.2.1 (by have := HZ.out.2.1.lt; simp; omega)
        have hrow7 : Row w7 (.slice A5 q.rs.length c5) q.rs.length 16 (rCs (q.rs.map rvX)) := HZ.out.1.keeps k37 (fun g' hg' => by
          have h1 := HQ.out.2.2.1 g' hg'
          have h2 := HZ.out.1.blk g' hg'
          simp
          omega)
        rw [← hw7]
        obtain ⟨i9, hi9, hz9, hz91, hz92⟩ := info_parts infoR
        have hl16 : q.rs.length ≤ 16 := by have := HQ.out.1.len; omega
        have hrc : rC (rvX (rx0 q k x a0)) = [.int .i64 (T : Int), .int .i64 (IX : Int), .int .i64 (N1 : Int), .int .i64 (N2 : Int), .int .i64 (N3 : Int), .int .i64 y.c, .string ⟨y.k.toArray⟩, .int .u64 (y.t : Int), .slice y.bA y.b.length y.bc, .int .i64 y.h, .int .i64 y.u, .int .i64 y.m, .int .i64 0, .int .u64 0, .string ⟨#[]⟩, .string ⟨#[]⟩] := by rw [rx0_cells, HIX.out, HN.out.1, HN.out.2.1, HN.out.2.2, Hy.out, Hlist.out.1]; rfl
        have kA := (Keeps.refl [] w7).alloc (.cells #[.int .i64 (T : Int), .int .i64 (IX : Int), .int .i64 (N1 : Int), .int .i64 (N2 : Int), .int .i64 (N3 : Int), .int .i64 y.c, .string ⟨y.k.toArray⟩, .int .u64 (y.t : Int), .slice y.bA y.b.length y.bc, .int .i64 y.h, .int .i64 y.u, .int .i64 y.m, .int .i64 0, .int .u64 0, .string ⟨#[]⟩, .string ⟨#[]⟩] 34)
        have bN := Blk.new w7 [.int .i64 (T : Int), .int .i64 (IX : Int), .int .i64 (N1 : Int), .int .i64 (N2 : Int), .int .i64 (N3 : Int), .int .i64 y.c, .string ⟨y.k.toArray⟩, .int .u64 (y.t : Int), .slice y.bA y.b.length y.bc, .int .i64 y.h, .int .i64 y.u, .int .i64 y.m, .int .i64 0, .int .u64 0, .string ⟨#[]⟩, .string ⟨#[]⟩] 34
        obtain ⟨v9, w9, hr9, r9, k9, f9⟩ := row_append (hrow7.keeps kA (by simp)) 25 25 34 i9 _ 168 Tryz.underlying25 hi9 hz9 hz91 hz92 rfl (by decide) ⟨w7.heap.size, 0, none⟩ 1 1 (rC (rvX (rx0 q k x a0))) rfl
          (fun j u hj => by rw [Addr.add_lit, Nat.zero_add]; rw [hrc] at hj; exact (bN.cell j).trans hj) (rC_one _) (by omega) (by decide)
        obtain ⟨A9, c9, rfl⟩ := r9.len
        have r9' : Row w9 (.slice A9 (q.rs.length + 1) c9) (q.rs.length + 1) 16 (rCs ((q.rs ++ [rx0 q k x a0]).map rvX)) := by
          rw [List.map_append, rCs_append, List.map_singleton, rCs_one]
          exact r9
        have hown9 : ∀ g', (Value.slice A9 (q.rs.length + 1) c9).ownBlock = some g' → w.heap.size ≤ g' ∧ g' ≠ gC ∧ g' ≠ gC + 1 := fun g' hg' => by
          have s7 := K7.size
          have l1 := bC7.lt
          have l2 := bI7.lt
          have sA := kA.size
          rcases f9 g' hg' with h | h
          · exact HQ.out.2.2.1 g' h
          · exact ⟨by omega, by omega, by omega⟩
        have k79 : Keeps (Value.slice A5 q.rs.length c5).ownBlock.toList w7 w9 := (kA.mono (by simp)).trans k9 (fun i hi => .inl hi)
        have bC9 := k79.blk bC7 (fun hm => (HQ.out.2.2.1 gC (by simpa using hm)).2.1 rfl)
        have bI9 := k79.blk bI7 (fun hm => (HQ.out.2.2.1 (gC + 1) (by simpa using hm)).2.2 rfl)
        have K9 : Keeps [] w w9 := K7.trans k79 (fun i hi => .inr (HQ.out.2.2.1 i (by simpa using hi)).1)
        obtain ⟨z0, z1, z2, z3, z4, z5, z6, z7, z8, z9, z10, z11, z12, z13, z14, z15, zf, zl⟩ := Blk.o16 b127
        have hbt : ∀ r ∈ q.rs ++ [rx0 q k x a0], OkX' w r := fun r hr => by
          rcases List.mem_append.1 hr with hr | hr
          · exact HO.out r hr
          · simp at hr
            subst hr
            show Lst w (.slice (opS x).bA (opS x).b.length (opS x).bc) (opS x).b.length (wCs (opS x).b)
            exact opS_okb HxO.out
        have h9' : (opS x).c ≠ 9 := by rw [Hy.out]; exact Hlist.out.2.2.1
        have hrok : ∀ r ∈ q.rs ++ [rx0 q k x a0], RecOk r := fun r hr => by
          rcases List.mem_append.1 hr with hr | hr
          · exact HQ.out.1.ok r hr
          · simp at hr
            subst hr
            exact rx0_ok q k x a0 h9' (fun _ => ⟨by decide, by decide⟩) (by decide)
        have hans := xanswer_any ((q.rs ++ [rx0 q k x a0]).map rvX) (by simp; omega) (.slice A9 (q.rs.length + 1) c9) w9 (by rw [List.length_map, List.length_append]; exact r9'.lst) (fun z hz => by
          obtain ⟨r, hr, rfl⟩ := List.mem_map.1 hz
          obtain ⟨o1, o2, o3, o4, _⟩ := hrok r hr
          exact ⟨OkXN.ofX o2 (by omega), Lst.keeps (hbt r hr) K9, by show r.b.length ≤ 1000; omega⟩)
        rw [map_rxO, answW_snoc HQ.out.1.exp, perf_ok (hrok _ (by simp)).2.2.2.2.1 (hrok _ (by simp)).2.2.2.2.2.1] at hans
        obtain ⟨an, han⟩ : ∃ an, (perfW q.s (rx0 q k x a0)).1 = an := ⟨_, rfl⟩
        rw [han] at hans
        have Han := Lib.hid (show anS q k x = an from han)
        have H9 := Lib.hid (And.intro r9' (And.intro hown9 (And.intro bC9 (And.intro bI9 (And.intro K9 hbt)))))
        obtain ⟨ln, hln⟩ : ∃ ln, q.rs.length = ln := ⟨_, rfl⟩
        rw [hln] at hr9 hans H9 hl16
        rw [hln]
        have Hln := Lib.hid hln
        clear r9 r9' hown9 bC9 bI9 K9 hbt hrok k9 k79 f9 kA bN hi9 hz9 hz91 hz92 hrc hrow7 bC7 K7 b127 k37 bI7 k67 hw7 hln h9' han b12 kc4 k45 b125 k56 b126 bI6 x4 xf xl xi xif xil hgw hwi
        obtain ⟨hlen9, hdis9⟩ := H9.out.1
        obtain ⟨_, h0⟩ | ⟨g9, cap9, rest9, h9s, hb9, hc91, hc92, hc93⟩ := hdis9
        · omega
        injection h9s with e91 _ e92
        subst e91
        subst e92
        have hrs : (stS q k x).rs = q.rs ++ [rx0 q k x an] := by unfold stS; rw [if_neg (by rw [Hy.out]; exact Hlist.out.2.2.1), Han.out]
        have hnw : (stS q k x).now = N3 + 1 := by unfold stS; rw [if_neg (by rw [Hy.out]; exact Hlist.out.2.2.1)]; show n3S q x + 1 = _; rw [HN.out.2.2]
        have hi01 : (stS q k x).i0 ≤ k + 1 ∧ (stS q k x).i1 ≤ k + 1 := by
          unfold stS
          rw [if_neg (by rw [Hy.out]; exact Hlist.out.2.2.1)]
          constructor
          · show (if k % 2 = 0 then q.i0 + 1 else q.i0) ≤ k + 1
            split <;> omega
          · show (if k % 2 = 0 then q.i1 else q.i1 + 1) ≤ k + 1
            split <;> omega
        have Hst := Lib.hid (And.intro hrs (And.intro hnw hi01))
        have hwl : IntKind.i64.wrap (((ln + 1 : Nat) : Int) - 1) = (ln : Int) := by rw [IntWalk.i64_in _ ⟨by omega, by omega⟩]; omega
        have hll : (ln : Int) < ((ln + 1 : Nat) : Int) := by omega
        have hll2 : (ln : Int) < (ln : Int) + 1 := by omega
        clear hlen9 hb9 hc91 hc92 hc93 hrs hnw hi01
        go_wp2_with (at_builtin; refine list_append_eq rfl _ _ 25 25 rfl _ _ rfl rfl hr9 ?_)
        clear hr9 z0 z1 z2 z3 z4 z5 z6 z7 z8 z9 z10 z11 z12 z13 z14 z15 zf zl
        go_wp2_with fail
        refine hans.mono ?_
        rintro e wA ⟨rfl, kA⟩
        obtain ⟨r9, hown9, bC9, bI9, K9, hbt⟩ := H9.out
        have kB := kA.alloc (.cells #[.int .i64 an.er, .int .u64 (an.tm : Int), .string ⟨an.k.toArray⟩, .string ⟨an.v.toArray⟩] 32)
        have bB := Blk.new wA [.int .i64 an.er, .int .u64 (an.tm : Int), .string ⟨an.k.toArray⟩, .string ⟨an.v.toArray⟩] 32
        obtain ⟨wB, hwB⟩ : ∃ wB, wB = wA.alloc (.cells #[.int .i64 an.er, .int .u64 (an.tm : Int), .string ⟨an.k.toArray⟩, .string ⟨an.v.toArray⟩] 32) := ⟨_, rfl⟩
        have bB' : Blk wB wA.heap.size [.int .i64 an.er, .int .u64 (an.tm : Int), .string ⟨an.k.toArray⟩, .string ⟨an.v.toArray⟩] := by rw [hwB]; exact bB
        rw [← hwB] at kB
        have HwB := Lib.hid hwB
        have rB := r9.keeps kB (by simp)
        have bCB := kB.blk bC9 (by simp)
        have bIB := kB.blk bI9 (by simp)
        have KB := K9.trans kB (by simp)
        have hgot : ((q.rs ++ [rx0 q k x a0]).map rvX)[ln]? = some (rvX (rx0 q k x a0)) := by
          rw [List.map_append, List.getElem?_append_right (by rw [List.length_map, Hln.out]; exact Nat.le_refl _), List.length_map, Hln.out, Nat.sub_self]
          rfl
        obtain ⟨rS, kS⟩ := Row.set16 rB hgot (rvX (rx0 q k x an)) rfl
        have hset : ((q.rs ++ [rx0 q k x a0]).map rvX).set ln (rvX (rx0 q k x an)) = ((stS q k x).rs).map rvX := by
          rw [Hst.out.1, List.map_append, List.map_append, List.set_append_right _ _ (by rw [List.length_map, Hln.out]; exact Nat.le_refl _), List.length_map, Hln.out, Nat.sub_self]
          rfl
        rw [hset] at rS
        have hgo9 := hown9 g9 rfl
        obtain ⟨_, _ | ⟨g9', cap9', rest9', h9s', hb9, _, _, _⟩⟩ := id rB
        · rename_i hh
          exact absurd hh.1 (by simp)
        have hg9e : g9' = g9 := by
          injection h9s' with e1 _ _
          injection e1 with e1
          injection e1 with e1
          exact e1.symm
        rw [hg9e] at hb9
        have f12 : wB.cell? ⟨g9, ln * 16 + 12, none⟩ = some (.int .i64 0) := by rw [hb9.cell]; exact rCs_cells _ _ ln _ hgot 12 (by omega)
        have f13 : wB.cell? ⟨g9, ln * 16 + 13, none⟩ = some (.int .u64 0) := by rw [hb9.cell]; exact rCs_cells _ _ ln _ hgot 13 (by omega)
        have f14 : wB.cell? ⟨g9, ln * 16 + 14, none⟩ = some (.string ⟨#[]⟩) := by rw [hb9.cell]; exact rCs_cells _ _ ln _ hgot 14 (by omega)
        have f15 : wB.cell? ⟨g9, ln * 16 + 15, none⟩ = some (.string ⟨#[]⟩) := by rw [hb9.cell]; exact rCs_cells _ _ ln _ hgot 15 (by omega)
        have ff := hb9.frozen
        have fl := hb9.lt
        obtain ⟨o0, o1, o2, o3, oof, ool⟩ := bB'.o4
        have HF := Lib.hid (And.intro rS (And.intro (kS.blk bCB (by simp; exact fun e => hgo9.2.1 e.symm)) (And.intro (kS.blk bIB (by simp; exact fun e => hgo9.2.2 e.symm)) (And.intro (KB.trans kS (fun i hi => .inr (by simp at hi; subst hi; exact hgo9.1))) (And.intro hown9 (show ∀ r ∈ (stS q k x).rs, OkX' w r from fun r hr => by
          rw [Hst.out.1] at hr
          rcases List.mem_append.1 hr with hr | hr
          · exact hbt r (List.mem_append_left _ hr)
          · simp at hr
            subst hr
            exact hbt (rx0 q k x a0) (by simp)))))))
        clear r9 hown9 bC9 bI9 K9 hbt kA kB bB hwB bB' rB bCB bIB KB hgot rS kS hset hgo9 hb9 h9s' hg9e hans
        go_upto_region 23 with fail
        rw [← HwB.out]
        have HLs := Lib.hid (show (stS q k x).rs.length = ln + 1 from by rw [Hst.out.1, List.length_append, Hln.out]; rfl)
        clear HwB
        go_wp2_with fail
        exact ⟨⟨k + 1, stS q k x, some ⟨g9, 0, none⟩, c9, by omega, by omega, by rw [HLs.out], by rw [Hst.out.2.1]; go_num, by go_num, hstep.out, hnow1.out, ⟨Hst.out.2.2.1, Hst.out.2.2.2⟩, by rw [HLs.out]; exact HF.out.1, by rw [HLs.out]; exact HF.out.2.2.2.2.1, HF.out.2.1, HF.out.2.2.1, HF.out.2.2.2.1, Lib.hid HF.out.2.2.2.2.2⟩, by simp [intOf]; omega⟩
    · have hl16 : q.rs.length ≤ 16 := by have := hI.len; omega
      have hgox : Hid (¬ (k < n ∧ k < 16)) := Lib.hid hgo
      obtain ⟨ln, hln⟩ : ∃ ln, q.rs.length = ln := ⟨_, rfl⟩
      have hrok := hI.ok
      have hNx : ∀ z ∈ q.rs.map rvX, NatX z := fun z hz => by
        obtain ⟨r, hr, rfl⟩ := List.mem_map.1 hz
        have := (hrok r hr).2.2.1
        refine ⟨⟨?_, ?_⟩, ?_⟩ <;> simp only [rvX] <;> omega
      have hRg : ∀ z ∈ q.rs.map rvX, RngA z.n := fun z hz => by
        obtain ⟨r, hr, rfl⟩ := List.mem_map.1 hz
        have h1 := hI.th r hr
        have h2 := hI.bnd r hr
        obtain ⟨j, hj⟩ := List.mem_iff_getElem?.1 hr
        have h3 := hI.good.ixs j (rvX r).n (by rw [List.getElem?_map, hj]; rfl)
        have h4 := List.length_filter_le (fun y : Rec => y.th == (rvX r).n.th) ((q.rs.map fun x => (rvX x).n).take j)
        have h5 : ((q.rs.map fun x => (rvX x).n).take j).length ≤ q.rs.length := by rw [List.length_take, List.length_map]; omega
        refine ⟨⟨?_, ?_⟩, ⟨?_, ?_⟩, ⟨?_, ?_⟩⟩
        · show (-9223372036854775808 : Int) ≤ (r.t : Int); omega
        · show (r.t : Int) < 9223372036854775808; omega
        · rw [h3]; omega
        · rw [h3]; omega
        · show (-9223372036854775808 : Int) ≤ r.pt; omega
        · show r.pt < 9223372036854775808; omega
      have hbw : ∀ u, Keeps [] w u → ∀ z ∈ q.rs.map rvX, OkB u z ∧ z.b.length ≤ 1000 := fun u ku z hz => by
        obtain ⟨r, hr, rfl⟩ := List.mem_map.1 hz
        have := (hrok r hr).2.2.2.1
        exact ⟨Lst.keeps (HO.out r hr) ku, by show r.b.length ≤ 1000; omega⟩
      have hpx := fun u (ku : Keeps [] w u) (hr : Row u (.slice A5 ln c5) ln 16 (rCs (q.rs.map rvX))) => pexplain2_any 2 2 100 100 200 4 1000 (q.rs.map rvX) (by rw [List.length_map]; omega) (.slice A5 ln c5) u (by rw [List.length_map, hln]; exact hr.lst) hNx hRg (hbw u ku)
      rw [hI.yes] at hpx
      have HI := Lib.hid hI
      rw [hln] at hrow hown hl16
      have HLn := Lib.hid hln
      have HX := Lib.hid (And.intro hrow (And.intro hown (And.intro bC K)))
      have HNR := Lib.hid (And.intro hNx (And.intro hRg hbw))
      rw [hln]
      have hcond : ∀ b1 b2 : Bool, b1 = decide ((k : Int) < (n : Int)) → b2 = decide ((k : Int) < 16) → (b1 && b2) = false := fun b1 b2 h1 h2 => by
        rw [h1, h2]
        simp
        intro h3
        have := hgox.out
        omega
      have hkk : ¬ (k : Int) < (n : Int) ∨ ((k : Int) < (n : Int) ∧ ¬ (k : Int) < 16) := by omega
      clear hln hI hrow hown bC bI K HO hbw hNx hRg hrok hix hcond hgo
      have htail : ∀ J : Act → World → Prop, True := fun _ => trivial
      clear htail
      rcases hkk with hk1 | ⟨hk1, hk2⟩
      · go_wp2_with fail
        refine (awake25_any wr).mono ?_
        rintro e w3 ⟨rfl, k3⟩
        have K3 := HX.out.2.2.2.trans k3 (by simp)
        have r3 := HX.out.1.keeps k3 (by simp)
        have bC3 := k3.blk HX.out.2.2.1 (by simp)
        have hp3 := hpx w3 K3 r3
        obtain ⟨d0, d1, d2, d3, d4, d5, d6, df, dl⟩ := bC3.o7
        have H3 := Lib.hid (And.intro K3 (And.intro r3 bC3))
        clear k3 K3 r3 bC3 hpx
        go_wp2_with fail
        refine hp3.mono ?_
        rintro e w4 ⟨rfl, k4⟩
        have K4 := H3.out.1.trans k4 (by simp)
        have r4 := H3.out.2.1.keeps k4 (by simp)
        have bC4 := k4.blk H3.out.2.2 (by simp)
        have H4 := Lib.hid (And.intro K4 (And.intro r4 bC4))
        clear d0 d1 d2 d3 d4 d5 d6 df dl k4 K4 r4 bC4 hp3 H3
        by_cases hl0 : ln = 0
        · subst hl0
          go_wp2_with fail
          go_ret
          exact ⟨rfl, H4.out.1⟩
        · have hl1 : ¬ (ln : Int) = 0 := by omega
          have hl2 : ((ln : Int) == 0) = false := by rw [beq_eq_false_iff_ne]; exact hl1
          have hmd := mod_any at_' (ln : Int) ha.1 ha.2 (by omega) (by omega) w4
          have hm0 := Int.emod_nonneg at_' (show (ln : Int) ≠ 0 by omega)
          have hm1 := Int.emod_lt_of_pos at_' (show (0 : Int) < (ln : Int) by omega)
          obtain ⟨i, hi⟩ : ∃ i : Nat, at_' % (ln : Int) = (i : Int) := ⟨(at_' % (ln : Int)).toNat, by omega⟩
          rw [hi] at hmd hm1
          obtain ⟨r, hr⟩ : ∃ r, q.rs[i]? = some r := ⟨_, List.getElem?_eq_getElem (by rw [HLn.out]; omega)⟩
          obtain ⟨hlen9, hdis9⟩ := H4.out.2.1
          obtain ⟨_, h0⟩ | ⟨g9, cap9, rest9, h9s, hb9, hc91, hc92, hc93⟩ := hdis9
          · exact absurd h0 hl0
          injection h9s with e91 _ e92
          subst e91
          subst e92
          have hgot : (q.rs.map rvX)[i]? = some (rvX r) := by rw [List.getElem?_map, hr]; rfl
          have f12 : w4.cell? ⟨g9, i * 16 + 12, none⟩ = some (.int .i64 r.er) := by rw [hb9.cell]; exact rCs_cells _ _ i _ hgot 12 (by omega)
          have f13 : w4.cell? ⟨g9, i * 16 + 13, none⟩ = some (.int .u64 (r.at_ : Int)) := by rw [hb9.cell]; exact rCs_cells _ _ i _ hgot 13 (by omega)
          have f14 : w4.cell? ⟨g9, i * 16 + 14, none⟩ = some (.string ⟨r.ak.toArray⟩) := by rw [hb9.cell]; exact rCs_cells _ _ i _ hgot 14 (by omega)
          have f15 : w4.cell? ⟨g9, i * 16 + 15, none⟩ = some (.string ⟨r.av.toArray⟩) := by rw [hb9.cell]; exact rCs_cells _ _ i _ hgot 15 (by omega)
          have ff := hb9.frozen
          have fl := hb9.lt
          have hat := (HI.out.ok r (List.mem_of_getElem? hr)).2.2.2.2.2.2
          obtain ⟨a1, ha1⟩ : ∃ a1, r.at_ + 1 = a1 := ⟨_, rfl⟩
          have hwa : IntKind.u64.wrap ((r.at_ : Int) + 1) = (a1 : Int) := by rw [IntWalk.u64_in _ ⟨by omega, by omega⟩]; omega
          have hno := HI.out.no hr
          have hset : (q.rs.set i (bump r)).map rvX = (q.rs.map rvX).set i (rvX (bump r)) := List.map_set ..
          have hbr : rvX (bump r) = { rvX r with at_ := (a1 : Int) } := by rw [← ha1]; rfl
          have kS : Keeps [g9] w4 (w4.setCell ⟨g9, i * 16 + 13, none⟩ (.int .u64 (a1 : Int))) := (Keeps.refl _ w4).setCell _ _ (.inl (by simp))
          have rS : Row (w4.setCell ⟨g9, i * 16 + 13, none⟩ (.int .u64 (a1 : Int))) (.slice (some ⟨g9, 0, none⟩) ln c5) ln 16 (rCs ((q.rs.set i (bump r)).map rvX)) := by
            rw [hset]
            exact Row.set13 H4.out.2.1 hgot (rvX (bump r)) (a1 : Int) (by rw [hbr]; rfl)
          have hgo9 := HX.out.2.1 g9 rfl
          have KS : Keeps [] w (w4.setCell ⟨g9, i * 16 + 13, none⟩ (.int .u64 (a1 : Int))) := H4.out.1.trans kS (fun j hj => .inr (by simp at hj; subst hj; exact hgo9.1))
          have hmem : ∀ z ∈ (q.rs.set i (bump r)).map rvX, ∃ z' ∈ q.rs.map rvX, z'.n = z.n ∧ z'.b = z.b ∧ z'.bA = z.bA ∧ z'.bc = z.bc ∧ z'.time = z.time ∧ 0 ≤ z.at_ := fun z hz => by
            obtain ⟨r', hr', rfl⟩ := List.mem_map.1 hz
            rcases List.mem_or_eq_of_mem_set hr' with h | rfl
            · exact ⟨rvX r', List.mem_map.2 ⟨r', h, rfl⟩, rfl, rfl, rfl, rfl, rfl, by show (0 : Int) ≤ (r'.at_ : Int); omega⟩
            · exact ⟨rvX r, List.mem_map.2 ⟨r, List.mem_of_getElem? hr, rfl⟩, rfl, rfl, rfl, rfl, rfl, by show (0 : Int) ≤ ((bump r).at_ : Int); omega⟩
          have hp5 := pexplain2_any 2 2 100 100 200 4 1000 ((q.rs.set i (bump r)).map rvX) (by rw [List.length_map, List.length_set, HLn.out]; omega) (.slice (some ⟨g9, 0, none⟩) ln c5) _ (by rw [List.length_map, List.length_set, HLn.out]; exact rS.lst)
            (fun z hz => by
              obtain ⟨z', hz', e1, e2, e3, e4, e5, e6⟩ := hmem z hz
              exact ⟨by rw [← e5]; exact (HNR.out.1 z' hz').1, e6⟩)
            (fun z hz => by
              obtain ⟨z', hz', e1, _⟩ := hmem z hz
              rw [← e1]; exact HNR.out.2.1 z' hz')
            (fun z hz => by
              obtain ⟨z', hz', e1, e2, e3, e4, _⟩ := hmem z hz
              have := HNR.out.2.2 _ KS z' hz'
              unfold OkB at this ⊢
              rw [← e2, ← e3, ← e4]; exact this)
          rw [hno] at hp5
          have bC5 := kS.blk H4.out.2.2 (by simp; exact fun e => hgo9.2.1 e.symm)
          obtain ⟨d0, d1, d2, d3, d4, d5, d6, df, dl⟩ := bC5.o7
          have hil : (i : Int) < (ln : Int) := hm1
          have HKS := Lib.hid KS
          have h13 : ((13 : Int) == 13) = true := by decide
          clear hr hlen9 hb9 hc91 hc92 hc93 hgot hat ha1 hno hset hbr kS rS hgo9 KS hmem bC5 hm0 hm1 hi H4 hl0 hl1
          go_wp2_with fail
          refine hmd.mono ?_
          rintro e w5 ⟨rfl, hw5⟩
          have hw5' := hw5
          subst hw5'
          clear hw5
          go_wp2_with fail
          refine hp5.mono ?_
          rintro e w6 ⟨rfl, k6⟩
          go_wp2_with fail
          go_ret
          exact ⟨rfl, HKS.out.trans k6 (by simp)⟩
      · go_wp2_with fail
        refine (awake25_any wr).mono ?_
        rintro e w3 ⟨rfl, k3⟩
        have K3 := HX.out.2.2.2.trans k3 (by simp)
        have r3 := HX.out.1.keeps k3 (by simp)
        have bC3 := k3.blk HX.out.2.2.1 (by simp)
        have hp3 := hpx w3 K3 r3
        obtain ⟨d0, d1, d2, d3, d4, d5, d6, df, dl⟩ := bC3.o7
        have H3 := Lib.hid (And.intro K3 (And.intro r3 bC3))
        clear k3 K3 r3 bC3 hpx
        go_wp2_with fail
        refine hp3.mono ?_
        rintro e w4 ⟨rfl, k4⟩
        have K4 := H3.out.1.trans k4 (by simp)
        have r4 := H3.out.2.1.keeps k4 (by simp)
        have bC4 := k4.blk H3.out.2.2 (by simp)
        have H4 := Lib.hid (And.intro K4 (And.intro r4 bC4))
        clear d0 d1 d2 d3 d4 d5 d6 df dl k4 K4 r4 bC4 hp3 H3
        by_cases hl0 : ln = 0
        · subst hl0
          go_wp2_with fail
          go_ret
          exact ⟨rfl, H4.out.1⟩
        · have hl1 : ¬ (ln : Int) = 0 := by omega
          have hl2 : ((ln : Int) == 0) = false := by rw [beq_eq_false_iff_ne]; exact hl1
          have hmd := mod_any at_' (ln : Int) ha.1 ha.2 (by omega) (by omega) w4
          have hm0 := Int.emod_nonneg at_' (show (ln : Int) ≠ 0 by omega)
          have hm1 := Int.emod_lt_of_pos at_' (show (0 : Int) < (ln : Int) by omega)
          obtain ⟨i, hi⟩ : ∃ i : Nat, at_' % (ln : Int) = (i : Int) := ⟨(at_' % (ln : Int)).toNat, by omega⟩
          rw [hi] at hmd hm1
          obtain ⟨r, hr⟩ : ∃ r, q.rs[i]? = some r := ⟨_, List.getElem?_eq_getElem (by rw [HLn.out]; omega)⟩
          obtain ⟨hlen9, hdis9⟩ := H4.out.2.1
          obtain ⟨_, h0⟩ | ⟨g9, cap9, rest9, h9s, hb9, hc91, hc92, hc93⟩ := hdis9
          · exact absurd h0 hl0
          injection h9s with e91 _ e92
          subst e91
          subst e92
          have hgot : (q.rs.map rvX)[i]? = some (rvX r) := by rw [List.getElem?_map, hr]; rfl
          have f12 : w4.cell? ⟨g9, i * 16 + 12, none⟩ = some (.int .i64 r.er) := by rw [hb9.cell]; exact rCs_cells _ _ i _ hgot 12 (by omega)
          have f13 : w4.cell? ⟨g9, i * 16 + 13, none⟩ = some (.int .u64 (r.at_ : Int)) := by rw [hb9.cell]; exact rCs_cells _ _ i _ hgot 13 (by omega)
          have f14 : w4.cell? ⟨g9, i * 16 + 14, none⟩ = some (.string ⟨r.ak.toArray⟩) := by rw [hb9.cell]; exact rCs_cells _ _ i _ hgot 14 (by omega)
          have f15 : w4.cell? ⟨g9, i * 16 + 15, none⟩ = some (.string ⟨r.av.toArray⟩) := by rw [hb9.cell]; exact rCs_cells _ _ i _ hgot 15 (by omega)
          have ff := hb9.frozen
          have fl := hb9.lt
          have hat := (HI.out.ok r (List.mem_of_getElem? hr)).2.2.2.2.2.2
          obtain ⟨a1, ha1⟩ : ∃ a1, r.at_ + 1 = a1 := ⟨_, rfl⟩
          have hwa : IntKind.u64.wrap ((r.at_ : Int) + 1) = (a1 : Int) := by rw [IntWalk.u64_in _ ⟨by omega, by omega⟩]; omega
          have hno := HI.out.no hr
          have hset : (q.rs.set i (bump r)).map rvX = (q.rs.map rvX).set i (rvX (bump r)) := List.map_set ..
          have hbr : rvX (bump r) = { rvX r with at_ := (a1 : Int) } := by rw [← ha1]; rfl
          have kS : Keeps [g9] w4 (w4.setCell ⟨g9, i * 16 + 13, none⟩ (.int .u64 (a1 : Int))) := (Keeps.refl _ w4).setCell _ _ (.inl (by simp))
          have rS : Row (w4.setCell ⟨g9, i * 16 + 13, none⟩ (.int .u64 (a1 : Int))) (.slice (some ⟨g9, 0, none⟩) ln c5) ln 16 (rCs ((q.rs.set i (bump r)).map rvX)) := by
            rw [hset]
            exact Row.set13 H4.out.2.1 hgot (rvX (bump r)) (a1 : Int) (by rw [hbr]; rfl)
          have hgo9 := HX.out.2.1 g9 rfl
          have KS : Keeps [] w (w4.setCell ⟨g9, i * 16 + 13, none⟩ (.int .u64 (a1 : Int))) := H4.out.1.trans kS (fun j hj => .inr (by simp at hj; subst hj; exact hgo9.1))
          have hmem : ∀ z ∈ (q.rs.set i (bump r)).map rvX, ∃ z' ∈ q.rs.map rvX, z'.n = z.n ∧ z'.b = z.b ∧ z'.bA = z.bA ∧ z'.bc = z.bc ∧ z'.time = z.time ∧ 0 ≤ z.at_ := fun z hz => by
            obtain ⟨r', hr', rfl⟩ := List.mem_map.1 hz
            rcases List.mem_or_eq_of_mem_set hr' with h | rfl
            · exact ⟨rvX r', List.mem_map.2 ⟨r', h, rfl⟩, rfl, rfl, rfl, rfl, rfl, by show (0 : Int) ≤ (r'.at_ : Int); omega⟩
            · exact ⟨rvX r, List.mem_map.2 ⟨r, List.mem_of_getElem? hr, rfl⟩, rfl, rfl, rfl, rfl, rfl, by show (0 : Int) ≤ ((bump r).at_ : Int); omega⟩
          have hp5 := pexplain2_any 2 2 100 100 200 4 1000 ((q.rs.set i (bump r)).map rvX) (by rw [List.length_map, List.length_set, HLn.out]; omega) (.slice (some ⟨g9, 0, none⟩) ln c5) _ (by rw [List.length_map, List.length_set, HLn.out]; exact rS.lst)
            (fun z hz => by
              obtain ⟨z', hz', e1, e2, e3, e4, e5, e6⟩ := hmem z hz
              exact ⟨by rw [← e5]; exact (HNR.out.1 z' hz').1, e6⟩)
            (fun z hz => by
              obtain ⟨z', hz', e1, _⟩ := hmem z hz
              rw [← e1]; exact HNR.out.2.1 z' hz')
            (fun z hz => by
              obtain ⟨z', hz', e1, e2, e3, e4, _⟩ := hmem z hz
              have := HNR.out.2.2 _ KS z' hz'
              unfold OkB at this ⊢
              rw [← e2, ← e3, ← e4]; exact this)
          rw [hno] at hp5
          have bC5 := kS.blk H4.out.2.2 (by simp; exact fun e => hgo9.2.1 e.symm)
          obtain ⟨d0, d1, d2, d3, d4, d5, d6, df, dl⟩ := bC5.o7
          have hil : (i : Int) < (ln : Int) := hm1
          have HKS := Lib.hid KS
          have h13 : ((13 : Int) == 13) = true := by decide
          clear hr hlen9 hb9 hc91 hc92 hc93 hgot hat ha1 hno hset hbr kS rS hgo9 KS hmem bC5 hm0 hm1 hi H4 hl0 hl1
          go_wp2_with fail
          refine hmd.mono ?_
          rintro e w5 ⟨rfl, hw5⟩
          have hw5' := hw5
          subst hw5'
          clear hw5
          go_wp2_with fail
          refine hp5.mono ?_
          rintro e w6 ⟨rfl, k6⟩
          go_wp2_with fail
          go_ret
          exact ⟨rfl, HKS.out.trans k6 (by simp)⟩
end Go.Proofs.YtbcgpjfejpcgnaaGreat
end
