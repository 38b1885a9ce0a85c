/- A Watermark that runs with nobody else: its phases, and one step. -/
import Derived.Test.YtiodlmmbjjdojaaWm4
import Derived.Test.YtiodlmmbjjdojaaMemory
namespace Go.Proofs.Ytiodlmmbjjdojaa
open Go.RowKit
theorem memAt_set_same (L : List C3) (i : Int) (x : C3) (h0 : 0 ≤ i) (h1 : i < L.length) : memAt (memSet L i x) i = x := by
  obtain ⟨j, rfl⟩ := Int.eq_ofNat_of_zero_le h0
  rw [memSet_nat]
  have : j < L.length := by omega
  simp [memAt, this]
theorem memAt_set_other (L : List C3) (i j : Int) (x : C3) (h : i ≠ j) : memAt (memSet L i x) j = memAt L j := by
  unfold memSet
  split
  · unfold memAt
    split
    · rw [List.getD_eq_getElem?_getD, List.getD_eq_getElem?_getD, List.getElem?_set_ne (by omega)]
    · rfl
  · rfl
theorem memAt_rep (n : Nat) (j : Int) : memAt (List.replicate n C3.zero) j = C3.zero := by
  unfold memAt
  split
  · rw [List.getD_eq_getElem?_getD, List.getElem?_replicate]
    split <;> rfl
  · rfl
theorem memAt_cells0 (n : Nat) (hi j : Int) (h0 : j ≠ 0) (h4 : j ≠ 4) (hh : j ≠ hi) : memAt (cells0 n hi) j = C3.zero := by
  unfold cells0
  rw [memAt_set_other _ _ _ _ (Ne.symm hh), memAt_set_other _ _ _ _ (Ne.symm h4), memAt_set_other _ _ _ _ (Ne.symm h0), memAt_rep]
/-- The least time behind the load of Published and of k cells of the registry. -/
def leastOf (L : List C3) : Nat → Int
  | 0 => (memAt L 2).N
  | k + 1 => wmin (leastOf L k) (memAt L (8 + (k : Int))).N
/-- A Watermark in phase j, its blocks from lo on. -/
def WmAt (w : World) (wm lo : Nat) (T S N C R F K : Int) (L : List C3) (E : Nat) (j : Nat) : Prop :=
  lo ≤ wm ∧ match j with
  | 0 => ∃ nb lb pb xb tb sb nx wx, WmA w wm nb lb pb xb tb sb nx wx T S N C R F K ∧ lo ≤ nb ∧ lo ≤ lb ∧ lo ≤ pb ∧ lo ≤ tb ∧ lo ≤ nx ∧ lo ≤ wx ∧ (nb ≠ wm ∧ nb ≠ tb ∧ nb ≠ nx ∧ nb ≠ wx) ∧ (wx ≠ wm ∧ nx ≠ wm)
  | k + 1 => if k < E then ∃ ab kb, WmS w wm ab kb T S N C R F K k (leastOf L k) ∧ lo ≤ ab ∧ lo ≤ kb ∧ ab ≠ wm ∧ kb ≠ wm else WmD w wm T S N C R F K (leastOf L E)
theorem wmAt_new (T S N C R F K : Int) (L : List C3) (E : Nat) (w : World) :
    Calls Try.prog 15 #[.agg #[.int .i64 T, .int .i64 S, .int .i64 N, .int .i64 C, .int .i64 R, .int .i64 F, .int .u64 K]] w fun e w' => ∃ wm, e = .returned (.pointer (some ⟨wm, 0, none⟩)) ∧ WmAt w' wm w.heap.size T S N C R F K L E 0 ∧ Keeps [] w w' := by
  refine (newWatermark_any T S N C R F K w).mono ?_
  rintro e w' ⟨wm, nb, lb, pb, xb, tb, sb, nx, wx, rfl, h, h1, h2, h3, h4, h5, h6, h7, h8, h9, d1, d2, d3, d4, d5, d6, k⟩
  exact ⟨wm, rfl, ⟨h1, nb, lb, pb, xb, tb, sb, nx, wx, h, h2, h3, h4, h6, h8, h9, ⟨d1, d2, d3, d4⟩, d5, d6⟩, k⟩
theorem wmAt_step (wo w : World) (wm m c : Nat) (T S N C R F K : Int) (L : List C3) (E j : Nat) (n : Int) (hc : CfgOK T S N C R F K) (hE : (E : Int) = T * S) (h : WmAt w wm wo.heap.size T S N C R F K L E j) (hj : j ≤ E)
    (hm : MemAt w m c L n) (n0 : 0 ≤ n) (n1 : n ≤ 4611686018427387904) (hmo : m < wo.heap.size) (hco : c < wo.heap.size) (K0 : Keeps [m] wo w)
    (hcell : ∀ i : Nat, i < E → 0 ≤ (memAt L (8 + (i : Int))).N ∧ (memAt L (8 + (i : Int))).N ≤ 18446744073709551615) :
    Calls Try.prog 16 #[.pointer (some ⟨wm, 0, none⟩), .pointer (some ⟨m, 0, none⟩)] w fun e w' => e = .returned (.bool (decide (j = E))) ∧ WmAt w' wm wo.heap.size T S N C R F K L E (j + 1) ∧ MemAt w' m c L (n + 1) ∧ Keeps [m] wo w' := by
  have hs := K0.size
  have q1 := hc.T0
  have q3 := hc.S0
  have hp : 1 ≤ T * S := Int.mul_pos (by omega : 0 < T) (by omega : 0 < S)
  obtain ⟨hw, h⟩ := h
  cases j with
  | zero =>
    obtain ⟨nb, lb, pb, xb, tb, sb, nx, wx, h, h2, h3, h4, h6, h8, h9, d, d'⟩ := h
    refine (wmStep0 w wm nb lb pb xb tb sb nx wx m c L n T S N C R F K h hm n0 n1 (by omega) (by omega) (by omega) d d').mono ?_
    rintro e w' ⟨rfl, ab, kb, g1, g2, g3, g4, g5⟩
    have hwl := h.self.lt
    refine ⟨?_, ⟨hw, ?_⟩, g4, K0.trans g5 (by intro i hi; simp at hi ⊢; omega)⟩
    · rw [decide_eq_false (by omega)]
    · show if 0 < E then _ else _
      rw [if_pos (by omega)]
      exact ⟨ab, kb, g1, by omega, by omega, by omega, by omega⟩
  | succ k =>
    have hk : k < E := by omega
    replace h : if k < E then ∃ ab kb, WmS w wm ab kb T S N C R F K k (leastOf L k) ∧ wo.heap.size ≤ ab ∧ wo.heap.size ≤ kb ∧ ab ≠ wm ∧ kb ≠ wm else WmD w wm T S N C R F K (leastOf L E) := h
    rw [if_pos hk] at h
    obtain ⟨ab, kb, h, ha, hb, hd1, hd2⟩ := h
    have hwl := h.self.lt
    obtain ⟨x0, x1⟩ := hcell k hk
    by_cases hl : k + 1 = E
    · refine (wmStep_last w wm ab kb m c L n T S N C R F K k (leastOf L k) hc h (by omega) (by omega) hm n0 n1 (by omega) x0 x1 (by omega)).mono ?_
      rintro e w' ⟨rfl, g1, g4, g5⟩
      refine ⟨by rw [decide_eq_true hl], ⟨hw, ?_⟩, g4, K0.trans g5 (by intro i hi; simp at hi ⊢; omega)⟩
      show if k + 1 < E then _ else _
      rw [if_neg (by omega), ← hl]
      exact g1
    · refine (wmStep_more w wm ab kb m c L n T S N C R F K k (leastOf L k) hc h (by omega) (by omega) hm n0 n1 (by omega) x0 x1 (by omega)).mono ?_
      rintro e w' ⟨rfl, ab', kb', g1, g2, g3, g4, g5⟩
      refine ⟨by rw [decide_eq_false hl], ⟨hw, ?_⟩, g4, K0.trans g5 (by intro i hi; simp at hi ⊢; omega)⟩
      show if k + 1 < E then _ else _
      rw [if_pos (by omega)]
      exact ⟨ab', kb', g1, by omega, by omega, by omega, by omega⟩
theorem WmAt.done {w : World} {wm lo : Nat} {T S N C R F K : Int} {L : List C3} {E : Nat} (h : WmAt w wm lo T S N C R F K L E (E + 1)) : WmD w wm T S N C R F K (leastOf L E) := by
  have h2 := h.2
  replace h2 : if E < E then _ else WmD w wm T S N C R F K (leastOf L E) := h2
  rwa [if_neg (by omega)] at h2
end Go.Proofs.Ytiodlmmbjjdojaa
