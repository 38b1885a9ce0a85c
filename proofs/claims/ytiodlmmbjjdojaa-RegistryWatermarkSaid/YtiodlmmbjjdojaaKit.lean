/- The contract of blinktreekit.Cells: a new slice with the contents of all cells. -/
import Derived.Test.YtiodlmmbjjdojaaMem
import Derived.Deep.CutRange
import Derived.Deep.DeepCutAuto
import Derived.Deep.LoopGhost
namespace Go.Proofs.Ytiodlmmbjjdojaa
open Go.RowKit
theorem list_done (X L : List C3) (h : X.length = L.length) (hj : ∀ j, j < L.length → X[j]? = L[j]?) : X = L := by
  apply List.ext_getElem?
  intro j
  by_cases hl : j < L.length
  · exact hj j hl
  · rw [List.getElem?_eq_none (by omega), List.getElem?_eq_none (by omega)]
set_option maxHeartbeats 400000 in
theorem kitCells_any (w : World) (m c : Nat) (L : List C3) (n : Int) (h : MemAt w m c L n) :
    Calls Try.prog 14 #[.pointer (some ⟨m, 0, none⟩)] w fun e w' =>
      ∃ b, e = .returned (.slice (some ⟨b, 0, none⟩) L.length L.length) ∧ Blk w' b (flat L) ∧ w.heap.size ≤ b ∧ Keeps [] w w' := by
  have hs := h.small
  have hlt := h.lt
  have hmk := make_cells L.length (by omega)
  go_enter Try.func14, Try.ntmps14
  go_wp2_with (go_at_call 31; refine (cells_any _ m c _ _ h).mono ?_; rintro e w' ⟨rfl, rfl⟩)
  go_loopw [4] (fun i wr => ∃ (k : Nat) (X : List C3), k ≤ L.length ∧ i = .int .i64 k ∧ X.length = L.length ∧ (∀ j, j < k → X[j]? = L[j]?) ∧ Blk wr w.heap.size (flat X ++ []) ∧ MemAt wr m c L n ∧ Keeps [] w wr) (fun i _ => L.length - (intOf i).toNat)
  case atStart =>
    exact ⟨0, List.replicate L.length C3.zero, by omega, rfl, by simp, fun j hj => absurd hj (Nat.not_lt_zero j), by rw [List.append_nil]; exact Blk.new w (flat (List.replicate L.length C3.zero)) _, h.alloc _, (Keeps.refl _ _).alloc _⟩
  case round =>
    obtain ⟨k, X, hk, rfl, hXl, hX, hb, hm, hkp⟩ := hrel
    by_cases hkl : k < L.length
    · go_wp2_with fail
      refine (peek_any _ m c _ _ hm k).mono ?_
      rintro e w4 ⟨rfl, k4⟩
      have hb4 := k4.blk hb (by simp)
      have hm4 := hm.keeps k4 (by simp) (by simp)
      have K4 := hkp.trans k4 (by simp)
      obtain ⟨y, hy⟩ : ∃ y, X[k]? = some y := ⟨X[k]'(by omega), by simp [hXl, hkl]⟩
      obtain ⟨q0, q1, q2⟩ := flat_cells hb4 k y hy
      have qf := hb4.frozen
      have ql := hb4.lt
      clear hy
      go_wp2_with fail
      go_roundw
      case rel =>
        refine ⟨k + 1, X.set k (memAt L k), by omega, by go_num, by simp [hXl], fun j hj => ?_, flat_put hb4 k (by omega) _ _ _, ?_, ?_⟩
        · by_cases hjk : j = k
          · subst hjk
            rw [List.getElem?_set_self (by omega)]
            exact (memAt_nat L j hkl).symm
          · rw [List.getElem?_set_ne (by omega)]
            exact hX j (by omega)
        · exact ((hm4.other _ _ (Nat.ne_of_lt hlt.1) (Nat.ne_of_lt hlt.2)).other _ _ (Nat.ne_of_lt hlt.1) (Nat.ne_of_lt hlt.2)).other _ _ (Nat.ne_of_lt hlt.1) (Nat.ne_of_lt hlt.2)
        · exact ((K4.setCell _ _ (.inr (Nat.le_refl _))).setCell _ _ (.inr (Nat.le_refl _))).setCell _ _ (.inr (Nat.le_refl _))
      case measure => simp [intOf]; omega
    · obtain rfl : k = L.length := by omega
      obtain rfl := list_done X L hXl hX
      go_wp2_with fail
      go_ret
      rw [List.append_nil] at hb
      exact ⟨_, rfl, hb, Nat.le_refl _, hkp⟩
end Go.Proofs.Ytiodlmmbjjdojaa
