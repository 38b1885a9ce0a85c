/- The contract of slices.Sort at []uint64, for at most 25 elements. -/
import Derived.Test.YtiodlmmbjjdojaaPdN
namespace Go.Proofs.Ytiodlmmbjjdojaa
open Go.RowKit
set_option linter.unusedVariables false
set_option maxRecDepth 100000
set_option maxHeartbeats 4000000
theorem bl_le : ∀ x, x < 32 → bl x ≤ 64 := by decide +kernel
theorem sorted_eq : ∀ (l m : List Int), l.Perm m → l.Pairwise (· ≤ ·) → m.Pairwise (· ≤ ·) → l = m
  | [], m, h, _, _ => (List.nil_perm.1 h).symm
  | x :: l, [], h, _, _ => absurd h.length_eq (by simp)
  | x :: l, y :: m, h, h1, h2 => by
    rw [List.pairwise_cons] at h1 h2
    have hx : x ∈ y :: m := h.mem_iff.1 (by simp)
    have hy : y ∈ x :: l := h.mem_iff.2 (by simp)
    have e : x = y := by
      rcases List.mem_cons.1 hx with r | r
      · exact r
      · rcases List.mem_cons.1 hy with s | s
        · exact s.symm
        · have := h1.1 _ s
          have := h2.1 _ r
          omega
    subst e
    rw [sorted_eq l m h.cons_inv h1.2 h2.2]
theorem sort_isort (xs : List Int) : (Go.Sort.sort Go.Sort.ltInt xs.toArray).toList = isort xs := by
  rw [Go.Sort.sortInt xs]
  refine sorted_eq _ _ ((List.mergeSort_perm xs _).trans (isort_perm xs).symm) ?_ (isort_sorted xs)
  have h := List.pairwise_mergeSort (le := fun x y : Int => decide (x ≤ y)) (fun a b c h1 h2 => by simp at *; omega) (fun a b => by simp; omega) xs
  exact h.imp (fun h => by simpa using h)
theorem sort25_any (xs : List Int) (b cap : Nat) (rest : List Value) (w : World) (hb : Blk w b (xs.map uV ++ rest)) (hn : xs.length ≤ 25) :
    Calls Try.prog 44 #[.slice (some ⟨b, 0, none⟩) xs.length cap] w fun e w' => e = .returned (.tuple #[]) ∧ Blk w' b ((isort xs).map uV ++ rest) ∧ Keeps [b] w w' := by
  have hr : Rw w b rest xs.toArray := hb
  have hq := pdq_run b cap xs.length 0 rest hn xs.length 0 xs.length xs.toArray w (bl xs.length) (by omega) hr (by simp) (by omega) (Nat.le_refl _) (bl_le _ (by omega))
  have hs : Go.Sort.pdq Go.Sort.ltInt xs.toArray 0 xs.length (bl xs.length) true true = Go.Sort.sort Go.Sort.ltInt xs.toArray := by
    unfold Go.Sort.sort
    rw [bl_tab _ (by simp; omega)]
    rfl
  rw [hs] at hq
  have hl := len_ex xs.length (by omega)
  have hwx : IntKind.u64.wrap (xs.length : Int) = (xs.length : Int) := by rw [IntKind.wrap_u64]; omega
  clear hs hr hb
  go_enter Try.func44, Try.ntmps44
  go_wp2_with fail
  refine (hl _).mono ?_
  rintro e w' ⟨rfl, rfl⟩
  go_wp2_with fail
  refine hq.mono ?_
  rintro e w1 ⟨rfl, h1, _, k1⟩
  go_wp2_with fail
  go_end0
  refine ⟨rfl, ?_, k1⟩
  unfold Rw at h1
  rw [sort_isort] at h1
  exact h1
end Go.Proofs.Ytiodlmmbjjdojaa
