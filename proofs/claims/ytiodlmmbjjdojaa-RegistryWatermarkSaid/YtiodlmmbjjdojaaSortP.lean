/- Insertion sort on a list of integers. Plain; no program. -/
import Derived.WalkKit
namespace Go.Proofs.Ytiodlmmbjjdojaa
def insR (x : Int) : List Int → List Int
  | [] => [x]
  | y :: A => if x < y then insR x A ++ [y] else A.reverse ++ [y, x]
def isortGo : List Int → List Int → List Int
  | S, [] => S
  | S, x :: B => isortGo (insR x S.reverse) B
def isort (xs : List Int) : List Int := isortGo [] xs
theorem insR_perm (x : Int) : ∀ A, (insR x A).Perm (x :: A)
  | [] => List.Perm.refl _
  | y :: A => by
    rw [insR]
    split
    · have h := (insR_perm x A).append_right [y]
      refine h.trans ?_
      simp
    · have h1 : (A.reverse ++ [y, x]).Perm ([y, x] ++ A) := (List.perm_append_comm).trans ((List.reverse_perm A).append_left [y, x])
      exact h1.trans (List.Perm.swap x y A)
theorem insR_length (x : Int) (A : List Int) : (insR x A).length = A.length + 1 := (insR_perm x A).length_eq
theorem insR_sorted (x : Int) : ∀ A, A.reverse.Pairwise (· ≤ ·) → (insR x A).Pairwise (· ≤ ·)
  | [], _ => by simp [insR]
  | y :: A, h => by
    rw [List.reverse_cons, List.pairwise_append] at h
    obtain ⟨h1, _, h2⟩ := h
    rw [insR]
    split
    · rename_i hxy
      rw [List.pairwise_append]
      refine ⟨insR_sorted x A h1, by simp, fun a ha b hb => ?_⟩
      simp only [List.mem_singleton] at hb
      subst hb
      rcases List.mem_cons.1 ((insR_perm x A).mem_iff.1 ha) with rfl | ha'
      · omega
      · exact h2 a (by simpa using ha') b (by simp)
    · rename_i hxy
      rw [List.pairwise_append]
      refine ⟨h1, by simp; omega, fun a ha b hb => ?_⟩
      have hay := h2 a ha y (by simp)
      simp only [List.mem_cons, List.not_mem_nil, or_false] at hb
      rcases hb with rfl | rfl
      · exact hay
      · omega
theorem isortGo_perm : ∀ (B S : List Int), (isortGo S B).Perm (S ++ B)
  | [], S => by simp [isortGo]
  | x :: B, S => by
    rw [isortGo]
    refine (isortGo_perm B _).trans ?_
    have h := ((insR_perm x S.reverse).trans ((List.reverse_perm S).cons x)).append_right B
    refine h.trans ?_
    rw [List.cons_append]
    exact List.perm_middle.symm
theorem isort_perm (xs : List Int) : (isort xs).Perm xs := by simpa [isort] using isortGo_perm xs []
theorem isort_length (xs : List Int) : (isort xs).length = xs.length := (isort_perm xs).length_eq
theorem isortGo_sorted : ∀ (B S : List Int), S.Pairwise (· ≤ ·) → (isortGo S B).Pairwise (· ≤ ·)
  | [], S, h => by simpa [isortGo] using h
  | x :: B, S, h => by
    rw [isortGo]
    exact isortGo_sorted B _ (insR_sorted x _ (by simpa using h))
theorem isort_sorted (xs : List Int) : (isort xs).Pairwise (· ≤ ·) := isortGo_sorted xs [] (by simp)
end Go.Proofs.Ytiodlmmbjjdojaa
