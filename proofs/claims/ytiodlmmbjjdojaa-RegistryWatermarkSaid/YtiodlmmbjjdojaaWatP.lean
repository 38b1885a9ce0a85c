/- RegistryWatermark: the plain half. -/
import Derived.Test.YtiodlmmbjjdojaaPdS
import Derived.Test.YtiodlmmbjjdojaaPdL
import Derived.Test.YtiodlmmbjjdojaaRun
import Derived.Test.YtiodlmmbjjdojaaLive
namespace Go.Proofs.Ytiodlmmbjjdojaa
open Go.RowKit
set_option linter.unusedVariables false
/-- The timestamps among the first k numbers. -/
def lvF (f : Nat → Int) (k : Nat) : List Int := (List.range k).filterMap fun i => if f i = 0 then none else some (f i - 1)
def lsF (t : Int) (f : Nat → Int) : Nat → Int
  | 0 => t
  | k + 1 => wmin (lsF t f k) (f k)
theorem lvF_succ (f : Nat → Int) (k : Nat) : lvF f (k + 1) = lvF f k ++ (if f k = 0 then [] else [f k - 1]) := by
  unfold lvF
  rw [List.range_succ, List.filterMap_append]
  congr 1
  by_cases h : f k = 0 <;> simp [h]
theorem lvF_le (f : Nat → Int) (k : Nat) : (lvF f k).length ≤ k := by
  induction k with
  | zero => simp [lvF]
  | succ k ih => rw [lvF_succ, List.length_append]; split <;> simp <;> omega
theorem live_lvF (L : List C3) (f : Nat → Int) (E : Nat) (h : ∀ j : Nat, j < E → (memAt L (8 + (j : Int))).N = f j) : liveIn L E = lvF f E := by
  induction E with
  | zero => rfl
  | succ E ih => rw [liveIn_succ, lvF_succ, ih (fun j hj => h j (by omega)), h E (by omega)]
theorem least_lsF (L : List C3) (f : Nat → Int) (E : Nat) (h : ∀ j : Nat, j < E → (memAt L (8 + (j : Int))).N = f j) : leastOf L E = lsF (memAt L 2).N f E := by
  induction E with
  | zero => rfl
  | succ E ih => rw [leastOf, lsF, ih (fun j hj => h j (by omega)), h E (by omega)]
theorem lvF_zeros (f : Nat → Int) (K : Nat) : ∀ m, (∀ j, K ≤ j → f j = 0) → lvF f (K + m) = lvF f K
  | 0, _ => rfl
  | m + 1, h => by rw [← Nat.add_assoc, lvF_succ, if_pos (h _ (by omega)), List.append_nil, lvF_zeros f K m h]
theorem lsF_zeros (t : Int) (f : Nat → Int) (K : Nat) : ∀ m, (∀ j, K ≤ j → f j = 0) → lsF t f (K + m) = lsF t f K
  | 0, _ => rfl
  | m + 1, h => by rw [← Nat.add_assoc, lsF, h _ (by omega), lsF_zeros t f K m h]; rfl
theorem lvF_congr {f g : Nat → Int} : ∀ k, (∀ j, j < k → f j = g j) → lvF f k = lvF g k
  | 0, _ => rfl
  | k + 1, h => by rw [lvF_succ, lvF_succ, lvF_congr k (fun j hj => h j (by omega)), h k (by omega)]
theorem lsF_congr {f g : Nat → Int} (t : Int) : ∀ k, (∀ j, j < k → f j = g j) → lsF t f k = lsF t g k
  | 0, _ => rfl
  | k + 1, h => by rw [lsF, lsF, lsF_congr t k (fun j hj => h j (by omega)), h k (by omega)]
theorem lvF_cut (f : Nat → Int) (k E : Nat) (h : k ≤ E) : lvF (fun j => if j < k then f j else 0) E = lvF f k := by
  obtain ⟨m, rfl⟩ : ∃ m, E = k + m := ⟨E - k, by omega⟩
  rw [lvF_zeros _ k m (fun j hj => if_neg (by omega)), lvF_congr k (fun j hj => if_pos hj)]
theorem lsF_cut (t : Int) (f : Nat → Int) (k E : Nat) (h : k ≤ E) : lsF t (fun j => if j < k then f j else 0) E = lsF t f k := by
  obtain ⟨m, rfl⟩ : ∃ m, E = k + m := ⟨E - k, by omega⟩
  rw [lsF_zeros _ _ k m (fun j hj => if_neg (by omega)), lsF_congr t k (fun j hj => if_pos hj)]
theorem sortedIn_pair {d : Array Int} (h : Go.Sort.SortedIn Go.Sort.ltInt 0 d.size d) : d.toList.Pairwise (· ≤ ·) := by
  rw [List.pairwise_iff_getElem]
  intro i j hi hj hij
  have := h i j (Nat.zero_le _) hij (by simpa using hj)
  simp only [Go.Sort.ltInt, decide_eq_false_iff_not] at this
  have e1 : d[i]! = d[i]'(by simpa using hi) := by simp at hi; simp [hi]
  have e2 : d[j]! = d[j]'(by simpa using hj) := by simp at hj; simp [hj]
  rw [e1, e2] at this
  simp only [Array.getElem_toList]
  omega
/-- One more element, sunk to its place. -/
theorem sink (d : Array Int) (x : Int) (h : Go.Sort.SortedIn Go.Sort.ltInt 0 d.size d) :
    Go.Sort.SortedIn Go.Sort.ltInt 0 (d.size + 1) (Go.Sort.insInner Go.Sort.ltInt 0 d.size (d.push x)) ∧ (Go.Sort.insInner Go.Sort.ltInt 0 d.size (d.push x)).size = d.size + 1 ∧ (Go.Sort.insInner Go.Sort.ltInt 0 d.size (d.push x)).toList.Perm (x :: d.toList) := by
  have hlast : ∀ m i, m = d.size - i → 0 < i → i ≤ d.size → Go.Sort.insOuter Go.Sort.ltInt 0 (d.size + 1) i (d.push x) = Go.Sort.insInner Go.Sort.ltInt 0 d.size (d.push x) := by
    intro m
    induction m with
    | zero =>
      intro i hm h0 hi
      obtain rfl : i = d.size := by omega
      rw [Go.Sort.insOuter, if_pos (by omega), Go.Sort.insOuter, if_neg (by omega)]
    | succ m ih =>
      intro i hm h0 hi
      rw [Go.Sort.insOuter, if_pos (by omega)]
      have e : Go.Sort.insInner Go.Sort.ltInt 0 i (d.push x) = d.push x := by
        refine insI_stop (fun _ => ?_)
        have h1 := h (i - 1) i (Nat.zero_le _) (by omega) (by omega)
        simp only [Go.Sort.ltInt, decide_eq_false_iff_not] at h1
        have e1 : (d.push x)[i]! = d[i]! := by simp [Array.getElem!_eq_getD, Array.getD, show i < d.size + 1 by omega, show i < d.size by omega, Array.getElem_push_lt]
        have e2 : (d.push x)[i - 1]! = d[i - 1]! := by simp [Array.getElem!_eq_getD, Array.getD, show i - 1 < d.size + 1 by omega, show i - 1 < d.size by omega, Array.getElem_push_lt]
        rw [e1, e2]
        exact h1
      rw [e]
      exact ih (i + 1) (by omega) (by omega) (by omega)
  have hins : Go.Sort.insertionSort Go.Sort.ltInt (d.push x) 0 (d.size + 1) = Go.Sort.insInner Go.Sort.ltInt 0 d.size (d.push x) := by
    unfold Go.Sort.insertionSort
    by_cases h0 : d.size = 0
    · rw [h0]
      rw [Go.Sort.insOuter, if_neg (by omega)]
      rfl
    · exact hlast _ 1 rfl (by omega) (by omega)
  have hh := Go.Sort.insertionSort_holds Go.Sort.swo_ltInt (d.push x) 0 (d.size + 1) (by omega) (by simp)
  rw [hins] at hh
  have hs : (Go.Sort.insInner Go.Sort.ltInt 0 d.size (d.push x)).size = d.size + 1 := by rw [hh.1.1]; simp
  refine ⟨hh.2, hs, ?_⟩
  have hp := hh.1.2.2
  rw [show (Go.Sort.insInner Go.Sort.ltInt 0 d.size (d.push x)).extract 0 (d.size + 1) = Go.Sort.insInner Go.Sort.ltInt 0 d.size (d.push x) by rw [← hs]; simp, show (d.push x).extract 0 (d.size + 1) = d.push x by rw [show d.size + 1 = (d.push x).size by simp]; simp] at hp
  refine hp.trans ?_
  rw [Array.toList_push]
  exact List.perm_append_singleton x d.toList
end Go.Proofs.Ytiodlmmbjjdojaa
