/- The sort's loop, plain: one round of pdq. -/
import Derived.Test.YtiodlmmbjjdojaaPdP
import Derived.Sort.AssemblyPlain
namespace Go.Proofs.Ytiodlmmbjjdojaa
open Go.RowKit
set_option linter.unusedVariables false
set_option linter.unusedSimpArgs false
set_option maxRecDepth 100000
theorem pdq_small {d : Array Int} {a e l : Nat} {wb wp : Bool} (h : e - a ≤ 12) : Go.Sort.pdq Go.Sort.ltInt d a e l wb wp = Go.Sort.insertionSort Go.Sort.ltInt d a e := by
  rw [Go.Sort.pdq, if_pos h]
theorem pdq_heap {d : Array Int} {a e : Nat} {wb wp : Bool} (h : ¬ e - a ≤ 12) : Go.Sort.pdq Go.Sort.ltInt d a e 0 wb wp = Go.Sort.heapSort Go.Sort.ltInt d a e := by
  rw [Go.Sort.pdq, if_neg h, if_pos rfl]
theorem pdq_go {d : Array Int} {a e l : Nat} {wb wp : Bool} (d1 : Array Int) (l1 : Nat) (h12 : ¬ e - a ≤ 12) (hl : l ≠ 0) (hd1 : (if (!wb) = true then Go.Sort.breakPatterns d a e else d) = d1) (hl1 : (if (!wb) = true then l - 1 else l) = l1)
    (p : Nat) (hv : Go.Sort.Hint) (hc : Go.Sort.choosePivot Go.Sort.ltInt d1 a e = (p, hv)) (hh : hv ≠ .decreasing) (r : Bool)
    (hpi : (if (wb && wp && decide (hv = .increasing)) = true then Go.Sort.partialInsertionSort Go.Sort.ltInt d1 a e else (d1, false)) = (d1, r))
    (hq : a < (Go.Sort.partitionEqual Go.Sort.ltInt d1 a e p).1 ∧ (Go.Sort.partitionEqual Go.Sort.ltInt d1 a e p).1 ≤ e) (hr : a ≤ (Go.Sort.partition Go.Sort.ltInt d1 a e p).1 ∧ (Go.Sort.partition Go.Sort.ltInt d1 a e p).1 < e) :
    Go.Sort.pdq Go.Sort.ltInt d a e l wb wp = if r = true then d1 else if (decide (a > 0) && !Go.Sort.ltInt d1[a - 1]! d1[p]!) = true then Go.Sort.pdq Go.Sort.ltInt (Go.Sort.partitionEqual Go.Sort.ltInt d1 a e p).2 (Go.Sort.partitionEqual Go.Sort.ltInt d1 a e p).1 e l1 wb wp
      else if (Go.Sort.partition Go.Sort.ltInt d1 a e p).1 - a < e - (Go.Sort.partition Go.Sort.ltInt d1 a e p).1 then
        Go.Sort.pdq Go.Sort.ltInt (Go.Sort.pdq Go.Sort.ltInt (Go.Sort.partition Go.Sort.ltInt d1 a e p).2.2 a (Go.Sort.partition Go.Sort.ltInt d1 a e p).1 l1 true true) ((Go.Sort.partition Go.Sort.ltInt d1 a e p).1 + 1) e l1 (decide ((Go.Sort.partition Go.Sort.ltInt d1 a e p).1 - a ≥ (e - a) / 8)) (Go.Sort.partition Go.Sort.ltInt d1 a e p).2.1
      else
        Go.Sort.pdq Go.Sort.ltInt (Go.Sort.pdq Go.Sort.ltInt (Go.Sort.partition Go.Sort.ltInt d1 a e p).2.2 ((Go.Sort.partition Go.Sort.ltInt d1 a e p).1 + 1) e l1 true true) a (Go.Sort.partition Go.Sort.ltInt d1 a e p).1 l1 (decide (e - (Go.Sort.partition Go.Sort.ltInt d1 a e p).1 ≥ (e - a) / 8)) (Go.Sort.partition Go.Sort.ltInt d1 a e p).2.1 := by
  rw [Go.Sort.pdq, if_neg h12, if_neg hl]
  simp only [hd1, hl1, hc, if_neg hh, hpi, dif_pos hq, dif_pos hr]
theorem parEq_range (d : Array Int) (a e p : Nat) (h : a + 1 < e ∧ e ≤ d.size) (hp : a ≤ p ∧ p < e) : (a < (Go.Sort.partitionEqual Go.Sort.ltInt d a e p).1 ∧ (Go.Sort.partitionEqual Go.Sort.ltInt d a e p).1 ≤ e) ∧ (Go.Sort.partitionEqual Go.Sort.ltInt d a e p).2.size = d.size := by
  have hs := Go.Sort.size_swp d a p
  have := Go.Sort.partEqLoop_spec Go.Sort.ltInt a e _ (a + 1) (e - 1) (Go.Sort.swp d a p) (Nat.le_refl _) (by omega) (by omega) (by omega) (by omega) (fun t h1 h2 => by omega) (fun t h1 h2 => by omega)
  refine ⟨⟨this.1, this.2.1⟩, ?_⟩
  have h3 := this.2.2.1.1
  rw [hs] at h3
  exact h3
theorem par_range (d : Array Int) (a e p : Nat) (h : e ≤ d.size) (hp : a ≤ p ∧ p < e) : (a ≤ (Go.Sort.partition Go.Sort.ltInt d a e p).1 ∧ (Go.Sort.partition Go.Sort.ltInt d a e p).1 < e) ∧ (Go.Sort.partition Go.Sort.ltInt d a e p).2.2.size = d.size := by
  have := Go.Sort.partition_holds Go.Sort.ltInt Go.Sort.swo_ltInt d a e p hp.1 hp.2 h
  exact ⟨⟨this.1, this.2.1⟩, this.2.2.1.1⟩
theorem ins_size (d : Array Int) (a e : Nat) (h1 : a ≤ e) (h : e ≤ d.size) : (Go.Sort.insertionSort Go.Sort.ltInt d a e).size = d.size := (Go.Sort.insertionSort_holds Go.Sort.swo_ltInt d a e h1 h).1.1
theorem heap_size (d : Array Int) (a e : Nat) (h1 : a ≤ e) (h : e ≤ d.size) : (Go.Sort.heapSort Go.Sort.ltInt d a e).size = d.size := (Go.Sort.heapSort_holds Go.Sort.swo_ltInt d a e h1 h).1.1
theorem bp_size (d : Array Int) (a e : Nat) (h1 : a ≤ e) (h : e ≤ d.size) : (Go.Sort.breakPatterns d a e).size = d.size := (Go.Sort.breakPatterns_holds d a e h1 h).1
end Go.Proofs.Ytiodlmmbjjdojaa
