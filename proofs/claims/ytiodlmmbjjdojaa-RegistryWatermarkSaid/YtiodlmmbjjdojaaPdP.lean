/- A row of uint64 under the sort: how its cells are read and swapped. -/
import Derived.Test.YtiodlmmbjjdojaaSort
import Derived.Sort.AssemblyPlain
namespace Go.Proofs.Ytiodlmmbjjdojaa
open Go.RowKit
/-- The block b holds d, and then rest. -/
def Rw (w : World) (b : Nat) (rest : List Value) (d : Array Int) : Prop := Blk w b (d.toList.map uV ++ rest)
theorem Rw.cell {w : World} {b : Nat} {rest : List Value} {d : Array Int} (h : Rw w b rest d) (i : Nat) (hi : i < d.size) : w.cell? ⟨b, i, none⟩ = some (.int .u64 d[i]!) := by
  unfold Rw at h
  rw [h.cell, List.getElem?_append_left (by simpa using hi)]
  simp [hi, uV]
theorem Rw.frozen {w : World} {b : Nat} {rest : List Value} {d : Array Int} (h : Rw w b rest d) (i : Nat) : w.frozen? ⟨b, i, none⟩ = false := Blk.frozen h i
theorem Rw.lt {w : World} {b : Nat} {rest : List Value} {d : Array Int} (h : Rw w b rest d) : b < w.heap.size := Blk.lt h
theorem Rw.keeps {S : List Nat} {w w' : World} {b : Nat} {rest : List Value} {d : Array Int} (h : Rw w b rest d) (k : Keeps S w w') (hn : b ∉ S) : Rw w' b rest d := k.blk h hn
theorem Rw.drew {w : World} {b : Nat} {rest : List Value} {d : Array Int} (h : Rw w b rest d) : Rw w.drew b rest d := Blk.drew h
theorem Rw.drewN {w : World} {b : Nat} {rest : List Value} {d : Array Int} (h : Rw w b rest d) (n : Nat) : Rw (w.drewN n) b rest d := Blk.drewN h n
theorem Rw.swp {w : World} {b : Nat} {rest : List Value} {d : Array Int} (h : Rw w b rest d) (i j : Nat) (hi : i < d.size) (hj : j < d.size) :
    Rw ((w.setCell ⟨b, i, none⟩ (.int .u64 d[j]!)).setCell ⟨b, j, none⟩ (.int .u64 d[i]!)) b rest (Go.Sort.swp d i j) := by
  unfold Rw at h ⊢
  have h2 := (h.set i (.int .u64 d[j]!)).set j (.int .u64 d[i]!)
  rw [List.set_append_left _ _ (by simpa using hi), List.set_append_left _ _ (by simpa using hj)] at h2
  simpa [Go.Sort.swp, List.map_set, uV] using h2
theorem keeps_swp {w : World} {S : List Nat} {b : Nat} (hS : b ∈ S) (a : World) (k : Keeps S a w) (i j : Nat) (u v : Value) : Keeps S a ((w.setCell ⟨b, i, none⟩ u).setCell ⟨b, j, none⟩ v) :=
  (k.setCell _ _ (.inl hS)).setCell _ _ (.inl hS)
theorem lt_dec (x y : Int) : Go.Sort.ltInt x y = decide (x < y) := rfl
theorem i64w (x : Int) (h0 : -4611686018427387904 ≤ x) (h1 : x ≤ 4611686018427387904) : IntKind.i64.wrap x = x := IntWalk.i64_in _ ⟨by omega, by omega⟩
theorem w64w (x : Int) (h0 : -4611686018427387904 ≤ x) (h1 : x ≤ 4611686018427387904) : wrap64 x = x := IntWalk.wrap64_in _ ⟨by omega, by omega⟩
theorem sift_stop {hi first root : Nat} {d : Array Int} (h : hi ≤ 2 * root + 1) : Go.Sort.siftDown Go.Sort.ltInt hi first root d = d := by
  rw [Go.Sort.siftDown, dif_pos h]
theorem sift_two {hi first root : Nat} {d : Array Int} (h : 2 * root + 2 < hi) (hl : d[first + (2 * root + 1)]! < d[first + (2 * root + 1) + 1]!) :
    Go.Sort.siftDown Go.Sort.ltInt hi first root d = if d[first + root]! < d[first + (2 * root + 1) + 1]! then Go.Sort.siftDown Go.Sort.ltInt hi first (2 * root + 1 + 1) (Go.Sort.swp d (first + root) (first + (2 * root + 1) + 1)) else d := by
  rw [Go.Sort.siftDown, dif_neg (by omega), if_pos (by simp [Go.Sort.ltInt, hl]; omega), dif_pos h, show first + (2 * root + 2) = first + (2 * root + 1) + 1 by omega]
  by_cases hx : d[first + root]! < d[first + (2 * root + 1) + 1]!
  · rw [if_neg (by simpa [Go.Sort.ltInt] using hx), if_pos hx]
  · rw [if_pos (by simpa [Go.Sort.ltInt] using hx), if_neg hx]
theorem sift_one {hi first root : Nat} {d : Array Int} (h : 2 * root + 1 < hi) (hl : ¬ (2 * root + 2 < hi ∧ d[first + (2 * root + 1)]! < d[first + (2 * root + 1) + 1]!)) :
    Go.Sort.siftDown Go.Sort.ltInt hi first root d = if d[first + root]! < d[first + (2 * root + 1)]! then Go.Sort.siftDown Go.Sort.ltInt hi first (2 * root + 1) (Go.Sort.swp d (first + root) (first + (2 * root + 1))) else d := by
  rw [Go.Sort.siftDown, dif_neg (by omega), if_neg (by simp only [Go.Sort.ltInt, Bool.and_eq_true, decide_eq_true_eq]; exact hl)]
  by_cases hx : d[first + root]! < d[first + (2 * root + 1)]!
  · rw [if_neg (by simpa [Go.Sort.ltInt] using hx), if_pos hx]
  · rw [if_pos (by simpa [Go.Sort.ltInt] using hx), if_neg hx]
theorem scanUp_step {p : Int → Bool} {d : Array Int} {j i : Nat} (h : i ≤ j) (hp : p d[i]! = true) : Go.Sort.scanUp p d j i = Go.Sort.scanUp p d j (i + 1) := by
  conv => lhs; rw [Go.Sort.scanUp, if_pos (by simp [h, hp])]
theorem scanUp_stop {p : Int → Bool} {d : Array Int} {j i : Nat} (h : i ≤ j → p d[i]! = false) : Go.Sort.scanUp p d j i = i := by
  rw [Go.Sort.scanUp, if_neg]
  intro hc
  simp only [Bool.and_eq_true, decide_eq_true_eq] at hc
  rw [h hc.1] at hc
  exact absurd hc.2 (by simp)
theorem scanDown_step {p : Int → Bool} {d : Array Int} {j i : Nat} (h : i ≤ j + 1) (hp : p d[j + 1]! = true) : Go.Sort.scanDown p d i (j + 1) = Go.Sort.scanDown p d i j := by
  rw [Go.Sort.scanDown, if_pos (by simp [h, hp])]
theorem scanDown_stop {p : Int → Bool} {d : Array Int} {j i : Nat} (h : i ≤ j → p d[j]! = false) : Go.Sort.scanDown p d i j = j := by
  cases j with
  | zero => rfl
  | succ j =>
    rw [Go.Sort.scanDown, if_neg]
    intro hc
    simp only [Bool.and_eq_true, decide_eq_true_eq] at hc
    rw [h hc.1] at hc
    exact absurd hc.2 (by simp)
end Go.Proofs.Ytiodlmmbjjdojaa
