/- A memory of shared cells as it lies in the heap: plain facts. No program. -/
import Derived.Test.YtjmhnlbkfbieaaaGreatWorld
namespace Go.Proofs.YtjmhnlbkfbieaaaGreat
open Go.RowKit
structure C3 where
  N : Int
  K : ByteArray
  M : Int
def C3.zero : C3 := ⟨0, ⟨#[]⟩, 0⟩
def C3.vs (x : C3) : List Value := [.int .u64 x.N, .string x.K, .int .u64 x.M]
def flat : List C3 → List Value
  | [] => []
  | x :: l => .int .u64 x.N :: .string x.K :: .int .u64 x.M :: flat l
theorem flat_length (L : List C3) : (flat L).length = L.length * 3 := by
  induction L with
  | nil => rfl
  | cons x l ih => simp [flat, ih]; omega
theorem flat_append (L M : List C3) : flat (L ++ M) = flat L ++ flat M := by
  induction L with
  | nil => rfl
  | cons x l ih => simp [flat, ih]
theorem flat_get (L : List C3) (r : List Value) : ∀ (i : Nat) (x : C3), L[i]? = some x →
    (flat L ++ r)[i * 3]? = some (.int .u64 x.N) ∧ (flat L ++ r)[i * 3 + 1]? = some (.string x.K) ∧ (flat L ++ r)[i * 3 + 2]? = some (.int .u64 x.M) := by
  induction L with
  | nil => intro i x h; simp at h
  | cons y l ih =>
    intro i x h
    cases i with
    | zero => simp at h; subst h; simp [flat]
    | succ i =>
      have := ih i x (by simpa using h)
      have e : (i + 1) * 3 = i * 3 + 3 := by omega
      have e1 : (i + 1) * 3 + 1 = i * 3 + 1 + 3 := by omega
      have e2 : (i + 1) * 3 + 2 = i * 3 + 2 + 3 := by omega
      rw [e1, e2, e]
      simpa [flat] using this
theorem flat_set (x : C3) : ∀ (L : List C3) (i : Nat) (r : List Value), i < L.length →
    (((flat L ++ r).set (i * 3) (.int .u64 x.N)).set (i * 3 + 1) (.string x.K)).set (i * 3 + 2) (.int .u64 x.M) = flat (L.set i x) ++ r := by
  intro L
  induction L with
  | nil => intro i r h; simp at h
  | cons y l ih =>
    intro i r h
    cases i with
    | zero => simp [flat]
    | succ i =>
      have := ih i r (by simpa using h)
      have e : (i + 1) * 3 = i * 3 + 3 := by omega
      have e1 : (i + 1) * 3 + 1 = i * 3 + 1 + 3 := by omega
      have e2 : (i + 1) * 3 + 2 = i * 3 + 2 + 3 := by omega
      rw [e1, e2, e]
      simpa [flat] using this
theorem flat_cells {w : World} {b : Nat} {X : List C3} {r : List Value} (h : Blk w b (flat X ++ r)) (i : Nat) (x : C3) (hx : X[i]? = some x) :
    w.cell? ⟨b, i * 3, none⟩ = some (.int .u64 x.N) ∧ w.cell? ⟨b, i * 3 + 1, none⟩ = some (.string x.K) ∧ w.cell? ⟨b, i * 3 + 2, none⟩ = some (.int .u64 x.M) := by
  rw [h.cell, h.cell, h.cell]
  exact flat_get X r i x hx
theorem flat_put {w : World} {b : Nat} {X : List C3} {r : List Value} (h : Blk w b (flat X ++ r)) (i : Nat) (hi : i < X.length) (N M : Int) (K : ByteArray) :
    Blk (((w.setCell ⟨b, i * 3, none⟩ (.int .u64 N)).setCell ⟨b, i * 3 + 1, none⟩ (.string K)).setCell ⟨b, i * 3 + 2, none⟩ (.int .u64 M)) b (flat (X.set i ⟨N, K, M⟩) ++ r) := by
  have := ((h.set (i * 3) (.int .u64 N)).set (i * 3 + 1) (.string K)).set (i * 3 + 2) (.int .u64 M)
  rwa [flat_set ⟨N, K, M⟩ X i r hi] at this
/-- Block m is a memory.Memory whose cells lie in block c: they hold L; n accesses were made. -/
structure MemAt (w : World) (m c : Nat) (L : List C3) (n : Int) : Prop where
  head : ∃ cap, Blk w m [.slice (some ⟨c, 0, none⟩) L.length cap, .int .u64 n]
  cells : ∃ rest, Blk w c (flat L ++ rest)
  ne : m ≠ c
  small : L.length ≤ 1048576
  pos : 1 ≤ L.length
theorem MemAt.lt {w : World} {m c : Nat} {L : List C3} {n : Int} (h : MemAt w m c L n) : m < w.heap.size ∧ c < w.heap.size := by
  obtain ⟨cap, h1⟩ := h.head
  obtain ⟨r, h2⟩ := h.cells
  exact ⟨h1.lt, h2.lt⟩
theorem MemAt.of_same {w w' : World} {m c : Nat} {L : List C3} {n : Int} (h : MemAt w m c L n) (hm : w'.heap[m]? = w.heap[m]?) (hc : w'.heap[c]? = w.heap[c]?) : MemAt w' m c L n :=
  ⟨h.head.imp fun _ h => h.of_same hm, h.cells.imp fun _ h => h.of_same hc, h.ne, h.small, h.pos⟩
theorem MemAt.keeps {w w' : World} {m c : Nat} {L : List C3} {n : Int} (h : MemAt w m c L n) {S : List Nat} (k : Keeps S w w') (hm : m ∉ S) (hc : c ∉ S) : MemAt w' m c L n :=
  h.of_same (k.block m h.lt.1 hm) (k.block c h.lt.2 hc)
theorem MemAt.drew {w : World} {m c : Nat} {L : List C3} {n : Int} (h : MemAt w m c L n) : MemAt w.drew m c L n := ⟨h.head, h.cells, h.ne, h.small, h.pos⟩
theorem MemAt.drewN {w : World} {m c : Nat} {L : List C3} {n : Int} (h : MemAt w m c L n) (k : Nat) : MemAt (w.drewN k) m c L n := ⟨h.head, h.cells, h.ne, h.small, h.pos⟩
theorem MemAt.alloc {w : World} {m c : Nat} {L : List C3} {n : Int} (h : MemAt w m c L n) (o : Obj) : MemAt (w.alloc o) m c L n :=
  h.of_same (Below.heap_alloc w o m h.lt.1) (Below.heap_alloc w o c h.lt.2)
theorem MemAt.other {w : World} {m c : Nat} {L : List C3} {n : Int} (h : MemAt w m c L n) (a : Addr) (v : Value) (hm : m ≠ a.block) (hc : c ≠ a.block) : MemAt (w.setCell a v) m c L n :=
  h.of_same (heap_setCell_other w a m v hm) (heap_setCell_other w a c v hc)
theorem MemAt.count {w : World} {m c : Nat} {L : List C3} {n : Int} (h : MemAt w m c L n) (n' : Int) : MemAt (w.setCell ⟨m, 1, none⟩ (.int .u64 n')) m c L n' := by
  obtain ⟨cap, h1⟩ := h.head
  obtain ⟨r, h2⟩ := h.cells
  exact ⟨⟨cap, h1.set 1 _⟩, ⟨r, h2.other _ _ (fun e => h.ne e.symm)⟩, h.ne, h.small, h.pos⟩
theorem MemAt.put {w : World} {m c : Nat} {L : List C3} {n : Int} (h : MemAt w m c L n) (i : Nat) (hi : i < L.length) (N M : Int) (K : ByteArray) :
    MemAt (((w.setCell ⟨c, i * 3, none⟩ (.int .u64 N)).setCell ⟨c, i * 3 + 1, none⟩ (.string K)).setCell ⟨c, i * 3 + 2, none⟩ (.int .u64 M)) m c (L.set i ⟨N, K, M⟩) n := by
  obtain ⟨cap, h1⟩ := h.head
  obtain ⟨r, h2⟩ := h.cells
  refine ⟨⟨cap, ?_⟩, ⟨r, ?_⟩, h.ne, by simpa using h.small, by simpa using h.pos⟩
  · rw [List.length_set]
    exact ((h1.other _ _ h.ne).other _ _ h.ne).other _ _ h.ne
  · have := ((h2.set (i * 3) (.int .u64 N)).set (i * 3 + 1) (.string K)).set (i * 3 + 2) (.int .u64 M)
    rwa [flat_set ⟨N, K, M⟩ L i r hi] at this
/-- The facts on cells that a walk reads. -/
theorem MemAt.facts {w : World} {m c : Nat} {L : List C3} {n : Int} (h : MemAt w m c L n) :
    (∃ cap, w.cell? ⟨m, 0, none⟩ = some (.slice (some ⟨c, 0, none⟩) L.length cap)) ∧ w.cell? ⟨m, 1, none⟩ = some (.int .u64 n) ∧
      (∀ j, w.frozen? ⟨m, j, none⟩ = false) ∧ (∀ j, w.frozen? ⟨c, j, none⟩ = false) ∧ m < w.heap.size ∧ c < w.heap.size := by
  obtain ⟨cap, h1⟩ := h.head
  obtain ⟨r, h2⟩ := h.cells
  exact ⟨⟨cap, h1.cell 0⟩, h1.cell 1, h1.frozen, h2.frozen, h1.lt, h2.lt⟩
theorem MemAt.at_ {w : World} {m c : Nat} {L : List C3} {n : Int} (h : MemAt w m c L n) (i : Nat) (x : C3) (hx : L[i]? = some x) :
    w.cell? ⟨c, i * 3, none⟩ = some (.int .u64 x.N) ∧ w.cell? ⟨c, i * 3 + 1, none⟩ = some (.string x.K) ∧ w.cell? ⟨c, i * 3 + 2, none⟩ = some (.int .u64 x.M) := by
  obtain ⟨r, h2⟩ := h.cells
  rw [h2.cell, h2.cell, h2.cell]
  exact flat_get L r i x hx
/-- The cell at i, or the zero cell. -/
def memAt (L : List C3) (i : Int) : C3 := if 0 ≤ i then L.getD i.toNat C3.zero else C3.zero
def memIn (L : List C3) (i : Int) : Bool := decide (0 ≤ i ∧ i < L.length)
def memSet (L : List C3) (i : Int) (x : C3) : List C3 := if 0 ≤ i then L.set i.toNat x else L
theorem memSet_length (L : List C3) (i : Int) (x : C3) : (memSet L i x).length = L.length := by unfold memSet; split <;> simp
theorem memAt_out (L : List C3) (i : Int) (h : memIn L i = false) : memAt L i = C3.zero := by
  unfold memAt
  unfold memIn at h
  simp only [decide_eq_false_iff_not] at h
  split
  · rw [List.getD_eq_getElem?_getD, List.getElem?_eq_none (by omega)]; rfl
  · rfl
theorem memSet_out (L : List C3) (i : Int) (x : C3) (h : memIn L i = false) : memSet L i x = L := by
  unfold memSet
  unfold memIn at h
  simp only [decide_eq_false_iff_not] at h
  split
  · rw [List.set_eq_of_length_le (by omega)]
  · rfl
theorem memIn_nat (L : List C3) (i : Int) (h : memIn L i = true) : ∃ j : Nat, i = j ∧ j < L.length := by
  unfold memIn at h
  simp only [decide_eq_true_eq] at h
  exact ⟨i.toNat, by omega, by omega⟩
theorem memAt_nat (L : List C3) (j : Nat) (h : j < L.length) : L[j]? = some (memAt L j) := by
  unfold memAt
  rw [if_pos (by omega)]
  simp [h]
theorem memSet_nat (L : List C3) (j : Nat) (x : C3) : memSet L j x = L.set j x := by
  unfold memSet
  rw [if_pos (by omega)]
  simp
theorem made_flat (k : Nat) : madeCells #[.int .u64 0, .string ⟨#[]⟩, .int .u64 0] (k * 3) = (flat (List.replicate k C3.zero)).toArray := by
  apply Array.ext'
  apply List.ext_getElem?
  intro i
  have hl := flat_length (List.replicate k C3.zero)
  rw [List.length_replicate] at hl
  by_cases hi : i < k * 3
  · obtain ⟨f0, f1, f2⟩ := flat_get (List.replicate k C3.zero) [] (i / 3) C3.zero (by rw [List.getElem?_replicate, if_pos (by omega)])
    rw [List.append_nil] at f0 f1 f2
    have e0 : (madeCells #[.int .u64 0, .string ⟨#[]⟩, .int .u64 0] (k * 3)).toList[i]? = some ((#[.int .u64 0, .string ⟨#[]⟩, .int .u64 0] : Array Value)[i % 3]!) := by
      simp [madeCells, hi]
    rw [e0]
    rcases (by omega : i % 3 = 0 ∨ i % 3 = 1 ∨ i % 3 = 2) with h | h | h
    · rw [show i / 3 * 3 = i by omega] at f0; rw [h]; exact f0.symm
    · rw [show i / 3 * 3 + 1 = i by omega] at f1; rw [h]; exact f1.symm
    · rw [show i / 3 * 3 + 2 = i by omega] at f2; rw [h]; exact f2.symm
  · rw [List.getElem?_eq_none (by simp [madeCells]; omega), List.getElem?_eq_none (by simp; omega)]
end Go.Proofs.YtjmhnlbkfbieaaaGreat
