/- Plain facts on worlds: a block known whole, and what a call may change. No program. -/
import Derived.WalkKit
import Derived.WalkSpells
import Derived.WalkLawsBesides
import Derived.Lib.Hide
namespace Go.Proofs.YtjmhnlbkfbieaaaGreat
open Go.RowKit
def vU8 (x : Nat) : Value := .int .u8 x
def vU64 (x : Nat) : Value := .int .u64 x
/-- Block b holds the cells cs, and no cell of it is frozen. -/
def Blk (w : World) (b : Nat) (cs : List Value) : Prop := ∃ T, w.heap[b]? = some (.cells cs.toArray T (0, 0))
theorem Blk.lt {w : World} {b : Nat} {cs : List Value} (h : Blk w b cs) : b < w.heap.size := by
  obtain ⟨T, h⟩ := h
  exact (Array.getElem?_eq_some_iff.1 h).1
theorem Blk.cell {w : World} {b : Nat} {cs : List Value} (h : Blk w b cs) (i : Nat) : w.cell? ⟨b, i, none⟩ = cs[i]? := by
  obtain ⟨T, h⟩ := h
  simp [World.cell?, h]
theorem Blk.frozen {w : World} {b : Nat} {cs : List Value} (h : Blk w b cs) (i : Nat) : w.frozen? ⟨b, i, none⟩ = false := by
  obtain ⟨T, h⟩ := h
  simp [World.frozen?, h]
theorem Blk.of_same {w w' : World} {b : Nat} {cs : List Value} (h : Blk w b cs) (hs : w'.heap[b]? = w.heap[b]?) : Blk w' b cs := by
  obtain ⟨T, h⟩ := h
  exact ⟨T, hs.trans h⟩
theorem Blk.drew {w : World} {b : Nat} {cs : List Value} (h : Blk w b cs) : Blk w.drew b cs := h
theorem Blk.drewN {w : World} {b : Nat} {cs : List Value} (h : Blk w b cs) (n : Nat) : Blk (w.drewN n) b cs := h
theorem Blk.alloc {w : World} {b : Nat} {cs : List Value} (h : Blk w b cs) (o : Obj) : Blk (w.alloc o) b cs :=
  h.of_same (Below.heap_alloc w o b h.lt)
theorem Blk.new (w : World) (cs : List Value) (T : TypeId) : Blk (w.alloc (.cells cs.toArray T)) w.heap.size cs := ⟨T, heap_alloc_new w _⟩
theorem Blk.new_at (w : World) (b : Nat) (cs : List Value) (T : TypeId) (hb : b = w.heap.size) : Blk (w.alloc (.cells cs.toArray T)) b cs := by
  subst hb; exact Blk.new w cs T
theorem Blk.set {w : World} {b : Nat} {cs : List Value} (h : Blk w b cs) (i : Nat) (v : Value) : Blk (w.setCell ⟨b, i, none⟩ v) b (cs.set i v) := by
  obtain ⟨T, h⟩ := h
  refine ⟨T, ?_⟩
  rw [heap_setCell_same w b i cs.toArray T v h]
  simp
theorem Blk.other {w : World} {b : Nat} {cs : List Value} (h : Blk w b cs) (a : Addr) (v : Value) (hb : b ≠ a.block) : Blk (w.setCell a v) b cs :=
  h.of_same (heap_setCell_other w a b v hb)
theorem Blk.rep_at (w : World) (b n : Nat) (v : Value) (T : TypeId) (hb : b = w.heap.size) : Blk (w.alloc (.cells (Array.replicate n v) T)) b (List.replicate n v) := by
  subst hb
  have := Blk.new w (List.replicate n v) T
  rwa [List.toArray_replicate] at this
/-- What a call may change: of the blocks that were there, only those of S; new ones besides. -/
structure Keeps (S : List Nat) (w w' : World) : Prop where
  os : w'.os = w.os
  tape : w'.tape = w.tape
  output : w'.output = w.output
  size : w.heap.size ≤ w'.heap.size
  block : ∀ k, k < w.heap.size → k ∉ S → w'.heap[k]? = w.heap[k]?
theorem Keeps.refl (S : List Nat) (w : World) : Keeps S w w := ⟨rfl, rfl, rfl, Nat.le_refl _, fun _ _ _ => rfl⟩
theorem Keeps.trans {S S' : List Nat} {a b c : World} (h : Keeps S a b) (k : Keeps S' b c) (hs : ∀ i, i ∈ S' → i ∈ S ∨ a.heap.size ≤ i) : Keeps S a c :=
  ⟨k.os.trans h.os, k.tape.trans h.tape, k.output.trans h.output, Nat.le_trans h.size k.size, fun i hi hn =>
    (k.block i (Nat.lt_of_lt_of_le hi h.size) (fun hm => (hs i hm).elim hn (fun hl => absurd hi (Nat.not_lt.2 hl)))).trans (h.block i hi hn)⟩
theorem Keeps.drew {S : List Nat} {a w : World} (h : Keeps S a w) : Keeps S a w.drew := ⟨h.os, h.tape, h.output, h.size, h.block⟩
theorem Keeps.drewN {S : List Nat} {a w : World} (h : Keeps S a w) (n : Nat) : Keeps S a (w.drewN n) := ⟨h.os, h.tape, h.output, h.size, h.block⟩
theorem Keeps.alloc {S : List Nat} {a w : World} (h : Keeps S a w) (o : Obj) : Keeps S a (w.alloc o) :=
  ⟨h.os, h.tape, h.output, Nat.le_trans h.size (by simp), fun i hi hn => by rw [Below.heap_alloc w o i (Nat.lt_of_lt_of_le hi h.size)]; exact h.block i hi hn⟩
theorem Keeps.setCell {S : List Nat} {a w : World} (h : Keeps S a w) (p : Addr) (v : Value) (hp : p.block ∈ S ∨ a.heap.size ≤ p.block) : Keeps S a (w.setCell p v) :=
  ⟨h.os, h.tape, h.output, by simpa using h.size, fun i hi hn => by
    rw [heap_setCell_other w p i v (fun e => by subst e; exact hp.elim hn (fun hl => absurd hi (Nat.not_lt.2 hl)))]; exact h.block i hi hn⟩
theorem Keeps.undrew {S : List Nat} {a w : World} (h : Keeps S a.drew w) : Keeps S a w := ⟨h.os, h.tape, h.output, h.size, h.block⟩
theorem Keeps.undrewN {S : List Nat} {a w : World} {n : Nat} (h : Keeps S (a.drewN n) w) : Keeps S a w := ⟨h.os, h.tape, h.output, h.size, h.block⟩
theorem Keeps.below {w w' : World} (h : Keeps [] w w') : Below w.heap.size w w' := ⟨h.os, h.tape, h.output, h.size, fun k hk => h.block k hk (by simp)⟩
theorem Keeps.of_below {w w' : World} (h : Below w.heap.size w w') (S : List Nat) : Keeps S w w' := ⟨h.os, h.tape, h.output, h.size, fun k hk _ => h.block k hk⟩
theorem Keeps.blk {S : List Nat} {w w' : World} (h : Keeps S w w') {b : Nat} {cs : List Value} (hb : Blk w b cs) (hn : b ∉ S) : Blk w' b cs :=
  hb.of_same (h.block b hb.lt hn)
theorem Keeps.mono {S S' : List Nat} {w w' : World} (h : Keeps S w w') (hs : ∀ i, i ∈ S → i ∈ S' ∨ w.heap.size ≤ i) : Keeps S' w w' :=
  (Keeps.refl S' w).trans h hs
/-- A box of three cells that was laid ahead of a call: what the walk asks of it behind the call. -/
theorem box3 {S : List Nat} {w w1 : World} (k : Keeps S w w1) {b : Nat} {x y z : Value} (hb : Blk w b [x, y, z]) (hn : b ∉ S) :
    w1.cell? ⟨b, 0, none⟩ = some x ∧ w1.cell? ⟨b, 1, none⟩ = some y ∧ w1.cell? ⟨b, 2, none⟩ = some z ∧ (∀ j, w1.frozen? ⟨b, j, none⟩ = false) ∧ b < w1.heap.size := by
  have h := k.blk hb hn
  exact ⟨h.cell 0, h.cell 1, h.cell 2, h.frozen, h.lt⟩
/-- A slice value with one-cell elements: address A, the elements xs. -/
structure Arr (w : World) (b o : Nat) (xs : List Value) : Prop where
  cells : ∀ i, i < xs.length → w.cell? ⟨b, o + i, none⟩ = xs[i]?
  lt : 0 < xs.length → b < w.heap.size
theorem Arr.keeps {S : List Nat} {w w' : World} {b o : Nat} {xs : List Value} (h : Arr w b o xs) (k : Keeps S w w') (hn : b ∉ S) : Arr w' b o xs :=
  ⟨fun i hi => by
    have hl := h.lt (by omega)
    rw [World.cell?_of_block (w := w) (a := ⟨b, o + i, none⟩) (k.block b hl hn)]
    exact h.cells i hi, fun hp => Nat.lt_of_lt_of_le (h.lt hp) k.size⟩
theorem Blk.map_cell {α : Type} {w : World} {b : Nat} {f : α → Value} {xs : List α} (h : Blk w b (xs.map f)) (i : Nat) (x : α) (hx : xs[i]? = some x) : w.cell? ⟨b, i, none⟩ = some (f x) := by
  rw [h.cell]; simp [hx]
theorem Keeps.cellEq {S : List Nat} {w w' : World} (k : Keeps S w w') {b i : Nat} {v : Value} (h : w.cell? ⟨b, i, none⟩ = some v) (hn : b ∉ S) : w'.cell? ⟨b, i, none⟩ = some v :=
  (World.cell?_of_block (w := w) (a := ⟨b, i, none⟩) (k.block b (World.block_lt_of_cell? (w := w) (a := ⟨b, i, none⟩) h) hn)).trans h
theorem ownsRow_keeps {w w' : World} {base e size n : Nat} {v : Value} {xs : List Value} (h : w.ownsRow base e size v n xs) {S : List Nat} (k : Keeps S w w') (hn : ∀ g, v.ownBlock = some g → g ∉ S) : w'.ownsRow base e size v n xs := by
  obtain ⟨h1, h2⟩ := h
  refine ⟨h1, ?_⟩
  rcases h2 with h2 | ⟨g, cap, curr, hv, hg, hh, r⟩
  · exact .inl h2
  · exact .inr ⟨g, cap, curr, hv, hg, by rw [k.block g (Array.getElem?_eq_some_iff.1 hh).1 (hn g (by rw [hv]; rfl))]; exact hh, r⟩
theorem Keeps.of_grownBy {w w' : World} {row : Option Nat} (h : w.grownBy w' row) (S : List Nat) (hS : ∀ g, row = some g → g ∈ S) : Keeps S w w' :=
  ⟨h.os, h.tape, h.output, h.size, fun k hk hn => h.block k hk (fun e => hn (hS k e.symm))⟩
theorem Blk.o1 {w : World} {b : Nat} {x0 : Value} (h : Blk w b [x0]) : w.cell? ⟨b, 0, none⟩ = some x0 ∧ (∀ j, w.frozen? ⟨b, j, none⟩ = false) ∧ b < w.heap.size :=
  ⟨h.cell 0, h.frozen, h.lt⟩
theorem Blk.o2 {w : World} {b : Nat} {x0 x1 : Value} (h : Blk w b [x0, x1]) : w.cell? ⟨b, 0, none⟩ = some x0 ∧ w.cell? ⟨b, 1, none⟩ = some x1 ∧ (∀ j, w.frozen? ⟨b, j, none⟩ = false) ∧ b < w.heap.size :=
  ⟨h.cell 0, h.cell 1, h.frozen, h.lt⟩
theorem Blk.o3 {w : World} {b : Nat} {x0 x1 x2 : Value} (h : Blk w b [x0, x1, x2]) : w.cell? ⟨b, 0, none⟩ = some x0 ∧ w.cell? ⟨b, 1, none⟩ = some x1 ∧ w.cell? ⟨b, 2, none⟩ = some x2 ∧ (∀ j, w.frozen? ⟨b, j, none⟩ = false) ∧ b < w.heap.size :=
  ⟨h.cell 0, h.cell 1, h.cell 2, h.frozen, h.lt⟩
theorem Blk.o4 {w : World} {b : Nat} {x0 x1 x2 x3 : Value} (h : Blk w b [x0, x1, x2, x3]) : w.cell? ⟨b, 0, none⟩ = some x0 ∧ w.cell? ⟨b, 1, none⟩ = some x1 ∧ w.cell? ⟨b, 2, none⟩ = some x2 ∧ w.cell? ⟨b, 3, none⟩ = some x3 ∧ (∀ j, w.frozen? ⟨b, j, none⟩ = false) ∧ b < w.heap.size :=
  ⟨h.cell 0, h.cell 1, h.cell 2, h.cell 3, h.frozen, h.lt⟩
theorem Blk.o5 {w : World} {b : Nat} {x0 x1 x2 x3 x4 : Value} (h : Blk w b [x0, x1, x2, x3, x4]) : w.cell? ⟨b, 0, none⟩ = some x0 ∧ w.cell? ⟨b, 1, none⟩ = some x1 ∧ w.cell? ⟨b, 2, none⟩ = some x2 ∧ w.cell? ⟨b, 3, none⟩ = some x3 ∧ w.cell? ⟨b, 4, none⟩ = some x4 ∧ (∀ j, w.frozen? ⟨b, j, none⟩ = false) ∧ b < w.heap.size :=
  ⟨h.cell 0, h.cell 1, h.cell 2, h.cell 3, h.cell 4, h.frozen, h.lt⟩
theorem Blk.o6 {w : World} {b : Nat} {x0 x1 x2 x3 x4 x5 : Value} (h : Blk w b [x0, x1, x2, x3, x4, x5]) : w.cell? ⟨b, 0, none⟩ = some x0 ∧ w.cell? ⟨b, 1, none⟩ = some x1 ∧ w.cell? ⟨b, 2, none⟩ = some x2 ∧ w.cell? ⟨b, 3, none⟩ = some x3 ∧ w.cell? ⟨b, 4, none⟩ = some x4 ∧ w.cell? ⟨b, 5, none⟩ = some x5 ∧ (∀ j, w.frozen? ⟨b, j, none⟩ = false) ∧ b < w.heap.size :=
  ⟨h.cell 0, h.cell 1, h.cell 2, h.cell 3, h.cell 4, h.cell 5, h.frozen, h.lt⟩
theorem Blk.o7 {w : World} {b : Nat} {x0 x1 x2 x3 x4 x5 x6 : Value} (h : Blk w b [x0, x1, x2, x3, x4, x5, x6]) : w.cell? ⟨b, 0, none⟩ = some x0 ∧ w.cell? ⟨b, 1, none⟩ = some x1 ∧ w.cell? ⟨b, 2, none⟩ = some x2 ∧ w.cell? ⟨b, 3, none⟩ = some x3 ∧ w.cell? ⟨b, 4, none⟩ = some x4 ∧ w.cell? ⟨b, 5, none⟩ = some x5 ∧ w.cell? ⟨b, 6, none⟩ = some x6 ∧ (∀ j, w.frozen? ⟨b, j, none⟩ = false) ∧ b < w.heap.size :=
  ⟨h.cell 0, h.cell 1, h.cell 2, h.cell 3, h.cell 4, h.cell 5, h.cell 6, h.frozen, h.lt⟩
end Go.Proofs.YtjmhnlbkfbieaaaGreat
