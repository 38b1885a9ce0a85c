/- Lemmas on the way to LinearRejects. No condition. -/
import Derived.WalkKit
import Derived.WalkSpells
import Derived.WalkLawsBesides
import Derived.Lib.Hide
import Derived.Laws.AppendOwn
import Derived.Laws.CopyRow
import Derived.Lib.AppendZeros
import Derived.Sort.Walk0
import Derived.Test.YtbcgpjfejpcgnaaGreatChecked
import Derived.Deep.RegionHeld3
import Derived.Deep.QuietTactic
import Derived.BigQuiet
import Derived.Deep.CutBlock
set_option linter.unusedSimpArgs false
set_option linter.unusedVariables false
set_option linter.unusedSectionVars false
section
namespace Go.Proofs.YtbcgpjfejpcgnaaGreat
open Go.RowKit
def Blk (w : World) (b : Nat) (cs : List Value) : Prop := ∃ T, w.heap[b]? = some (.cells cs.toArray T (0, 0))
theorem Blk.lt {w : World} {b : Nat} {cs : List Value} (h : Blk w b cs) : b < w.heap.size := by
  obtain ⟨T, h⟩ := h
  exact (Array.getElem?_eq_some_iff.1 h).1
theorem Blk.cell {w : World} {b : Nat} {cs : List Value} (h : Blk w b cs) (i : Nat) : w.cell? ⟨b, i, none⟩ = cs[i]? := by
  obtain ⟨T, h⟩ := h
  simp [World.cell?, h]
theorem Blk.frozen {w : World} {b : Nat} {cs : List Value} (h : Blk w b cs) (i : Nat) : w.frozen? ⟨b, i, none⟩ = false := by
  obtain ⟨T, h⟩ := h
  simp [World.frozen?, h]
theorem Blk.of_same {w w' : World} {b : Nat} {cs : List Value} (h : Blk w b cs) (hs : w'.heap[b]? = w.heap[b]?) : Blk w' b cs := by
  obtain ⟨T, h⟩ := h
  exact ⟨T, hs.trans h⟩
theorem Blk.drew {w : World} {b : Nat} {cs : List Value} (h : Blk w b cs) : Blk w.drew b cs := h
theorem Blk.drewN {w : World} {b : Nat} {cs : List Value} (h : Blk w b cs) (n : Nat) : Blk (w.drewN n) b cs := h
theorem Blk.alloc {w : World} {b : Nat} {cs : List Value} (h : Blk w b cs) (o : Obj) : Blk (w.alloc o) b cs :=
  h.of_same (Below.heap_alloc w o b h.lt)
theorem Blk.new (w : World) (cs : List Value) (T : TypeId) : Blk (w.alloc (.cells cs.toArray T)) w.heap.size cs := ⟨T, heap_alloc_new w _⟩
theorem Blk.new_at (w : World) (b : Nat) (cs : List Value) (T : TypeId) (hb : b = w.heap.size) : Blk (w.alloc (.cells cs.toArray T)) b cs := by
  subst hb; exact Blk.new w cs T
theorem Blk.set {w : World} {b : Nat} {cs : List Value} (h : Blk w b cs) (i : Nat) (v : Value) : Blk (w.setCell ⟨b, i, none⟩ v) b (cs.set i v) := by
  obtain ⟨T, h⟩ := h
  refine ⟨T, ?_⟩
  rw [heap_setCell_same w b i cs.toArray T v h]
  simp
theorem Blk.other {w : World} {b : Nat} {cs : List Value} (h : Blk w b cs) (a : Addr) (v : Value) (hb : b ≠ a.block) : Blk (w.setCell a v) b cs :=
  h.of_same (heap_setCell_other w a b v hb)
structure Keeps (S : List Nat) (w w' : World) : Prop where
  os : w'.os = w.os
  tape : w'.tape = w.tape
  output : w'.output = w.output
  size : w.heap.size ≤ w'.heap.size
  block : ∀ k, k < w.heap.size → k ∉ S → w'.heap[k]? = w.heap[k]?
theorem Keeps.refl (S : List Nat) (w : World) : Keeps S w w := ⟨rfl, rfl, rfl, Nat.le_refl _, fun _ _ _ => rfl⟩
theorem Keeps.trans {S S' : List Nat} {a b c : World} (h : Keeps S a b) (k : Keeps S' b c) (hs : ∀ i, i ∈ S' → i ∈ S ∨ a.heap.size ≤ i) : Keeps S a c :=
  ⟨k.os.trans h.os, k.tape.trans h.tape, k.output.trans h.output, Nat.le_trans h.size k.size, fun i hi hn =>
    (k.block i (Nat.lt_of_lt_of_le hi h.size) (fun hm => (hs i hm).elim hn (fun hl => absurd hi (Nat.not_lt.2 hl)))).trans (h.block i hi hn)⟩
theorem Keeps.drew {S : List Nat} {a w : World} (h : Keeps S a w) : Keeps S a w.drew := ⟨h.os, h.tape, h.output, h.size, h.block⟩
theorem Keeps.drewN {S : List Nat} {a w : World} (h : Keeps S a w) (n : Nat) : Keeps S a (w.drewN n) := ⟨h.os, h.tape, h.output, h.size, h.block⟩
theorem Keeps.alloc {S : List Nat} {a w : World} (h : Keeps S a w) (o : Obj) : Keeps S a (w.alloc o) :=
  ⟨h.os, h.tape, h.output, Nat.le_trans h.size (by simp), fun i hi hn => by rw [Below.heap_alloc w o i (Nat.lt_of_lt_of_le hi h.size)]; exact h.block i hi hn⟩
theorem Keeps.setCell {S : List Nat} {a w : World} (h : Keeps S a w) (p : Addr) (v : Value) (hp : p.block ∈ S ∨ a.heap.size ≤ p.block) : Keeps S a (w.setCell p v) :=
  ⟨h.os, h.tape, h.output, by simpa using h.size, fun i hi hn => by
    rw [heap_setCell_other w p i v (fun e => by subst e; exact hp.elim hn (fun hl => absurd hi (Nat.not_lt.2 hl)))]; exact h.block i hi hn⟩
theorem Keeps.undrew {S : List Nat} {a w : World} (h : Keeps S a.drew w) : Keeps S a w := ⟨h.os, h.tape, h.output, h.size, h.block⟩
theorem Keeps.below {w w' : World} (h : Keeps [] w w') : Below w.heap.size w w' := ⟨h.os, h.tape, h.output, h.size, fun k hk => h.block k hk (by simp)⟩
theorem Keeps.blk {S : List Nat} {w w' : World} (h : Keeps S w w') {b : Nat} {cs : List Value} (hb : Blk w b cs) (hn : b ∉ S) : Blk w' b cs :=
  hb.of_same (h.block b hb.lt hn)
theorem Keeps.mono {S S' : List Nat} {w w' : World} (h : Keeps S w w') (hs : ∀ i, i ∈ S → i ∈ S' ∨ w.heap.size ≤ i) : Keeps S' w w' :=
  (Keeps.refl S' w).trans h hs
structure Arr (w : World) (b o : Nat) (xs : List Value) : Prop where
  cells : ∀ i, i < xs.length → w.cell? ⟨b, o + i, none⟩ = xs[i]?
  lt : 0 < xs.length → b < w.heap.size
theorem Arr.keeps {S : List Nat} {w w' : World} {b o : Nat} {xs : List Value} (h : Arr w b o xs) (k : Keeps S w w') (hn : b ∉ S) : Arr w' b o xs :=
  ⟨fun i hi => by
    have hl := h.lt (by omega)
    rw [World.cell?_of_block (w := w) (a := ⟨b, o + i, none⟩) (k.block b hl hn)]
    exact h.cells i hi, fun hp => Nat.lt_of_lt_of_le (h.lt hp) k.size⟩
theorem Keeps.cellEq {S : List Nat} {w w' : World} (k : Keeps S w w') {b i : Nat} {v : Value} (h : w.cell? ⟨b, i, none⟩ = some v) (hn : b ∉ S) : w'.cell? ⟨b, i, none⟩ = some v :=
  (World.cell?_of_block (w := w) (a := ⟨b, i, none⟩) (k.block b (World.block_lt_of_cell? (w := w) (a := ⟨b, i, none⟩) h) hn)).trans h
theorem Keeps.of_grownBy {w w' : World} {row : Option Nat} (h : w.grownBy w' row) (S : List Nat) (hS : ∀ g, row = some g → g ∈ S) : Keeps S w w' :=
  ⟨h.os, h.tape, h.output, h.size, fun k hk hn => h.block k hk (fun e => hn (hS k e.symm))⟩
theorem Blk.o1 {w : World} {b : Nat} {x0 : Value} (h : Blk w b [x0]) : w.cell? ⟨b, 0, none⟩ = some x0 ∧ (∀ j, w.frozen? ⟨b, j, none⟩ = false) ∧ b < w.heap.size :=
  ⟨h.cell 0, h.frozen, h.lt⟩
theorem Blk.o2 {w : World} {b : Nat} {x0 x1 : Value} (h : Blk w b [x0, x1]) : w.cell? ⟨b, 0, none⟩ = some x0 ∧ w.cell? ⟨b, 1, none⟩ = some x1 ∧ (∀ j, w.frozen? ⟨b, j, none⟩ = false) ∧ b < w.heap.size :=
  ⟨h.cell 0, h.cell 1, h.frozen, h.lt⟩
theorem Blk.o3 {w : World} {b : Nat} {x0 x1 x2 : Value} (h : Blk w b [x0, x1, x2]) : w.cell? ⟨b, 0, none⟩ = some x0 ∧ w.cell? ⟨b, 1, none⟩ = some x1 ∧ w.cell? ⟨b, 2, none⟩ = some x2 ∧ (∀ j, w.frozen? ⟨b, j, none⟩ = false) ∧ b < w.heap.size :=
  ⟨h.cell 0, h.cell 1, h.cell 2, h.frozen, h.lt⟩
theorem Blk.o4 {w : World} {b : Nat} {x0 x1 x2 x3 : Value} (h : Blk w b [x0, x1, x2, x3]) : w.cell? ⟨b, 0, none⟩ = some x0 ∧ w.cell? ⟨b, 1, none⟩ = some x1 ∧ w.cell? ⟨b, 2, none⟩ = some x2 ∧ w.cell? ⟨b, 3, none⟩ = some x3 ∧ (∀ j, w.frozen? ⟨b, j, none⟩ = false) ∧ b < w.heap.size :=
  ⟨h.cell 0, h.cell 1, h.cell 2, h.cell 3, h.frozen, h.lt⟩
theorem Blk.o5 {w : World} {b : Nat} {x0 x1 x2 x3 x4 : Value} (h : Blk w b [x0, x1, x2, x3, x4]) : w.cell? ⟨b, 0, none⟩ = some x0 ∧ w.cell? ⟨b, 1, none⟩ = some x1 ∧ w.cell? ⟨b, 2, none⟩ = some x2 ∧ w.cell? ⟨b, 3, none⟩ = some x3 ∧ w.cell? ⟨b, 4, none⟩ = some x4 ∧ (∀ j, w.frozen? ⟨b, j, none⟩ = false) ∧ b < w.heap.size :=
  ⟨h.cell 0, h.cell 1, h.cell 2, h.cell 3, h.cell 4, h.frozen, h.lt⟩
theorem Blk.o6 {w : World} {b : Nat} {x0 x1 x2 x3 x4 x5 : Value} (h : Blk w b [x0, x1, x2, x3, x4, x5]) : w.cell? ⟨b, 0, none⟩ = some x0 ∧ w.cell? ⟨b, 1, none⟩ = some x1 ∧ w.cell? ⟨b, 2, none⟩ = some x2 ∧ w.cell? ⟨b, 3, none⟩ = some x3 ∧ w.cell? ⟨b, 4, none⟩ = some x4 ∧ w.cell? ⟨b, 5, none⟩ = some x5 ∧ (∀ j, w.frozen? ⟨b, j, none⟩ = false) ∧ b < w.heap.size :=
  ⟨h.cell 0, h.cell 1, h.cell 2, h.cell 3, h.cell 4, h.cell 5, h.frozen, h.lt⟩
theorem Blk.o7 {w : World} {b : Nat} {x0 x1 x2 x3 x4 x5 x6 : Value} (h : Blk w b [x0, x1, x2, x3, x4, x5, x6]) : w.cell? ⟨b, 0, none⟩ = some x0 ∧ w.cell? ⟨b, 1, none⟩ = some x1 ∧ w.cell? ⟨b, 2, none⟩ = some x2 ∧ w.cell? ⟨b, 3, none⟩ = some x3 ∧ w.cell? ⟨b, 4, none⟩ = some x4 ∧ w.cell? ⟨b, 5, none⟩ = some x5 ∧ w.cell? ⟨b, 6, none⟩ = some x6 ∧ (∀ j, w.frozen? ⟨b, j, none⟩ = false) ∧ b < w.heap.size :=
  ⟨h.cell 0, h.cell 1, h.cell 2, h.cell 3, h.cell 4, h.cell 5, h.cell 6, h.frozen, h.lt⟩
end Go.Proofs.YtbcgpjfejpcgnaaGreat
end
section
namespace Go.Proofs.YtbcgpjfejpcgnaaGreat
abbrev Str := List UInt8
structure Ent where
  k : Str
  v : Str
structure Wrt where
  k : Str
  v : Str
  d : Bool
theorem slt_irrefl (a : Str) : ¬ a < a := List.lt_irrefl a
theorem slt_trans {a b c : Str} (h : a < b) (h' : b < c) : a < c := List.lt_trans h h'
theorem slt_asymm {a b : Str} (h : a < b) : ¬ b < a := List.lt_asymm h
theorem slt_tri {a b : Str} (h : ¬ a < b) (h' : ¬ b < a) : a = b := List.le_antisymm (α := UInt8) («as» := a) (bs := b) (List.not_lt.1 h') (List.not_lt.1 h)
theorem slt_ne {a b : Str} (h : a < b) : a ≠ b := fun e => by subst e; exact slt_irrefl _ h
theorem slt_of {a b : Str} (h : ¬ a < b) (h' : a ≠ b) : b < a := by
  by_cases h2 : b < a
  · exact h2
  · exact absurd (slt_tri h h2) h'
theorem sle_trans {a b c : Str} (h : ¬ b < a) (h' : b < c) : a < c := by
  by_cases e : a = b
  · subst e; exact h'
  · exact slt_trans (slt_of h (fun x => e x.symm)) h'
def Asc (l : List Ent) : Prop := l.Pairwise (fun a b => a.k < b.k)
def lk : List Ent → Str → Option Str
  | [], _ => none
  | e :: t, k => if e.k = k then some e.v else lk t k
theorem lk_none {l : List Ent} {k : Str} (h : ∀ x ∈ l, x.k ≠ k) : lk l k = none := by
  induction l with
  | nil => rfl
  | cons e t ih => rw [lk, if_neg (h e (by simp)), ih (fun x hx => h x (by simp [hx]))]
def putR (e : Ent) : List Ent → List Ent
  | [] => [e]
  | x :: xs => if x.k < e.k then x :: putR e xs else e :: (x :: xs).filter (fun y => decide (y.k ≠ e.k))
def dropR (k : Str) (l : List Ent) : List Ent := l.filter (fun y => decide (y.k ≠ k))
theorem mem_putR {e x : Ent} {l : List Ent} (h : x ∈ putR e l) : x = e ∨ x ∈ l := by
  induction l with
  | nil => simpa [putR] using h
  | cons y ys ih =>
    rw [putR] at h
    split at h
    · rcases List.mem_cons.1 h with rfl | h
      · exact .inr (by simp)
      · rcases ih h with h | h
        · exact .inl h
        · exact .inr (by simp [h])
    · rcases List.mem_cons.1 h with rfl | h
      · exact .inl rfl
      · exact .inr (List.mem_filter.1 h).1
theorem asc_dropR {l : List Ent} (k : Str) (h : Asc l) : Asc (dropR k l) := h.filter _
theorem asc_putR {l : List Ent} (e : Ent) (h : Asc l) : Asc (putR e l) := by
  induction l with
  | nil => simp [putR, Asc]
  | cons x xs ih =>
    have h' := List.pairwise_cons.1 h
    rw [putR]
    split
    · rename_i hlt
      refine List.pairwise_cons.2 ⟨fun y hy => ?_, ih h'.2⟩
      rcases mem_putR hy with rfl | hy
      · exact hlt
      · exact h'.1 y hy
    · rename_i hlt
      refine List.pairwise_cons.2 ⟨fun y hy => ?_, h.filter _⟩
      obtain ⟨hy, hne⟩ := List.mem_filter.1 hy
      have hne : y.k ≠ e.k := by simpa using hne
      rcases List.mem_cons.1 hy with rfl | hy
      · exact slt_of hlt hne
      · exact sle_trans hlt (h'.1 y hy)
def stepR (l : List Ent) (w : Wrt) : List Ent := if w.d then dropR w.k l else putR ⟨w.k, w.v⟩ l
def applyR (l : List Ent) (b : List Wrt) : List Ent := b.foldl stepR l
theorem asc_stepR {l : List Ent} (w : Wrt) (h : Asc l) : Asc (stepR l w) := by
  unfold stepR; split
  · exact asc_dropR _ h
  · exact asc_putR _ h
theorem asc_applyR {l : List Ent} (b : List Wrt) (h : Asc l) : Asc (applyR l b) := by
  induction b generalizing l with
  | nil => exact h
  | cons w b ih => exact ih (asc_stepR w h)
theorem putR_split (e : Ent) (A B : List Ent) (hA : ∀ x ∈ A, x.k < e.k) (hB : ∀ x ∈ B, e.k < x.k) : putR e (A ++ B) = A ++ e :: B := by
  induction A with
  | nil =>
    cases B with
    | nil => rfl
    | cons b B =>
      have hf : (b :: B).filter (fun y => decide (y.k ≠ e.k)) = b :: B := List.filter_eq_self.2 fun x hx => by simp only [decide_eq_true_eq]; exact fun y => slt_ne (hB x hx) y.symm
      rw [List.nil_append, putR, if_neg (slt_asymm (hB b (by simp))), hf, List.nil_append]
  | cons a A ih => rw [List.cons_append, putR, if_pos (hA a (by simp)), ih (fun x hx => hA x (by simp [hx])), List.cons_append]
theorem putR_split' (e : Ent) (v : Str) (A B : List Ent) (hA : ∀ x ∈ A, x.k < e.k) (hB : ∀ x ∈ B, e.k < x.k) : putR e (A ++ ⟨e.k, v⟩ :: B) = A ++ e :: B := by
  induction A with
  | nil =>
    have hf : B.filter (fun y => decide (y.k ≠ e.k)) = B := List.filter_eq_self.2 fun x hx => by simp only [decide_eq_true_eq]; exact fun y => slt_ne (hB x hx) y.symm
    rw [List.nil_append, putR, if_neg (slt_irrefl _), List.filter_cons_of_neg (by simp), hf, List.nil_append]
  | cons a A ih => rw [List.cons_append, putR, if_pos (hA a (by simp)), ih (fun x hx => hA x (by simp [hx])), List.cons_append]
theorem dropR_split (k : Str) (A B : List Ent) (hA : ∀ x ∈ A, x.k < k) (hB : ∀ x ∈ B, k < x.k) : dropR k (A ++ B) = A ++ B := by
  refine List.filter_eq_self.2 fun x hx => ?_
  simp only [decide_eq_true_eq]
  rcases List.mem_append.1 hx with h | h
  · exact slt_ne (hA x h)
  · exact fun y => slt_ne (hB x h) y.symm
theorem dropR_split' (k v : Str) (A B : List Ent) (hA : ∀ x ∈ A, x.k < k) (hB : ∀ x ∈ B, k < x.k) : dropR k (A ++ ⟨k, v⟩ :: B) = A ++ B := by
  have := dropR_split k A B hA hB
  unfold dropR at this ⊢
  rw [List.filter_append, List.filter_cons_of_neg (by simp), ← List.filter_append, this]
def okW (w : Wrt) : Bool := decide (w.k.length ≤ 32) && decide (w.v.length ≤ 64)
def okD (w : Wrt) : Bool := !w.d || decide (w.v = [])
def checkR (tl iv : Int) (b : List Wrt) : Int := if 16 < b.length then tl else if b.all okW then (if b.all okD then 0 else iv) else tl
theorem length_putR_le (e : Ent) (l : List Ent) : (putR e l).length ≤ l.length + 1 := by
  induction l with
  | nil => simp [putR]
  | cons x xs ih =>
    rw [putR]
    split
    · simp; omega
    · have := List.length_filter_le (fun y : Ent => decide (y.k ≠ e.k)) (x :: xs)
      simp only [List.length_cons] at this ⊢; omega
theorem length_stepR_le (l : List Ent) (w : Wrt) : (stepR l w).length ≤ l.length + 1 := by
  unfold stepR; split
  · have := List.length_filter_le (fun y : Ent => decide (y.k ≠ w.k)) l
    unfold dropR; omega
  · exact length_putR_le _ _
theorem length_applyR (l : List Ent) (b : List Wrt) : (applyR l b).length ≤ l.length + b.length := by
  induction b generalizing l with
  | nil => simp [applyR]
  | cons w b ih =>
    have h1 := ih (stepR l w)
    have h2 := length_stepR_le l w
    rw [show applyR l (w :: b) = applyR (stepR l w) b from rfl, List.length_cons]; omega
end Go.Proofs.YtbcgpjfejpcgnaaGreat
end
section
namespace Go.Proofs.YtbcgpjfejpcgnaaGreat
open Go.RowKit
def eC (e : Ent) : List Value := [.string ⟨e.k.toArray⟩, .string ⟨e.v.toArray⟩]
def wC (w : Wrt) : List Value := [.string ⟨w.k.toArray⟩, .string ⟨w.v.toArray⟩, .bool w.d]
def eCs (l : List Ent) : List Value := l.flatMap eC
def wCs (l : List Wrt) : List Value := l.flatMap wC
theorem eCs_append (l m : List Ent) : eCs (l ++ m) = eCs l ++ eCs m := by simp [eCs]
theorem eCs_one (e : Ent) : eCs [e] = eC e := by simp [eCs]
theorem eCs_cons (e : Ent) (l : List Ent) : eCs (e :: l) = eC e ++ eCs l := by simp [eCs]
theorem eCs_length (l : List Ent) : (eCs l).length = l.length * 2 := by
  induction l with
  | nil => rfl
  | cons e l ih => rw [eCs_cons, List.length_append, ih, List.length_cons]; simp [eC]; omega
theorem wCs_cons (e : Wrt) (l : List Wrt) : wCs (e :: l) = wC e ++ wCs l := by simp [wCs]
theorem wCs_length (l : List Wrt) : (wCs l).length = l.length * 3 := by
  induction l with
  | nil => rfl
  | cons e l ih => rw [wCs_cons, List.length_append, ih, List.length_cons]; simp [wC]; omega
theorem eCs_cells (l : List Ent) (i : Nat) (e : Ent) (h : l[i]? = some e) (r : List Value) : (eCs l ++ r)[i * 2]? = some (.string ⟨e.k.toArray⟩) ∧ (eCs l ++ r)[i * 2 + 1]? = some (.string ⟨e.v.toArray⟩) := by
  induction l generalizing i with
  | nil => simp at h
  | cons x l ih =>
    cases i with
    | zero => simp at h; subst h; simp [eCs_cons, eC]
    | succ i =>
      obtain ⟨h1, h2⟩ := ih i (by simpa using h)
      rw [eCs_cons, show (i + 1) * 2 = i * 2 + 2 by omega]
      refine ⟨?_, ?_⟩
      · simpa [eC, List.append_assoc] using h1
      · rw [show i * 2 + 2 + 1 = i * 2 + 1 + 2 by omega]; simpa [eC, List.append_assoc] using h2
theorem wCs_cells (l : List Wrt) (i : Nat) (e : Wrt) (h : l[i]? = some e) (r : List Value) : (wCs l ++ r)[i * 3]? = some (.string ⟨e.k.toArray⟩) ∧ (wCs l ++ r)[i * 3 + 1]? = some (.string ⟨e.v.toArray⟩) ∧ (wCs l ++ r)[i * 3 + 2]? = some (.bool e.d) := by
  induction l generalizing i with
  | nil => simp at h
  | cons x l ih =>
    cases i with
    | zero => simp at h; subst h; simp [wCs_cons, wC]
    | succ i =>
      obtain ⟨h1, h2, h3⟩ := ih i (by simpa using h)
      rw [wCs_cons, show (i + 1) * 3 = i * 3 + 3 by omega]
      refine ⟨?_, ?_, ?_⟩
      · simpa [wC, List.append_assoc] using h1
      · rw [show i * 3 + 3 + 1 = i * 3 + 1 + 3 by omega]; simpa [wC, List.append_assoc] using h2
      · rw [show i * 3 + 3 + 2 = i * 3 + 2 + 3 by omega]; simpa [wC, List.append_assoc] using h3
theorem eCs_one' {l : List Ent} {u : Value} (h : u ∈ eCs l) : u.oneCell' = true := by
  simp only [eCs, List.mem_flatMap] at h
  obtain ⟨e, _, h⟩ := h
  simp only [eC, List.mem_cons, List.mem_nil_iff, or_false] at h
  rcases h with rfl | rfl <;> rfl
theorem wCs_one' {l : List Wrt} {u : Value} (h : u ∈ wCs l) : u.oneCell' = true := by
  simp only [wCs, List.mem_flatMap] at h
  obtain ⟨e, _, h⟩ := h
  simp only [wC, List.mem_cons, List.mem_nil_iff, or_false] at h
  rcases h with rfl | rfl | rfl <;> rfl
def Lst (w : World) (v : Value) (n : Nat) (cs : List Value) : Prop := ∃ A cap b o, v = .slice A n cap ∧ (0 < n → A = some ⟨b, o, none⟩) ∧ Arr w b o cs
theorem Lst.keeps {w w' : World} {v : Value} {n : Nat} {cs : List Value} (h : Lst w v n cs) (k : Keeps [] w w') : Lst w' v n cs := by
  obtain ⟨A, cap, b, o, h1, h2, h3⟩ := h
  exact ⟨A, cap, b, o, h1, h2, h3.keeps k (by simp)⟩
theorem Arr.nil (w : World) : Arr w 0 0 [] := ⟨fun i hi => absurd hi (Nat.not_lt_zero i), fun h => absurd h (Nat.lt_irrefl 0)⟩
theorem Lst.nil (w : World) : Lst w (.slice none 0 0) 0 [] := ⟨none, 0, 0, 0, rfl, fun h => absurd h (Nat.lt_irrefl 0), Arr.nil w⟩
theorem Lst.blk {w : World} {g n cap : Nat} {cs rest : List Value} (h : Blk w g (cs ++ rest)) : Lst w (.slice (some ⟨g, 0, none⟩) n cap) n cs :=
  ⟨_, cap, g, 0, rfl, fun _ => rfl, ⟨fun i hi => by rw [h.cell, Nat.zero_add, List.getElem?_append_left hi], fun _ => h.lt⟩⟩
theorem Lst.own {w : World} {base e size n : Nat} {v : Value} {cs : List Value} (h : w.ownsRow base e size v n cs) : Lst w v n cs := by
  obtain ⟨h1, h2⟩ := h
  rcases h2 with ⟨rfl, rfl⟩ | ⟨g, cap, cur, rfl, hg, hh, hnc, hcm, hcs, ht⟩
  · have : cs = [] := List.eq_nil_of_length_eq_zero (by simpa using h1)
    subst this
    exact Lst.nil w
  · have hb : Blk w g (cs ++ cur.toList.drop (n * size)) := ⟨e, by rw [hh, ← ht, List.take_append_drop]⟩
    exact Lst.blk hb
theorem Arr.ent {w : World} {b o : Nat} {l : List Ent} (h : Arr w b o (eCs l)) {i : Nat} {e : Ent} (he : l[i]? = some e) :
    w.cell? ⟨b, o + i * 2, none⟩ = some (.string ⟨e.k.toArray⟩) ∧ w.cell? ⟨b, o + i * 2 + 1, none⟩ = some (.string ⟨e.v.toArray⟩) ∧ b < w.heap.size := by
  have hi := (List.getElem?_eq_some_iff.1 he).1
  obtain ⟨h1, h2⟩ := eCs_cells l i e he []
  rw [List.append_nil] at h1 h2
  refine ⟨?_, ?_, h.lt (by rw [eCs_length]; omega)⟩
  · rw [h.cells _ (by rw [eCs_length]; omega), h1]
  · rw [Nat.add_assoc, h.cells _ (by rw [eCs_length]; omega), h2]
theorem Arr.wrt {w : World} {b o : Nat} {l : List Wrt} (h : Arr w b o (wCs l)) {i : Nat} {e : Wrt} (he : l[i]? = some e) :
    w.cell? ⟨b, o + i * 3, none⟩ = some (.string ⟨e.k.toArray⟩) ∧ w.cell? ⟨b, o + i * 3 + 1, none⟩ = some (.string ⟨e.v.toArray⟩) ∧ w.cell? ⟨b, o + i * 3 + 2, none⟩ = some (.bool e.d) ∧ b < w.heap.size := by
  have hi := (List.getElem?_eq_some_iff.1 he).1
  obtain ⟨h1, h2, h3⟩ := wCs_cells l i e he []
  rw [List.append_nil] at h1 h2 h3
  refine ⟨?_, ?_, ?_, h.lt (by rw [wCs_length]; omega)⟩
  · rw [h.cells _ (by rw [wCs_length]; omega), h1]
  · rw [Nat.add_assoc, h.cells _ (by rw [wCs_length]; omega), h2]
  · rw [Nat.add_assoc, h.cells _ (by rw [wCs_length]; omega), h3]
theorem cells2_new (w : World) (x y : Value) (t : TypeId) : ∀ j u, [x, y][j]? = some u → (w.alloc (.cells #[x, y] t)).cell? ((⟨w.heap.size, 0, none⟩ : Addr).add j) = some u := by
  intro j u hj
  match j, hj with
  | 0, hj => simp at hj; subst hj; simp [Addr.add]
  | 1, hj => simp at hj; subst hj; simp [Addr.add]
theorem cells3_new (w : World) (x y z : Value) (t : TypeId) : ∀ j u, [x, y, z][j]? = some u → (w.alloc (.cells #[x, y, z] t)).cell? ((⟨w.heap.size, 0, none⟩ : Addr).add j) = some u := by
  intro j u hj
  match j, hj with
  | 0, hj => simp at hj; subst hj; simp [Addr.add]
  | 1, hj => simp at hj; subst hj; simp [Addr.add]
  | 2, hj => simp at hj; subst hj; simp [Addr.add]
theorem setRow_blk {w : World} {g : Nat} {cs ds : List Value} (h : Blk w g cs) : Blk (w.setRow g ds.toArray) g ds ∧ Keeps [g] w (w.setRow g ds.toArray) := by
  obtain ⟨T, hh⟩ := h
  refine ⟨⟨T, setRow_heap w g _ _ T _ hh⟩, rfl, rfl, rfl, by simp [World.setRow], fun k _ hn => setRow_other w g k _ (by simpa using hn)⟩
def spl (cs : List Value) (o : Nat) (news : List Value) : List Value := cs.take o ++ news ++ cs.drop (o + news.length)
theorem run_copyK {P : Program} (w : World) (dT elem : TypeId) (k : Nat) (g o dLen dCap : Nat) (a : Addr) (sLen sCap : Nat) (cs news : List Value)
    (hu : P.underlying dT = some (.slice elem)) (hs : (P.info? elem).map (·.size) = some k)
    (hg : Blk w g cs) (hn : news.length = Nat.min sLen dLen * k)
    (hsrc : ∀ j v, news[j]? = some v → w.cell? (a.add j) = some v) (hfit : o + news.length ≤ cs.length) (h1 : ∀ v ∈ news, v.oneCell' = true) :
    ∃ w', (∀ ty, (Builtin.copy_ #[dT, dT] ty #[.slice (some ⟨g, o, none⟩) dLen dCap, .slice (some a) sLen sCap]).run P w = .ok (goInt (Nat.min sLen dLen)) w') ∧ Blk w' g (spl cs o news) ∧ Keeps [g] w w' := by
  obtain ⟨h2, h3⟩ := setRow_blk (ds := spl cs o news) hg
  refine ⟨_, fun ty => ?_, h2, h3⟩
  obtain ⟨T, hh⟩ := hg
  have hl := run_loadCells_list (P := P) w a news hsrc
  have hst := run_storeCells_at P g o T news 0 cs.toArray w hh (by simpa using hfit) h1
  cases hq : P.info? elem with
  | none => simp [hq] at hs
  | some i =>
    have hi : i.size = k := by simpa [hq] using hs
    rw [hn] at hl
    simp [Builtin.copy_, run_underlying hu, Builtin.lenOf, Builtin.firstCells, sizeOf, typeInfo, hq, hi, hl, hst, spl]
theorem run_appendK {P : Program} (w : World) (t e : TypeId) (k : Nat) (ht : P.underlying t = some (.slice e)) (hs : (P.info? e).map (·.size) = some k)
    (g n cap : Nat) (cs : List Value) (hg : Blk w g cs) (a : Addr) (m c : Nat) (news : List Value) (hl : news.length = m * k) (hnews : ∀ j u, news[j]? = some u → w.cell? (a.add j) = some u) (h1 : ∀ u ∈ news, u.oneCell' = true)
    (hroom : n + m ≤ cap) (hfit : n * k + news.length ≤ cs.length) :
    ∃ w', (∀ ty, (Builtin.append_ #[t, t] ty #[.slice (some ⟨g, 0, none⟩) n cap, .slice (some a) m c]).run P w = .ok (.slice (some ⟨g, 0, none⟩) (n + m) cap) w') ∧ Blk w' g (spl cs (n * k) news) ∧ Keeps [g] w w' := by
  obtain ⟨h2, h3⟩ := setRow_blk (ds := spl cs (n * k) news) hg
  refine ⟨_, fun ty => ?_, h2, h3⟩
  obtain ⟨T, hh⟩ := hg
  cases hq : P.info? e with
  | none => simp [hq] at hs
  | some i =>
    have hi : i.size = k := by simpa [hq] using hs
    subst hi
    have hf := run_firstCells_some (P := P) w i.size m a m c news hl hnews
    have hst := run_storeCells_at P g (n * i.size) T news 0 cs.toArray w hh (by simpa using hfit) h1
    simp only [Nat.add_zero] at hst
    simp [Builtin.append_, run_underlying ht, sizeOf, typeInfo, hq, Builtin.lenOf, hroom, hf, Addr.add_lit, hst, spl]
theorem run_clearK {P : Program} (w : World) (t e : TypeId) (z : Array Value) (zv : Value) (ht : P.underlying t = some (.slice e)) (hv : ∀ w, (zeroValue e).run P w = .ok zv w) (hz : zv.cells = z) (hz1 : ∀ u ∈ z, u.oneCell' = true)
    (g o n c : Nat) (cs : List Value) (hg : Blk w g cs) (hfit : o + n * z.size ≤ cs.length) :
    ∃ w', (∀ ty, (Builtin.clear_ #[t] ty #[.slice (some ⟨g, o, none⟩) n c]).run P w = .ok (.tuple #[]) w') ∧ Blk w' g (spl cs o (Builtin.zeroCells z n).toList) ∧ Keeps [g] w w' := by
  by_cases hn : n = 0
  · subst hn
    refine ⟨w, fun ty => by simp [Builtin.clear_, run_underlying ht], ?_, Keeps.refl _ _⟩
    simpa [spl, Builtin.zeroCells] using hg
  obtain ⟨h2, h3⟩ := setRow_blk (ds := spl cs o (Builtin.zeroCells z n).toList) hg
  refine ⟨_, fun ty => ?_, h2, h3⟩
  obtain ⟨T, hh⟩ := hg
  have hlen : (Builtin.zeroCells z n).toList.length = n * z.size := by rw [Array.length_toList, size_zeroCells]
  have hst := run_storeCells_at P g o T (Builtin.zeroCells z n).toList 0 cs.toArray w hh (by rw [hlen]; simpa using hfit) (fun u hu => by
    simp only [Builtin.zeroCells, Array.mem_toList_iff, Array.mem_map, Array.mem_range] at hu
    obtain ⟨i, hi, rfl⟩ := hu
    have hp : 0 < z.size := by
      rcases Nat.eq_zero_or_pos z.size with h0 | h0
      · rw [h0] at hi; simp at hi
      · exact h0
    have hm : i % z.size < z.size := Nat.mod_lt _ hp
    rw [getElem!_pos z _ hm]
    exact hz1 _ (Array.getElem_mem hm))
  cases n with
  | zero => exact absurd rfl hn
  | succ n => simp [Builtin.clear_, run_underlying ht, hv, hz, hst, spl]
end Go.Proofs.YtbcgpjfejpcgnaaGreat
end
section
namespace Go.Proofs.YtbcgpjfejpcgnaaGreat
open Go.RowKit
def cmpS (a b : Str) : Int := if a < b then -1 else if b < a then 1 else 0
theorem cmpS_self (a : Str) : cmpS a a = 0 := by simp [cmpS, List.lt_irrefl]
theorem less_pos {a b : Str} (h : a < b) : Op.bytesLess a b = true := by rw [bytesLess_eq]; simpa using h
theorem less_neg {a b : Str} (h : ¬ a < b) : Op.bytesLess a b = false := by rw [bytesLess_eq]; simpa using h
theorem compare_any (a b : Str) (w : World) : Calls Tryz.prog 86 #[.string ⟨a.toArray⟩, .string ⟨b.toArray⟩] w fun e w' => e = .returned (.int .i64 (cmpS a b)) ∧ w' = w := by
  by_cases h1 : a < b
  · have h2 := less_pos h1
    go_enter Tryz.func86, Tryz.ntmps86
    go_wp2
    go_ret
    exact ⟨by simp [cmpS, h1], rfl⟩
  · have h2 := less_neg h1
    by_cases h3 : b < a
    · have h4 : (a == b) = false := by simpa using fun e : a = b => slt_ne h3 e.symm
      go_enter Tryz.func86, Tryz.ntmps86
      go_wp2
      go_ret
      exact ⟨by simp [cmpS, h1, h3], rfl⟩
    · obtain rfl := slt_tri h1 h3
      have h4 : (a == a) = true := by simp
      go_enter Tryz.func86, Tryz.ntmps86
      go_wp2
      go_ret
      exact ⟨by simp [cmpS, h1], rfl⟩
theorem clo_any (e : Ent) (k : Str) (w : World) : Calls Tryz.prog 85 #[.agg #[.string ⟨e.k.toArray⟩, .string ⟨e.v.toArray⟩], .string ⟨k.toArray⟩] w fun x w' => x = .returned (.int .i64 (cmpS e.k k)) ∧ Keeps [] w w' := by
  go_enter Tryz.func85, Tryz.ntmps85
  go_wp2_with (go_at_call 86; refine (compare_any _ _ _).mono ?_; rintro e w' ⟨rfl, rfl⟩)
  go_ret
  exact ⟨rfl, (Keeps.refl [] _).alloc _⟩
def pos (l : List Ent) (k : Str) : Nat := (l.takeWhile (fun e => decide (e.k < k))).length
def at_ (l : List Ent) (k : Str) : Bool := match l[pos l k]? with | some e => decide (e.k = k) | none => false
theorem pos_le (l : List Ent) (k : Str) : pos l k ≤ l.length := by
  unfold pos
  induction l with
  | nil => simp
  | cons x l ih => rw [List.takeWhile_cons]; split <;> simp; exact ih
theorem pos_lt {l : List Ent} {k : Str} {t : Nat} {e : Ent} (h : t < pos l k) (he : l[t]? = some e) : e.k < k := by
  induction l generalizing t with
  | nil => simp at he
  | cons x l ih =>
    unfold pos at h
    rw [List.takeWhile_cons] at h
    by_cases hx : x.k < k
    · cases t with
      | zero => simp at he; subst he; exact hx
      | succ t =>
        simp only [hx, decide_true, if_true, List.length_cons] at h
        exact ih (t := t) (by unfold pos; omega) (by simpa using he)
    · simp [hx] at h
theorem pos_ge {l : List Ent} {k : Str} {t : Nat} {e : Ent} (hl : Asc l) (h : pos l k ≤ t) (he : l[t]? = some e) : ¬ e.k < k := by
  induction l generalizing t with
  | nil => simp at he
  | cons x l ih =>
    have hl' := List.pairwise_cons.1 hl
    unfold pos at h
    rw [List.takeWhile_cons] at h
    by_cases hx : x.k < k
    · simp only [hx, decide_true, if_true, List.length_cons] at h
      cases t with
      | zero => omega
      | succ t => exact ih (t := t) hl'.2 (by unfold pos; omega) (by simpa using he)
    · cases t with
      | zero => simp at he; subst he; exact hx
      | succ t =>
        have := hl'.1 e (List.mem_of_getElem? (by simpa using he))
        exact fun h2 => hx (slt_trans this h2)
set_option maxHeartbeats 1000000 in
theorem search_any (l : List Ent) (k : Str) (hl : Asc l) (hn : l.length ≤ 4096) (g cap : Nat) (rest : List Value) (w : World) (hb : Blk w g (eCs l ++ rest)) :
    Calls Tryz.prog 84 #[.slice (some ⟨g, 0, none⟩) l.length cap, .string ⟨k.toArray⟩, .func (.func 85) #[] #[]] w fun x w' => x = .returned (.tuple #[.int .i64 (pos l k), .bool (at_ l k)]) ∧ Keeps [] w w' := by
  obtain ⟨n, hnn⟩ : ∃ n, l.length = n := ⟨_, rfl⟩
  obtain ⟨p, hp⟩ : ∃ p, pos l k = p := ⟨_, rfl⟩
  have hpn : p ≤ n := by rw [← hp, ← hnn]; exact pos_le l k
  rw [hnn] at hn ⊢
  rw [hp]
  have Hn := Lib.hid hnn
  have Hp := Lib.hid hp
  clear hnn hp
  go_enter Tryz.func84, Tryz.ntmps84
  go_wp2_with fail
  go_loopw [9, 10] (fun i j wr => ∃ a c : Nat, a ≤ p ∧ p ≤ c ∧ c ≤ n ∧ i = .int .i64 a ∧ j = .int .i64 c ∧ Keeps [] w wr) (fun i j _ => (intOf j).toNat - (intOf i).toNat)
  case atStart => exact ⟨0, n, by omega, hpn, by omega, rfl, rfl, Keeps.refl _ _⟩
  case round =>
    obtain ⟨a, c, ha, hc, hcn, rfl, rfl, hkp⟩ := hrel
    by_cases hlt : a < c
    · have hbr := hkp.blk hb (by simp)
      have hh : (a + c) / 2 < n := by omega
      obtain ⟨h, hhe⟩ : ∃ h, (a + c) / 2 = h := ⟨_, rfl⟩
      rw [hhe] at hh
      obtain ⟨e, he⟩ : ∃ e, l[h]? = some e := ⟨_, List.getElem?_eq_getElem (by rw [Hn.out]; exact hh)⟩
      have c0 := hbr.cell (h * 2)
      have c1 := hbr.cell (h * 2 + 1)
      have cl := hbr.lt
      obtain ⟨d0, d1⟩ := eCs_cells l h e he rest
      rw [d0] at c0
      rw [d1] at c1
      have He := Lib.hid he
      clear d0 d1 hbr he
      have hsum : ((a : Int) + (c : Int)) / 2 = (h : Int) := by omega
      have hsum2 : IntKind.i64.wrap ((a : Int) + (c : Int)) = (a : Int) + (c : Int) := by rw [IntKind.wrap_i64]; omega
      have hsum3 : IntKind.u64.wrap ((a : Int) + (c : Int)) = (a : Int) + (c : Int) := IntWalk.u64_in _ ⟨by omega, by omega⟩
      go_wp2_with fail
      refine (clo_any e k _).mono ?_
      rintro x w1 ⟨rfl, k1⟩
      have K1 := hkp.trans k1 (by simp)
      clear k1 c0 c1 cl hkp
      by_cases hek : e.k < k
      · have hlow : h < p := by
          rcases Nat.lt_or_ge h p with h1 | h1
          · exact h1
          · rw [← Hp.out] at h1; exact absurd hek (pos_ge hl h1 He.out)
        have hcm : cmpS e.k k = -1 := by simp [cmpS, hek]
        rw [hcm]
        go_wp2_with fail
        exact ⟨⟨h + 1, c, by omega, hc, hcn, by go_num, rfl, K1⟩, by simp [intOf]; omega⟩
      · have hhi : p ≤ h := by
          rcases Nat.lt_or_ge h p with h1 | h1
          · rw [← Hp.out] at h1; exact absurd (pos_lt h1 He.out) hek
          · exact h1
        have hcm : 0 ≤ cmpS e.k k := by unfold cmpS; rw [if_neg hek]; split <;> omega
        obtain ⟨z, hz⟩ : ∃ z, cmpS e.k k = z := ⟨_, rfl⟩
        rw [hz] at hcm ⊢
        go_wp2_with fail
        exact ⟨⟨a, h, ha, by omega, by omega, rfl, rfl, K1⟩, by simp [intOf]; omega⟩
    · obtain rfl : a = p := by omega
      obtain rfl : c = a := by omega
      by_cases hc2 : c < n
      · have hbr := hkp.blk hb (by simp)
        obtain ⟨e, he⟩ : ∃ e, l[c]? = some e := ⟨_, List.getElem?_eq_getElem (by rw [Hn.out]; exact hc2)⟩
        have c0 := hbr.cell (c * 2)
        have c1 := hbr.cell (c * 2 + 1)
        have cl := hbr.lt
        obtain ⟨d0, d1⟩ := eCs_cells l c e he rest
        rw [d0] at c0
        rw [d1] at c1
        have hat : at_ l k = decide (e.k = k) := by unfold at_; rw [Hp.out, he]
        have Hat := Lib.hid hat
        have hge := Lib.hid (pos_ge hl (by rw [Hp.out]; exact Nat.le_refl c) he)
        clear d0 d1 hbr he hat
        go_wp2_with fail
        refine (clo_any e k _).mono ?_
        rintro x w1 ⟨rfl, k1⟩
        have K1 := hkp.trans k1 (by simp)
        clear k1 c0 c1 cl hkp
        by_cases hek : e.k = k
        · have hcm : cmpS e.k k = 0 := by rw [hek]; exact cmpS_self k
          rw [hcm]
          go_wp2_with fail
          go_ret2
          exact ⟨by rw [Hat.out]; simp [hek], K1⟩
        · have hcm : cmpS e.k k = 1 := by unfold cmpS; rw [if_neg hge.out, if_pos (slt_of hge.out hek)]
          rw [hcm]
          go_wp2_with fail
          go_ret2
          exact ⟨by rw [Hat.out]; simp [hek], K1⟩
      · have hat : at_ l k = false := by unfold at_; rw [Hp.out, List.getElem?_eq_none (by rw [Hn.out]; omega)]
        obtain rfl : c = n := by omega
        have Hat := Lib.hid hat
        clear hat
        go_wp2_with fail
        go_ret2
        exact ⟨by rw [Hat.out]; rfl, hkp⟩
end Go.Proofs.YtbcgpjfejpcgnaaGreat
end
