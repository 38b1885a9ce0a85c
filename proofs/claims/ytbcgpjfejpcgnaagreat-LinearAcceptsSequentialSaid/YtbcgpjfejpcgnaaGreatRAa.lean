/- Lemmas on the way to LinearAcceptsSequential. No condition. -/
import Derived.WalkKit
import Derived.WalkSpells
import Derived.WalkLawsBesides
import Derived.Lib.Hide
import Derived.ProofKit
import Derived.OpenShut
import Derived.Carry
import Derived.Below
import Derived.ChangeSame
import Derived.Deep.Slices
import Derived.Laws.AppendOwn
import Derived.Laws.CopyRow
import Derived.Lib.AppendZeros
import Derived.Sort.Walk0
set_option linter.unusedSimpArgs false
set_option linter.unusedVariables false
set_option linter.unusedSectionVars false
section
namespace Go.Proofs.YtbcgpjfejpcgnaaGreat
open Go.RowKit
def Blk (w : World) (b : Nat) (cs : List Value) : Prop := ∃ T, w.heap[b]? = some (.cells cs.toArray T (0, 0))
theorem Blk.lt {w : World} {b : Nat} {cs : List Value} (h : Blk w b cs) : b < w.heap.size := by
  obtain ⟨T, h⟩ := h
  exact (Array.getElem?_eq_some_iff.1 h).1
theorem Blk.cell {w : World} {b : Nat} {cs : List Value} (h : Blk w b cs) (i : Nat) : w.cell? ⟨b, i, none⟩ = cs[i]? := by
  obtain ⟨T, h⟩ := h
  simp [World.cell?, h]
theorem Blk.frozen {w : World} {b : Nat} {cs : List Value} (h : Blk w b cs) (i : Nat) : w.frozen? ⟨b, i, none⟩ = false := by
  obtain ⟨T, h⟩ := h
  simp [World.frozen?, h]
theorem Blk.of_same {w w' : World} {b : Nat} {cs : List Value} (h : Blk w b cs) (hs : w'.heap[b]? = w.heap[b]?) : Blk w' b cs := by
  obtain ⟨T, h⟩ := h
  exact ⟨T, hs.trans h⟩
theorem Blk.drew {w : World} {b : Nat} {cs : List Value} (h : Blk w b cs) : Blk w.drew b cs := h
theorem Blk.drewN {w : World} {b : Nat} {cs : List Value} (h : Blk w b cs) (n : Nat) : Blk (w.drewN n) b cs := h
theorem Blk.alloc {w : World} {b : Nat} {cs : List Value} (h : Blk w b cs) (o : Obj) : Blk (w.alloc o) b cs :=
  h.of_same (Below.heap_alloc w o b h.lt)
theorem Blk.new (w : World) (cs : List Value) (T : TypeId) : Blk (w.alloc (.cells cs.toArray T)) w.heap.size cs := ⟨T, heap_alloc_new w _⟩
theorem Blk.new_at (w : World) (b : Nat) (cs : List Value) (T : TypeId) (hb : b = w.heap.size) : Blk (w.alloc (.cells cs.toArray T)) b cs := by
  subst hb; exact Blk.new w cs T
theorem Blk.set {w : World} {b : Nat} {cs : List Value} (h : Blk w b cs) (i : Nat) (v : Value) : Blk (w.setCell ⟨b, i, none⟩ v) b (cs.set i v) := by
  obtain ⟨T, h⟩ := h
  refine ⟨T, ?_⟩
  rw [heap_setCell_same w b i cs.toArray T v h]
  simp
theorem Blk.other {w : World} {b : Nat} {cs : List Value} (h : Blk w b cs) (a : Addr) (v : Value) (hb : b ≠ a.block) : Blk (w.setCell a v) b cs :=
  h.of_same (heap_setCell_other w a b v hb)
structure Keeps (S : List Nat) (w w' : World) : Prop where
  os : w'.os = w.os
  tape : w'.tape = w.tape
  output : w'.output = w.output
  size : w.heap.size ≤ w'.heap.size
  block : ∀ k, k < w.heap.size → k ∉ S → w'.heap[k]? = w.heap[k]?
theorem Keeps.refl (S : List Nat) (w : World) : Keeps S w w := ⟨rfl, rfl, rfl, Nat.le_refl _, fun _ _ _ => rfl⟩
theorem Keeps.trans {S S' : List Nat} {a b c : World} (h : Keeps S a b) (k : Keeps S' b c) (hs : ∀ i, i ∈ S' → i ∈ S ∨ a.heap.size ≤ i) : Keeps S a c :=
  ⟨k.os.trans h.os, k.tape.trans h.tape, k.output.trans h.output, Nat.le_trans h.size k.size, fun i hi hn =>
    (k.block i (Nat.lt_of_lt_of_le hi h.size) (fun hm => (hs i hm).elim hn (fun hl => absurd hi (Nat.not_lt.2 hl)))).trans (h.block i hi hn)⟩
theorem Keeps.drew {S : List Nat} {a w : World} (h : Keeps S a w) : Keeps S a w.drew := ⟨h.os, h.tape, h.output, h.size, h.block⟩
theorem Keeps.drewN {S : List Nat} {a w : World} (h : Keeps S a w) (n : Nat) : Keeps S a (w.drewN n) := ⟨h.os, h.tape, h.output, h.size, h.block⟩
theorem Keeps.alloc {S : List Nat} {a w : World} (h : Keeps S a w) (o : Obj) : Keeps S a (w.alloc o) :=
  ⟨h.os, h.tape, h.output, Nat.le_trans h.size (by simp), fun i hi hn => by rw [Below.heap_alloc w o i (Nat.lt_of_lt_of_le hi h.size)]; exact h.block i hi hn⟩
theorem Keeps.setCell {S : List Nat} {a w : World} (h : Keeps S a w) (p : Addr) (v : Value) (hp : p.block ∈ S ∨ a.heap.size ≤ p.block) : Keeps S a (w.setCell p v) :=
  ⟨h.os, h.tape, h.output, by simpa using h.size, fun i hi hn => by
    rw [heap_setCell_other w p i v (fun e => by subst e; exact hp.elim hn (fun hl => absurd hi (Nat.not_lt.2 hl)))]; exact h.block i hi hn⟩
theorem Keeps.undrew {S : List Nat} {a w : World} (h : Keeps S a.drew w) : Keeps S a w := ⟨h.os, h.tape, h.output, h.size, h.block⟩
theorem Keeps.below {w w' : World} (h : Keeps [] w w') : Below w.heap.size w w' := ⟨h.os, h.tape, h.output, h.size, fun k hk => h.block k hk (by simp)⟩
theorem Keeps.blk {S : List Nat} {w w' : World} (h : Keeps S w w') {b : Nat} {cs : List Value} (hb : Blk w b cs) (hn : b ∉ S) : Blk w' b cs :=
  hb.of_same (h.block b hb.lt hn)
theorem Keeps.mono {S S' : List Nat} {w w' : World} (h : Keeps S w w') (hs : ∀ i, i ∈ S → i ∈ S' ∨ w.heap.size ≤ i) : Keeps S' w w' :=
  (Keeps.refl S' w).trans h hs
structure Arr (w : World) (b o : Nat) (xs : List Value) : Prop where
  cells : ∀ i, i < xs.length → w.cell? ⟨b, o + i, none⟩ = xs[i]?
  lt : 0 < xs.length → b < w.heap.size
theorem Arr.keeps {S : List Nat} {w w' : World} {b o : Nat} {xs : List Value} (h : Arr w b o xs) (k : Keeps S w w') (hn : b ∉ S) : Arr w' b o xs :=
  ⟨fun i hi => by
    have hl := h.lt (by omega)
    rw [World.cell?_of_block (w := w) (a := ⟨b, o + i, none⟩) (k.block b hl hn)]
    exact h.cells i hi, fun hp => Nat.lt_of_lt_of_le (h.lt hp) k.size⟩
theorem Keeps.cellEq {S : List Nat} {w w' : World} (k : Keeps S w w') {b i : Nat} {v : Value} (h : w.cell? ⟨b, i, none⟩ = some v) (hn : b ∉ S) : w'.cell? ⟨b, i, none⟩ = some v :=
  (World.cell?_of_block (w := w) (a := ⟨b, i, none⟩) (k.block b (World.block_lt_of_cell? (w := w) (a := ⟨b, i, none⟩) h) hn)).trans h
theorem Keeps.of_grownBy {w w' : World} {row : Option Nat} (h : w.grownBy w' row) (S : List Nat) (hS : ∀ g, row = some g → g ∈ S) : Keeps S w w' :=
  ⟨h.os, h.tape, h.output, h.size, fun k hk hn => h.block k hk (fun e => hn (hS k e.symm))⟩
theorem Blk.o1 {w : World} {b : Nat} {x0 : Value} (h : Blk w b [x0]) : w.cell? ⟨b, 0, none⟩ = some x0 ∧ (∀ j, w.frozen? ⟨b, j, none⟩ = false) ∧ b < w.heap.size :=
  ⟨h.cell 0, h.frozen, h.lt⟩
theorem Blk.o2 {w : World} {b : Nat} {x0 x1 : Value} (h : Blk w b [x0, x1]) : w.cell? ⟨b, 0, none⟩ = some x0 ∧ w.cell? ⟨b, 1, none⟩ = some x1 ∧ (∀ j, w.frozen? ⟨b, j, none⟩ = false) ∧ b < w.heap.size :=
  ⟨h.cell 0, h.cell 1, h.frozen, h.lt⟩
theorem Blk.o3 {w : World} {b : Nat} {x0 x1 x2 : Value} (h : Blk w b [x0, x1, x2]) : w.cell? ⟨b, 0, none⟩ = some x0 ∧ w.cell? ⟨b, 1, none⟩ = some x1 ∧ w.cell? ⟨b, 2, none⟩ = some x2 ∧ (∀ j, w.frozen? ⟨b, j, none⟩ = false) ∧ b < w.heap.size :=
  ⟨h.cell 0, h.cell 1, h.cell 2, h.frozen, h.lt⟩
theorem Blk.o4 {w : World} {b : Nat} {x0 x1 x2 x3 : Value} (h : Blk w b [x0, x1, x2, x3]) : w.cell? ⟨b, 0, none⟩ = some x0 ∧ w.cell? ⟨b, 1, none⟩ = some x1 ∧ w.cell? ⟨b, 2, none⟩ = some x2 ∧ w.cell? ⟨b, 3, none⟩ = some x3 ∧ (∀ j, w.frozen? ⟨b, j, none⟩ = false) ∧ b < w.heap.size :=
  ⟨h.cell 0, h.cell 1, h.cell 2, h.cell 3, h.frozen, h.lt⟩
theorem Blk.o5 {w : World} {b : Nat} {x0 x1 x2 x3 x4 : Value} (h : Blk w b [x0, x1, x2, x3, x4]) : w.cell? ⟨b, 0, none⟩ = some x0 ∧ w.cell? ⟨b, 1, none⟩ = some x1 ∧ w.cell? ⟨b, 2, none⟩ = some x2 ∧ w.cell? ⟨b, 3, none⟩ = some x3 ∧ w.cell? ⟨b, 4, none⟩ = some x4 ∧ (∀ j, w.frozen? ⟨b, j, none⟩ = false) ∧ b < w.heap.size :=
  ⟨h.cell 0, h.cell 1, h.cell 2, h.cell 3, h.cell 4, h.frozen, h.lt⟩
theorem Blk.o6 {w : World} {b : Nat} {x0 x1 x2 x3 x4 x5 : Value} (h : Blk w b [x0, x1, x2, x3, x4, x5]) : w.cell? ⟨b, 0, none⟩ = some x0 ∧ w.cell? ⟨b, 1, none⟩ = some x1 ∧ w.cell? ⟨b, 2, none⟩ = some x2 ∧ w.cell? ⟨b, 3, none⟩ = some x3 ∧ w.cell? ⟨b, 4, none⟩ = some x4 ∧ w.cell? ⟨b, 5, none⟩ = some x5 ∧ (∀ j, w.frozen? ⟨b, j, none⟩ = false) ∧ b < w.heap.size :=
  ⟨h.cell 0, h.cell 1, h.cell 2, h.cell 3, h.cell 4, h.cell 5, h.frozen, h.lt⟩
theorem Blk.o7 {w : World} {b : Nat} {x0 x1 x2 x3 x4 x5 x6 : Value} (h : Blk w b [x0, x1, x2, x3, x4, x5, x6]) : w.cell? ⟨b, 0, none⟩ = some x0 ∧ w.cell? ⟨b, 1, none⟩ = some x1 ∧ w.cell? ⟨b, 2, none⟩ = some x2 ∧ w.cell? ⟨b, 3, none⟩ = some x3 ∧ w.cell? ⟨b, 4, none⟩ = some x4 ∧ w.cell? ⟨b, 5, none⟩ = some x5 ∧ w.cell? ⟨b, 6, none⟩ = some x6 ∧ (∀ j, w.frozen? ⟨b, j, none⟩ = false) ∧ b < w.heap.size :=
  ⟨h.cell 0, h.cell 1, h.cell 2, h.cell 3, h.cell 4, h.cell 5, h.cell 6, h.frozen, h.lt⟩
end Go.Proofs.YtbcgpjfejpcgnaaGreat
end
section
namespace Go.Proofs.YtbcgpjfejpcgnaaGreat
open Go.RowKit
structure C3 where
  N : Int
  K : ByteArray
  M : Int
def C3.zero : C3 := ⟨0, ⟨#[]⟩, 0⟩
def C3.vs (x : C3) : List Value := [.int .u64 x.N, .string x.K, .int .u64 x.M]
def flat : List C3 → List Value
  | [] => []
  | x :: l => .int .u64 x.N :: .string x.K :: .int .u64 x.M :: flat l
theorem flat_get (L : List C3) (r : List Value) : ∀ (i : Nat) (x : C3), L[i]? = some x →
    (flat L ++ r)[i * 3]? = some (.int .u64 x.N) ∧ (flat L ++ r)[i * 3 + 1]? = some (.string x.K) ∧ (flat L ++ r)[i * 3 + 2]? = some (.int .u64 x.M) := by
  induction L with
  | nil => intro i x h; simp at h
  | cons y l ih =>
    intro i x h
    cases i with
    | zero => simp at h; subst h; simp [flat]
    | succ i =>
      have := ih i x (by simpa using h)
      have e : (i + 1) * 3 = i * 3 + 3 := by omega
      have e1 : (i + 1) * 3 + 1 = i * 3 + 1 + 3 := by omega
      have e2 : (i + 1) * 3 + 2 = i * 3 + 2 + 3 := by omega
      rw [e1, e2, e]
      simpa [flat] using this
theorem flat_set (x : C3) : ∀ (L : List C3) (i : Nat) (r : List Value), i < L.length →
    (((flat L ++ r).set (i * 3) (.int .u64 x.N)).set (i * 3 + 1) (.string x.K)).set (i * 3 + 2) (.int .u64 x.M) = flat (L.set i x) ++ r := by
  intro L
  induction L with
  | nil => intro i r h; simp at h
  | cons y l ih =>
    intro i r h
    cases i with
    | zero => simp [flat]
    | succ i =>
      have := ih i r (by simpa using h)
      have e : (i + 1) * 3 = i * 3 + 3 := by omega
      have e1 : (i + 1) * 3 + 1 = i * 3 + 1 + 3 := by omega
      have e2 : (i + 1) * 3 + 2 = i * 3 + 2 + 3 := by omega
      rw [e1, e2, e]
      simpa [flat] using this
structure MemAt (w : World) (m c : Nat) (L : List C3) (n : Int) : Prop where
  head : ∃ cap, Blk w m [.slice (some ⟨c, 0, none⟩) L.length cap, .int .u64 n]
  cells : ∃ rest, Blk w c (flat L ++ rest)
  ne : m ≠ c
  small : L.length ≤ 1048576
  pos : 1 ≤ L.length
theorem MemAt.lt {w : World} {m c : Nat} {L : List C3} {n : Int} (h : MemAt w m c L n) : m < w.heap.size ∧ c < w.heap.size := by
  obtain ⟨cap, h1⟩ := h.head
  obtain ⟨r, h2⟩ := h.cells
  exact ⟨h1.lt, h2.lt⟩
theorem MemAt.of_same {w w' : World} {m c : Nat} {L : List C3} {n : Int} (h : MemAt w m c L n) (hm : w'.heap[m]? = w.heap[m]?) (hc : w'.heap[c]? = w.heap[c]?) : MemAt w' m c L n :=
  ⟨h.head.imp fun _ h => h.of_same hm, h.cells.imp fun _ h => h.of_same hc, h.ne, h.small, h.pos⟩
theorem MemAt.keeps {w w' : World} {m c : Nat} {L : List C3} {n : Int} (h : MemAt w m c L n) {S : List Nat} (k : Keeps S w w') (hm : m ∉ S) (hc : c ∉ S) : MemAt w' m c L n :=
  h.of_same (k.block m h.lt.1 hm) (k.block c h.lt.2 hc)
theorem MemAt.drew {w : World} {m c : Nat} {L : List C3} {n : Int} (h : MemAt w m c L n) : MemAt w.drew m c L n := ⟨h.head, h.cells, h.ne, h.small, h.pos⟩
theorem MemAt.drewN {w : World} {m c : Nat} {L : List C3} {n : Int} (h : MemAt w m c L n) (k : Nat) : MemAt (w.drewN k) m c L n := ⟨h.head, h.cells, h.ne, h.small, h.pos⟩
theorem MemAt.alloc {w : World} {m c : Nat} {L : List C3} {n : Int} (h : MemAt w m c L n) (o : Obj) : MemAt (w.alloc o) m c L n :=
  h.of_same (Below.heap_alloc w o m h.lt.1) (Below.heap_alloc w o c h.lt.2)
theorem MemAt.other {w : World} {m c : Nat} {L : List C3} {n : Int} (h : MemAt w m c L n) (a : Addr) (v : Value) (hm : m ≠ a.block) (hc : c ≠ a.block) : MemAt (w.setCell a v) m c L n :=
  h.of_same (heap_setCell_other w a m v hm) (heap_setCell_other w a c v hc)
theorem MemAt.put {w : World} {m c : Nat} {L : List C3} {n : Int} (h : MemAt w m c L n) (i : Nat) (hi : i < L.length) (N M : Int) (K : ByteArray) :
    MemAt (((w.setCell ⟨c, i * 3, none⟩ (.int .u64 N)).setCell ⟨c, i * 3 + 1, none⟩ (.string K)).setCell ⟨c, i * 3 + 2, none⟩ (.int .u64 M)) m c (L.set i ⟨N, K, M⟩) n := by
  obtain ⟨cap, h1⟩ := h.head
  obtain ⟨r, h2⟩ := h.cells
  refine ⟨⟨cap, ?_⟩, ⟨r, ?_⟩, h.ne, by simpa using h.small, by simpa using h.pos⟩
  · rw [List.length_set]
    exact ((h1.other _ _ h.ne).other _ _ h.ne).other _ _ h.ne
  · have := ((h2.set (i * 3) (.int .u64 N)).set (i * 3 + 1) (.string K)).set (i * 3 + 2) (.int .u64 M)
    rwa [flat_set ⟨N, K, M⟩ L i r hi] at this
theorem MemAt.at_ {w : World} {m c : Nat} {L : List C3} {n : Int} (h : MemAt w m c L n) (i : Nat) (x : C3) (hx : L[i]? = some x) :
    w.cell? ⟨c, i * 3, none⟩ = some (.int .u64 x.N) ∧ w.cell? ⟨c, i * 3 + 1, none⟩ = some (.string x.K) ∧ w.cell? ⟨c, i * 3 + 2, none⟩ = some (.int .u64 x.M) := by
  obtain ⟨r, h2⟩ := h.cells
  rw [h2.cell, h2.cell, h2.cell]
  exact flat_get L r i x hx
end Go.Proofs.YtbcgpjfejpcgnaaGreat
end
section
namespace Go.Proofs.YtbcgpjfejpcgnaaGreat
open Go.ChangeShapes Go.WideShapes Go.ChangeAt Go.RowKit
theorem all_stay {H : Type} {enc : TypeId × Value → H} {P : Program} (hl : laidOutB P = true) {W W' : World} (hb : Below W.heap.size W W') {sp : Nat → Bool} :
    ∀ (ts : List TypeId) (vs : List Value) (ds : List (DataW H)) (ps : List MemPlace), (∀ t ∈ ts, P.readableRec t = true ∧ t < P.types.size) →
      DataW.TrodAll enc P W 0 (fun _ => true) true ts vs ds ps → (∀ p ∈ ps, p.block < W.heap.size) → (∀ p ∈ ps, sp p.block = true) → DataW.TrodAll enc P W' 0 sp true ts vs ds ps
  | [], vs, ds, ps, _, h, _, _ => by
    obtain ⟨rfl, rfl, rfl⟩ := trodAll_nil h
    exact trodAll_mk0
  | t :: ts, vs, ds, ps, hr, h, hlt, hs => by
    obtain ⟨v, vs', d, ds', p, q, rfl, rfl, rfl, h1, h2⟩ := trodAll_cons h
    refine trodAll_cons_mk (WideElems.Trod_stays hl (hr t (by simp)).1 (hr t (by simp)).2 h1 (fun x hx => hb.same (hlt x (by simp [hx]))) (fun x hx => hs x (by simp [hx]))) ?_
    exact all_stay hl hb ts vs' ds' q (fun u hu => hr u (by simp [hu])) h2 (fun x hx => hlt x (by simp [hx])) (fun x hx => hs x (by simp [hx]))
theorem law_post {H : Type} {enc : TypeId × Value → H} {P : Program} {f : Func} {s : ChangeSpec} {apart fresh handsOn again : Bool} {W W' : World} {args : Array Value} {ds : List (DataW H)} {before : List MemPlace} {tb : TypeId}
    (hW : DataW.Whole enc P f.params.toList s.vars apart W args.toList ds [] before) (hvars : s.vars = [])
    (hfn : s.fn H (ds ++ []) = { results := [.lit (.bool true)], args := ds })
    (hl : laidOutB P = true) (hr : ∀ t ∈ f.params.toList, P.readableRec t = true ∧ t < P.types.size)
    (hres : f.resultTypes = #[tb]) (htb : P.underlying tb = some .bool)
    (hb : Below W.heap.size W W') : s.post enc P f apart fresh handsOn again W args (.bool true) W' := by
  have hlt : ∀ p ∈ before, p.block < W.heap.size := fun p hp => hW.lt p hp
  have hold : ∀ p ∈ before, (fun b => decide (b < W.heap.size)) p.block = true := fun p hp => by simpa using hlt p hp
  have hW' := hW
  obtain ⟨p, q, hA, hV, hpq, hz, hn⟩ := hW'
  have hq : q = [] := by
    rw [hvars] at hV
    exact (trodVars_none hV).2
  subst hq
  simp only [List.append_nil] at hpq
  subst hpq
  have hA2 : ∀ sp : Nat → Bool, (∀ p ∈ before, sp p.block = true) → DataW.TrodAll enc P W' 0 sp true f.params.toList args.toList ds before := fun sp hs =>
    all_stay hl hb _ _ _ _ hr hA hlt hs
  have hR : ∀ (b : Nat) (sp : Nat → Bool) (hd : Bool), DataW.TrodAll enc P W' b sp hd f.resultTypes.toList ((Value.bool true).resultList f.resultTypes.size) [.lit (.bool true)] [] := fun b sp hd => by
    rw [hres]
    exact trodAll_cons_mk (shut_bool htb true) trodAll_mk0
  have hargs : ∀ sp : Nat → Bool, (∀ p ∈ before, sp p.block = true) → DataW.TrodAll enc P W' 0 sp true f.params.toList args.toList (s.fn H (ds ++ [])).args before := by
    rw [hfn]; exact hA2
  have hRr : ∀ (b : Nat) (sp : Nat → Bool) (hd : Bool), DataW.TrodAll enc P W' b sp hd f.resultTypes.toList ((Value.bool true).resultList f.resultTypes.size) (s.fn H (ds ++ [])).results [] := by
    rw [hfn]; exact hR
  have hVr : ∀ sp : Nat → Bool, DataW.TrodVars enc P W' sp s.vars (s.fn H (ds ++ [])).vars [] := fun sp => by
    rw [hfn, hvars]; exact rfl
  refine ⟨ds, [], before, [], before, [], hW, hRr _ _ _, hargs _ hold, hVr _, World.keptBut_mono (fun p hp => ⟨hp, .inr (.inl hp)⟩) (hb.frame (· ∈ before)), fun _ => ?_⟩
  refine ⟨?_, _, _, ([] ++ before) ++ [], ⟨[] ++ before, [], trodAll_append (hargs _ (fun _ _ => rfl)) (hRr _ _ _), hVr _, rfl, ?_, ?_⟩, ?_⟩
  · exact ok_one hres rfl (okWide_bool_mk htb true)
  · intro b off hp
    simp only [List.nil_append, List.append_nil] at hp
    rw [hb.frozen (p := ⟨b, off, none⟩) (hlt (.cell b off) hp)]
    exact hz b off hp
  · intro ha
    have := hn ha
    simpa using this
  · intro p hp _
    simpa using hp
theorem open_rows {H : Type} {enc : TypeId × Value → H} {P : Program} {w : World} {r : Reach} {b0 : Nat} {t e : TypeId} {v : Value} {d : DataW H} {p : List MemPlace} (sz : Nat) (hsz : 0 < sz) (R : List Value → Prop)
    (ht : P.underlying t = some (.slice e)) (hc : P.cellsOf e = sz)
    (hR : ∀ (fuel : Nat) (cs : List Value) (x : DataW H × List MemPlace), DataW.trod enc P w 0 (fun _ => true) true fuel e cs = some x → R cs)
    (hv : Value.okWide P w r b0 t v) (h : DataW.Trod enc P w 0 (fun _ => true) true t v d p) :
    ∃ (A : Option Addr) (cap b o : Nat) (rows : List (List Value)), v = .slice A rows.length cap ∧ (0 < rows.length → A = some ⟨b, o, none⟩) ∧ Arr w b o rows.flatten ∧ rows.length ≤ 9223372036854775807 ∧
      ∀ x, x ∈ rows → x.length = sz ∧ R x := by
  obtain ⟨a0, len, cap, rfl⟩ := okWide_slice ht hv
  obtain ⟨fuel, hf⟩ := h
  rcases Go.Deep.open_slice ht hf with ⟨hcs, _⟩ | ⟨a, len', cap', m, n, D, Pl, hcs, _, hl, hm, hmm, _, hel⟩
  · simp [Value.cells] at hcs
    obtain ⟨rfl, rfl, rfl⟩ := hcs
    exact ⟨none, 0, 0, 0, [], rfl, fun h => by simp at h, ⟨fun i hi => absurd hi (Nat.not_lt_zero i), fun h => absurd h (Nat.lt_irrefl 0)⟩, Nat.zero_le _, by simp⟩
  · simp [Value.cells] at hcs
    obtain ⟨rfl, rfl, rfl⟩ := hcs
    simp only [if_true] at hmm
    subst hmm
    rw [hc] at hel
    unfold maxLen at hm
    by_cases h0 : 0 < len
    · have hget : ∀ i, i < len → ∃ cs', w.cells? 0 (a.add (i * sz)) sz = some cs' ∧ R cs' := fun i hi => by
        obtain ⟨cs', h1, h2⟩ := hel i (by omega)
        exact ⟨cs', h1, hR _ _ _ h2⟩
      obtain ⟨f, hf'⟩ : ∃ f : Nat → List Value, ∀ i, i < len → w.cells? 0 (a.add (i * sz)) sz = some (f i) ∧ R (f i) := by
        refine ⟨fun i => if h : i < len then (hget i h).choose else [], fun i hi => ?_⟩
        simp only [hi, dif_pos]
        exact (hget i hi).choose_spec
      have hlen : ∀ i, i < len → (f i).length = sz := fun i hi => (World.cells?_some (hf' i hi).1).2.1
      have hcell : ∀ i, i < len → ∀ j, j < sz → w.cell? (a.add (i * sz + j)) = (f i)[j]? := fun i hi j hj => by
        have := (World.cells?_some (hf' i hi).1).2.2 j hj
        rwa [Go.Deep.add_add] at this
      obtain ⟨b, off, spot⟩ := a
      have hfirst := hcell 0 h0 0 hsz
      have hsome : w.cell? ⟨b, off, spot⟩ = some ((f 0)[0]'(by rw [hlen 0 h0]; exact hsz)) := by
        rw [List.getElem?_eq_getElem (by rw [hlen 0 h0]; exact hsz)] at hfirst
        simpa [Addr.add] using hfirst
      obtain rfl : spot = none := World.cell?_spot hsome
      have hrl : ((List.range len).map f).length = len := by simp
      have hflen : ∀ k, k ≤ len → ((List.range k).map f).flatten.length = k * sz := by
        intro k
        induction k with
        | zero => simp
        | succ k ih =>
          intro hk
          rw [List.range_succ, List.map_append, List.flatten_append, List.length_append, ih (by omega)]
          simp [hlen k (by omega), Nat.succ_mul]
      have hget2 : ∀ k, k ≤ len → ∀ i, i < k * sz → ((List.range k).map f).flatten[i]? = (f (i / sz))[i % sz]? := by
        intro k
        induction k with
        | zero => intro _ i hi; simp at hi
        | succ k ih =>
          intro hk i hi
          rw [List.range_succ, List.map_append, List.flatten_append]
          by_cases hik : i < k * sz
          · rw [List.getElem?_append_left (by rw [hflen k (by omega)]; exact hik)]
            exact ih (by omega) i hik
          · rw [List.getElem?_append_right (by rw [hflen k (by omega)]; omega), hflen k (by omega)]
            rw [Nat.succ_mul] at hi
            have e1 : i / sz = k := by
              rw [Nat.div_eq_iff hsz]
              omega
            have e2 : i % sz = i - k * sz := by
              have := Nat.div_add_mod i sz
              rw [e1, Nat.mul_comm] at this
              omega
            rw [e1, e2]
            simp
      refine ⟨_, _, b, off, (List.range len).map f, by rw [hrl], fun _ => rfl, ⟨fun i hi => ?_, fun _ => World.block_lt_of_cell? (w := w) (a := ⟨b, off, none⟩) hsome⟩, by rw [hrl]; omega, ?_⟩
      · rw [hflen len (Nat.le_refl _)] at hi
        rw [hget2 len (Nat.le_refl _) i hi]
        have hd : i / sz < len := by rw [Nat.div_lt_iff_lt_mul hsz]; exact hi
        rw [← hcell (i / sz) hd (i % sz) (Nat.mod_lt _ hsz), ← Go.WideShapes.add_plain]
        have : i / sz * sz + i % sz = i := by rw [Nat.mul_comm]; exact Nat.div_add_mod i sz
        rw [this]
      · intro x hx
        simp only [List.mem_map, List.mem_range] at hx
        obtain ⟨i, hi, rfl⟩ := hx
        exact ⟨hlen i hi, (hf' i hi).2⟩
    · obtain rfl : len = 0 := by omega
      exact ⟨some a, _, 0, 0, [], rfl, fun h => by simp at h, ⟨fun i hi => absurd hi (Nat.not_lt_zero i), fun h => absurd h (Nat.lt_irrefl 0)⟩, Nat.zero_le _, by simp⟩
theorem rows_map {α : Type} (f : α → List Value) (G : α → Prop) : ∀ (rows : List (List Value)), (∀ x, x ∈ rows → ∃ a, x = f a ∧ G a) → ∃ l : List α, rows = l.map f ∧ ∀ a, a ∈ l → G a
  | [], _ => ⟨[], rfl, by simp⟩
  | x :: rows, h => by
    obtain ⟨a, rfl, ha⟩ := h x (by simp)
    obtain ⟨l, rfl, hl⟩ := rows_map f G rows (fun y hy => h y (by simp [hy]))
    exact ⟨a :: l, rfl, by simpa using ⟨ha, hl⟩⟩
end Go.Proofs.YtbcgpjfejpcgnaaGreat
end
section
namespace Go.Proofs.YtbcgpjfejpcgnaaGreat
abbrev Str := List UInt8
structure Ent where
  k : Str
  v : Str
structure Wrt where
  k : Str
  v : Str
  d : Bool
theorem slt_irrefl (a : Str) : ¬ a < a := List.lt_irrefl a
theorem slt_trans {a b c : Str} (h : a < b) (h' : b < c) : a < c := List.lt_trans h h'
theorem slt_asymm {a b : Str} (h : a < b) : ¬ b < a := List.lt_asymm h
theorem slt_tri {a b : Str} (h : ¬ a < b) (h' : ¬ b < a) : a = b := List.le_antisymm (α := UInt8) («as» := a) (bs := b) (List.not_lt.1 h') (List.not_lt.1 h)
theorem slt_ne {a b : Str} (h : a < b) : a ≠ b := fun e => by subst e; exact slt_irrefl _ h
theorem slt_of {a b : Str} (h : ¬ a < b) (h' : a ≠ b) : b < a := by
  by_cases h2 : b < a
  · exact h2
  · exact absurd (slt_tri h h2) h'
theorem sle_trans {a b c : Str} (h : ¬ b < a) (h' : b < c) : a < c := by
  by_cases e : a = b
  · subst e; exact h'
  · exact slt_trans (slt_of h (fun x => e x.symm)) h'
def Asc (l : List Ent) : Prop := l.Pairwise (fun a b => a.k < b.k)
def lk : List Ent → Str → Option Str
  | [], _ => none
  | e :: t, k => if e.k = k then some e.v else lk t k
theorem lk_none {l : List Ent} {k : Str} (h : ∀ x ∈ l, x.k ≠ k) : lk l k = none := by
  induction l with
  | nil => rfl
  | cons e t ih => rw [lk, if_neg (h e (by simp)), ih (fun x hx => h x (by simp [hx]))]
def putR (e : Ent) : List Ent → List Ent
  | [] => [e]
  | x :: xs => if x.k < e.k then x :: putR e xs else e :: (x :: xs).filter (fun y => decide (y.k ≠ e.k))
def dropR (k : Str) (l : List Ent) : List Ent := l.filter (fun y => decide (y.k ≠ k))
theorem mem_putR {e x : Ent} {l : List Ent} (h : x ∈ putR e l) : x = e ∨ x ∈ l := by
  induction l with
  | nil => simpa [putR] using h
  | cons y ys ih =>
    rw [putR] at h
    split at h
    · rcases List.mem_cons.1 h with rfl | h
      · exact .inr (by simp)
      · rcases ih h with h | h
        · exact .inl h
        · exact .inr (by simp [h])
    · rcases List.mem_cons.1 h with rfl | h
      · exact .inl rfl
      · exact .inr (List.mem_filter.1 h).1
theorem asc_dropR {l : List Ent} (k : Str) (h : Asc l) : Asc (dropR k l) := h.filter _
theorem asc_putR {l : List Ent} (e : Ent) (h : Asc l) : Asc (putR e l) := by
  induction l with
  | nil => simp [putR, Asc]
  | cons x xs ih =>
    have h' := List.pairwise_cons.1 h
    rw [putR]
    split
    · rename_i hlt
      refine List.pairwise_cons.2 ⟨fun y hy => ?_, ih h'.2⟩
      rcases mem_putR hy with rfl | hy
      · exact hlt
      · exact h'.1 y hy
    · rename_i hlt
      refine List.pairwise_cons.2 ⟨fun y hy => ?_, h.filter _⟩
      obtain ⟨hy, hne⟩ := List.mem_filter.1 hy
      have hne : y.k ≠ e.k := by simpa using hne
      rcases List.mem_cons.1 hy with rfl | hy
      · exact slt_of hlt hne
      · exact sle_trans hlt (h'.1 y hy)
def stepR (l : List Ent) (w : Wrt) : List Ent := if w.d then dropR w.k l else putR ⟨w.k, w.v⟩ l
def applyR (l : List Ent) (b : List Wrt) : List Ent := b.foldl stepR l
theorem asc_stepR {l : List Ent} (w : Wrt) (h : Asc l) : Asc (stepR l w) := by
  unfold stepR; split
  · exact asc_dropR _ h
  · exact asc_putR _ h
theorem asc_applyR {l : List Ent} (b : List Wrt) (h : Asc l) : Asc (applyR l b) := by
  induction b generalizing l with
  | nil => exact h
  | cons w b ih => exact ih (asc_stepR w h)
theorem putR_split (e : Ent) (A B : List Ent) (hA : ∀ x ∈ A, x.k < e.k) (hB : ∀ x ∈ B, e.k < x.k) : putR e (A ++ B) = A ++ e :: B := by
  induction A with
  | nil =>
    cases B with
    | nil => rfl
    | cons b B =>
      have hf : (b :: B).filter (fun y => decide (y.k ≠ e.k)) = b :: B := List.filter_eq_self.2 fun x hx => by simp only [decide_eq_true_eq]; exact fun y => slt_ne (hB x hx) y.symm
      rw [List.nil_append, putR, if_neg (slt_asymm (hB b (by simp))), hf, List.nil_append]
  | cons a A ih => rw [List.cons_append, putR, if_pos (hA a (by simp)), ih (fun x hx => hA x (by simp [hx])), List.cons_append]
theorem putR_split' (e : Ent) (v : Str) (A B : List Ent) (hA : ∀ x ∈ A, x.k < e.k) (hB : ∀ x ∈ B, e.k < x.k) : putR e (A ++ ⟨e.k, v⟩ :: B) = A ++ e :: B := by
  induction A with
  | nil =>
    have hf : B.filter (fun y => decide (y.k ≠ e.k)) = B := List.filter_eq_self.2 fun x hx => by simp only [decide_eq_true_eq]; exact fun y => slt_ne (hB x hx) y.symm
    rw [List.nil_append, putR, if_neg (slt_irrefl _), List.filter_cons_of_neg (by simp), hf, List.nil_append]
  | cons a A ih => rw [List.cons_append, putR, if_pos (hA a (by simp)), ih (fun x hx => hA x (by simp [hx])), List.cons_append]
theorem dropR_split (k : Str) (A B : List Ent) (hA : ∀ x ∈ A, x.k < k) (hB : ∀ x ∈ B, k < x.k) : dropR k (A ++ B) = A ++ B := by
  refine List.filter_eq_self.2 fun x hx => ?_
  simp only [decide_eq_true_eq]
  rcases List.mem_append.1 hx with h | h
  · exact slt_ne (hA x h)
  · exact fun y => slt_ne (hB x h) y.symm
theorem dropR_split' (k v : Str) (A B : List Ent) (hA : ∀ x ∈ A, x.k < k) (hB : ∀ x ∈ B, k < x.k) : dropR k (A ++ ⟨k, v⟩ :: B) = A ++ B := by
  have := dropR_split k A B hA hB
  unfold dropR at this ⊢
  rw [List.filter_append, List.filter_cons_of_neg (by simp), ← List.filter_append, this]
def okW (w : Wrt) : Bool := decide (w.k.length ≤ 32) && decide (w.v.length ≤ 64)
def okD (w : Wrt) : Bool := !w.d || decide (w.v = [])
def checkR (tl iv : Int) (b : List Wrt) : Int := if 16 < b.length then tl else if b.all okW then (if b.all okD then 0 else iv) else tl
theorem length_putR_le (e : Ent) (l : List Ent) : (putR e l).length ≤ l.length + 1 := by
  induction l with
  | nil => simp [putR]
  | cons x xs ih =>
    rw [putR]
    split
    · simp; omega
    · have := List.length_filter_le (fun y : Ent => decide (y.k ≠ e.k)) (x :: xs)
      simp only [List.length_cons] at this ⊢; omega
theorem length_stepR_le (l : List Ent) (w : Wrt) : (stepR l w).length ≤ l.length + 1 := by
  unfold stepR; split
  · have := List.length_filter_le (fun y : Ent => decide (y.k ≠ w.k)) l
    unfold dropR; omega
  · exact length_putR_le _ _
theorem length_applyR (l : List Ent) (b : List Wrt) : (applyR l b).length ≤ l.length + b.length := by
  induction b generalizing l with
  | nil => simp [applyR]
  | cons w b ih =>
    have h1 := ih (stepR l w)
    have h2 := length_stepR_le l w
    rw [show applyR l (w :: b) = applyR (stepR l w) b from rfl, List.length_cons]; omega
end Go.Proofs.YtbcgpjfejpcgnaaGreat
end
section
namespace Go.Proofs.YtbcgpjfejpcgnaaGreat
open Go.RowKit
def eC (e : Ent) : List Value := [.string ⟨e.k.toArray⟩, .string ⟨e.v.toArray⟩]
def wC (w : Wrt) : List Value := [.string ⟨w.k.toArray⟩, .string ⟨w.v.toArray⟩, .bool w.d]
def eCs (l : List Ent) : List Value := l.flatMap eC
def wCs (l : List Wrt) : List Value := l.flatMap wC
theorem eCs_append (l m : List Ent) : eCs (l ++ m) = eCs l ++ eCs m := by simp [eCs]
theorem eCs_one (e : Ent) : eCs [e] = eC e := by simp [eCs]
theorem eCs_cons (e : Ent) (l : List Ent) : eCs (e :: l) = eC e ++ eCs l := by simp [eCs]
theorem eCs_length (l : List Ent) : (eCs l).length = l.length * 2 := by
  induction l with
  | nil => rfl
  | cons e l ih => rw [eCs_cons, List.length_append, ih, List.length_cons]; simp [eC]; omega
theorem wCs_cons (e : Wrt) (l : List Wrt) : wCs (e :: l) = wC e ++ wCs l := by simp [wCs]
theorem wCs_length (l : List Wrt) : (wCs l).length = l.length * 3 := by
  induction l with
  | nil => rfl
  | cons e l ih => rw [wCs_cons, List.length_append, ih, List.length_cons]; simp [wC]; omega
theorem eCs_cells (l : List Ent) (i : Nat) (e : Ent) (h : l[i]? = some e) (r : List Value) : (eCs l ++ r)[i * 2]? = some (.string ⟨e.k.toArray⟩) ∧ (eCs l ++ r)[i * 2 + 1]? = some (.string ⟨e.v.toArray⟩) := by
  induction l generalizing i with
  | nil => simp at h
  | cons x l ih =>
    cases i with
    | zero => simp at h; subst h; simp [eCs_cons, eC]
    | succ i =>
      obtain ⟨h1, h2⟩ := ih i (by simpa using h)
      rw [eCs_cons, show (i + 1) * 2 = i * 2 + 2 by omega]
      refine ⟨?_, ?_⟩
      · simpa [eC, List.append_assoc] using h1
      · rw [show i * 2 + 2 + 1 = i * 2 + 1 + 2 by omega]; simpa [eC, List.append_assoc] using h2
theorem wCs_cells (l : List Wrt) (i : Nat) (e : Wrt) (h : l[i]? = some e) (r : List Value) : (wCs l ++ r)[i * 3]? = some (.string ⟨e.k.toArray⟩) ∧ (wCs l ++ r)[i * 3 + 1]? = some (.string ⟨e.v.toArray⟩) ∧ (wCs l ++ r)[i * 3 + 2]? = some (.bool e.d) := by
  induction l generalizing i with
  | nil => simp at h
  | cons x l ih =>
    cases i with
    | zero => simp at h; subst h; simp [wCs_cons, wC]
    | succ i =>
      obtain ⟨h1, h2, h3⟩ := ih i (by simpa using h)
      rw [wCs_cons, show (i + 1) * 3 = i * 3 + 3 by omega]
      refine ⟨?_, ?_, ?_⟩
      · simpa [wC, List.append_assoc] using h1
      · rw [show i * 3 + 3 + 1 = i * 3 + 1 + 3 by omega]; simpa [wC, List.append_assoc] using h2
      · rw [show i * 3 + 3 + 2 = i * 3 + 2 + 3 by omega]; simpa [wC, List.append_assoc] using h3
theorem eCs_one' {l : List Ent} {u : Value} (h : u ∈ eCs l) : u.oneCell' = true := by
  simp only [eCs, List.mem_flatMap] at h
  obtain ⟨e, _, h⟩ := h
  simp only [eC, List.mem_cons, List.mem_nil_iff, or_false] at h
  rcases h with rfl | rfl <;> rfl
theorem wCs_one' {l : List Wrt} {u : Value} (h : u ∈ wCs l) : u.oneCell' = true := by
  simp only [wCs, List.mem_flatMap] at h
  obtain ⟨e, _, h⟩ := h
  simp only [wC, List.mem_cons, List.mem_nil_iff, or_false] at h
  rcases h with rfl | rfl | rfl <;> rfl
def Lst (w : World) (v : Value) (n : Nat) (cs : List Value) : Prop := ∃ A cap b o, v = .slice A n cap ∧ (0 < n → A = some ⟨b, o, none⟩) ∧ Arr w b o cs
theorem Lst.keeps {w w' : World} {v : Value} {n : Nat} {cs : List Value} (h : Lst w v n cs) (k : Keeps [] w w') : Lst w' v n cs := by
  obtain ⟨A, cap, b, o, h1, h2, h3⟩ := h
  exact ⟨A, cap, b, o, h1, h2, h3.keeps k (by simp)⟩
theorem Arr.nil (w : World) : Arr w 0 0 [] := ⟨fun i hi => absurd hi (Nat.not_lt_zero i), fun h => absurd h (Nat.lt_irrefl 0)⟩
theorem Lst.nil (w : World) : Lst w (.slice none 0 0) 0 [] := ⟨none, 0, 0, 0, rfl, fun h => absurd h (Nat.lt_irrefl 0), Arr.nil w⟩
theorem Lst.blk {w : World} {g n cap : Nat} {cs rest : List Value} (h : Blk w g (cs ++ rest)) : Lst w (.slice (some ⟨g, 0, none⟩) n cap) n cs :=
  ⟨_, cap, g, 0, rfl, fun _ => rfl, ⟨fun i hi => by rw [h.cell, Nat.zero_add, List.getElem?_append_left hi], fun _ => h.lt⟩⟩
theorem Lst.own {w : World} {base e size n : Nat} {v : Value} {cs : List Value} (h : w.ownsRow base e size v n cs) : Lst w v n cs := by
  obtain ⟨h1, h2⟩ := h
  rcases h2 with ⟨rfl, rfl⟩ | ⟨g, cap, cur, rfl, hg, hh, hnc, hcm, hcs, ht⟩
  · have : cs = [] := List.eq_nil_of_length_eq_zero (by simpa using h1)
    subst this
    exact Lst.nil w
  · have hb : Blk w g (cs ++ cur.toList.drop (n * size)) := ⟨e, by rw [hh, ← ht, List.take_append_drop]⟩
    exact Lst.blk hb
theorem Arr.ent {w : World} {b o : Nat} {l : List Ent} (h : Arr w b o (eCs l)) {i : Nat} {e : Ent} (he : l[i]? = some e) :
    w.cell? ⟨b, o + i * 2, none⟩ = some (.string ⟨e.k.toArray⟩) ∧ w.cell? ⟨b, o + i * 2 + 1, none⟩ = some (.string ⟨e.v.toArray⟩) ∧ b < w.heap.size := by
  have hi := (List.getElem?_eq_some_iff.1 he).1
  obtain ⟨h1, h2⟩ := eCs_cells l i e he []
  rw [List.append_nil] at h1 h2
  refine ⟨?_, ?_, h.lt (by rw [eCs_length]; omega)⟩
  · rw [h.cells _ (by rw [eCs_length]; omega), h1]
  · rw [Nat.add_assoc, h.cells _ (by rw [eCs_length]; omega), h2]
theorem Arr.wrt {w : World} {b o : Nat} {l : List Wrt} (h : Arr w b o (wCs l)) {i : Nat} {e : Wrt} (he : l[i]? = some e) :
    w.cell? ⟨b, o + i * 3, none⟩ = some (.string ⟨e.k.toArray⟩) ∧ w.cell? ⟨b, o + i * 3 + 1, none⟩ = some (.string ⟨e.v.toArray⟩) ∧ w.cell? ⟨b, o + i * 3 + 2, none⟩ = some (.bool e.d) ∧ b < w.heap.size := by
  have hi := (List.getElem?_eq_some_iff.1 he).1
  obtain ⟨h1, h2, h3⟩ := wCs_cells l i e he []
  rw [List.append_nil] at h1 h2 h3
  refine ⟨?_, ?_, ?_, h.lt (by rw [wCs_length]; omega)⟩
  · rw [h.cells _ (by rw [wCs_length]; omega), h1]
  · rw [Nat.add_assoc, h.cells _ (by rw [wCs_length]; omega), h2]
  · rw [Nat.add_assoc, h.cells _ (by rw [wCs_length]; omega), h3]
theorem cells2_new (w : World) (x y : Value) (t : TypeId) : ∀ j u, [x, y][j]? = some u → (w.alloc (.cells #[x, y] t)).cell? ((⟨w.heap.size, 0, none⟩ : Addr).add j) = some u := by
  intro j u hj
  match j, hj with
  | 0, hj => simp at hj; subst hj; simp [Addr.add]
  | 1, hj => simp at hj; subst hj; simp [Addr.add]
theorem cells3_new (w : World) (x y z : Value) (t : TypeId) : ∀ j u, [x, y, z][j]? = some u → (w.alloc (.cells #[x, y, z] t)).cell? ((⟨w.heap.size, 0, none⟩ : Addr).add j) = some u := by
  intro j u hj
  match j, hj with
  | 0, hj => simp at hj; subst hj; simp [Addr.add]
  | 1, hj => simp at hj; subst hj; simp [Addr.add]
  | 2, hj => simp at hj; subst hj; simp [Addr.add]
theorem setRow_blk {w : World} {g : Nat} {cs ds : List Value} (h : Blk w g cs) : Blk (w.setRow g ds.toArray) g ds ∧ Keeps [g] w (w.setRow g ds.toArray) := by
  obtain ⟨T, hh⟩ := h
  refine ⟨⟨T, setRow_heap w g _ _ T _ hh⟩, rfl, rfl, rfl, by simp [World.setRow], fun k _ hn => setRow_other w g k _ (by simpa using hn)⟩
def spl (cs : List Value) (o : Nat) (news : List Value) : List Value := cs.take o ++ news ++ cs.drop (o + news.length)
theorem run_copyK {P : Program} (w : World) (dT elem : TypeId) (k : Nat) (g o dLen dCap : Nat) (a : Addr) (sLen sCap : Nat) (cs news : List Value)
    (hu : P.underlying dT = some (.slice elem)) (hs : (P.info? elem).map (·.size) = some k)
    (hg : Blk w g cs) (hn : news.length = Nat.min sLen dLen * k)
    (hsrc : ∀ j v, news[j]? = some v → w.cell? (a.add j) = some v) (hfit : o + news.length ≤ cs.length) (h1 : ∀ v ∈ news, v.oneCell' = true) :
    ∃ w', (∀ ty, (Builtin.copy_ #[dT, dT] ty #[.slice (some ⟨g, o, none⟩) dLen dCap, .slice (some a) sLen sCap]).run P w = .ok (goInt (Nat.min sLen dLen)) w') ∧ Blk w' g (spl cs o news) ∧ Keeps [g] w w' := by
  obtain ⟨h2, h3⟩ := setRow_blk (ds := spl cs o news) hg
  refine ⟨_, fun ty => ?_, h2, h3⟩
  obtain ⟨T, hh⟩ := hg
  have hl := run_loadCells_list (P := P) w a news hsrc
  have hst := run_storeCells_at P g o T news 0 cs.toArray w hh (by simpa using hfit) h1
  cases hq : P.info? elem with
  | none => simp [hq] at hs
  | some i =>
    have hi : i.size = k := by simpa [hq] using hs
    rw [hn] at hl
    simp [Builtin.copy_, run_underlying hu, Builtin.lenOf, Builtin.firstCells, sizeOf, typeInfo, hq, hi, hl, hst, spl]
theorem run_appendK {P : Program} (w : World) (t e : TypeId) (k : Nat) (ht : P.underlying t = some (.slice e)) (hs : (P.info? e).map (·.size) = some k)
    (g n cap : Nat) (cs : List Value) (hg : Blk w g cs) (a : Addr) (m c : Nat) (news : List Value) (hl : news.length = m * k) (hnews : ∀ j u, news[j]? = some u → w.cell? (a.add j) = some u) (h1 : ∀ u ∈ news, u.oneCell' = true)
    (hroom : n + m ≤ cap) (hfit : n * k + news.length ≤ cs.length) :
    ∃ w', (∀ ty, (Builtin.append_ #[t, t] ty #[.slice (some ⟨g, 0, none⟩) n cap, .slice (some a) m c]).run P w = .ok (.slice (some ⟨g, 0, none⟩) (n + m) cap) w') ∧ Blk w' g (spl cs (n * k) news) ∧ Keeps [g] w w' := by
  obtain ⟨h2, h3⟩ := setRow_blk (ds := spl cs (n * k) news) hg
  refine ⟨_, fun ty => ?_, h2, h3⟩
  obtain ⟨T, hh⟩ := hg
  cases hq : P.info? e with
  | none => simp [hq] at hs
  | some i =>
    have hi : i.size = k := by simpa [hq] using hs
    subst hi
    have hf := run_firstCells_some (P := P) w i.size m a m c news hl hnews
    have hst := run_storeCells_at P g (n * i.size) T news 0 cs.toArray w hh (by simpa using hfit) h1
    simp only [Nat.add_zero] at hst
    simp [Builtin.append_, run_underlying ht, sizeOf, typeInfo, hq, Builtin.lenOf, hroom, hf, Addr.add_lit, hst, spl]
theorem run_clearK {P : Program} (w : World) (t e : TypeId) (z : Array Value) (zv : Value) (ht : P.underlying t = some (.slice e)) (hv : ∀ w, (zeroValue e).run P w = .ok zv w) (hz : zv.cells = z) (hz1 : ∀ u ∈ z, u.oneCell' = true)
    (g o n c : Nat) (cs : List Value) (hg : Blk w g cs) (hfit : o + n * z.size ≤ cs.length) :
    ∃ w', (∀ ty, (Builtin.clear_ #[t] ty #[.slice (some ⟨g, o, none⟩) n c]).run P w = .ok (.tuple #[]) w') ∧ Blk w' g (spl cs o (Builtin.zeroCells z n).toList) ∧ Keeps [g] w w' := by
  by_cases hn : n = 0
  · subst hn
    refine ⟨w, fun ty => by simp [Builtin.clear_, run_underlying ht], ?_, Keeps.refl _ _⟩
    simpa [spl, Builtin.zeroCells] using hg
  obtain ⟨h2, h3⟩ := setRow_blk (ds := spl cs o (Builtin.zeroCells z n).toList) hg
  refine ⟨_, fun ty => ?_, h2, h3⟩
  obtain ⟨T, hh⟩ := hg
  have hlen : (Builtin.zeroCells z n).toList.length = n * z.size := by rw [Array.length_toList, size_zeroCells]
  have hst := run_storeCells_at P g o T (Builtin.zeroCells z n).toList 0 cs.toArray w hh (by rw [hlen]; simpa using hfit) (fun u hu => by
    simp only [Builtin.zeroCells, Array.mem_toList_iff, Array.mem_map, Array.mem_range] at hu
    obtain ⟨i, hi, rfl⟩ := hu
    have hp : 0 < z.size := by
      rcases Nat.eq_zero_or_pos z.size with h0 | h0
      · rw [h0] at hi; simp at hi
      · exact h0
    have hm : i % z.size < z.size := Nat.mod_lt _ hp
    rw [getElem!_pos z _ hm]
    exact hz1 _ (Array.getElem_mem hm))
  cases n with
  | zero => exact absurd rfl hn
  | succ n => simp [Builtin.clear_, run_underlying ht, hv, hz, hst, spl]
end Go.Proofs.YtbcgpjfejpcgnaaGreat
end
