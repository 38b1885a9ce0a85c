/- What the walk of build asks: arguments, the list on its way, the exchange of two records. -/
import Derived.Test.YtjlgodaiciopaaaHisW
import Derived.Deep.CutBlock
namespace Go.Proofs.Ytjlgodaiciopaaa
open Go.RowKit Go.Shelf Go.Lib Go.Sort
set_option maxRecDepth 100000
set_option linter.unusedSimpArgs false
set_option maxHeartbeats 400000
def rnC (r : Rn) : List Value := [.int .u8 r.pause, .int .u8 r.at_, .int .u8 r.rest, .bool r.op, .bool r.late]
def rnCs (l : List Rn) : List Value := l.flatMap rnC
def OkRn (r : Rn) : Prop := r.pause < 256 ∧ r.at_ < 256 ∧ r.rest < 256
/-- The lists of runs, as an argument. -/
def OkRuns (w : World) (v : Value) (X : List (Value × List Rn)) : Prop :=
  Lst w v X.length (X.map (·.1)) ∧ X.length ≤ 9223372036854775807 ∧ ∀ p ∈ X, Lst w p.1 p.2.length (rnCs p.2) ∧ p.2.length ≤ 9223372036854775807 ∧ ∀ r ∈ p.2, OkRn r
def rvOf (r : Rec) : RV := ⟨r, 9, ⟨#[]⟩, 0, none, 0, [], 0, 0, 0, 0, 0, ⟨#[]⟩, ⟨#[]⟩⟩
def runsOf (X : List (Value × List Rn)) (t : Nat) : List Rn := match X[t]? with
  | some p => p.2
  | none => []
/-- What build makes. -/
def bldOf (X : List (Value × List Rn)) : List Rec := bld (min X.length 6) (runsOf X) (min X.length 6)
theorem rnCs_len (l : List Rn) : (rnCs l).length = l.length * 5 := by
  induction l with
  | nil => rfl
  | cons e l ih => simp only [rnCs, List.flatMap_cons, List.length_append, List.length_cons] at ih ⊢; rw [ih]; simp [rnC]; omega
theorem rnCs_cells (l : List Rn) (i : Nat) (p : Rn) (h : l[i]? = some p) (j : Nat) (hj : j < 5) : (rnCs l)[i * 5 + j]? = (rnC p)[j]? := by
  induction l generalizing i with
  | nil => simp at h
  | cons x l ih =>
    have e : rnCs (x :: l) = rnC x ++ rnCs l := by simp [rnCs]
    have e5 : (rnC x).length = 5 := rfl
    cases i with
    | zero =>
      simp at h; subst h
      rw [e, Nat.zero_mul, Nat.zero_add, List.getElem?_append_left (by omega)]
    | succ i =>
      rw [e, List.getElem?_append_right (by omega), ← ih i (by simpa using h)]
      congr 1
      omega
theorem Lst.rn {w : World} {A : Option Addr} {n cap : Nat} {l : List Rn} (h : Lst w (.slice A n cap) n (rnCs l)) (hn : l.length = n) {i : Nat} {r : Rn} (hr : l[i]? = some r) :
    ∃ g o, A = some ⟨g, o, none⟩ ∧ w.cell? ⟨g, o + i * 5, none⟩ = some (.int .u8 r.pause) ∧ w.cell? ⟨g, o + i * 5 + 1, none⟩ = some (.int .u8 r.at_) ∧ w.cell? ⟨g, o + i * 5 + 2, none⟩ = some (.int .u8 r.rest) ∧ w.cell? ⟨g, o + i * 5 + 3, none⟩ = some (.bool r.op) ∧ w.cell? ⟨g, o + i * 5 + 4, none⟩ = some (.bool r.late) ∧ g < w.heap.size := by
  subst hn
  have hi := (List.getElem?_eq_some_iff.1 hr).1
  obtain ⟨A', cap', b, o, e, hA, har⟩ := h
  injection e with e1 _ _
  subst e1
  obtain rfl := hA (by omega)
  have hc := fun j (hj : j < 5) => (har.cells (i * 5 + j) (by rw [rnCs_len]; omega)).trans (rnCs_cells l i r hr j hj)
  refine ⟨b, o, rfl, ?_, ?_, ?_, ?_, ?_, har.lt (by rw [rnCs_len]; omega)⟩
  · exact hc 0 (by omega)
  · have := hc 1 (by omega); rw [← Nat.add_assoc] at this; exact this
  · have := hc 2 (by omega); rw [← Nat.add_assoc] at this; exact this
  · have := hc 3 (by omega); rw [← Nat.add_assoc] at this; exact this
  · have := hc 4 (by omega); rw [← Nat.add_assoc] at this; exact this
/-- A list's cell of one value each. -/
theorem Lst.one {w : World} {A : Option Addr} {n cap : Nat} {l : List Value} (h : Lst w (.slice A n cap) n l) (hn : l.length = n) {i : Nat} {v : Value} (hv : l[i]? = some v) :
    ∃ g o, A = some ⟨g, o, none⟩ ∧ w.cell? ⟨g, o + i, none⟩ = some v ∧ g < w.heap.size := by
  subst hn
  have hi := (List.getElem?_eq_some_iff.1 hv).1
  obtain ⟨A', cap', b, o, e, hA, har⟩ := h
  injection e with e1 _ _
  subst e1
  obtain rfl := hA (by omega)
  exact ⟨b, o, rfl, (har.cells i hi).trans hv, har.lt (by omega)⟩
theorem sink_at {l : List Rec} (hl : Sorted l) (x : Rec) (i : Nat) (hi : i ≤ l.length) (h1 : ∀ y ∈ l.drop i, x.inv < y.inv) (h2 : ∀ y, 0 < i → l[i - 1]? = some y → y.inv ≤ x.inv) : sink x l = l.take i ++ x :: l.drop i := by
  obtain ⟨A, B, rfl, e2, e3, e4⟩ := sink_split hl x
  have : A.length = i := by
    rcases Nat.lt_trichotomy A.length i with h | h | h
    · exfalso
      have hg : (A ++ B)[i - 1]? = some (B[i - 1 - A.length]'(by simp at hi; omega)) := by
        rw [List.getElem?_append_right (by omega)]; exact List.getElem?_eq_getElem _
      have := h2 _ (by omega) hg
      have := e4 _ (List.getElem_mem (l := B) (n := i - 1 - A.length) (by simp at hi; omega))
      omega
    · exact h
    · exfalso
      have hm : A[i] ∈ (A ++ B).drop i := by
        rw [List.drop_append_of_le_length (by omega)]
        exact List.mem_append_left _ (by rw [List.drop_eq_getElem_cons h]; exact List.mem_cons_self ..)
      have := h1 _ hm
      have := e3 _ (List.getElem_mem h)
      omega
  rw [e2]
  subst this
  rw [List.take_append_of_le_length (Nat.le_refl _), List.take_length, List.drop_append_of_le_length (Nat.le_refl _), List.drop_length, List.nil_append]
theorem adds_len : ∀ (xs l : List Rec), Sorted l → Sorted (adds l xs) ∧ (adds l xs).length = l.length + xs.length
  | [], l, h => ⟨h, rfl⟩
  | x :: xs, l, h => by
    obtain ⟨h1, h2⟩ := adds_len xs (sink x l) (sink_sorted h x)
    have e : adds l (x :: xs) = adds (sink x l) xs := rfl
    rw [e]
    exact ⟨h1, by rw [h2, sink_length h, List.length_cons]; omega⟩
theorem wrap2 (z : Int) (a m c : Nat) (hz : z = (a : Int)) (h : a + m = c) (hc : c ≤ 100000) : wrap64 (wrap64 z + (m : Int)) = (c : Int) := by
  subst hz
  rw [IntWalk.wrap64_in (a : Int) (by omega), IntWalk.wrap64_in _ (by omega)]
  omega
theorem okn_nil (w : World) (N : List Nat) (x : RV) (h : x.b = []) : OkN w N x := ⟨0, 0, fun h0 => by rw [h] at h0; exact absurd h0 (by simp), by rw [h]; exact Arr.nil w⟩
theorem pk_rv {w : World} {base : Nat} {v : Value} {L : List Rec} (hr : Row w v (L.map rvOf).length 16 (rCs (L.map rvOf))) (hge : ∀ g, v.ownBlock = some g → base ≤ g) : Pk w base v (L.map rvOf) :=
  ⟨hr, fun y hy => okn_nil _ _ _ (by obtain ⟨x, _, rfl⟩ := List.mem_map.1 hy; rfl), hge⟩
/-- The list on its way: x at place i. -/
def atPl (L : List Rec) (x : Rec) (i : Nat) : List RV := (L.take i ++ x :: L.drop i).map rvOf
theorem atPl_len (L : List Rec) (x : Rec) (i : Nat) : (atPl L x i).length = L.length + 1 := by
  unfold atPl
  rw [List.length_map, List.length_append, List.length_cons, List.length_take, List.length_drop]; omega
theorem atPl_end (L : List Rec) (x : Rec) : atPl L x L.length = L.map rvOf ++ [rvOf x] := by simp [atPl]
theorem atPl_cut {L : List Rec} {x y : Rec} {j : Nat} (h : L[j]? = some y) : atPl L x (j + 1) = (L.take j).map rvOf ++ rvOf y :: ([] ++ rvOf x :: (L.drop (j + 1)).map rvOf) ∧ atPl L x j = (L.take j).map rvOf ++ rvOf x :: ([] ++ rvOf y :: (L.drop (j + 1)).map rvOf) := by
  obtain ⟨h1, h2⟩ := List.getElem?_eq_some_iff.1 h
  unfold atPl
  constructor
  · rw [List.take_add_one, h]; simp
  · rw [List.drop_eq_getElem_cons h1, h2]; simp
theorem atPl_swp {L : List Rec} {x y : Rec} {j : Nat} (h : L[j]? = some y) : swp (atPl L x (j + 1)).toArray j (j + 1) = (atPl L x j).toArray := by
  have hj := (List.getElem?_eq_some_iff.1 h).1
  obtain ⟨e1, e2⟩ := atPl_cut (x := x) h
  rw [e1, e2]
  exact swp_list _ [] _ _ _ j (j + 1) (by simp; omega) (by simp; omega)
theorem atPl_cells {w : World} {g : Nat} {rest : List Value} {L : List Rec} {x y : Rec} {j : Nat} (h : L[j]? = some y) (hb : Blk w g (rCs (atPl L x (j + 1)) ++ rest)) :
    w.cell? ⟨g, j * 16 + 2, none⟩ = some (.int .i64 y.inv) ∧ w.cell? ⟨g, (j + 1) * 16 + 2, none⟩ = some (.int .i64 x.inv) := by
  have hj := (List.getElem?_eq_some_iff.1 h).1
  obtain ⟨e1, _⟩ := atPl_cut (x := x) h
  have l1 : (atPl L x (j + 1))[j]? = some (rvOf y) := by rw [e1, List.getElem?_append_right (by simp; omega)]; simp; rw [show j - min j L.length = 0 by omega]; rfl
  have l2 : (atPl L x (j + 1))[j + 1]? = some (rvOf x) := by rw [e1, List.getElem?_append_right (by simp; omega)]; simp; rw [show j + 1 - min j L.length = 1 by omega]; rfl
  exact ⟨by rw [hb.cell, rCs_cells _ rest j _ l1 2 (by omega)]; rfl, by rw [hb.cell, rCs_cells _ rest (j + 1) _ l2 2 (by omega)]; rfl⟩
theorem step_load_eq {P : Program} {ops : Array Oper} {o : Oper} {a : Act} {w : World} {K : Act → World → Prop} {Q : Exit → Act → World → Prop} {E : Prop}
    (hg : o.guard = none) (ty : TypeId) (x : Operand) (hop : o.op = .load ty x) (p : Addr) (hx : a.eval x = .pointer (some p)) (v : Value) (hr : (loadVar ty p).run P w = .ok v w) (hK : K (a.put o.dst v) w) :
    if Region.wanted o (yielded ops a.tmps) = true then Oper.wp P o a w K Q else E := by
  rw [if_pos (by simp [Region.wanted, hg])]
  unfold Oper.wp execOp
  simp only [hop, hx, Instr.loadAt, Instr.sureAddr, Sem.run_bind, Sem.run_pure, Result.andThen_ok, hr]
  exact hK
theorem step_store_eq {P : Program} {ops : Array Oper} {o : Oper} {a : Act} {w : World} {K : Act → World → Prop} {Q : Exit → Act → World → Prop} {E : Prop}
    (hg : o.guard = none) (ty : TypeId) (x y : Operand) (hop : o.op = .store ty x y) (p : Addr) (hx : a.eval x = .pointer (some p)) (v : Value) (hy : a.eval y = v) {w' : World} (hr : (storeVar ty p v).run P w = .ok () w') (hK : K (a.put o.dst undef) w') :
    if Region.wanted o (yielded ops a.tmps) = true then Oper.wp P o a w K Q else E := by
  rw [if_pos (by simp [Region.wanted, hg])]
  unfold Oper.wp execOp
  simp only [hop, hx, hy, Instr.storeAt, Instr.sureAddr, Sem.run_bind, Sem.run_pure, Result.andThen_ok, hr]
  exact hK
theorem Blk.inj {w : World} {g : Nat} {cs ds : List Value} (h : Blk w g cs) (k : Blk w g ds) : cs = ds := by
  obtain ⟨T, h⟩ := h
  obtain ⟨U, k⟩ := k
  rw [h] at k
  injection k with k
  injection k with k
  simpa using k
theorem load_of16 {w : World} {g o : Nat} {x : RV} (h : (loadCellsFrom ⟨g, o, none⟩ 0 16 #[]).run Try.prog w = .ok (rC x).toArray w) : (loadVar 36 ⟨g, o, none⟩).run Try.prog w = .ok (.agg #[.int .i64 x.n.th, .int .i64 x.n.ix, .int .i64 x.n.inv, .int .i64 x.n.pt, .int .i64 x.n.rs, .int .i64 x.code, .string x.key, .int .u64 x.time, .slice x.bA x.b.length x.bc, .int .i64 x.hd, .int .i64 x.cu, .int .i64 x.mo, .int .i64 x.er, .int .u64 x.at_, .string x.ak, .string x.av]) w := by
  simp only [loadVar, Sem.run_bind, Try.isAgg36, Try.sizeOf36, Result.andThen_ok, if_true, loadCells, h]
  rfl
theorem store_of16 {w w' : World} {g o : Nat} {x : RV} (h : (storeCells ⟨g, o, none⟩ (rC x) 0).run Try.prog w = .ok () w') : (storeVar 36 ⟨g, o, none⟩ (.agg #[.int .i64 x.n.th, .int .i64 x.n.ix, .int .i64 x.n.inv, .int .i64 x.n.pt, .int .i64 x.n.rs, .int .i64 x.code, .string x.key, .int .u64 x.time, .slice x.bA x.b.length x.bc, .int .i64 x.hd, .int .i64 x.cu, .int .i64 x.mo, .int .i64 x.er, .int .u64 x.at_, .string x.ak, .string x.av])).run Try.prog w = .ok () w' := by
  have e : (.agg (rC x).toArray : Value).cells.toList = rC x := by simp [Value.cells]
  have e2 : (.agg (rC x).toArray : Value).cells.size = 16 := rfl
  show (storeVar 36 ⟨g, o, none⟩ (.agg (rC x).toArray)).run Try.prog w = .ok () w'
  simp only [storeVar, Sem.run_bind, Try.sizeOf36, Result.andThen_ok, e, e2, ne_eq, not_true_eq_false, if_false]
  exact h
theorem atPl_get {L : List Rec} {x y : Rec} {j : Nat} (h : L[j]? = some y) : (atPl L x (j + 1)).toArray[j]! = rvOf y ∧ (atPl L x (j + 1)).toArray[j + 1]! = rvOf x := by
  have hj := (List.getElem?_eq_some_iff.1 h).1
  obtain ⟨e1, _⟩ := atPl_cut (x := x) h
  exact ⟨get_at _ _ _ (by rw [e1, List.getElem?_append_right (by simp; omega)]; simp; rw [show j - min j L.length = 0 by omega]; rfl), get_at _ _ _ (by rw [e1, List.getElem?_append_right (by simp; omega)]; simp; rw [show j + 1 - min j L.length = 1 by omega]; rfl)⟩
/-- The exchange of two neighbours: its loads and stores, over any program and size. -/
theorem swap_gen (P : Program) {k : Nat} {wc wq : World} {gl nL : Nat} {L : List Rec} {xm y : Rec} {j : Nat} (R : RowK rC k wc gl 0 (atPl L xm nL).toArray) (S : SWK rC k wc gl 0 (atPl L xm (j + 1)).toArray wq) (h : L[j]? = some y) :
    ∃ cA cB : List Value, cA.length = k ∧ cB.length = k ∧ Sem.run P (loadCellsFrom ⟨gl, (j + 1) * k, none⟩ 0 k #[]) wq.drew = .ok cA.toArray wq.drew ∧ Sem.run P (loadCellsFrom ⟨gl, j * k, none⟩ 0 k #[]) wq.drew = .ok cB.toArray wq.drew ∧
    Sem.run P (storeCells ⟨gl, j * k, none⟩ cA 0) wq.drew = .ok () (wq.drew.setCells gl (j * k) cA) ∧ Sem.run P (storeCells ⟨gl, (j + 1) * k, none⟩ cB 0) (wq.drew.setCells gl (j * k) cA) = .ok () ((wq.drew.setCells gl (j * k) cA).setCells gl ((j + 1) * k) cB) ∧
    SWK rC k wc gl 0 (atPl L xm j).toArray ((wq.drew.setCells gl (j * k) cA).setCells gl ((j + 1) * k) cB) := by
  have hj := (List.getElem?_eq_some_iff.1 h).1
  have hs : (atPl L xm (j + 1)).toArray.size = (atPl L xm nL).toArray.size := by simp [atPl_len]
  have hsz : (atPl L xm (j + 1)).toArray.size = L.length + 1 := by simp [atPl_len]
  obtain ⟨g1, g2⟩ := atPl_get (x := xm) h
  have l1 := S.ld1 R hs P (j + 1) (by omega)
  have l2 := S.ld1 R hs P j (by omega)
  have s1 := S.st1 R hs P j (by omega) (rvOf xm)
  have s2 := S.st2 R hs P j (j + 1) (by omega) (by omega) (rvOf xm) (rvOf y)
  have sw := S.swapped R j (j + 1) (by omega) (by omega)
  rw [g2] at l1
  rw [g1] at l2
  rw [g1, g2, atPl_swp h] at sw
  simp only [Nat.zero_add] at l1 l2 s1 s2 sw
  exact ⟨rC (rvOf xm), rC (rvOf y), R.hk _, R.hk _, l1, l2, s1, s2, sw⟩
end Go.Proofs.Ytjlgodaiciopaaa
