/- The contract of the reference's Order. -/
import Derived.Test.YtjlgodaiciopaaaHisW
import Derived.Deep.CutBlock
namespace Go.Proofs.Ytjlgodaiciopaaa
open Go.RowKit Go.Shelf Go.Lib Go.Sort
set_option linter.unusedSectionVars false
set_option linter.unusedVariables false
set_option maxRecDepth 100000
set_option linter.unusedSimpArgs false
set_option maxHeartbeats 1000000
theorem Blk.setCells {w : World} {g : Nat} : ∀ (vs : List Value) {cs : List Value} (o : Nat), Blk w g cs → o + vs.length ≤ cs.length → ∀ {w0 : World}, Keeps [g] w0 w → Blk (w.setCells g o vs) g (spl cs o vs) ∧ Keeps [g] w0 (w.setCells g o vs)
  | [], cs, o, h, _, w0, k => by
    have e : spl cs o [] = cs := by simp [spl]
    rw [e]; exact ⟨h, k⟩
  | v :: vs, cs, o, h, hl, w0, k => by
    have hl' : o < cs.length := by simp at hl; omega
    have e : spl (cs.set o v) (o + 1) vs = spl cs o (v :: vs) := by
      unfold spl
      have e1 : (cs.set o v).take (o + 1) = cs.take o ++ [v] := by
        rw [List.take_add_one, List.getElem?_set_self (by simpa using hl'), List.take_set_of_le (Nat.le_refl o)]; rfl
      have e2 : (cs.set o v).drop (o + 1 + vs.length) = cs.drop (o + (v :: vs).length) := by
        rw [List.drop_set_of_lt (by omega)]; simp; congr 1; omega
      rw [e1, e2]; simp
    have := Blk.setCells vs (o + 1) (h.set o v) (by simp at hl ⊢; omega) (k.setCell ⟨g, o, none⟩ v (.inl (by simp)))
    rw [e] at this
    exact this
theorem Blk.holds {w : World} {g : Nat} {cs : List Value} (h : Blk w g cs) : Holds id w g 0 cs.toArray := fun j hj => by
  have hj' : j < cs.length := by simpa using hj
  exact ⟨by rw [h.cell, Nat.zero_add, List.getElem?_eq_getElem hj']; simp [hj'], h.frozen _⟩
theorem spl_rec (X Y : List RV) (z y : RV) (rest : List Value) : spl (rCs (X ++ z :: Y) ++ rest) (X.length * 16) (rC y) = rCs (X ++ y :: Y) ++ rest := by
  unfold spl
  have e1 : (rCs (X ++ z :: Y) ++ rest).take (X.length * 16) = rCs X := by
    rw [rCs_append, List.append_assoc, List.take_append_of_le_length (by rw [rCs_len]; exact Nat.le_refl _), List.take_of_length_le (by rw [rCs_len]; exact Nat.le_refl _)]
  have e2 : (rCs (X ++ z :: Y) ++ rest).drop (X.length * 16 + (rC y).length) = rCs Y ++ rest := by
    rw [rCs_append, rCs_cons, List.append_assoc, List.append_assoc, ← List.append_assoc (rCs X), List.drop_append, List.drop_of_length_le (by rw [List.length_append, rCs_len, rC_len, rC_len]; exact Nat.le_refl _), List.nil_append, List.length_append, rCs_len, rC_len, rC_len, Nat.sub_self, List.drop_zero]
  rw [e1, e2, rCs_append, rCs_cons]
  simp [List.append_assoc]
/-- One record stored at place i of a list. -/
theorem store_rec {w : World} {g : Nat} {X Y : List RV} {z : RV} {rest : List Value} (h : Blk w g (rCs (X ++ z :: Y) ++ rest)) (y : RV) (i : Nat) (hi : X.length = i) :
    ∃ w', (storeVar 36 ⟨g, i * 16, none⟩ (.agg #[.int .i64 y.n.th, .int .i64 y.n.ix, .int .i64 y.n.inv, .int .i64 y.n.pt, .int .i64 y.n.rs, .int .i64 y.code, .string y.key, .int .u64 y.time, .slice y.bA y.b.length y.bc, .int .i64 y.hd, .int .i64 y.cu, .int .i64 y.mo, .int .i64 y.er, .int .u64 y.at_, .string y.ak, .string y.av])).run Try.prog w = .ok () w' ∧ Blk w' g (rCs (X ++ y :: Y) ++ rest) ∧ Keeps [g] w w' := by
  subst hi
  have hlen : X.length * 16 + (rC y).length ≤ (rCs (X ++ z :: Y) ++ rest).length := by rw [List.length_append, rCs_len, rC_len]; simp; omega
  have hs := stores_of_holds Try.prog h.holds (X.length * 16) (rC y) (by simpa using hlen) (rC_one y)
  rw [Nat.zero_add] at hs
  obtain ⟨b, k⟩ := Blk.setCells (rC y) (X.length * 16) h hlen (Keeps.refl [g] w)
  rw [spl_rec] at b
  refine ⟨_, ?_, b, k⟩
  have e : (.agg (rC y).toArray : Value).cells.toList = rC y := by simp [Value.cells]
  have e2 : (.agg (rC y).toArray : Value).cells.size = 16 := rfl
  show (storeVar 36 ⟨g, X.length * 16, none⟩ (.agg (rC y).toArray)).run Try.prog w = _
  simp only [storeVar, Sem.run_bind, Try.sizeOf36, Result.andThen_ok, e, e2, ne_eq, not_true_eq_false, if_false]
  exact hs
/-- The list with a hole at place k, where z stands. -/
def holeL (L : List RV) (z : RV) (k : Nat) : List RV := L.take k ++ z :: L.drop k
theorem holeL_len (L : List RV) (z : RV) (k : Nat) : (holeL L z k).length = L.length + 1 := by
  unfold holeL
  rw [List.length_append, List.length_cons, List.length_take, List.length_drop]; omega
theorem holeL_step {L : List RV} {y : RV} {k : Nat} (h : L[k]? = some y) : L.take (k + 1) ++ y :: L.drop (k + 1) = holeL L y k := by
  obtain ⟨h1, h2⟩ := List.getElem?_eq_some_iff.1 h
  unfold holeL
  rw [List.take_add_one, h, List.drop_eq_getElem_cons h1, h2]; simp
theorem holeL_at {L : List RV} {z y : RV} {k : Nat} (h : L[k]? = some y) : (holeL L z (k + 1))[k]? = some y := by
  have hk := (List.getElem?_eq_some_iff.1 h).1
  unfold holeL
  rw [List.getElem?_append_left (by rw [List.length_take]; omega), List.getElem?_take, if_pos (by omega), h]
/-- The reference's Order, after the first i records. -/
def rordL (xs : List RV) (i : Nat) : List RV := stab keyP ((xs.take i).filter (fun x => x.n.pt != -1))
theorem rordL_full (xs : List RV) : rordL xs xs.length = ordL xs := by unfold rordL ordL; rw [List.take_length]
theorem rordL_skip {xs : List RV} {i : Nat} {x : RV} (h : xs[i]? = some x) (hp : x.n.pt = -1) : rordL xs (i + 1) = rordL xs i := by
  unfold rordL
  rw [List.take_add_one, h, List.filter_append]
  simp [hp]
theorem rordL_put {xs : List RV} {i : Nat} {x : RV} (h : xs[i]? = some x) (hp : x.n.pt ≠ -1) (k : Nat) (h1 : ∀ y ∈ (rordL xs i).drop k, keyP x < keyP y) (h2 : ∀ y, 0 < k → (rordL xs i)[k - 1]? = some y → keyP y ≤ keyP x) (hk : k ≤ (rordL xs i).length) : rordL xs (i + 1) = holeL (rordL xs i) x k := by
  have e : rordL xs (i + 1) = stab keyP (rordL xs i ++ [x]) := by
    unfold rordL
    rw [List.take_add_one, h, List.filter_append]
    have e1 : (some x).toList.filter (fun x : RV => x.n.pt != -1) = [x] := by simp [hp]
    have e2 : stab keyP [x] = [x] := rfl
    rw [e1]
    conv => rhs; rw [← e2]
    rw [stab_stab]
  have hs : SortK keyP (rordL xs i) := stab_sort _
  obtain ⟨L, hL⟩ : ∃ L, rordL xs i = L := ⟨_, rfl⟩
  rw [e]
  rw [hL] at h1 h2 hk hs ⊢
  have := stab_back (k := keyP) (x := x) (M1 := L.take k) (M2 := L.drop k) (by rw [List.take_append_drop]; exact hs) (fun y hy => by
    rcases Nat.eq_zero_or_pos k with h0 | h0
    · subst h0; simp at hy
    · obtain ⟨y0, hy0⟩ : ∃ y0, L[k - 1]? = some y0 := ⟨_, List.getElem?_eq_getElem (by omega)⟩
      have q := h2 y0 h0 hy0
      obtain ⟨j, hj⟩ := List.getElem?_of_mem hy
      have hjk := (List.getElem?_eq_some_iff.1 hj).1
      rw [List.length_take] at hjk
      rw [List.getElem?_take, if_pos (by omega)] at hj
      have := sort_le hs hj hy0 (by omega)
      omega) h1
  rw [List.take_append_drop] at this
  rw [this]; rfl
end Go.Proofs.Ytjlgodaiciopaaa
