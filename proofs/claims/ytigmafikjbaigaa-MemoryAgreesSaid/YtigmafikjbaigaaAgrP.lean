/- Calls of MemoryAgrees, and what the law holds. -/
import Derived.Test.YtigmafikjbaigaaMemLaws
import Derived.Test.YtigmafikjbaigaaCopy
import Derived.Test.YtigmafikjbaigaaIndep
import Derived.Deep.CutBlock
import Derived.Deep.RegionHeld3
namespace Go.Proofs.Ytigmafikjbaigaa
open Go.RowKit
/-- A blinktreelaw2.Call. -/
structure CallV where
  Kind : Int
  At : Int
  Old : Int
  cell : C3
  Raw : Bool
  Fit : Bool
def CallV.vs (x : CallV) : List Value := [.int .i64 x.Kind, .int .i64 x.At, .int .u64 x.Old, .int .u64 x.cell.N, .string x.cell.K, .int .u64 x.cell.M, .bool x.Raw, .bool x.Fit]
def flatC : List CallV → List Value
  | [] => []
  | x :: l => x.vs ++ flatC l
theorem flatC_get (L : List CallV) : ∀ (i : Nat) (x : CallV) (j : Nat), L[i]? = some x → j < 8 → (flatC L)[i * 8 + j]? = x.vs[j]? := by
  induction L with
  | nil => intro i x j h; simp at h
  | cons y l ih =>
    intro i x j h hj
    cases i with
    | zero =>
      simp at h; subst h
      rw [Nat.zero_mul, Nat.zero_add, flatC, List.getElem?_append_left (by simp [CallV.vs]; omega)]
    | succ i =>
      have e : (i + 1) * 8 + j = 8 + (i * 8 + j) := by omega
      rw [e, flatC, List.getElem?_append_right (by simp [CallV.vs])]
      have e2 : 8 + (i * 8 + j) - y.vs.length = i * 8 + j := by simp [CallV.vs]
      rw [e2]
      exact ih i x j (by simpa using h) hj
theorem flatC_length (L : List CallV) : (flatC L).length = L.length * 8 := by
  induction L with
  | nil => rfl
  | cons x l ih => rw [flatC, List.length_append, ih]; simp [CallV.vs]; omega
def callAt (x : CallV) (n : Nat) : Int := if x.Raw then x.At else x.At % ((n : Int) + 1)
set_option maxHeartbeats 400000 in
theorem at_any (x : CallV) (n : Nat) (hn : n ≤ 1048576) (h0 : -9223372036854775808 ≤ x.At) (h1 : x.At ≤ 9223372036854775807) (w : World) :
    Calls Try.prog 32 #[.agg #[.int .i64 x.Kind, .int .i64 x.At, .int .u64 x.Old, .int .u64 x.cell.N, .string x.cell.K, .int .u64 x.cell.M, .bool x.Raw, .bool x.Fit], .int .i64 n] w fun e w' =>
      e = .returned (.int .i64 (callAt x n)) ∧ Keeps [] w w' := by
  obtain ⟨Kind, At, Old, cell, Raw, Fit⟩ := x
  cases Raw with
  | true =>
    go_enter Try.func32, Try.ntmps32
    go_wp2_with fail
    go_ret
    exact ⟨rfl, (Keeps.refl _ _).alloc _⟩
  | false =>
    go_enter Try.func32, Try.ntmps32
    go_wp2_with (go_at_call 22; refine (mod_any At (n + 1) h0 h1 (by omega) (by omega) _).mono ?_; rintro e w' ⟨rfl, rfl⟩)
    go_ret
    exact ⟨rfl, (Keeps.refl _ _).alloc _⟩
/-- What the law holds of a copy. -/
def OldSt (w : World) (m c lb : Nat) (old was cnt : Value) : Prop :=
  (old = .pointer none ∧ was = .slice none 0 0 ∧ cnt = .int .u64 0) ∨
  ∃ (om oc wb wcap oq : Nat) (OL : List C3) (rest : List Value), old = .pointer (some ⟨om, 0, none⟩) ∧ was = .slice (some ⟨wb, 0, none⟩) OL.length wcap ∧ cnt = .int .u64 oq ∧ MemAt w om oc OL oq ∧ Blk w wb (flat OL ++ rest) ∧
    om ∉ [m, c, lb] ∧ oc ∉ [m, c, lb] ∧ wb ∉ [m, c, lb]
theorem OldSt.keeps {w w' : World} {m c lb : Nat} {old was cnt : Value} (h : OldSt w m c lb old was cnt) {S : List Nat} (k : Keeps S w w') (hS : ∀ i, i ∈ S → i ∈ [m, c, lb]) : OldSt w' m c lb old was cnt := by
  rcases h with h | ⟨om, oc, wb, wcap, oq, OL, rest, rfl, rfl, rfl, h4, h5, h6, h7, h8⟩
  · exact .inl h
  · exact .inr ⟨om, oc, wb, wcap, oq, OL, rest, rfl, rfl, rfl, h4.keeps k (fun e => h6 (hS _ e)) (fun e => h7 (hS _ e)), k.blk h5 (fun e => h8 (hS _ e)), h6, h7, h8⟩
structure St (w : World) (m c lb : Nat) (L : List C3) (q : Nat) (old was cnt : Value) : Prop where
  mem : MemAt w m c L q
  lst : Blk w lb (flat L)
  ne : lb ≠ m ∧ lb ≠ c
  old : OldSt w m c lb old was cnt
theorem St.keeps {w w' : World} {m c lb q : Nat} {L : List C3} {old was cnt : Value} (h : St w m c lb L q old was cnt) (k : Keeps [] w w') : St w' m c lb L q old was cnt :=
  ⟨h.mem.keeps k (by simp) (by simp), k.blk h.lst (by simp), h.ne, h.old.keeps k (by simp)⟩
theorem Blk.o8 {w : World} {b : Nat} {x0 x1 x2 x3 x4 x5 x6 x7 : Value} (h : Blk w b [x0, x1, x2, x3, x4, x5, x6, x7]) : w.cell? ⟨b, 0, none⟩ = some x0 ∧ w.cell? ⟨b, 1, none⟩ = some x1 ∧ w.cell? ⟨b, 2, none⟩ = some x2 ∧ w.cell? ⟨b, 3, none⟩ = some x3 ∧ w.cell? ⟨b, 4, none⟩ = some x4 ∧ w.cell? ⟨b, 5, none⟩ = some x5 ∧ w.cell? ⟨b, 6, none⟩ = some x6 ∧ w.cell? ⟨b, 7, none⟩ = some x7 ∧ (∀ j, w.frozen? ⟨b, j, none⟩ = false) ∧ b < w.heap.size :=
  ⟨h.cell 0, h.cell 1, h.cell 2, h.cell 3, h.cell 4, h.cell 5, h.cell 6, h.cell 7, h.frozen, h.lt⟩
theorem Keeps.set8 {S : List Nat} {a w : World} (h : Keeps S a w) (b : Nat) (hb : b ∈ S ∨ a.heap.size ≤ b) (v0 v1 v2 v3 v4 v5 v6 v7 : Value) : Keeps S a ((((((((w.setCell ⟨b, 0, none⟩ v0).setCell ⟨b, 1, none⟩ v1).setCell ⟨b, 2, none⟩ v2).setCell ⟨b, 3, none⟩ v3).setCell ⟨b, 4, none⟩ v4).setCell ⟨b, 5, none⟩ v5).setCell ⟨b, 6, none⟩ v6).setCell ⟨b, 7, none⟩ v7) :=
  ((((((((h.setCell ⟨b, 0, none⟩ v0 hb).setCell ⟨b, 1, none⟩ v1 hb).setCell ⟨b, 2, none⟩ v2 hb).setCell ⟨b, 3, none⟩ v3 hb).setCell ⟨b, 4, none⟩ v4 hb).setCell ⟨b, 5, none⟩ v5 hb).setCell ⟨b, 6, none⟩ v6 hb).setCell ⟨b, 7, none⟩ v7 hb)
theorem St.put_out {w w5 : World} {m c lb q q' : Nat} {L : List C3} {old was cnt : Value} (h : St w m c lb L q old was cnt) {i : Int} {z : C3} (hi : memIn L i = false) {q2 : Int} (h5 : MemAt w5 m c (memSet L i z) q2) (hq : q2 = q') (k5 : Keeps [m, c] w w5) :
    St w5 m c lb L q' old was cnt := by
  rw [memSet_out L i _ hi, hq] at h5
  exact ⟨h5, k5.blk h.lst (by have := h.ne; simp; omega), h.ne, h.old.keeps k5 (by intro i hi; simp at hi ⊢; omega)⟩
theorem St.same {w w5 : World} {m c lb q q' : Nat} {L : List C3} {old was cnt : Value} (h : St w m c lb L q old was cnt) {q2 : Int} (h5 : MemAt w5 m c L q2) (hq : q2 = q') (k5 : Keeps [m, c] w w5) : St w5 m c lb L q' old was cnt := by
  rw [hq] at h5
  exact ⟨h5, k5.blk h.lst (by have := h.ne; simp; omega), h.ne, h.old.keeps k5 (by intro i hi; simp at hi ⊢; omega)⟩
theorem St.put_in {w w5 : World} {m c lb q q' : Nat} {L : List C3} {old was cnt : Value} (h : St w m c lb L q old was cnt) {j : Nat} {N M : Int} {K : ByteArray} (hj : j < L.length) {q2 : Int} (h5 : MemAt w5 m c (memSet L (j : Int) ⟨N, K, M⟩) q2) (hq : q2 = q') (k5 : Keeps [m, c] w w5) :
    St (((w5.setCell ⟨lb, j * 3, none⟩ (.int .u64 N)).setCell ⟨lb, j * 3 + 1, none⟩ (.string K)).setCell ⟨lb, j * 3 + 2, none⟩ (.int .u64 M)) m c lb (L.set j ⟨N, K, M⟩) q' old was cnt ∧
      Keeps [m, c, lb] w (((w5.setCell ⟨lb, j * 3, none⟩ (.int .u64 N)).setCell ⟨lb, j * 3 + 1, none⟩ (.string K)).setCell ⟨lb, j * 3 + 2, none⟩ (.int .u64 M)) := by
  have hne := h.ne
  have hl5 := k5.blk h.lst (by simp; omega)
  have hput := flat_put (r := []) (by rw [List.append_nil]; exact hl5) j hj N M K
  rw [List.append_nil] at hput
  have K6 : Keeps [m, c, lb] w (((w5.setCell ⟨lb, j * 3, none⟩ (.int .u64 N)).setCell ⟨lb, j * 3 + 1, none⟩ (.string K)).setCell ⟨lb, j * 3 + 2, none⟩ (.int .u64 M)) :=
    (((k5.mono (S' := [m, c, lb]) (by intro i hi; left; simp at hi ⊢; omega)).setCell _ _ (.inl (by simp))).setCell _ _ (.inl (by simp))).setCell _ _ (.inl (by simp))
  rw [memSet_nat, hq] at h5
  exact ⟨⟨((h5.other _ _ (by simp; omega) (by simp; omega)).other _ _ (by simp; omega) (by simp; omega)).other _ _ (by simp; omega) (by simp; omega), hput, h.ne, h.old.keeps K6 (fun i hi => hi)⟩, K6⟩
end Go.Proofs.Ytigmafikjbaigaa
