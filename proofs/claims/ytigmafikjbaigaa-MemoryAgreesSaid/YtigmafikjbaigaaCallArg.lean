/- Arguments of the type []blinktreelaw2.Call, opened. -/
import Derived.Test.YtigmafikjbaigaaCellArg
import Derived.Test.YtigmafikjbaigaaAgrP
namespace Go.Proofs.Ytigmafikjbaigaa
open Go.ChangeShapes Go.WideShapes Go.ChangeAt Go.RowKit
theorem cellsCall : Try.prog.cellsOf 51 = 8 := by kernel_rfl
theorem cellsInt : Try.prog.cellsOf 3 = 1 := by kernel_rfl
theorem cellsBool : Try.prog.cellsOf 4 = 1 := by kernel_rfl
theorem read_call {H : Type} {enc : TypeId × Value → H} {w : World} {base : Nat} {spare : Nat → Bool} {held : Bool} (fuel : Nat) (cs : List Value) (x : DataW H × List MemPlace)
    (h : DataW.trod enc Try.prog w base spare held fuel 51 cs = some x) :
    ∃ c : CallV, cs = c.vs ∧ (-9223372036854775808 ≤ c.At ∧ c.At ≤ 9223372036854775807 ∧ -9223372036854775808 ≤ c.Kind ∧ c.Kind ≤ 9223372036854775807) := by
  obtain ⟨xs, n, _, _, hl, hxl, hf⟩ := DataW.trod_struct Try.underlying51 h
  rw [cellsCall] at hl
  match cs, hl with
  | [a0, a1, a2, a3, a4, a5, a6, a7], _ =>
    have g0 : DataW.trod enc Try.prog w base spare held n 3 (([a0, a1, a2, a3, a4, a5, a6, a7].drop 0).take (Try.prog.cellsOf 3)) = xs[0]? := hf 0 _ rfl
    rw [cellsInt] at g0
    have g1 : DataW.trod enc Try.prog w base spare held n 3 (([a0, a1, a2, a3, a4, a5, a6, a7].drop 1).take (Try.prog.cellsOf 3)) = xs[1]? := hf 1 _ rfl
    rw [cellsInt] at g1
    have g2 : DataW.trod enc Try.prog w base spare held n 22 (([a0, a1, a2, a3, a4, a5, a6, a7].drop 2).take (Try.prog.cellsOf 22)) = xs[2]? := hf 2 _ rfl
    rw [cellsU64] at g2
    have g3 : DataW.trod enc Try.prog w base spare held n 36 (([a0, a1, a2, a3, a4, a5, a6, a7].drop 3).take (Try.prog.cellsOf 36)) = xs[3]? := hf 3 _ rfl
    rw [cellsCell] at g3
    have g4 : DataW.trod enc Try.prog w base spare held n 4 (([a0, a1, a2, a3, a4, a5, a6, a7].drop 6).take (Try.prog.cellsOf 4)) = xs[4]? := hf 4 _ rfl
    rw [cellsBool] at g4
    have g5 : DataW.trod enc Try.prog w base spare held n 4 (([a0, a1, a2, a3, a4, a5, a6, a7].drop 7).take (Try.prog.cellsOf 4)) = xs[5]? := hf 5 _ rfl
    rw [cellsBool] at g5
    simp only [List.drop_zero, List.drop_succ_cons, List.take_succ_cons, List.take_zero] at g0 g1 g2 g3 g4 g5
    have hx : xs.length = 6 := by rw [hxl]; rfl
    match xs, hx with
    | [y0, y1, y2, y3, y4, y5], _ =>
      simp only [List.getElem?_cons_zero, List.getElem?_cons_succ] at g0 g1 g2 g3 g4 g5
      obtain ⟨K, e0, _, w0⟩ := DataW.trod_int Try.underlying3 g0
      obtain ⟨T, e1, _, w1⟩ := DataW.trod_int Try.underlying3 g1
      obtain ⟨O, e2, _, _⟩ := DataW.trod_int Try.underlying22 g2
      obtain ⟨c, e3, _⟩ := read_cell _ _ _ g3
      obtain ⟨R, e4, _⟩ := DataW.trod_bool Try.underlying4 g4
      obtain ⟨F, e5, _⟩ := DataW.trod_bool Try.underlying4 g5
      simp only [List.cons.injEq, and_true, C3.vs] at e0 e1 e2 e3 e4 e5
      obtain ⟨e3, e3b, e3c⟩ := e3
      subst e0 e1 e2 e3 e3b e3c e4 e5
      have b0 := bounds_i64 w0
      have b1 := bounds_i64 w1
      exact ⟨⟨K, T, O, c, R, F⟩, rfl, b1.1, b1.2, b0.1, b0.2⟩
theorem flatC_map (L : List CallV) : (L.map CallV.vs).flatten = flatC L := by
  induction L with
  | nil => rfl
  | cons x l ih => simp [flatC, CallV.vs, ih]
theorem open_calls {H : Type} {enc : TypeId × Value → H} {w : World} {r : Reach} {b0 : Nat} {v : Value} {d : DataW H} {p : List MemPlace}
    (hv : Value.okWide Try.prog w r b0 48 v) (h : DataW.Trod enc Try.prog w 0 (fun _ => true) true 48 v d p) :
    ∃ (A : Option Addr) (cap b o : Nat) (X : List CallV), v = .slice A X.length cap ∧ (0 < X.length → A = some ⟨b, o, none⟩) ∧ Arr w b o (flatC X) ∧ X.length ≤ 9223372036854775807 ∧
      ∀ x, x ∈ X → (-9223372036854775808 ≤ x.At ∧ x.At ≤ 9223372036854775807 ∧ -9223372036854775808 ≤ x.Kind ∧ x.Kind ≤ 9223372036854775807) := by
  obtain ⟨A, cap, b, o, rows, rfl, hA, hx, hl, hr⟩ := open_rows 8 (by omega) (fun cs => ∃ c : CallV, cs = c.vs ∧ (-9223372036854775808 ≤ c.At ∧ c.At ≤ 9223372036854775807 ∧ -9223372036854775808 ≤ c.Kind ∧ c.Kind ≤ 9223372036854775807)) Try.underlying48 cellsCall (fun fuel cs x h => read_call fuel cs x h) hv h
  obtain ⟨X, rfl, hX⟩ := rows_map CallV.vs (fun c => -9223372036854775808 ≤ c.At ∧ c.At ≤ 9223372036854775807 ∧ -9223372036854775808 ≤ c.Kind ∧ c.Kind ≤ 9223372036854775807) rows (fun x hx => (hr x hx).2)
  rw [flatC_map] at hx
  simp only [List.length_map] at *
  exact ⟨A, cap, b, o, X, rfl, hA, hx, hl, hX⟩
end Go.Proofs.Ytigmafikjbaigaa
