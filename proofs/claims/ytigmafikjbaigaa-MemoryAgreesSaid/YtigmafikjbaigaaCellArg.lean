/- Arguments of the type api.Cell and slices of them, opened. -/
import Derived.Test.YtigmafikjbaigaaFrame
import Derived.Test.YtigmafikjbaigaaProg
namespace Go.Proofs.Ytigmafikjbaigaa
open Go.ChangeShapes Go.WideShapes Go.ChangeAt Go.RowKit
theorem cellsCell : Try.prog.cellsOf 36 = 3 := by kernel_rfl
theorem cellsU64 : Try.prog.cellsOf 22 = 1 := by kernel_rfl
theorem cellsString : Try.prog.cellsOf 9 = 1 := by kernel_rfl
theorem read_cell {H : Type} {enc : TypeId × Value → H} {w : World} {base : Nat} {spare : Nat → Bool} {held : Bool} (fuel : Nat) (cs : List Value) (x : DataW H × List MemPlace)
    (h : DataW.trod enc Try.prog w base spare held fuel 36 cs = some x) : ∃ c : C3, cs = C3.vs c ∧ 0 ≤ c.N ∧ c.N ≤ 18446744073709551615 := by
  obtain ⟨xs, n, _, _, hl, hxl, hf⟩ := DataW.trod_struct Try.underlying36 h
  rw [cellsCell] at hl
  match cs, hl with
  | [a, b, c], _ =>
    have g0 : DataW.trod enc Try.prog w base spare held n 22 (([a, b, c].drop 0).take (Try.prog.cellsOf 22)) = xs[0]? := hf 0 _ rfl
    rw [cellsU64] at g0
    have g1 : DataW.trod enc Try.prog w base spare held n 9 (([a, b, c].drop 1).take (Try.prog.cellsOf 9)) = xs[1]? := hf 1 _ rfl
    rw [cellsString] at g1
    have g2 : DataW.trod enc Try.prog w base spare held n 22 (([a, b, c].drop 2).take (Try.prog.cellsOf 22)) = xs[2]? := hf 2 _ rfl
    rw [cellsU64] at g2
    simp only [List.drop_zero, List.drop_succ_cons, List.take_succ_cons, List.take_zero] at g0 g1 g2
    have hx : xs.length = 3 := by rw [hxl]; rfl
    match xs, hx with
    | [y0, y1, y2], _ =>
      simp only [List.getElem?_cons_zero, List.getElem?_cons_succ] at g0 g1 g2
      obtain ⟨N, e0, _, wN⟩ := DataW.trod_int Try.underlying22 g0
      obtain ⟨K, e1, _, _⟩ := DataW.trod_string Try.underlying9 g1
      obtain ⟨M, e2, _, _⟩ := DataW.trod_int Try.underlying22 g2
      simp only [List.cons.injEq, and_true] at e0 e1 e2
      subst e0 e1 e2
      exact ⟨⟨N, K, M⟩, rfl, (bounds_u64 wN).1, (bounds_u64 wN).2⟩
theorem open_cell {H : Type} {enc : TypeId × Value → H} {w : World} {r : Reach} {b0 : Nat} {v : Value} {d : DataW H} {p : List MemPlace}
    (hv : Value.okWide Try.prog w r b0 36 v) (h : DataW.Trod enc Try.prog w 0 (fun _ => true) true 36 v d p) :
    ∃ c : C3, v = .agg #[.int .u64 c.N, .string c.K, .int .u64 c.M] := by
  obtain ⟨cs, rfl, hsz⟩ := okWide_struct Try.underlying36 hv
  obtain ⟨fuel, hf⟩ := h
  obtain ⟨c, hc, _⟩ := read_cell _ _ _ hf
  refine ⟨c, ?_⟩
  obtain ⟨l⟩ := cs
  simp only [Value.cells, C3.vs] at hc
  rw [hc]
theorem open_cells {H : Type} {enc : TypeId × Value → H} {w : World} {r : Reach} {b0 : Nat} {v : Value} {d : DataW H} {p : List MemPlace}
    (hv : Value.okWide Try.prog w r b0 44 v) (h : DataW.Trod enc Try.prog w 0 (fun _ => true) true 44 v d p) :
    ∃ (A : Option Addr) (cap b o : Nat) (X : List C3), v = .slice A X.length cap ∧ (0 < X.length → A = some ⟨b, o, none⟩) ∧ Arr w b o (flat X) ∧ X.length ≤ 9223372036854775807 ∧ ∀ x, x ∈ X → 0 ≤ x.N ∧ x.N ≤ 18446744073709551615 := by
  obtain ⟨A, cap, b, o, rows, rfl, hA, hx, hl, hr⟩ := open_rows 3 (by omega) (fun cs => ∃ c : C3, cs = C3.vs c ∧ 0 ≤ c.N ∧ c.N ≤ 18446744073709551615) Try.underlying44 cellsCell (fun fuel cs x h => read_cell fuel cs x h) hv h
  obtain ⟨X, rfl, hX⟩ := rows_map C3.vs (fun c => 0 ≤ c.N ∧ c.N ≤ 18446744073709551615) rows (fun x hx => (hr x hx).2)
  rw [flat_map] at hx
  simp only [List.length_map] at *
  exact ⟨A, cap, b, o, X, rfl, hA, hx, hl, hX⟩
end Go.Proofs.Ytigmafikjbaigaa
