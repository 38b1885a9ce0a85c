/- An argument of the type [3]uint8, opened. -/
import Derived.Test.YtiodlmmbjjdojaaFrame
import Derived.Test.YtiodlmmbjjdojaaProg
namespace Go.Proofs.Ytiodlmmbjjdojaa
open Go.ChangeShapes Go.WideShapes Go.ChangeAt Go.RowKit
theorem len3 {α : Type} {l : List α} (h : l.length = 3) : ∃ a b c, l = [a, b, c] := by
  match l, h with
  | [a, b, c], _ => exact ⟨a, b, c, rfl⟩
theorem okWide_array {P : Program} {w : World} {r : Reach} {base : Nat} {t e : TypeId} {n : Nat} {v : Value} (ht : P.underlying t = some (.array n e)) (h : Value.okWide P w r base t v) : ∃ cs, v = .agg cs := by
  simp only [Value.okWide, ht] at h
  obtain ⟨cs, h1, _⟩ := h
  exact ⟨cs, h1⟩
theorem cells3 : Try.prog.cellsOf 59 = 3 := by kernel_rfl
theorem cells1 : Try.prog.cellsOf 5 = 1 := by kernel_rfl
theorem read_u8x3 {H : Type} {enc : TypeId × Value → H} {w : World} {base : Nat} {spare : Nat → Bool} {held : Bool} (fuel : Nat) (cs : List Value) (x : DataW H × List MemPlace)
    (h : DataW.trod enc Try.prog w base spare held fuel 59 cs = some x) : ∃ a b c : Nat, cs = [.int .u8 a, .int .u8 b, .int .u8 c] ∧ a ≤ 255 ∧ b ≤ 255 ∧ c ≤ 255 := by
  obtain ⟨xs, m, _, _, hl, hxl, hg⟩ := DataW.trod_array (t := 59) (e := 5) (n := 3) (P := Try.prog) Try.underlying59 h
  rw [cells3] at hl
  obtain ⟨a, b, c, rfl⟩ := len3 hl
  · skip
    have g0 : DataW.trod enc Try.prog w base spare held m 5 (([a, b, c].drop (0 * Try.prog.cellsOf 5)).take (Try.prog.cellsOf 5)) = xs[0]? := hg 0 (by omega)
    have g1 : DataW.trod enc Try.prog w base spare held m 5 (([a, b, c].drop (1 * Try.prog.cellsOf 5)).take (Try.prog.cellsOf 5)) = xs[1]? := hg 1 (by omega)
    have g2 : DataW.trod enc Try.prog w base spare held m 5 (([a, b, c].drop (2 * Try.prog.cellsOf 5)).take (Try.prog.cellsOf 5)) = xs[2]? := hg 2 (by omega)
    rw [cells1] at g0 g1 g2
    clear hg h
    simp only [Nat.mul_one, List.drop_zero, List.drop_succ_cons, List.take_succ_cons, List.take_zero] at g0 g1 g2
    obtain ⟨y0, y1, y2, rfl⟩ := len3 hxl
    · skip
      simp only [List.getElem?_cons_zero, List.getElem?_cons_succ] at g0 g1 g2
      obtain ⟨N0, e0, _, w0⟩ := DataW.trod_int Try.underlying5 g0
      obtain ⟨N1, e1, _, w1⟩ := DataW.trod_int Try.underlying5 g1
      obtain ⟨N2, e2, _, w2⟩ := DataW.trod_int Try.underlying5 g2
      simp only [List.cons.injEq, and_true] at e0 e1 e2
      have b0 := bounds_u8 w0
      have b1 := bounds_u8 w1
      have b2 := bounds_u8 w2
      refine ⟨N0.toNat, N1.toNat, N2.toNat, ?_, by omega, by omega, by omega⟩
      rw [e0, e1, e2, Int.toNat_of_nonneg b0.1, Int.toNat_of_nonneg b1.1, Int.toNat_of_nonneg b2.1]
theorem under3 : Try.prog.underlying 59 = some (TypeDesc.array 3 5) := Try.underlying59
set_option maxRecDepth 100000 in
theorem open_u8x3 {H : Type} {enc : TypeId × Value → H} {w : World} {r : Reach} {b0 : Nat} {v : Value} {d : DataW H} {p : List MemPlace}
    (hv : Value.okWide Try.prog w r b0 59 v) (h : DataW.Trod enc Try.prog w 0 (fun _ => true) true 59 v d p) :
    ∃ a b c : Nat, v = .agg #[.int .u8 a, .int .u8 b, .int .u8 c] ∧ a ≤ 255 ∧ b ≤ 255 ∧ c ≤ 255 := by
  obtain ⟨cs, rfl⟩ := @okWide_array Try.prog w r b0 59 5 3 v under3 hv
  obtain ⟨fuel, hf⟩ := h
  obtain ⟨a, b, c, hc, h1, h2, h3⟩ := read_u8x3 _ _ _ hf
  refine ⟨a, b, c, ?_, h1, h2, h3⟩
  obtain ⟨l⟩ := cs
  simp only [Value.cells] at hc
  rw [hc]
end Go.Proofs.Ytiodlmmbjjdojaa
