/- The argument []byte, opened as bytes to be read. -/
import Derived.Test.YtkgmgnfcmnhhaaaScArg
import Derived.Test.YtkgmgnfcmnhhaaaSz
namespace Go.Proofs.Ytkgmgnfcmnhhaaa
open Go.ChangeShapes Go.WideShapes Go.ChangeAt Go.RowKit
set_option linter.unusedSectionVars false
set_option linter.unusedVariables false
set_option linter.unusedSimpArgs false
set_option maxRecDepth 100000
theorem read_u8 {H : Type} {enc : TypeId × Value → H} {w : World} (fuel : Nat) (cs : List Value) (x : DataW H × List MemPlace)
    (h : DataW.trod enc Try.prog w 0 (fun _ => true) true fuel 5 cs = some x) : ∃ c : UInt8, cs = [vB c] ∧ True := by
  obtain ⟨n, e, _, w0⟩ := DataW.trod_int Try.underlying5 h
  have b := bounds_u8 w0
  refine ⟨UInt8.ofNat n.toNat, ?_, trivial⟩
  rw [e, vB_nat (by omega)]
  unfold vU8
  congr 2
  omega
theorem open_bytes {H : Type} {enc : TypeId × Value → H} {w : World} {r : Reach} {b0 : Nat} {v : Value} {d : DataW H} {p : List MemPlace}
    (hv : Value.okWide Try.prog w r b0 23 v) (h : DataW.Trod enc Try.prog w 0 (fun _ => true) true 23 v d p) :
    ∃ (A : Option Addr) (cap : Nat) (T : Str), v = .slice A T.length cap ∧ InB w (.slice A T.length cap) T := by
  obtain ⟨A, cap, b, o, rows, rfl, hA, hx, hl, hm, hr⟩ := open_rowsB 1 (by omega) (fun cs d => ∃ c : UInt8, cs = [vB c] ∧ True) Try.underlying23 cellsU8 (fun fuel cs x h => read_u8 fuel cs x h) (okWide_slice Try.underlying23 hv) h
  obtain ⟨X, rfl, hX⟩ := rows_map (fun c : UInt8 => [vB c]) (fun _ => True) rows (fun z hz => by
    obtain ⟨_, y, ⟨c, hc, _⟩, hy⟩ := hr z hz
    exact ⟨c, hc, trivial⟩)
  simp only [List.length_map] at *
  have e : (X.map fun c => [vB c]).flatten = X.map vB := by
    clear hx hA hr hX hl hm hv h
    induction X with
    | nil => rfl
    | cons a l ih => simpa using ih
  rw [e] at hx
  exact ⟨A, cap, X, rfl, A, cap, b, o, rfl, hA, hx, hl, hm⟩
end Go.Proofs.Ytkgmgnfcmnhhaaa
