/- The closed facts of the row of 'ClientTrivial' together. -/
import Derived.Test.YtjmhnlbkfbieaaaGreatClientTrivialJb
namespace Go.Proofs.YtjmhnlbkfbieaaaGreat.clientTrivial
open Go.ChangeShapes Go.WideShapes Go.ChangeAt Go.RowKit
set_option maxRecDepth 100000
theorem band {a b : Bool} (h : a = true) (k : b = true) : (a && b) = true := by rw [h, k]; rfl
theorem closed : joinedFacts Tryz.pinned.checked.prog 4 Tryz.f4 Rows.clientTrivialSpec Rows.clientTrivialRow = true := by
  unfold joinedFacts
  with_reducible exact (band (band (band (band (band (band (band (band (band (band (band (band (band (band (band (band (band (band (band (band (band (band (band (band (band (band (band (band (band (band (band j0 j1) j2) j3) j4) j5) j6) j7) j8) j9) j10) j11) j12) j13) j14) j15) j16) j17) j18) j19) j20) j21) j22) j23) j24) j25) j26) j27) (by kernel_rfl)) j29) j30) j31)
theorem fnNamed : Tryz.pinned.checked.prog.funcNamed Rows.clientTrivialRow.func = some 4 := by kernel_rfl
theorem fnInst : Tryz.f4.isInstance Tryz.pinned.checked.prog Rows.clientTrivialRow.origin Rows.clientTrivialRow.targs := of_decide_eq_true (by kernel_rfl)
end Go.Proofs.YtjmhnlbkfbieaaaGreat.clientTrivial
