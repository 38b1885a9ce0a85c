/- Closed facts of the row of 'ClientTrivial': calls. -/
import Derived.Test.YtjmhnlbkfbieaaaGreatRows
import Derived.Test.YtjmhnlbkfbieaaaGreatChecked
import Derived.WalkKit
import Derived.ProofKit
import Derived.OpenShut
import Derived.SizedLaws
namespace Go.Proofs.YtjmhnlbkfbieaaaGreat.clientTrivial
open Go.ChangeShapes Go.WideShapes Go.ChangeAt Go.RowKit
theorem j9 : ((Rows.clientTrivialRow.inPlace == Tryz.pinned.checked.prog.inPlace 4)) = true := by kernel_rfl
theorem j10 : ((Rows.clientTrivialRow.unfollowed == Tryz.pinned.checked.prog.unfollowed 4)) = true := by kernel_rfl
theorem j11 : ((Rows.clientTrivialRow.recurses == Tryz.pinned.checked.prog.recurses 4)) = true := by kernel_rfl
end Go.Proofs.YtjmhnlbkfbieaaaGreat.clientTrivial
