/- Closed facts of the row of 'ClientValidates': calls. -/
import Derived.Test.YtjmhnlbkfbieaaaGreatRows
import Derived.Test.YtjmhnlbkfbieaaaGreatChecked
import Derived.WalkKit
import Derived.ProofKit
import Derived.OpenShut
import Derived.SizedLaws
namespace Go.Proofs.YtjmhnlbkfbieaaaGreat.clientValidates
open Go.ChangeShapes Go.WideShapes Go.ChangeAt Go.RowKit
theorem j9 : ((Rows.clientValidatesRow.inPlace == Tryz.pinned.checked.prog.inPlace 3)) = true := by kernel_rfl
theorem j10 : ((Rows.clientValidatesRow.unfollowed == Tryz.pinned.checked.prog.unfollowed 3)) = true := by kernel_rfl
theorem j11 : ((Rows.clientValidatesRow.recurses == Tryz.pinned.checked.prog.recurses 3)) = true := by kernel_rfl
end Go.Proofs.YtjmhnlbkfbieaaaGreat.clientValidates
