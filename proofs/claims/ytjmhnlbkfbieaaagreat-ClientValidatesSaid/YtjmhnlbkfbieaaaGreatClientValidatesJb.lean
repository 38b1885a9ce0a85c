/- Closed facts of the row of 'ClientValidates', the other ones. -/
import Derived.Test.YtjmhnlbkfbieaaaGreatClientValidatesJa
import Derived.Test.YtjmhnlbkfbieaaaGreatRows
import Derived.Test.YtjmhnlbkfbieaaaGreatChecked
import Derived.WalkKit
import Derived.ProofKit
import Derived.OpenShut
import Derived.SizedLaws
namespace Go.Proofs.YtjmhnlbkfbieaaaGreat.clientValidates
open Go.ChangeShapes Go.WideShapes Go.ChangeAt Go.RowKit
theorem j0 : (Rows.clientValidatesRow.wf (OpenSpec.ofChange Rows.clientValidatesSpec)) = true := by kernel_rfl
theorem j1 : (laidOutB Tryz.pinned.checked.prog) = true := by kernel_rfl
theorem j2 : (mapsRowed Tryz.pinned.checked.prog) = true := by kernel_rfl
theorem j3 : (Tryz.f3.params.all (Tryz.pinned.checked.prog.readableRec ·)) = true := by kernel_rfl
theorem j4 : (namedTie Tryz.pinned.checked.prog Rows.clientValidatesRow.named Rows.clientValidatesSpec.vars) = true := by kernel_rfl
theorem j5 : ((Rows.clientValidatesRow.stops == [])) = true := by kernel_rfl
theorem j6 : ((Tryz.pinned.checked.prog.stops == [])) = true := by kernel_rfl
theorem j7 : ((Rows.clientValidatesRow.knobs == [])) = true := by kernel_rfl
theorem j8 : ((Tryz.pinned.checked.prog.stopKnobs == [])) = true := by kernel_rfl
theorem j12 : ((Rows.clientValidatesRow.named == Tryz.pinned.checked.prog.varsNamed 3)) = true := by kernel_rfl
theorem j13 : ((Rows.clientValidatesRow.maps == (Tryz.f3.params.toList ++ Rows.clientValidatesSpec.plain.varTypes Tryz.pinned.checked.prog).any (Tryz.pinned.checked.prog.mapsRec ·))) = true := by kernel_rfl
theorem j14 : ((Rows.clientValidatesRow.ifaces == (Tryz.f3.params.toList ++ Rows.clientValidatesSpec.plain.varTypes Tryz.pinned.checked.prog).any (Tryz.pinned.checked.prog.ifacesRec ·))) = true := by kernel_rfl
theorem j15 : ((Rows.clientValidatesRow.mapsOut == Tryz.pinned.checked.prog.mapsAmong Tryz.f3.resultTypes.toList)) = true := by kernel_rfl
theorem j16 : ((Rows.clientValidatesRow.loops == (Tryz.f3.params.toList ++ Rows.clientValidatesSpec.plain.varTypes Tryz.pinned.checked.prog).any (Tryz.pinned.checked.prog.loopsFrom ·))) = true := by kernel_rfl
theorem j17 : ((Rows.clientValidatesRow.wideKeys == (Tryz.f3.params.toList ++ Rows.clientValidatesSpec.plain.varTypes Tryz.pinned.checked.prog ++ Tryz.f3.resultTypes.toList).any (Tryz.pinned.checked.prog.wideKeysFrom ·))) = true := by kernel_rfl
theorem j18 : (Rows.clientValidatesSpec.vars.all (Tryz.pinned.checked.prog.varReadable ·)) = true := by kernel_rfl
theorem j19 : (Tryz.f3.resultTypes.all (fun t => Tryz.pinned.checked.prog.readableRec t && decide (t < Tryz.pinned.checked.prog.types.size))) = true := by kernel_rfl
theorem j20 : ((Rows.clientValidatesRow.ifacesOut == Tryz.f3.resultTypes.toList.any (Tryz.pinned.checked.prog.ifacesRec ·))) = true := by kernel_rfl
theorem j21 : ((Rows.clientValidatesRow.loopsOut == Tryz.f3.resultTypes.toList.any (Tryz.pinned.checked.prog.loopsFrom ·))) = true := by kernel_rfl
theorem j22 : ((Rows.clientValidatesRow.plainKeys == Tryz.pinned.checked.prog.plainKeys)) = true := by kernel_rfl
theorem j23 : (Rows.clientValidatesRow.shortTexts.isNone) = true := by kernel_rfl
theorem j24 : (Tryz.pinned.checked.prog.stopsHeard) = true := by kernel_rfl
theorem j25 : (Tryz.pinned.checked.prog.mayEnter) = true := by kernel_rfl
theorem j26 : ((Rows.clientValidatesRow.lifted == Tryz.pinned.checked.prog.liftsFinal)) = true := by kernel_rfl
theorem j27 : ((Tryz.pinned.checked.prog.make == some Rows.clientValidatesRow.make)) = true := by kernel_rfl
theorem j29 : ((Rows.clientValidatesRow.pinned == Rows.clientValidatesRow.pinnedBy)) = true := by kernel_rfl
theorem j30 : ((Rows.clientValidatesRow.veiled == (Tryz.f3.params.toList ++ Rows.clientValidatesSpec.plain.varTypes Tryz.pinned.checked.prog ++ Tryz.f3.resultTypes.toList).any (Tryz.pinned.checked.prog.veiledRec ·))) = true := by kernel_rfl
theorem j31 : (Rows.clientValidatesRow.veiledFits Tryz.pinned.checked.prog Tryz.f3.params.toList (Tryz.f3.params.toList ++ Rows.clientValidatesSpec.plain.varTypes Tryz.pinned.checked.prog ++ Tryz.f3.resultTypes.toList)) = true := by kernel_rfl
end Go.Proofs.YtjmhnlbkfbieaaaGreat.clientValidates
