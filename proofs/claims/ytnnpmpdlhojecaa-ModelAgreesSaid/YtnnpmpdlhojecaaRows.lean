/-
  No cell of these rows narrows 'for every input' (looked for: loops, veiled, ifaces, maps, wideKeys, modest, calm, conditions, laid).
  DERIVED. THE GIVEN ROWS OF THIS SEAT. 11 by the template 'for every input the law returns true; each argument reads behind the call as it read before'; 0 by the template 'total and deterministic' (their statements: YtnnpmpdlhojecaaTotals.lean).
  GIVEN WITH THE SEED: the statements are not yours to turn. If you find one false, say at which input.
  Laid BY PROGRAM, IN A SANDBOX (cutbox-rows.mjs): the forced cells as the released guide's own fill.sh prints them over the translation 20b972ed73ce098b… (all of the seat's roots in one cut). By AI agents, Wed Nov 11 2026. No macro, syntax, notation, axiom, sorry.
-/
import Derived.Test.YtnnpmpdlhojecaaChecked
import GoSem.Claim
import GoSem.ClaimJoined
import GoSem.ClaimMapViews
import Derived.JoinedTies
import Derived.KernelRfl
namespace Go.Proofs.Ytnnpmpdlhojecaa
/- THE CELL 'sum', in the pinned program and in every row, IS THE sha256 OF THE DUMP (.gsa) THAT YtnnpmpdlhojecaaProg.lean LOADS. Nothing in Lean hashes anything: it is a label: what it is worth is what the hold of that sum in a sandbox is worth. -/
noncomputable def Try.pinned : Pinned := { name := "ytnnpmpdlhojecaa", sum := "20b972ed73ce098ba9478e0d0c0db9b9dcc520f1f19ef607dab283dac62db365", checked := Try.checked }
namespace Rows
def none {H : Type} : Left H := { results := [], args := [] }

/-- 'blinktreelaw21.ModelGets': WHATEVER THE INPUT: true; the input reads as it did. -/
def modelGetsSpec : ChangeSpec := { name := "modelGets", fn := fun _ => fun
  | [d1, d2, d3] => { results := [.lit (.bool true)], args := [d1, d2, d3] }
  | _ => none }
def modelGetsRow : OpenClaim := { program := "ytnnpmpdlhojecaa", sum := "20b972ed73ce098ba9478e0d0c0db9b9dcc520f1f19ef607dab283dac62db365", func := "blinktree/blinktreelaw21.ModelGets", spec := "modelGets", inPlace := ["slices.overlaps[blinktree/api.Entry]", "internal/bytealg.abigen_runtime_cmpstring"], unfollowed := true, recurses := true, plainKeys := false, apart := false }
def ModelGetsSaid : Prop := modelGetsRow.holds Try.pinned (OpenSpec.ofChange modelGetsSpec)

/-- ITS FALSE NEIGHBOUR: 'it returns false'. Refute it at one input. -/
def modelGetsWrong : ChangeSpec := { name := "modelGets", fn := fun _ => fun
  | [d1, d2, d3] => { results := [.lit (.bool false)], args := [d1, d2, d3] }
  | _ => none }
def ModelGetsWrongFalsely : Prop := modelGetsRow.holds Try.pinned (OpenSpec.ofChange modelGetsWrong)

/-- 'blinktreelaw21.ModelSnapshots': WHATEVER THE INPUT: true; the input reads as it did. -/
def modelSnapshotsSpec : ChangeSpec := { name := "modelSnapshots", fn := fun _ => fun
  | [d] => { results := [.lit (.bool true)], args := [d] }
  | _ => none }
def modelSnapshotsRow : OpenClaim := { program := "ytnnpmpdlhojecaa", sum := "20b972ed73ce098ba9478e0d0c0db9b9dcc520f1f19ef607dab283dac62db365", func := "blinktree/blinktreelaw21.ModelSnapshots", spec := "modelSnapshots", inPlace := ["slices.overlaps[blinktree/api.Entry]", "internal/bytealg.abigen_runtime_cmpstring"], unfollowed := true, recurses := true, plainKeys := false, apart := false }
def ModelSnapshotsSaid : Prop := modelSnapshotsRow.holds Try.pinned (OpenSpec.ofChange modelSnapshotsSpec)

/-- ITS FALSE NEIGHBOUR: 'it returns false'. Refute it at one input. -/
def modelSnapshotsWrong : ChangeSpec := { name := "modelSnapshots", fn := fun _ => fun
  | [d] => { results := [.lit (.bool false)], args := [d] }
  | _ => none }
def ModelSnapshotsWrongFalsely : Prop := modelSnapshotsRow.holds Try.pinned (OpenSpec.ofChange modelSnapshotsWrong)

/-- 'blinktreelaw21.ModelFloor': WHATEVER THE INPUT: true; the input reads as it did. -/
def modelFloorSpec : ChangeSpec := { name := "modelFloor", fn := fun _ => fun
  | [d] => { results := [.lit (.bool true)], args := [d] }
  | _ => none }
def modelFloorRow : OpenClaim := { program := "ytnnpmpdlhojecaa", sum := "20b972ed73ce098ba9478e0d0c0db9b9dcc520f1f19ef607dab283dac62db365", func := "blinktree/blinktreelaw21.ModelFloor", spec := "modelFloor", inPlace := ["slices.overlaps[blinktree/api.Entry]", "internal/bytealg.abigen_runtime_cmpstring"], unfollowed := true, recurses := true, plainKeys := false, apart := false }
def ModelFloorSaid : Prop := modelFloorRow.holds Try.pinned (OpenSpec.ofChange modelFloorSpec)

/-- ITS FALSE NEIGHBOUR: 'it returns false'. Refute it at one input. -/
def modelFloorWrong : ChangeSpec := { name := "modelFloor", fn := fun _ => fun
  | [d] => { results := [.lit (.bool false)], args := [d] }
  | _ => none }
def ModelFloorWrongFalsely : Prop := modelFloorRow.holds Try.pinned (OpenSpec.ofChange modelFloorWrong)

/-- 'blinktreelaw21.ModelAgrees': WHATEVER THE INPUT: true; the input reads as it did. -/
def modelAgreesSpec : ChangeSpec := { name := "modelAgrees", fn := fun _ => fun
  | [d1, d2, d3] => { results := [.lit (.bool true)], args := [d1, d2, d3] }
  | _ => none }
def modelAgreesRow : OpenClaim := { program := "ytnnpmpdlhojecaa", sum := "20b972ed73ce098ba9478e0d0c0db9b9dcc520f1f19ef607dab283dac62db365", func := "blinktree/blinktreelaw21.ModelAgrees", spec := "modelAgrees", inPlace := ["slices.overlaps[blinktree/api.Entry]", "internal/bytealg.abigen_runtime_cmpstring"], unfollowed := true, recurses := true, plainKeys := false, apart := false }
def ModelAgreesSaid : Prop := modelAgreesRow.holds Try.pinned (OpenSpec.ofChange modelAgreesSpec)

/-- ITS FALSE NEIGHBOUR: 'it returns false'. Refute it at one input. -/
def modelAgreesWrong : ChangeSpec := { name := "modelAgrees", fn := fun _ => fun
  | [d1, d2, d3] => { results := [.lit (.bool false)], args := [d1, d2, d3] }
  | _ => none }
def ModelAgreesWrongFalsely : Prop := modelAgreesRow.holds Try.pinned (OpenSpec.ofChange modelAgreesWrong)

/-- 'blinktreelaw21.ModelIsPersistent': WHATEVER THE INPUT: true; the input reads as it did. -/
def modelIsPersistentSpec : ChangeSpec := { name := "modelIsPersistent", fn := fun _ => fun
  | [d1, d2, d3] => { results := [.lit (.bool true)], args := [d1, d2, d3] }
  | _ => none }
def modelIsPersistentRow : OpenClaim := { program := "ytnnpmpdlhojecaa", sum := "20b972ed73ce098ba9478e0d0c0db9b9dcc520f1f19ef607dab283dac62db365", func := "blinktree/blinktreelaw21.ModelIsPersistent", spec := "modelIsPersistent", inPlace := ["slices.overlaps[blinktree/api.Entry]", "internal/bytealg.abigen_runtime_cmpstring"], unfollowed := true, recurses := true, plainKeys := false, apart := false }
def ModelIsPersistentSaid : Prop := modelIsPersistentRow.holds Try.pinned (OpenSpec.ofChange modelIsPersistentSpec)

/-- ITS FALSE NEIGHBOUR: 'it returns false'. Refute it at one input. -/
def modelIsPersistentWrong : ChangeSpec := { name := "modelIsPersistent", fn := fun _ => fun
  | [d1, d2, d3] => { results := [.lit (.bool false)], args := [d1, d2, d3] }
  | _ => none }
def ModelIsPersistentWrongFalsely : Prop := modelIsPersistentRow.holds Try.pinned (OpenSpec.ofChange modelIsPersistentWrong)

/-- 'blinktreelaw15.BatchAgrees': WHATEVER THE INPUT: true; the input reads as it did. -/
def batchAgreesSpec : ChangeSpec := { name := "batchAgrees", fn := fun _ => fun
  | [d1, d2] => { results := [.lit (.bool true)], args := [d1, d2] }
  | _ => none }
def batchAgreesRow : OpenClaim := { program := "ytnnpmpdlhojecaa", sum := "20b972ed73ce098ba9478e0d0c0db9b9dcc520f1f19ef607dab283dac62db365", func := "blinktree/blinktreelaw15.BatchAgrees", spec := "batchAgrees", inPlace := ["slices.overlaps[blinktree/api.Entry]"], unfollowed := true, recurses := true, plainKeys := false, apart := false }
def BatchAgreesSaid : Prop := batchAgreesRow.holds Try.pinned (OpenSpec.ofChange batchAgreesSpec)

/-- ITS FALSE NEIGHBOUR: 'it returns false'. Refute it at one input. -/
def batchAgreesWrong : ChangeSpec := { name := "batchAgrees", fn := fun _ => fun
  | [d1, d2] => { results := [.lit (.bool false)], args := [d1, d2] }
  | _ => none }
def BatchAgreesWrongFalsely : Prop := batchAgreesRow.holds Try.pinned (OpenSpec.ofChange batchAgreesWrong)

/-- 'blinktreelaw15.BatchNormalForm': WHATEVER THE INPUT: true; the input reads as it did. -/
def batchNormalFormSpec : ChangeSpec := { name := "batchNormalForm", fn := fun _ => fun
  | [d1, d2] => { results := [.lit (.bool true)], args := [d1, d2] }
  | _ => none }
def batchNormalFormRow : OpenClaim := { program := "ytnnpmpdlhojecaa", sum := "20b972ed73ce098ba9478e0d0c0db9b9dcc520f1f19ef607dab283dac62db365", func := "blinktree/blinktreelaw15.BatchNormalForm", spec := "batchNormalForm", inPlace := ["slices.overlaps[blinktree/api.Entry]"], unfollowed := true, recurses := true, plainKeys := false, apart := false }
def BatchNormalFormSaid : Prop := batchNormalFormRow.holds Try.pinned (OpenSpec.ofChange batchNormalFormSpec)

/-- ITS FALSE NEIGHBOUR: 'it returns false'. Refute it at one input. -/
def batchNormalFormWrong : ChangeSpec := { name := "batchNormalForm", fn := fun _ => fun
  | [d1, d2] => { results := [.lit (.bool false)], args := [d1, d2] }
  | _ => none }
def BatchNormalFormWrongFalsely : Prop := batchNormalFormRow.holds Try.pinned (OpenSpec.ofChange batchNormalFormWrong)

/-- 'blinktreelaw15.BatchApplies': WHATEVER THE INPUT: true; the input reads as it did. -/
def batchAppliesSpec : ChangeSpec := { name := "batchApplies", fn := fun _ => fun
  | [d1, d2, d3] => { results := [.lit (.bool true)], args := [d1, d2, d3] }
  | _ => none }
def batchAppliesRow : OpenClaim := { program := "ytnnpmpdlhojecaa", sum := "20b972ed73ce098ba9478e0d0c0db9b9dcc520f1f19ef607dab283dac62db365", func := "blinktree/blinktreelaw15.BatchApplies", spec := "batchApplies", inPlace := ["slices.overlaps[blinktree/api.Entry]"], unfollowed := true, recurses := true, plainKeys := false, apart := false }
def BatchAppliesSaid : Prop := batchAppliesRow.holds Try.pinned (OpenSpec.ofChange batchAppliesSpec)

/-- ITS FALSE NEIGHBOUR: 'it returns false'. Refute it at one input. -/
def batchAppliesWrong : ChangeSpec := { name := "batchApplies", fn := fun _ => fun
  | [d1, d2, d3] => { results := [.lit (.bool false)], args := [d1, d2, d3] }
  | _ => none }
def BatchAppliesWrongFalsely : Prop := batchAppliesRow.holds Try.pinned (OpenSpec.ofChange batchAppliesWrong)

/-- 'blinktreelaw15.BatchesCompose': WHATEVER THE INPUT: true; the input reads as it did. -/
def batchesComposeSpec : ChangeSpec := { name := "batchesCompose", fn := fun _ => fun
  | [d1, d2, d3] => { results := [.lit (.bool true)], args := [d1, d2, d3] }
  | _ => none }
def batchesComposeRow : OpenClaim := { program := "ytnnpmpdlhojecaa", sum := "20b972ed73ce098ba9478e0d0c0db9b9dcc520f1f19ef607dab283dac62db365", func := "blinktree/blinktreelaw15.BatchesCompose", spec := "batchesCompose", inPlace := ["slices.overlaps[blinktree/api.Entry]"], unfollowed := true, recurses := true, plainKeys := false, apart := false }
def BatchesComposeSaid : Prop := batchesComposeRow.holds Try.pinned (OpenSpec.ofChange batchesComposeSpec)

/-- ITS FALSE NEIGHBOUR: 'it returns false'. Refute it at one input. -/
def batchesComposeWrong : ChangeSpec := { name := "batchesCompose", fn := fun _ => fun
  | [d1, d2, d3] => { results := [.lit (.bool false)], args := [d1, d2, d3] }
  | _ => none }
def BatchesComposeWrongFalsely : Prop := batchesComposeRow.holds Try.pinned (OpenSpec.ofChange batchesComposeWrong)

/-- 'blinktreelaw15.BatchesCommute': WHATEVER THE INPUT: true; the input reads as it did. -/
def batchesCommuteSpec : ChangeSpec := { name := "batchesCommute", fn := fun _ => fun
  | [d1, d2, d3] => { results := [.lit (.bool true)], args := [d1, d2, d3] }
  | _ => none }
def batchesCommuteRow : OpenClaim := { program := "ytnnpmpdlhojecaa", sum := "20b972ed73ce098ba9478e0d0c0db9b9dcc520f1f19ef607dab283dac62db365", func := "blinktree/blinktreelaw15.BatchesCommute", spec := "batchesCommute", inPlace := ["slices.overlaps[blinktree/api.Entry]"], unfollowed := true, recurses := true, plainKeys := false, apart := false }
def BatchesCommuteSaid : Prop := batchesCommuteRow.holds Try.pinned (OpenSpec.ofChange batchesCommuteSpec)

/-- ITS FALSE NEIGHBOUR: 'it returns false'. Refute it at one input. -/
def batchesCommuteWrong : ChangeSpec := { name := "batchesCommute", fn := fun _ => fun
  | [d1, d2, d3] => { results := [.lit (.bool false)], args := [d1, d2, d3] }
  | _ => none }
def BatchesCommuteWrongFalsely : Prop := batchesCommuteRow.holds Try.pinned (OpenSpec.ofChange batchesCommuteWrong)

/-- 'blinktreelaw15.BatchTwice': WHATEVER THE INPUT: true; the input reads as it did. -/
def batchTwiceSpec : ChangeSpec := { name := "batchTwice", fn := fun _ => fun
  | [d1, d2] => { results := [.lit (.bool true)], args := [d1, d2] }
  | _ => none }
def batchTwiceRow : OpenClaim := { program := "ytnnpmpdlhojecaa", sum := "20b972ed73ce098ba9478e0d0c0db9b9dcc520f1f19ef607dab283dac62db365", func := "blinktree/blinktreelaw15.BatchTwice", spec := "batchTwice", inPlace := ["slices.overlaps[blinktree/api.Entry]"], unfollowed := true, recurses := true, plainKeys := false, apart := false }
def BatchTwiceSaid : Prop := batchTwiceRow.holds Try.pinned (OpenSpec.ofChange batchTwiceSpec)

/-- ITS FALSE NEIGHBOUR: 'it returns false'. Refute it at one input. -/
def batchTwiceWrong : ChangeSpec := { name := "batchTwice", fn := fun _ => fun
  | [d1, d2] => { results := [.lit (.bool false)], args := [d1, d2] }
  | _ => none }
def BatchTwiceWrongFalsely : Prop := batchTwiceRow.holds Try.pinned (OpenSpec.ofChange batchTwiceWrong)

/- THE SECOND FORM. 'bulk': how many values and letters a reading holds, each counted each time it is reached (what is shared counts as often as it is met; a slice's spare places count too). A statement '..UptoSaid' is the law's where the arguments, and the package variables that the reading takes, are together of bulk at most 1048576: NARROWER than '..Said'. Prove '..Said' where nothing that the law and all that it calls make is longer than what came in: it says more and counts as full. Else prove '..UptoSaid'. A law counts once. -/
mutual
def uptoBulk {H : Type} : DataW H → Nat
  | .lit (.string bytes) => bytes.length + 1
  | .lit _ => 1
  | .nil => 1
  | .ptr d => uptoBulk d + 1
  | .slice elems spare => uptoBulkAll elems + uptoBulkAll spare + 1
  | .agg parts => uptoBulkAll parts + 1
  | .iface _ d => uptoBulk d + 1
  | .map entries => uptoBulkEntries entries + 1
  | .held _ => 1
def uptoBulkAll {H : Type} : List (DataW H) → Nat
  | [] => 0
  | d :: r => uptoBulk d + uptoBulkAll r
def uptoBulkEntries {H : Type} : List (Lit × DataW H) → Nat
  | [] => 0
  | x :: r => uptoBulkEntry x + uptoBulkEntries r
def uptoBulkEntry {H : Type} : Lit × DataW H → Nat
  | (.string bytes, d) => bytes.length + uptoBulk d + 1
  | (_, d) => uptoBulk d + 1
 end
def uptoSmall : (H : Type) → List (DataW H) → Bool := fun _ ds => decide (uptoBulkAll ds ≤ 1048576)
def OpenSpec.upto (s : _root_.Go.ChangeSpec) : _root_.Go.OpenSpec := { _root_.Go.OpenSpec.ofChange s with cond := some uptoSmall }

/-- 'blinktreelaw21.ModelGets', WHERE WHAT IT READS IS OF BULK AT MOST 1048576: true; the input reads as it did. -/
def modelGetsUptoRow : OpenClaim := { program := "ytnnpmpdlhojecaa", sum := "20b972ed73ce098ba9478e0d0c0db9b9dcc520f1f19ef607dab283dac62db365", func := "blinktree/blinktreelaw21.ModelGets", spec := "modelGets", inPlace := ["slices.overlaps[blinktree/api.Entry]", "internal/bytealg.abigen_runtime_cmpstring"], unfollowed := true, recurses := true, plainKeys := false, apart := false, narrowed := true }
def ModelGetsUptoSaid : Prop := modelGetsUptoRow.holds Try.pinned (OpenSpec.upto modelGetsSpec)

/-- 'blinktreelaw21.ModelSnapshots', WHERE WHAT IT READS IS OF BULK AT MOST 1048576: true; the input reads as it did. -/
def modelSnapshotsUptoRow : OpenClaim := { program := "ytnnpmpdlhojecaa", sum := "20b972ed73ce098ba9478e0d0c0db9b9dcc520f1f19ef607dab283dac62db365", func := "blinktree/blinktreelaw21.ModelSnapshots", spec := "modelSnapshots", inPlace := ["slices.overlaps[blinktree/api.Entry]", "internal/bytealg.abigen_runtime_cmpstring"], unfollowed := true, recurses := true, plainKeys := false, apart := false, narrowed := true }
def ModelSnapshotsUptoSaid : Prop := modelSnapshotsUptoRow.holds Try.pinned (OpenSpec.upto modelSnapshotsSpec)

/-- 'blinktreelaw21.ModelFloor', WHERE WHAT IT READS IS OF BULK AT MOST 1048576: true; the input reads as it did. -/
def modelFloorUptoRow : OpenClaim := { program := "ytnnpmpdlhojecaa", sum := "20b972ed73ce098ba9478e0d0c0db9b9dcc520f1f19ef607dab283dac62db365", func := "blinktree/blinktreelaw21.ModelFloor", spec := "modelFloor", inPlace := ["slices.overlaps[blinktree/api.Entry]", "internal/bytealg.abigen_runtime_cmpstring"], unfollowed := true, recurses := true, plainKeys := false, apart := false, narrowed := true }
def ModelFloorUptoSaid : Prop := modelFloorUptoRow.holds Try.pinned (OpenSpec.upto modelFloorSpec)

/-- 'blinktreelaw21.ModelAgrees', WHERE WHAT IT READS IS OF BULK AT MOST 1048576: true; the input reads as it did. -/
def modelAgreesUptoRow : OpenClaim := { program := "ytnnpmpdlhojecaa", sum := "20b972ed73ce098ba9478e0d0c0db9b9dcc520f1f19ef607dab283dac62db365", func := "blinktree/blinktreelaw21.ModelAgrees", spec := "modelAgrees", inPlace := ["slices.overlaps[blinktree/api.Entry]", "internal/bytealg.abigen_runtime_cmpstring"], unfollowed := true, recurses := true, plainKeys := false, apart := false, narrowed := true }
def ModelAgreesUptoSaid : Prop := modelAgreesUptoRow.holds Try.pinned (OpenSpec.upto modelAgreesSpec)

/-- 'blinktreelaw21.ModelIsPersistent', WHERE WHAT IT READS IS OF BULK AT MOST 1048576: true; the input reads as it did. -/
def modelIsPersistentUptoRow : OpenClaim := { program := "ytnnpmpdlhojecaa", sum := "20b972ed73ce098ba9478e0d0c0db9b9dcc520f1f19ef607dab283dac62db365", func := "blinktree/blinktreelaw21.ModelIsPersistent", spec := "modelIsPersistent", inPlace := ["slices.overlaps[blinktree/api.Entry]", "internal/bytealg.abigen_runtime_cmpstring"], unfollowed := true, recurses := true, plainKeys := false, apart := false, narrowed := true }
def ModelIsPersistentUptoSaid : Prop := modelIsPersistentUptoRow.holds Try.pinned (OpenSpec.upto modelIsPersistentSpec)

/-- 'blinktreelaw15.BatchAgrees', WHERE WHAT IT READS IS OF BULK AT MOST 1048576: true; the input reads as it did. -/
def batchAgreesUptoRow : OpenClaim := { program := "ytnnpmpdlhojecaa", sum := "20b972ed73ce098ba9478e0d0c0db9b9dcc520f1f19ef607dab283dac62db365", func := "blinktree/blinktreelaw15.BatchAgrees", spec := "batchAgrees", inPlace := ["slices.overlaps[blinktree/api.Entry]"], unfollowed := true, recurses := true, plainKeys := false, apart := false, narrowed := true }
def BatchAgreesUptoSaid : Prop := batchAgreesUptoRow.holds Try.pinned (OpenSpec.upto batchAgreesSpec)

/-- 'blinktreelaw15.BatchNormalForm', WHERE WHAT IT READS IS OF BULK AT MOST 1048576: true; the input reads as it did. -/
def batchNormalFormUptoRow : OpenClaim := { program := "ytnnpmpdlhojecaa", sum := "20b972ed73ce098ba9478e0d0c0db9b9dcc520f1f19ef607dab283dac62db365", func := "blinktree/blinktreelaw15.BatchNormalForm", spec := "batchNormalForm", inPlace := ["slices.overlaps[blinktree/api.Entry]"], unfollowed := true, recurses := true, plainKeys := false, apart := false, narrowed := true }
def BatchNormalFormUptoSaid : Prop := batchNormalFormUptoRow.holds Try.pinned (OpenSpec.upto batchNormalFormSpec)

/-- 'blinktreelaw15.BatchApplies', WHERE WHAT IT READS IS OF BULK AT MOST 1048576: true; the input reads as it did. -/
def batchAppliesUptoRow : OpenClaim := { program := "ytnnpmpdlhojecaa", sum := "20b972ed73ce098ba9478e0d0c0db9b9dcc520f1f19ef607dab283dac62db365", func := "blinktree/blinktreelaw15.BatchApplies", spec := "batchApplies", inPlace := ["slices.overlaps[blinktree/api.Entry]"], unfollowed := true, recurses := true, plainKeys := false, apart := false, narrowed := true }
def BatchAppliesUptoSaid : Prop := batchAppliesUptoRow.holds Try.pinned (OpenSpec.upto batchAppliesSpec)

/-- 'blinktreelaw15.BatchesCompose', WHERE WHAT IT READS IS OF BULK AT MOST 1048576: true; the input reads as it did. -/
def batchesComposeUptoRow : OpenClaim := { program := "ytnnpmpdlhojecaa", sum := "20b972ed73ce098ba9478e0d0c0db9b9dcc520f1f19ef607dab283dac62db365", func := "blinktree/blinktreelaw15.BatchesCompose", spec := "batchesCompose", inPlace := ["slices.overlaps[blinktree/api.Entry]"], unfollowed := true, recurses := true, plainKeys := false, apart := false, narrowed := true }
def BatchesComposeUptoSaid : Prop := batchesComposeUptoRow.holds Try.pinned (OpenSpec.upto batchesComposeSpec)

/-- 'blinktreelaw15.BatchesCommute', WHERE WHAT IT READS IS OF BULK AT MOST 1048576: true; the input reads as it did. -/
def batchesCommuteUptoRow : OpenClaim := { program := "ytnnpmpdlhojecaa", sum := "20b972ed73ce098ba9478e0d0c0db9b9dcc520f1f19ef607dab283dac62db365", func := "blinktree/blinktreelaw15.BatchesCommute", spec := "batchesCommute", inPlace := ["slices.overlaps[blinktree/api.Entry]"], unfollowed := true, recurses := true, plainKeys := false, apart := false, narrowed := true }
def BatchesCommuteUptoSaid : Prop := batchesCommuteUptoRow.holds Try.pinned (OpenSpec.upto batchesCommuteSpec)

/-- 'blinktreelaw15.BatchTwice', WHERE WHAT IT READS IS OF BULK AT MOST 1048576: true; the input reads as it did. -/
def batchTwiceUptoRow : OpenClaim := { program := "ytnnpmpdlhojecaa", sum := "20b972ed73ce098ba9478e0d0c0db9b9dcc520f1f19ef607dab283dac62db365", func := "blinktree/blinktreelaw15.BatchTwice", spec := "batchTwice", inPlace := ["slices.overlaps[blinktree/api.Entry]"], unfollowed := true, recurses := true, plainKeys := false, apart := false, narrowed := true }
def BatchTwiceUptoSaid : Prop := batchTwiceUptoRow.holds Try.pinned (OpenSpec.upto batchTwiceSpec)

end Rows
end Go.Proofs.Ytnnpmpdlhojecaa
