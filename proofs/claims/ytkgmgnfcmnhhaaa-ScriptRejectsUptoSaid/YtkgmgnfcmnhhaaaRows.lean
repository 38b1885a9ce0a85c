/-
  No cell of these rows narrows 'for every input' (looked for: loops, veiled, ifaces, maps, wideKeys, modest, calm, conditions, laid).
  DERIVED. THE GIVEN ROWS OF THIS SEAT. 3 by the template 'for every input the law returns true; each argument reads behind the call as it read before'; 0 by the template 'total and deterministic' (their statements: YtkgmgnfcmnhhaaaTotals.lean).
  GIVEN WITH THE SEED: the statements are not yours to turn. If you find one false, say at which input.
  Laid BY PROGRAM, IN A SANDBOX (cutbox-rows.mjs): the forced cells as the released guide's own fill.sh prints them over the translation 5fa8c307f4d586fc… (all of the seat's roots in one cut). By AI agents, Wed Nov 11 2026. No macro, syntax, notation, axiom, sorry.
-/
import Derived.Test.YtkgmgnfcmnhhaaaChecked
import GoSem.Claim
import GoSem.ClaimJoined
import GoSem.ClaimMapViews
import Derived.JoinedTies
import Derived.KernelRfl
namespace Go.Proofs.Ytkgmgnfcmnhhaaa
/- THE CELL 'sum', in the pinned program and in every row, IS THE sha256 OF THE DUMP (.gsa) THAT YtkgmgnfcmnhhaaaProg.lean LOADS. Nothing in Lean hashes anything: it is a label: what it is worth is what the hold of that sum in a sandbox is worth. -/
noncomputable def Try.pinned : Pinned := { name := "ytkgmgnfcmnhhaaa", sum := "5fa8c307f4d586fcf0c216a845fe8c023591cb8e2dbe261e3df3d8e3b8cf65a0", checked := Try.checked }
namespace Rows
def none {H : Type} : Left H := { results := [], args := [] }

/-- 'blinktreelaw27.ScriptRoundTrip': WHATEVER THE INPUT: true; the input reads as it did. -/
def scriptRoundTripSpec : ChangeSpec := { name := "scriptRoundTrip", fn := fun _ => fun
  | [d1, d2, d3, d4, d5, d6] => { results := [.lit (.bool true)], args := [d1, d2, d3, d4, d5, d6] }
  | _ => none }
def scriptRoundTripRow : OpenClaim := { program := "ytkgmgnfcmnhhaaa", sum := "5fa8c307f4d586fcf0c216a845fe8c023591cb8e2dbe261e3df3d8e3b8cf65a0", func := "blinktree/blinktreelaw27.ScriptRoundTrip", spec := "scriptRoundTrip", apart := false }
def ScriptRoundTripSaid : Prop := scriptRoundTripRow.holds Try.pinned (OpenSpec.ofChange scriptRoundTripSpec)

/-- ITS FALSE NEIGHBOUR: 'it returns false'. Refute it at one input. -/
def scriptRoundTripWrong : ChangeSpec := { name := "scriptRoundTrip", fn := fun _ => fun
  | [d1, d2, d3, d4, d5, d6] => { results := [.lit (.bool false)], args := [d1, d2, d3, d4, d5, d6] }
  | _ => none }
def ScriptRoundTripWrongFalsely : Prop := scriptRoundTripRow.holds Try.pinned (OpenSpec.ofChange scriptRoundTripWrong)

/-- 'blinktreelaw27.ScriptRejects': WHATEVER THE INPUT: true; the input reads as it did. -/
def scriptRejectsSpec : ChangeSpec := { name := "scriptRejects", fn := fun _ => fun
  | [d1, d2, d3, d4, d5, d6, d7, d8] => { results := [.lit (.bool true)], args := [d1, d2, d3, d4, d5, d6, d7, d8] }
  | _ => none }
def scriptRejectsRow : OpenClaim := { program := "ytkgmgnfcmnhhaaa", sum := "5fa8c307f4d586fcf0c216a845fe8c023591cb8e2dbe261e3df3d8e3b8cf65a0", func := "blinktree/blinktreelaw27.ScriptRejects", spec := "scriptRejects", apart := false }
def ScriptRejectsSaid : Prop := scriptRejectsRow.holds Try.pinned (OpenSpec.ofChange scriptRejectsSpec)

/-- ITS FALSE NEIGHBOUR: 'it returns false'. Refute it at one input. -/
def scriptRejectsWrong : ChangeSpec := { name := "scriptRejects", fn := fun _ => fun
  | [d1, d2, d3, d4, d5, d6, d7, d8] => { results := [.lit (.bool false)], args := [d1, d2, d3, d4, d5, d6, d7, d8] }
  | _ => none }
def ScriptRejectsWrongFalsely : Prop := scriptRejectsRow.holds Try.pinned (OpenSpec.ofChange scriptRejectsWrong)

/-- 'blinktreelaw27.ScriptDecodesCanonically': WHATEVER THE INPUT: true; the input reads as it did. -/
def scriptDecodesCanonicallySpec : ChangeSpec := { name := "scriptDecodesCanonically", fn := fun _ => fun
  | [d1, d2, d3, d4, d5, d6, d7, d8] => { results := [.lit (.bool true)], args := [d1, d2, d3, d4, d5, d6, d7, d8] }
  | _ => none }
def scriptDecodesCanonicallyRow : OpenClaim := { program := "ytkgmgnfcmnhhaaa", sum := "5fa8c307f4d586fcf0c216a845fe8c023591cb8e2dbe261e3df3d8e3b8cf65a0", func := "blinktree/blinktreelaw27.ScriptDecodesCanonically", spec := "scriptDecodesCanonically", apart := false }
def ScriptDecodesCanonicallySaid : Prop := scriptDecodesCanonicallyRow.holds Try.pinned (OpenSpec.ofChange scriptDecodesCanonicallySpec)

/-- ITS FALSE NEIGHBOUR: 'it returns false'. Refute it at one input. -/
def scriptDecodesCanonicallyWrong : ChangeSpec := { name := "scriptDecodesCanonically", fn := fun _ => fun
  | [d1, d2, d3, d4, d5, d6, d7, d8] => { results := [.lit (.bool false)], args := [d1, d2, d3, d4, d5, d6, d7, d8] }
  | _ => none }
def ScriptDecodesCanonicallyWrongFalsely : Prop := scriptDecodesCanonicallyRow.holds Try.pinned (OpenSpec.ofChange scriptDecodesCanonicallyWrong)

/- THE SECOND FORM. 'bulk': how many values and letters a reading holds, each counted each time it is reached (what is shared counts as often as it is met; a slice's spare places count too). A statement '..UptoSaid' is the law's where the arguments, and the package variables that the reading takes, are together of bulk at most 1048576: NARROWER than '..Said'. Prove '..Said' where nothing that the law and all that it calls make is longer than what came in: it says more and counts as full. Else prove '..UptoSaid'. A law counts once. -/
mutual
def uptoBulk {H : Type} : DataW H → Nat
  | .lit (.string bytes) => bytes.length + 1
  | .lit _ => 1
  | .nil => 1
  | .ptr d => uptoBulk d + 1
  | .slice elems spare => uptoBulkAll elems + uptoBulkAll spare + 1
  | .agg parts => uptoBulkAll parts + 1
  | .iface _ d => uptoBulk d + 1
  | .map entries => uptoBulkEntries entries + 1
  | .held _ => 1
def uptoBulkAll {H : Type} : List (DataW H) → Nat
  | [] => 0
  | d :: r => uptoBulk d + uptoBulkAll r
def uptoBulkEntries {H : Type} : List (Lit × DataW H) → Nat
  | [] => 0
  | x :: r => uptoBulkEntry x + uptoBulkEntries r
def uptoBulkEntry {H : Type} : Lit × DataW H → Nat
  | (.string bytes, d) => bytes.length + uptoBulk d + 1
  | (_, d) => uptoBulk d + 1
 end
def uptoSmall : (H : Type) → List (DataW H) → Bool := fun _ ds => decide (uptoBulkAll ds ≤ 1048576)
def OpenSpec.upto (s : _root_.Go.ChangeSpec) : _root_.Go.OpenSpec := { _root_.Go.OpenSpec.ofChange s with cond := some uptoSmall }

/-- 'blinktreelaw27.ScriptRoundTrip', WHERE WHAT IT READS IS OF BULK AT MOST 1048576: true; the input reads as it did. -/
def scriptRoundTripUptoRow : OpenClaim := { program := "ytkgmgnfcmnhhaaa", sum := "5fa8c307f4d586fcf0c216a845fe8c023591cb8e2dbe261e3df3d8e3b8cf65a0", func := "blinktree/blinktreelaw27.ScriptRoundTrip", spec := "scriptRoundTrip", apart := false, narrowed := true }
def ScriptRoundTripUptoSaid : Prop := scriptRoundTripUptoRow.holds Try.pinned (OpenSpec.upto scriptRoundTripSpec)

/-- 'blinktreelaw27.ScriptRejects', WHERE WHAT IT READS IS OF BULK AT MOST 1048576: true; the input reads as it did. -/
def scriptRejectsUptoRow : OpenClaim := { program := "ytkgmgnfcmnhhaaa", sum := "5fa8c307f4d586fcf0c216a845fe8c023591cb8e2dbe261e3df3d8e3b8cf65a0", func := "blinktree/blinktreelaw27.ScriptRejects", spec := "scriptRejects", apart := false, narrowed := true }
def ScriptRejectsUptoSaid : Prop := scriptRejectsUptoRow.holds Try.pinned (OpenSpec.upto scriptRejectsSpec)

/-- 'blinktreelaw27.ScriptDecodesCanonically', WHERE WHAT IT READS IS OF BULK AT MOST 1048576: true; the input reads as it did. -/
def scriptDecodesCanonicallyUptoRow : OpenClaim := { program := "ytkgmgnfcmnhhaaa", sum := "5fa8c307f4d586fcf0c216a845fe8c023591cb8e2dbe261e3df3d8e3b8cf65a0", func := "blinktree/blinktreelaw27.ScriptDecodesCanonically", spec := "scriptDecodesCanonically", apart := false, narrowed := true }
def ScriptDecodesCanonicallyUptoSaid : Prop := scriptDecodesCanonicallyUptoRow.holds Try.pinned (OpenSpec.upto scriptDecodesCanonicallySpec)

end Rows
end Go.Proofs.Ytkgmgnfcmnhhaaa
