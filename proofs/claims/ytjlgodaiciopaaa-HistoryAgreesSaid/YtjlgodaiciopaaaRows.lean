/-
  No cell of these rows narrows 'for every input' (looked for: loops, veiled, ifaces, maps, wideKeys, modest, calm, conditions, laid).
  DERIVED. THE GIVEN ROWS OF THIS SEAT. 5 by the template 'for every input the law returns true; each argument reads behind the call as it read before'; 0 by the template 'total and deterministic' (their statements: YtjlgodaiciopaaaTotals.lean).
  GIVEN WITH THE SEED: the statements are not yours to turn. If you find one false, say at which input.
  Laid BY PROGRAM, IN A SANDBOX (cutbox-rows.mjs): the forced cells as the released guide's own fill.sh prints them over the translation 1de8132458261efb… (all of the seat's roots in one cut). By AI agents, Wed Nov 11 2026. No macro, syntax, notation, axiom, sorry.
-/
import Derived.Test.YtjlgodaiciopaaaChecked
import GoSem.Claim
import GoSem.ClaimJoined
import GoSem.ClaimMapViews
import Derived.JoinedTies
import Derived.KernelRfl
namespace Go.Proofs.Ytjlgodaiciopaaa
/- THE CELL 'sum', in the pinned program and in every row, IS THE sha256 OF THE DUMP (.gsa) THAT YtjlgodaiciopaaaProg.lean LOADS. Nothing in Lean hashes anything: it is a label: what it is worth is what the hold of that sum in a sandbox is worth. -/
noncomputable def Try.pinned : Pinned := { name := "ytjlgodaiciopaaa", sum := "1de8132458261efb8d62c1748ffbe608c11f60e96ec3973ad8eb69894e5ba70c", checked := Try.checked }
namespace Rows
def none {H : Type} : Left H := { results := [], args := [] }

/-- 'blinktreelaw23.HistoryChecks': WHATEVER THE INPUT: true; the input reads as it did. -/
def historyChecksSpec : ChangeSpec := { name := "historyChecks", fn := fun _ => fun
  | [d1, d2, d3, d4, d5] => { results := [.lit (.bool true)], args := [d1, d2, d3, d4, d5] }
  | _ => none }
def historyChecksRow : OpenClaim := { program := "ytjlgodaiciopaaa", sum := "1de8132458261efb8d62c1748ffbe608c11f60e96ec3973ad8eb69894e5ba70c", func := "blinktree/blinktreelaw23.HistoryChecks", spec := "historyChecks", unfollowed := true, recurses := true, apart := false }
def HistoryChecksSaid : Prop := historyChecksRow.holds Try.pinned (OpenSpec.ofChange historyChecksSpec)

/-- ITS FALSE NEIGHBOUR: 'it returns false'. Refute it at one input. -/
def historyChecksWrong : ChangeSpec := { name := "historyChecks", fn := fun _ => fun
  | [d1, d2, d3, d4, d5] => { results := [.lit (.bool false)], args := [d1, d2, d3, d4, d5] }
  | _ => none }
def HistoryChecksWrongFalsely : Prop := historyChecksRow.holds Try.pinned (OpenSpec.ofChange historyChecksWrong)

/-- 'blinktreelaw23.HistoryOrderIsCompatible': WHATEVER THE INPUT: true; the input reads as it did. -/
def historyOrderIsCompatibleSpec : ChangeSpec := { name := "historyOrderIsCompatible", fn := fun _ => fun
  | [d] => { results := [.lit (.bool true)], args := [d] }
  | _ => none }
def historyOrderIsCompatibleRow : OpenClaim := { program := "ytjlgodaiciopaaa", sum := "1de8132458261efb8d62c1748ffbe608c11f60e96ec3973ad8eb69894e5ba70c", func := "blinktree/blinktreelaw23.HistoryOrderIsCompatible", spec := "historyOrderIsCompatible", unfollowed := true, recurses := true, apart := false }
def HistoryOrderIsCompatibleSaid : Prop := historyOrderIsCompatibleRow.holds Try.pinned (OpenSpec.ofChange historyOrderIsCompatibleSpec)

/-- ITS FALSE NEIGHBOUR: 'it returns false'. Refute it at one input. -/
def historyOrderIsCompatibleWrong : ChangeSpec := { name := "historyOrderIsCompatible", fn := fun _ => fun
  | [d] => { results := [.lit (.bool false)], args := [d] }
  | _ => none }
def HistoryOrderIsCompatibleWrongFalsely : Prop := historyOrderIsCompatibleRow.holds Try.pinned (OpenSpec.ofChange historyOrderIsCompatibleWrong)

/-- 'blinktreelaw23.HistoryOverlaps': WHATEVER THE INPUT: true; the input reads as it did. -/
def historyOverlapsSpec : ChangeSpec := { name := "historyOverlaps", fn := fun _ => fun
  | [d1, d2] => { results := [.lit (.bool true)], args := [d1, d2] }
  | _ => none }
def historyOverlapsRow : OpenClaim := { program := "ytjlgodaiciopaaa", sum := "1de8132458261efb8d62c1748ffbe608c11f60e96ec3973ad8eb69894e5ba70c", func := "blinktree/blinktreelaw23.HistoryOverlaps", spec := "historyOverlaps", unfollowed := true, recurses := true, apart := false }
def HistoryOverlapsSaid : Prop := historyOverlapsRow.holds Try.pinned (OpenSpec.ofChange historyOverlapsSpec)

/-- ITS FALSE NEIGHBOUR: 'it returns false'. Refute it at one input. -/
def historyOverlapsWrong : ChangeSpec := { name := "historyOverlaps", fn := fun _ => fun
  | [d1, d2] => { results := [.lit (.bool false)], args := [d1, d2] }
  | _ => none }
def HistoryOverlapsWrongFalsely : Prop := historyOverlapsRow.holds Try.pinned (OpenSpec.ofChange historyOverlapsWrong)

/-- 'blinktreelaw23.HistoryAgrees': WHATEVER THE INPUT: true; the input reads as it did. -/
def historyAgreesSpec : ChangeSpec := { name := "historyAgrees", fn := fun _ => fun
  | [d1, d2, d3] => { results := [.lit (.bool true)], args := [d1, d2, d3] }
  | _ => none }
def historyAgreesRow : OpenClaim := { program := "ytjlgodaiciopaaa", sum := "1de8132458261efb8d62c1748ffbe608c11f60e96ec3973ad8eb69894e5ba70c", func := "blinktree/blinktreelaw23.HistoryAgrees", spec := "historyAgrees", unfollowed := true, recurses := true, apart := false }
def HistoryAgreesSaid : Prop := historyAgreesRow.holds Try.pinned (OpenSpec.ofChange historyAgreesSpec)

/-- ITS FALSE NEIGHBOUR: 'it returns false'. Refute it at one input. -/
def historyAgreesWrong : ChangeSpec := { name := "historyAgrees", fn := fun _ => fun
  | [d1, d2, d3] => { results := [.lit (.bool false)], args := [d1, d2, d3] }
  | _ => none }
def HistoryAgreesWrongFalsely : Prop := historyAgreesRow.holds Try.pinned (OpenSpec.ofChange historyAgreesWrong)

/-- 'blinktreelaw23.HistoryThreads': WHATEVER THE INPUT: true; the input reads as it did. -/
def historyThreadsSpec : ChangeSpec := { name := "historyThreads", fn := fun _ => fun
  | [d] => { results := [.lit (.bool true)], args := [d] }
  | _ => none }
def historyThreadsRow : OpenClaim := { program := "ytjlgodaiciopaaa", sum := "1de8132458261efb8d62c1748ffbe608c11f60e96ec3973ad8eb69894e5ba70c", func := "blinktree/blinktreelaw23.HistoryThreads", spec := "historyThreads", unfollowed := true, recurses := true, apart := false }
def HistoryThreadsSaid : Prop := historyThreadsRow.holds Try.pinned (OpenSpec.ofChange historyThreadsSpec)

/-- ITS FALSE NEIGHBOUR: 'it returns false'. Refute it at one input. -/
def historyThreadsWrong : ChangeSpec := { name := "historyThreads", fn := fun _ => fun
  | [d] => { results := [.lit (.bool false)], args := [d] }
  | _ => none }
def HistoryThreadsWrongFalsely : Prop := historyThreadsRow.holds Try.pinned (OpenSpec.ofChange historyThreadsWrong)

/- THE SECOND FORM. 'bulk': how many values and letters a reading holds, each counted each time it is reached (what is shared counts as often as it is met; a slice's spare places count too). A statement '..UptoSaid' is the law's where the arguments, and the package variables that the reading takes, are together of bulk at most 1048576: NARROWER than '..Said'. Prove '..Said' where nothing that the law and all that it calls make is longer than what came in: it says more and counts as full. Else prove '..UptoSaid'. A law counts once. -/
mutual
def uptoBulk {H : Type} : DataW H → Nat
  | .lit (.string bytes) => bytes.length + 1
  | .lit _ => 1
  | .nil => 1
  | .ptr d => uptoBulk d + 1
  | .slice elems spare => uptoBulkAll elems + uptoBulkAll spare + 1
  | .agg parts => uptoBulkAll parts + 1
  | .iface _ d => uptoBulk d + 1
  | .map entries => uptoBulkEntries entries + 1
  | .held _ => 1
def uptoBulkAll {H : Type} : List (DataW H) → Nat
  | [] => 0
  | d :: r => uptoBulk d + uptoBulkAll r
def uptoBulkEntries {H : Type} : List (Lit × DataW H) → Nat
  | [] => 0
  | x :: r => uptoBulkEntry x + uptoBulkEntries r
def uptoBulkEntry {H : Type} : Lit × DataW H → Nat
  | (.string bytes, d) => bytes.length + uptoBulk d + 1
  | (_, d) => uptoBulk d + 1
 end
def uptoSmall : (H : Type) → List (DataW H) → Bool := fun _ ds => decide (uptoBulkAll ds ≤ 1048576)
def OpenSpec.upto (s : _root_.Go.ChangeSpec) : _root_.Go.OpenSpec := { _root_.Go.OpenSpec.ofChange s with cond := some uptoSmall }

/-- 'blinktreelaw23.HistoryChecks', WHERE WHAT IT READS IS OF BULK AT MOST 1048576: true; the input reads as it did. -/
def historyChecksUptoRow : OpenClaim := { program := "ytjlgodaiciopaaa", sum := "1de8132458261efb8d62c1748ffbe608c11f60e96ec3973ad8eb69894e5ba70c", func := "blinktree/blinktreelaw23.HistoryChecks", spec := "historyChecks", unfollowed := true, recurses := true, apart := false, narrowed := true }
def HistoryChecksUptoSaid : Prop := historyChecksUptoRow.holds Try.pinned (OpenSpec.upto historyChecksSpec)

/-- 'blinktreelaw23.HistoryOrderIsCompatible', WHERE WHAT IT READS IS OF BULK AT MOST 1048576: true; the input reads as it did. -/
def historyOrderIsCompatibleUptoRow : OpenClaim := { program := "ytjlgodaiciopaaa", sum := "1de8132458261efb8d62c1748ffbe608c11f60e96ec3973ad8eb69894e5ba70c", func := "blinktree/blinktreelaw23.HistoryOrderIsCompatible", spec := "historyOrderIsCompatible", unfollowed := true, recurses := true, apart := false, narrowed := true }
def HistoryOrderIsCompatibleUptoSaid : Prop := historyOrderIsCompatibleUptoRow.holds Try.pinned (OpenSpec.upto historyOrderIsCompatibleSpec)

/-- 'blinktreelaw23.HistoryOverlaps', WHERE WHAT IT READS IS OF BULK AT MOST 1048576: true; the input reads as it did. -/
def historyOverlapsUptoRow : OpenClaim := { program := "ytjlgodaiciopaaa", sum := "1de8132458261efb8d62c1748ffbe608c11f60e96ec3973ad8eb69894e5ba70c", func := "blinktree/blinktreelaw23.HistoryOverlaps", spec := "historyOverlaps", unfollowed := true, recurses := true, apart := false, narrowed := true }
def HistoryOverlapsUptoSaid : Prop := historyOverlapsUptoRow.holds Try.pinned (OpenSpec.upto historyOverlapsSpec)

/-- 'blinktreelaw23.HistoryAgrees', WHERE WHAT IT READS IS OF BULK AT MOST 1048576: true; the input reads as it did. -/
def historyAgreesUptoRow : OpenClaim := { program := "ytjlgodaiciopaaa", sum := "1de8132458261efb8d62c1748ffbe608c11f60e96ec3973ad8eb69894e5ba70c", func := "blinktree/blinktreelaw23.HistoryAgrees", spec := "historyAgrees", unfollowed := true, recurses := true, apart := false, narrowed := true }
def HistoryAgreesUptoSaid : Prop := historyAgreesUptoRow.holds Try.pinned (OpenSpec.upto historyAgreesSpec)

/-- 'blinktreelaw23.HistoryThreads', WHERE WHAT IT READS IS OF BULK AT MOST 1048576: true; the input reads as it did. -/
def historyThreadsUptoRow : OpenClaim := { program := "ytjlgodaiciopaaa", sum := "1de8132458261efb8d62c1748ffbe608c11f60e96ec3973ad8eb69894e5ba70c", func := "blinktree/blinktreelaw23.HistoryThreads", spec := "historyThreads", unfollowed := true, recurses := true, apart := false, narrowed := true }
def HistoryThreadsUptoSaid : Prop := historyThreadsUptoRow.holds Try.pinned (OpenSpec.upto historyThreadsSpec)

end Rows
end Go.Proofs.Ytjlgodaiciopaaa
