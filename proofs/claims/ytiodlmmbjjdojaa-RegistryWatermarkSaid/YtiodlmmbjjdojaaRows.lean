/-
  No cell of these rows narrows 'for every input' (looked for: loops, veiled, ifaces, maps, wideKeys, modest, calm, conditions, laid).
  DERIVED. THE GIVEN ROWS OF THIS SEAT. 5 by the template 'for every input the law returns true; each argument reads behind the call as it read before'; 0 by the template 'total and deterministic' (their statements: YtiodlmmbjjdojaaTotals.lean).
  GIVEN WITH THE SEED: the statements are not yours to turn. If you find one false, say at which input.
  Laid BY PROGRAM, IN A SANDBOX (cutbox-rows.mjs): the forced cells as the released guide's own fill.sh prints them over the translation 9d58d535d8764b5c… (all of the seat's roots in one cut). By AI agents, Wed Nov 11 2026. No macro, syntax, notation, axiom, sorry.
-/
import Derived.Test.YtiodlmmbjjdojaaChecked
import GoSem.Claim
import GoSem.ClaimJoined
import GoSem.ClaimMapViews
import Derived.JoinedTies
import Derived.KernelRfl
namespace Go.Proofs.Ytiodlmmbjjdojaa
/- THE CELL 'sum', in the pinned program and in every row, IS THE sha256 OF THE DUMP (.gsa) THAT YtiodlmmbjjdojaaProg.lean LOADS. Nothing in Lean hashes anything: it is a label: what it is worth is what the hold of that sum in a sandbox is worth. -/
noncomputable def Try.pinned : Pinned := { name := "ytiodlmmbjjdojaa", sum := "9d58d535d8764b5c176128b655689993f171b0e401c1ea39d15e39d430e551db", checked := Try.checked }
namespace Rows
def none {H : Type} : Left H := { results := [], args := [] }

/-- 'blinktreelaw18.RegistryWatermark': WHATEVER THE INPUT: true; the input reads as it did. -/
def registryWatermarkSpec : ChangeSpec := { name := "registryWatermark", fn := fun _ => fun
  | [d1, d2, d3, d4] => { results := [.lit (.bool true)], args := [d1, d2, d3, d4] }
  | _ => none }
def registryWatermarkRow : OpenClaim := { program := "ytiodlmmbjjdojaa", sum := "9d58d535d8764b5c176128b655689993f171b0e401c1ea39d15e39d430e551db", func := "blinktree/blinktreelaw18.RegistryWatermark", spec := "registryWatermark", unfollowed := true, recurses := true, apart := false }
def RegistryWatermarkSaid : Prop := registryWatermarkRow.holds Try.pinned (OpenSpec.ofChange registryWatermarkSpec)

/-- ITS FALSE NEIGHBOUR: 'it returns false'. Refute it at one input. -/
def registryWatermarkWrong : ChangeSpec := { name := "registryWatermark", fn := fun _ => fun
  | [d1, d2, d3, d4] => { results := [.lit (.bool false)], args := [d1, d2, d3, d4] }
  | _ => none }
def RegistryWatermarkWrongFalsely : Prop := registryWatermarkRow.holds Try.pinned (OpenSpec.ofChange registryWatermarkWrong)

/-- 'blinktreelaw18.RegistryReleases': WHATEVER THE INPUT: true; the input reads as it did. -/
def registryReleasesSpec : ChangeSpec := { name := "registryReleases", fn := fun _ => fun
  | [d1, d2, d3, d4] => { results := [.lit (.bool true)], args := [d1, d2, d3, d4] }
  | _ => none }
def registryReleasesRow : OpenClaim := { program := "ytiodlmmbjjdojaa", sum := "9d58d535d8764b5c176128b655689993f171b0e401c1ea39d15e39d430e551db", func := "blinktree/blinktreelaw18.RegistryReleases", spec := "registryReleases", unfollowed := true, recurses := true, apart := false }
def RegistryReleasesSaid : Prop := registryReleasesRow.holds Try.pinned (OpenSpec.ofChange registryReleasesSpec)

/-- ITS FALSE NEIGHBOUR: 'it returns false'. Refute it at one input. -/
def registryReleasesWrong : ChangeSpec := { name := "registryReleases", fn := fun _ => fun
  | [d1, d2, d3, d4] => { results := [.lit (.bool false)], args := [d1, d2, d3, d4] }
  | _ => none }
def RegistryReleasesWrongFalsely : Prop := registryReleasesRow.holds Try.pinned (OpenSpec.ofChange registryReleasesWrong)

/-- 'blinktreelaw18.RegistryProtects': WHATEVER THE INPUT: true; the input reads as it did. -/
def registryProtectsSpec : ChangeSpec := { name := "registryProtects", fn := fun _ => fun
  | [d1, d2] => { results := [.lit (.bool true)], args := [d1, d2] }
  | _ => none }
def registryProtectsRow : OpenClaim := { program := "ytiodlmmbjjdojaa", sum := "9d58d535d8764b5c176128b655689993f171b0e401c1ea39d15e39d430e551db", func := "blinktree/blinktreelaw18.RegistryProtects", spec := "registryProtects", unfollowed := true, recurses := true, apart := false }
def RegistryProtectsSaid : Prop := registryProtectsRow.holds Try.pinned (OpenSpec.ofChange registryProtectsSpec)

/-- ITS FALSE NEIGHBOUR: 'it returns false'. Refute it at one input. -/
def registryProtectsWrong : ChangeSpec := { name := "registryProtects", fn := fun _ => fun
  | [d1, d2] => { results := [.lit (.bool false)], args := [d1, d2] }
  | _ => none }
def RegistryProtectsWrongFalsely : Prop := registryProtectsRow.holds Try.pinned (OpenSpec.ofChange registryProtectsWrong)

/-- 'blinktreelaw18.RegistryIsIndependent': WHATEVER THE INPUT: true; the input reads as it did. -/
def registryIsIndependentSpec : ChangeSpec := { name := "registryIsIndependent", fn := fun _ => fun
  | [d1, d2] => { results := [.lit (.bool true)], args := [d1, d2] }
  | _ => none }
def registryIsIndependentRow : OpenClaim := { program := "ytiodlmmbjjdojaa", sum := "9d58d535d8764b5c176128b655689993f171b0e401c1ea39d15e39d430e551db", func := "blinktree/blinktreelaw18.RegistryIsIndependent", spec := "registryIsIndependent", unfollowed := true, recurses := true, apart := false }
def RegistryIsIndependentSaid : Prop := registryIsIndependentRow.holds Try.pinned (OpenSpec.ofChange registryIsIndependentSpec)

/-- ITS FALSE NEIGHBOUR: 'it returns false'. Refute it at one input. -/
def registryIsIndependentWrong : ChangeSpec := { name := "registryIsIndependent", fn := fun _ => fun
  | [d1, d2] => { results := [.lit (.bool false)], args := [d1, d2] }
  | _ => none }
def RegistryIsIndependentWrongFalsely : Prop := registryIsIndependentRow.holds Try.pinned (OpenSpec.ofChange registryIsIndependentWrong)

/-- 'blinktreelaw18.RegistryOpens': WHATEVER THE INPUT: true; the input reads as it did. -/
def registryOpensSpec : ChangeSpec := { name := "registryOpens", fn := fun _ => fun
  | [d1, d2, d3, d4, d5, d6] => { results := [.lit (.bool true)], args := [d1, d2, d3, d4, d5, d6] }
  | _ => none }
def registryOpensRow : OpenClaim := { program := "ytiodlmmbjjdojaa", sum := "9d58d535d8764b5c176128b655689993f171b0e401c1ea39d15e39d430e551db", func := "blinktree/blinktreelaw18.RegistryOpens", spec := "registryOpens", unfollowed := true, recurses := true, apart := false }
def RegistryOpensSaid : Prop := registryOpensRow.holds Try.pinned (OpenSpec.ofChange registryOpensSpec)

/-- ITS FALSE NEIGHBOUR: 'it returns false'. Refute it at one input. -/
def registryOpensWrong : ChangeSpec := { name := "registryOpens", fn := fun _ => fun
  | [d1, d2, d3, d4, d5, d6] => { results := [.lit (.bool false)], args := [d1, d2, d3, d4, d5, d6] }
  | _ => none }
def RegistryOpensWrongFalsely : Prop := registryOpensRow.holds Try.pinned (OpenSpec.ofChange registryOpensWrong)

/- THE SECOND FORM. 'bulk': how many values and letters a reading holds, each counted each time it is reached (what is shared counts as often as it is met; a slice's spare places count too). A statement '..UptoSaid' is the law's where the arguments, and the package variables that the reading takes, are together of bulk at most 1048576: NARROWER than '..Said'. Prove '..Said' where nothing that the law and all that it calls make is longer than what came in: it says more and counts as full. Else prove '..UptoSaid'. A law counts once. -/
mutual
def uptoBulk {H : Type} : DataW H → Nat
  | .lit (.string bytes) => bytes.length + 1
  | .lit _ => 1
  | .nil => 1
  | .ptr d => uptoBulk d + 1
  | .slice elems spare => uptoBulkAll elems + uptoBulkAll spare + 1
  | .agg parts => uptoBulkAll parts + 1
  | .iface _ d => uptoBulk d + 1
  | .map entries => uptoBulkEntries entries + 1
  | .held _ => 1
def uptoBulkAll {H : Type} : List (DataW H) → Nat
  | [] => 0
  | d :: r => uptoBulk d + uptoBulkAll r
def uptoBulkEntries {H : Type} : List (Lit × DataW H) → Nat
  | [] => 0
  | x :: r => uptoBulkEntry x + uptoBulkEntries r
def uptoBulkEntry {H : Type} : Lit × DataW H → Nat
  | (.string bytes, d) => bytes.length + uptoBulk d + 1
  | (_, d) => uptoBulk d + 1
 end
def uptoSmall : (H : Type) → List (DataW H) → Bool := fun _ ds => decide (uptoBulkAll ds ≤ 1048576)
def OpenSpec.upto (s : _root_.Go.ChangeSpec) : _root_.Go.OpenSpec := { _root_.Go.OpenSpec.ofChange s with cond := some uptoSmall }

/-- 'blinktreelaw18.RegistryWatermark', WHERE WHAT IT READS IS OF BULK AT MOST 1048576: true; the input reads as it did. -/
def registryWatermarkUptoRow : OpenClaim := { program := "ytiodlmmbjjdojaa", sum := "9d58d535d8764b5c176128b655689993f171b0e401c1ea39d15e39d430e551db", func := "blinktree/blinktreelaw18.RegistryWatermark", spec := "registryWatermark", unfollowed := true, recurses := true, apart := false, narrowed := true }
def RegistryWatermarkUptoSaid : Prop := registryWatermarkUptoRow.holds Try.pinned (OpenSpec.upto registryWatermarkSpec)

/-- 'blinktreelaw18.RegistryReleases', WHERE WHAT IT READS IS OF BULK AT MOST 1048576: true; the input reads as it did. -/
def registryReleasesUptoRow : OpenClaim := { program := "ytiodlmmbjjdojaa", sum := "9d58d535d8764b5c176128b655689993f171b0e401c1ea39d15e39d430e551db", func := "blinktree/blinktreelaw18.RegistryReleases", spec := "registryReleases", unfollowed := true, recurses := true, apart := false, narrowed := true }
def RegistryReleasesUptoSaid : Prop := registryReleasesUptoRow.holds Try.pinned (OpenSpec.upto registryReleasesSpec)

/-- 'blinktreelaw18.RegistryProtects', WHERE WHAT IT READS IS OF BULK AT MOST 1048576: true; the input reads as it did. -/
def registryProtectsUptoRow : OpenClaim := { program := "ytiodlmmbjjdojaa", sum := "9d58d535d8764b5c176128b655689993f171b0e401c1ea39d15e39d430e551db", func := "blinktree/blinktreelaw18.RegistryProtects", spec := "registryProtects", unfollowed := true, recurses := true, apart := false, narrowed := true }
def RegistryProtectsUptoSaid : Prop := registryProtectsUptoRow.holds Try.pinned (OpenSpec.upto registryProtectsSpec)

/-- 'blinktreelaw18.RegistryIsIndependent', WHERE WHAT IT READS IS OF BULK AT MOST 1048576: true; the input reads as it did. -/
def registryIsIndependentUptoRow : OpenClaim := { program := "ytiodlmmbjjdojaa", sum := "9d58d535d8764b5c176128b655689993f171b0e401c1ea39d15e39d430e551db", func := "blinktree/blinktreelaw18.RegistryIsIndependent", spec := "registryIsIndependent", unfollowed := true, recurses := true, apart := false, narrowed := true }
def RegistryIsIndependentUptoSaid : Prop := registryIsIndependentUptoRow.holds Try.pinned (OpenSpec.upto registryIsIndependentSpec)

/-- 'blinktreelaw18.RegistryOpens', WHERE WHAT IT READS IS OF BULK AT MOST 1048576: true; the input reads as it did. -/
def registryOpensUptoRow : OpenClaim := { program := "ytiodlmmbjjdojaa", sum := "9d58d535d8764b5c176128b655689993f171b0e401c1ea39d15e39d430e551db", func := "blinktree/blinktreelaw18.RegistryOpens", spec := "registryOpens", unfollowed := true, recurses := true, apart := false, narrowed := true }
def RegistryOpensUptoSaid : Prop := registryOpensUptoRow.holds Try.pinned (OpenSpec.upto registryOpensSpec)

end Rows
end Go.Proofs.Ytiodlmmbjjdojaa
