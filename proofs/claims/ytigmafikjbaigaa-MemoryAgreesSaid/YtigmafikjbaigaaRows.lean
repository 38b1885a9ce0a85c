/-
  No cell of these rows narrows 'for every input' (looked for: loops, veiled, ifaces, maps, wideKeys, modest, calm, conditions, laid).
  DERIVED. THE GIVEN ROWS OF THIS SEAT. 9 by the template 'for every input the law returns true; each argument reads behind the call as it read before'; 0 by the template 'total and deterministic' (their statements: YtigmafikjbaigaaTotals.lean).
  GIVEN WITH THE SEED: the statements are not yours to turn. If you find one false, say at which input.
  Laid BY PROGRAM, IN A SANDBOX (cutbox-rows.mjs): the forced cells as the released guide's own fill.sh prints them over the translation cf8a4f8d113d3f3e… (all of the seat's roots in one cut). By AI agents, Wed Nov 11 2026. No macro, syntax, notation, axiom, sorry.
-/
import Derived.Test.YtigmafikjbaigaaChecked
import GoSem.Claim
import GoSem.ClaimJoined
import GoSem.ClaimMapViews
import Derived.JoinedTies
import Derived.KernelRfl
namespace Go.Proofs.Ytigmafikjbaigaa
/- THE CELL 'sum', in the pinned program and in every row, IS THE sha256 OF THE DUMP (.gsa) THAT YtigmafikjbaigaaProg.lean LOADS. Nothing in Lean hashes anything: it is a label: what it is worth is what the hold of that sum in a sandbox is worth. -/
noncomputable def Try.pinned : Pinned := { name := "ytigmafikjbaigaa", sum := "cf8a4f8d113d3f3eda0dc83b119dff6c117be3866b36c14648377a0722c612ea", checked := Try.checked }
namespace Rows
def none {H : Type} : Left H := { results := [], args := [] }

/-- 'blinktreelaw4.LatchWordsInvert': WHATEVER THE INPUT: true; the input reads as it did. -/
def latchWordsInvertSpec : ChangeSpec := { name := "latchWordsInvert", fn := fun _ => fun
  | [d1, d2] => { results := [.lit (.bool true)], args := [d1, d2] }
  | _ => none }
def latchWordsInvertRow : OpenClaim := { program := "ytigmafikjbaigaa", sum := "cf8a4f8d113d3f3eda0dc83b119dff6c117be3866b36c14648377a0722c612ea", func := "blinktree/blinktreelaw4.LatchWordsInvert", spec := "latchWordsInvert", apart := false }
def LatchWordsInvertSaid : Prop := latchWordsInvertRow.holds Try.pinned (OpenSpec.ofChange latchWordsInvertSpec)

/-- ITS FALSE NEIGHBOUR: 'it returns false'. Refute it at one input. -/
def latchWordsInvertWrong : ChangeSpec := { name := "latchWordsInvert", fn := fun _ => fun
  | [d1, d2] => { results := [.lit (.bool false)], args := [d1, d2] }
  | _ => none }
def LatchWordsInvertWrongFalsely : Prop := latchWordsInvertRow.holds Try.pinned (OpenSpec.ofChange latchWordsInvertWrong)

/-- 'blinktreelaw4.LatchWords': WHATEVER THE INPUT: true; the input reads as it did. -/
def latchWordsSpec : ChangeSpec := { name := "latchWords", fn := fun _ => fun
  | [d1, d2] => { results := [.lit (.bool true)], args := [d1, d2] }
  | _ => none }
def latchWordsRow : OpenClaim := { program := "ytigmafikjbaigaa", sum := "cf8a4f8d113d3f3eda0dc83b119dff6c117be3866b36c14648377a0722c612ea", func := "blinktree/blinktreelaw4.LatchWords", spec := "latchWords", apart := false }
def LatchWordsSaid : Prop := latchWordsRow.holds Try.pinned (OpenSpec.ofChange latchWordsSpec)

/-- ITS FALSE NEIGHBOUR: 'it returns false'. Refute it at one input. -/
def latchWordsWrong : ChangeSpec := { name := "latchWords", fn := fun _ => fun
  | [d1, d2] => { results := [.lit (.bool false)], args := [d1, d2] }
  | _ => none }
def LatchWordsWrongFalsely : Prop := latchWordsRow.holds Try.pinned (OpenSpec.ofChange latchWordsWrong)

/-- 'blinktreelaw4.LatchChangesShow': WHATEVER THE INPUT: true; the input reads as it did. -/
def latchChangesShowSpec : ChangeSpec := { name := "latchChangesShow", fn := fun _ => fun
  | [d] => { results := [.lit (.bool true)], args := [d] }
  | _ => none }
def latchChangesShowRow : OpenClaim := { program := "ytigmafikjbaigaa", sum := "cf8a4f8d113d3f3eda0dc83b119dff6c117be3866b36c14648377a0722c612ea", func := "blinktree/blinktreelaw4.LatchChangesShow", spec := "latchChangesShow", apart := false }
def LatchChangesShowSaid : Prop := latchChangesShowRow.holds Try.pinned (OpenSpec.ofChange latchChangesShowSpec)

/-- ITS FALSE NEIGHBOUR: 'it returns false'. Refute it at one input. -/
def latchChangesShowWrong : ChangeSpec := { name := "latchChangesShow", fn := fun _ => fun
  | [d] => { results := [.lit (.bool false)], args := [d] }
  | _ => none }
def LatchChangesShowWrongFalsely : Prop := latchChangesShowRow.holds Try.pinned (OpenSpec.ofChange latchChangesShowWrong)

/-- 'blinktreelaw2.MemoryNew': WHATEVER THE INPUT: true; the input reads as it did. -/
def memoryNewSpec : ChangeSpec := { name := "memoryNew", fn := fun _ => fun
  | [d1, d2, d3] => { results := [.lit (.bool true)], args := [d1, d2, d3] }
  | _ => none }
def memoryNewRow : OpenClaim := { program := "ytigmafikjbaigaa", sum := "cf8a4f8d113d3f3eda0dc83b119dff6c117be3866b36c14648377a0722c612ea", func := "blinktree/blinktreelaw2.MemoryNew", spec := "memoryNew", apart := false }
def MemoryNewSaid : Prop := memoryNewRow.holds Try.pinned (OpenSpec.ofChange memoryNewSpec)

/-- ITS FALSE NEIGHBOUR: 'it returns false'. Refute it at one input. -/
def memoryNewWrong : ChangeSpec := { name := "memoryNew", fn := fun _ => fun
  | [d1, d2, d3] => { results := [.lit (.bool false)], args := [d1, d2, d3] }
  | _ => none }
def MemoryNewWrongFalsely : Prop := memoryNewRow.holds Try.pinned (OpenSpec.ofChange memoryNewWrong)

/-- 'blinktreelaw2.MemorySwapsCount': WHATEVER THE INPUT: true; the input reads as it did. -/
def memorySwapsCountSpec : ChangeSpec := { name := "memorySwapsCount", fn := fun _ => fun
  | [d1, d2] => { results := [.lit (.bool true)], args := [d1, d2] }
  | _ => none }
def memorySwapsCountRow : OpenClaim := { program := "ytigmafikjbaigaa", sum := "cf8a4f8d113d3f3eda0dc83b119dff6c117be3866b36c14648377a0722c612ea", func := "blinktree/blinktreelaw2.MemorySwapsCount", spec := "memorySwapsCount", apart := false }
def MemorySwapsCountSaid : Prop := memorySwapsCountRow.holds Try.pinned (OpenSpec.ofChange memorySwapsCountSpec)

/-- ITS FALSE NEIGHBOUR: 'it returns false'. Refute it at one input. -/
def memorySwapsCountWrong : ChangeSpec := { name := "memorySwapsCount", fn := fun _ => fun
  | [d1, d2] => { results := [.lit (.bool false)], args := [d1, d2] }
  | _ => none }
def MemorySwapsCountWrongFalsely : Prop := memorySwapsCountRow.holds Try.pinned (OpenSpec.ofChange memorySwapsCountWrong)

/-- 'blinktreelaw2.MemoryCellsAreIndependent': WHATEVER THE INPUT: true; the input reads as it did. -/
def memoryCellsAreIndependentSpec : ChangeSpec := { name := "memoryCellsAreIndependent", fn := fun _ => fun
  | [d1, d2, d3, d4, d5] => { results := [.lit (.bool true)], args := [d1, d2, d3, d4, d5] }
  | _ => none }
def memoryCellsAreIndependentRow : OpenClaim := { program := "ytigmafikjbaigaa", sum := "cf8a4f8d113d3f3eda0dc83b119dff6c117be3866b36c14648377a0722c612ea", func := "blinktree/blinktreelaw2.MemoryCellsAreIndependent", spec := "memoryCellsAreIndependent", apart := false }
def MemoryCellsAreIndependentSaid : Prop := memoryCellsAreIndependentRow.holds Try.pinned (OpenSpec.ofChange memoryCellsAreIndependentSpec)

/-- ITS FALSE NEIGHBOUR: 'it returns false'. Refute it at one input. -/
def memoryCellsAreIndependentWrong : ChangeSpec := { name := "memoryCellsAreIndependent", fn := fun _ => fun
  | [d1, d2, d3, d4, d5] => { results := [.lit (.bool false)], args := [d1, d2, d3, d4, d5] }
  | _ => none }
def MemoryCellsAreIndependentWrongFalsely : Prop := memoryCellsAreIndependentRow.holds Try.pinned (OpenSpec.ofChange memoryCellsAreIndependentWrong)

/-- 'blinktreelaw2.MemoryAgrees': WHATEVER THE INPUT: true; the input reads as it did. -/
def memoryAgreesSpec : ChangeSpec := { name := "memoryAgrees", fn := fun _ => fun
  | [d1, d2, d3] => { results := [.lit (.bool true)], args := [d1, d2, d3] }
  | _ => none }
def memoryAgreesRow : OpenClaim := { program := "ytigmafikjbaigaa", sum := "cf8a4f8d113d3f3eda0dc83b119dff6c117be3866b36c14648377a0722c612ea", func := "blinktree/blinktreelaw2.MemoryAgrees", spec := "memoryAgrees", apart := false }
def MemoryAgreesSaid : Prop := memoryAgreesRow.holds Try.pinned (OpenSpec.ofChange memoryAgreesSpec)

/-- ITS FALSE NEIGHBOUR: 'it returns false'. Refute it at one input. -/
def memoryAgreesWrong : ChangeSpec := { name := "memoryAgrees", fn := fun _ => fun
  | [d1, d2, d3] => { results := [.lit (.bool false)], args := [d1, d2, d3] }
  | _ => none }
def MemoryAgreesWrongFalsely : Prop := memoryAgreesRow.holds Try.pinned (OpenSpec.ofChange memoryAgreesWrong)

/-- 'blinktreelaw4.LatchExcludes': WHATEVER THE INPUT: true; the input reads as it did. -/
def latchExcludesSpec : ChangeSpec := { name := "latchExcludes", fn := fun _ => fun
  | [d1, d2] => { results := [.lit (.bool true)], args := [d1, d2] }
  | _ => none }
def latchExcludesRow : OpenClaim := { program := "ytigmafikjbaigaa", sum := "cf8a4f8d113d3f3eda0dc83b119dff6c117be3866b36c14648377a0722c612ea", func := "blinktree/blinktreelaw4.LatchExcludes", spec := "latchExcludes", unfollowed := true, recurses := true, apart := false }
def LatchExcludesSaid : Prop := latchExcludesRow.holds Try.pinned (OpenSpec.ofChange latchExcludesSpec)

/-- ITS FALSE NEIGHBOUR: 'it returns false'. Refute it at one input. -/
def latchExcludesWrong : ChangeSpec := { name := "latchExcludes", fn := fun _ => fun
  | [d1, d2] => { results := [.lit (.bool false)], args := [d1, d2] }
  | _ => none }
def LatchExcludesWrongFalsely : Prop := latchExcludesRow.holds Try.pinned (OpenSpec.ofChange latchExcludesWrong)

/-- 'blinktreelaw4.LatchWaits': WHATEVER THE INPUT: true; the input reads as it did. -/
def latchWaitsSpec : ChangeSpec := { name := "latchWaits", fn := fun _ => fun
  | [d1, d2] => { results := [.lit (.bool true)], args := [d1, d2] }
  | _ => none }
def latchWaitsRow : OpenClaim := { program := "ytigmafikjbaigaa", sum := "cf8a4f8d113d3f3eda0dc83b119dff6c117be3866b36c14648377a0722c612ea", func := "blinktree/blinktreelaw4.LatchWaits", spec := "latchWaits", unfollowed := true, recurses := true, apart := false }
def LatchWaitsSaid : Prop := latchWaitsRow.holds Try.pinned (OpenSpec.ofChange latchWaitsSpec)

/-- ITS FALSE NEIGHBOUR: 'it returns false'. Refute it at one input. -/
def latchWaitsWrong : ChangeSpec := { name := "latchWaits", fn := fun _ => fun
  | [d1, d2] => { results := [.lit (.bool false)], args := [d1, d2] }
  | _ => none }
def LatchWaitsWrongFalsely : Prop := latchWaitsRow.holds Try.pinned (OpenSpec.ofChange latchWaitsWrong)

/- THE SECOND FORM. 'bulk': how many values and letters a reading holds, each counted each time it is reached (what is shared counts as often as it is met; a slice's spare places count too). A statement '..UptoSaid' is the law's where the arguments, and the package variables that the reading takes, are together of bulk at most 1048576: NARROWER than '..Said'. Prove '..Said' where nothing that the law and all that it calls make is longer than what came in: it says more and counts as full. Else prove '..UptoSaid'. A law counts once. -/
mutual
def uptoBulk {H : Type} : DataW H → Nat
  | .lit (.string bytes) => bytes.length + 1
  | .lit _ => 1
  | .nil => 1
  | .ptr d => uptoBulk d + 1
  | .slice elems spare => uptoBulkAll elems + uptoBulkAll spare + 1
  | .agg parts => uptoBulkAll parts + 1
  | .iface _ d => uptoBulk d + 1
  | .map entries => uptoBulkEntries entries + 1
  | .held _ => 1
def uptoBulkAll {H : Type} : List (DataW H) → Nat
  | [] => 0
  | d :: r => uptoBulk d + uptoBulkAll r
def uptoBulkEntries {H : Type} : List (Lit × DataW H) → Nat
  | [] => 0
  | x :: r => uptoBulkEntry x + uptoBulkEntries r
def uptoBulkEntry {H : Type} : Lit × DataW H → Nat
  | (.string bytes, d) => bytes.length + uptoBulk d + 1
  | (_, d) => uptoBulk d + 1
 end
def uptoSmall : (H : Type) → List (DataW H) → Bool := fun _ ds => decide (uptoBulkAll ds ≤ 1048576)
def OpenSpec.upto (s : _root_.Go.ChangeSpec) : _root_.Go.OpenSpec := { _root_.Go.OpenSpec.ofChange s with cond := some uptoSmall }

/-- 'blinktreelaw4.LatchWordsInvert', WHERE WHAT IT READS IS OF BULK AT MOST 1048576: true; the input reads as it did. -/
def latchWordsInvertUptoRow : OpenClaim := { program := "ytigmafikjbaigaa", sum := "cf8a4f8d113d3f3eda0dc83b119dff6c117be3866b36c14648377a0722c612ea", func := "blinktree/blinktreelaw4.LatchWordsInvert", spec := "latchWordsInvert", apart := false, narrowed := true }
def LatchWordsInvertUptoSaid : Prop := latchWordsInvertUptoRow.holds Try.pinned (OpenSpec.upto latchWordsInvertSpec)

/-- 'blinktreelaw4.LatchWords', WHERE WHAT IT READS IS OF BULK AT MOST 1048576: true; the input reads as it did. -/
def latchWordsUptoRow : OpenClaim := { program := "ytigmafikjbaigaa", sum := "cf8a4f8d113d3f3eda0dc83b119dff6c117be3866b36c14648377a0722c612ea", func := "blinktree/blinktreelaw4.LatchWords", spec := "latchWords", apart := false, narrowed := true }
def LatchWordsUptoSaid : Prop := latchWordsUptoRow.holds Try.pinned (OpenSpec.upto latchWordsSpec)

/-- 'blinktreelaw4.LatchChangesShow', WHERE WHAT IT READS IS OF BULK AT MOST 1048576: true; the input reads as it did. -/
def latchChangesShowUptoRow : OpenClaim := { program := "ytigmafikjbaigaa", sum := "cf8a4f8d113d3f3eda0dc83b119dff6c117be3866b36c14648377a0722c612ea", func := "blinktree/blinktreelaw4.LatchChangesShow", spec := "latchChangesShow", apart := false, narrowed := true }
def LatchChangesShowUptoSaid : Prop := latchChangesShowUptoRow.holds Try.pinned (OpenSpec.upto latchChangesShowSpec)

/-- 'blinktreelaw2.MemoryNew', WHERE WHAT IT READS IS OF BULK AT MOST 1048576: true; the input reads as it did. -/
def memoryNewUptoRow : OpenClaim := { program := "ytigmafikjbaigaa", sum := "cf8a4f8d113d3f3eda0dc83b119dff6c117be3866b36c14648377a0722c612ea", func := "blinktree/blinktreelaw2.MemoryNew", spec := "memoryNew", apart := false, narrowed := true }
def MemoryNewUptoSaid : Prop := memoryNewUptoRow.holds Try.pinned (OpenSpec.upto memoryNewSpec)

/-- 'blinktreelaw2.MemorySwapsCount', WHERE WHAT IT READS IS OF BULK AT MOST 1048576: true; the input reads as it did. -/
def memorySwapsCountUptoRow : OpenClaim := { program := "ytigmafikjbaigaa", sum := "cf8a4f8d113d3f3eda0dc83b119dff6c117be3866b36c14648377a0722c612ea", func := "blinktree/blinktreelaw2.MemorySwapsCount", spec := "memorySwapsCount", apart := false, narrowed := true }
def MemorySwapsCountUptoSaid : Prop := memorySwapsCountUptoRow.holds Try.pinned (OpenSpec.upto memorySwapsCountSpec)

/-- 'blinktreelaw2.MemoryCellsAreIndependent', WHERE WHAT IT READS IS OF BULK AT MOST 1048576: true; the input reads as it did. -/
def memoryCellsAreIndependentUptoRow : OpenClaim := { program := "ytigmafikjbaigaa", sum := "cf8a4f8d113d3f3eda0dc83b119dff6c117be3866b36c14648377a0722c612ea", func := "blinktree/blinktreelaw2.MemoryCellsAreIndependent", spec := "memoryCellsAreIndependent", apart := false, narrowed := true }
def MemoryCellsAreIndependentUptoSaid : Prop := memoryCellsAreIndependentUptoRow.holds Try.pinned (OpenSpec.upto memoryCellsAreIndependentSpec)

/-- 'blinktreelaw2.MemoryAgrees', WHERE WHAT IT READS IS OF BULK AT MOST 1048576: true; the input reads as it did. -/
def memoryAgreesUptoRow : OpenClaim := { program := "ytigmafikjbaigaa", sum := "cf8a4f8d113d3f3eda0dc83b119dff6c117be3866b36c14648377a0722c612ea", func := "blinktree/blinktreelaw2.MemoryAgrees", spec := "memoryAgrees", apart := false, narrowed := true }
def MemoryAgreesUptoSaid : Prop := memoryAgreesUptoRow.holds Try.pinned (OpenSpec.upto memoryAgreesSpec)

/-- 'blinktreelaw4.LatchExcludes', WHERE WHAT IT READS IS OF BULK AT MOST 1048576: true; the input reads as it did. -/
def latchExcludesUptoRow : OpenClaim := { program := "ytigmafikjbaigaa", sum := "cf8a4f8d113d3f3eda0dc83b119dff6c117be3866b36c14648377a0722c612ea", func := "blinktree/blinktreelaw4.LatchExcludes", spec := "latchExcludes", unfollowed := true, recurses := true, apart := false, narrowed := true }
def LatchExcludesUptoSaid : Prop := latchExcludesUptoRow.holds Try.pinned (OpenSpec.upto latchExcludesSpec)

/-- 'blinktreelaw4.LatchWaits', WHERE WHAT IT READS IS OF BULK AT MOST 1048576: true; the input reads as it did. -/
def latchWaitsUptoRow : OpenClaim := { program := "ytigmafikjbaigaa", sum := "cf8a4f8d113d3f3eda0dc83b119dff6c117be3866b36c14648377a0722c612ea", func := "blinktree/blinktreelaw4.LatchWaits", spec := "latchWaits", unfollowed := true, recurses := true, apart := false, narrowed := true }
def LatchWaitsUptoSaid : Prop := latchWaitsUptoRow.holds Try.pinned (OpenSpec.upto latchWaitsSpec)

end Rows
end Go.Proofs.Ytigmafikjbaigaa
