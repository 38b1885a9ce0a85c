/- Operations of a drawn region taken by hand: those whose guard is false, too. -/
import Derived.Test.YtjmhnlbkfbieaaaGreatProg
import Derived.Deep.RegionHeld3
namespace Go.Proofs.YtjmhnlbkfbieaaaGreat
set_option linter.unusedSectionVars false
set_option linter.unusedVariables false
section
variable {P : Program} {ops : Array Oper} {Q : Exit → Act → World → Prop} {md : Region.Mode} {S : World → Prop}
def wantedAt (ops : Array Oper) (i : Nat) (tmps : Array Value) : Option Bool := (ops[i]?).map fun o => Region.wanted o (yielded ops tmps)
def dstAt (ops : Array Oper) (i : Nat) : Option (Option Tmp) := (ops[i]?).map (·.dst)
def runAt (P : Program) (ops : Array Oper) (i : Nat) (a : Act) (w : World) : Option (Result Next) := (ops[i]?).map fun o => (execOp a.eval o).run P w
theorem takeIn {fuel : Nat} {listed : Array Bool} {a : Act} {w : World} (i : Nat) (d : Option Tmp) (v : Value) (hd : dstAt ops i = some d)
    (hs : Region.noSelect ops = true) (hf : Region.free md ops listed i = true) (hr : (Region.ready md ops listed).contains i = true)
    (hQ : ∀ c (a0 a' : Act) w, Q (.panic c) a' w → Q (.panic c) a0 w) (hw : wantedAt ops i a.tmps = some true) (hv : ∀ w, S w → runAt P ops i a w = some (.ok (.value v) w)) (hS : S w)
    (h : wpAnyH P md ops Q S fuel (listed.setIfInBounds i true) (a.put d v) w) : wpAnyH P md ops Q S (fuel + 1) listed a w := by
  unfold dstAt at hd
  unfold wantedAt at hw
  unfold runAt at hv
  cases hi : ops[i]? with
  | none => rw [hi] at hd; simp at hd
  | some oi =>
    rw [hi] at hd hw hv
    simp only [Option.map_some, Option.some.injEq] at hd hw hv
    subst hd
    exact wpAnyH_take hi hs hf hr (fun c a w => hQ c a _ w) (Or.inl ⟨hw, hv⟩) hS h
theorem takeOff {fuel : Nat} {listed : Array Bool} {a : Act} {w : World} (i : Nat) (d : Option Tmp) (hd : dstAt ops i = some d)
    (hs : Region.noSelect ops = true) (hf : Region.free md ops listed i = true) (hr : (Region.ready md ops listed).contains i = true)
    (hQ : ∀ c (a0 a' : Act) w, Q (.panic c) a' w → Q (.panic c) a0 w) (hw : wantedAt ops i a.tmps = some false) (hS : S w)
    (h : wpAnyH P md ops Q S fuel (listed.setIfInBounds i true) (a.put d undef) w) : wpAnyH P md ops Q S (fuel + 1) listed a w := by
  unfold dstAt at hd
  unfold wantedAt at hw
  cases hi : ops[i]? with
  | none => rw [hi] at hd; simp at hd
  | some oi =>
    rw [hi] at hd hw
    simp only [Option.map_some, Option.some.injEq] at hd hw
    subst hd
    exact wpAnyH_take hi hs hf hr (fun c a w => hQ c a _ w) (Or.inr ⟨hw, rfl⟩) hS h
end
end Go.Proofs.YtjmhnlbkfbieaaaGreat
