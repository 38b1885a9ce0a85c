/- 'LinearAcceptsSequential' answers true for every input, and leaves its arguments as they were. No condition. -/
import Derived.Test.YtbcgpjfejpcgnaaGreatRAa
import Derived.Test.YtbcgpjfejpcgnaaGreatRAt
import Derived.Test.YtbcgpjfejpcgnaaGreatRBh
import Derived.Test.YtbcgpjfejpcgnaaGreatRows
import Derived.WalkKit
import Derived.ProofKit
import Derived.OpenShut
import Derived.SizedLaws
namespace Go.Proofs.YtbcgpjfejpcgnaaGreat.linearAcceptsSequential
open Go.ChangeShapes Go.WideShapes Go.ChangeAt Go.RowKit
set_option linter.unusedVariables false
theorem own : ownKnob Tryz.prog.godebug = none := by kernel_rfl
theorem laidOut : laidOutB Tryz.prog = true := by kernel_rfl
theorem readable : ∀ t ∈ Tryz.f4.params.toList, Tryz.prog.readableRec t = true ∧ t < Tryz.prog.types.size := by
  rw [Tryz.params4]
  intro t ht
  have : ((Tryz.prog.readableRec 42 && decide (42 < Tryz.prog.types.size)) && (Tryz.prog.readableRec 3 && decide (3 < Tryz.prog.types.size)) : Bool) = true := by kernel_rfl
  simp only [Bool.and_eq_true, decide_eq_true_eq] at this
  simp at ht
  rcases ht with rfl | rfl
  all_goals simp_all
set_option maxRecDepth 100000 in
theorem lifted (os : Os) (started : os.Started) (H : Type) (enc : TypeId × Value → H) :
    ReturnsInHanded {} Tryz.checked os 4 .any (Rows.linearAcceptsSequentialSpec.pre6 enc Tryz.prog Tryz.f4 Rows.linearAcceptsSequentialRow.domain false) (Rows.linearAcceptsSequentialSpec.post enc Tryz.prog Tryz.f4 false true false false) := by
  refine returnsInHanded_of_change_sized (C := Tryz.checked) own started (by kernel_rfl) Tryz.func4
    (ChangeSpec.witness6 (enc := enc) (C := Tryz.checked) false ⟨#[], #[.slice none 0 0, .int .i64 0], []⟩ 8 (by kernel_rfl) (by kernel_rfl) (by kernel_rfl) (by kernel_rfl)) ?_
  intro W base args ds gs before hval0 hW hcnd hsz0 _
  have hsz : (DataW.weightsEach Tryz.prog (Tryz.f4.params.toList ++ Rows.linearAcceptsSequentialSpec.plain.varTypes Tryz.prog) (ds ++ gs)).all (· ≤ reachBytes) = true := hsz0
  clear hsz0
  have hval : ∀ (j : Nat) t v, Tryz.f4.params[j]? = some t → args[j]? = some v → Value.okWide Tryz.prog W .any base t v := hval0
  have hW' := hW
  obtain ⟨p, q, hA0, hV, rfl, hfz, hnd⟩ := hW
  have hA : DataW.TrodAll enc Tryz.prog W 0 (fun _ => true) true Tryz.f4.params.toList args.toList ds p := hA0
  rw [Tryz.params4] at hA hval hsz
  obtain ⟨v0, vs0, d0, ds0, p0, q0, hargs, rfl, rfl, h0, r0⟩ := trodAll_cons hA
  obtain ⟨v1, vs1, d1, ds1, p1, q1, rfl, rfl, rfl, h1, r1⟩ := trodAll_cons r0
  obtain ⟨rfl, rfl, rfl⟩ := trodAll_nil r1
  obtain rfl : args = #[v0, v1] := by cases args; simp_all
  obtain ⟨rfl, rfl⟩ := trodVars_none hV
  clear hA0 hval0
  have hlt := fun p hp => hW'.lt p hp
  have key : Calls Tryz.prog 4 #[v0, v1] W fun e w' => e = .returned (.bool true) ∧ Keeps [] W w' := by
    obtain ⟨X0, l0, n0, hX0⟩ := open_stepsL (hval 0 42 v0 rfl rfl) h0
    obtain ⟨a1, rfl, rfl, rfl, w1⟩ := open_int Tryz.underlying3 (hval 1 3 v1 rfl rfl) h1
    have b1 := bounds_i64 w1
    exact accepts_any X0 a1 v0 W l0 n0 hX0 ⟨b1.1, b1.2⟩
  refine key.mono fun e W' ⟨he, hg⟩ => ?_
  subst he
  exact ⟨_, rfl, law_post hW' rfl rfl laidOut readable rfl Tryz.underlying4 hg.below⟩
theorem over : Rows.linearAcceptsSequentialRow.holds Tryz.pinned (OpenSpec.ofChange Rows.linearAcceptsSequentialSpec) :=
  OpenClaim.holds_of_wide 4 Tryz.f4 rfl rfl rfl rfl rfl rfl rfl ⟨rfl, rfl, rfl, rfl, rfl⟩ rfl rfl rfl rfl rfl (by kernel_rfl) Tryz.func4 (by kernel_rfl)
    (of_decide_eq_true (by kernel_rfl)) (by unfold Func.isWrapper; first | (rw [if_pos (by decide +kernel)]; kernel_rfl) | (rw [if_neg (by decide +kernel)]; exact ⟨rfl, rfl⟩))
    (fun os started H enc _ => lifted os started H enc)
theorem proved : Rows.LinearAcceptsSequentialSaid :=
  over
#print axioms proved
end Go.Proofs.YtbcgpjfejpcgnaaGreat.linearAcceptsSequential
