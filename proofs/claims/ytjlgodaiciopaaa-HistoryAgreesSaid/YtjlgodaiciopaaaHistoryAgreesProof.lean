/- 'HistoryAgrees' answers true for every input, and leaves its arguments as they were. No condition. -/
import Derived.Test.YtjlgodaiciopaaaRows
import Derived.Test.YtjlgodaiciopaaaHisAg
import Derived.Test.YtjlgodaiciopaaaHisGW
import Derived.Test.YtjlgodaiciopaaaFrame
import Derived.WalkKit
import Derived.ProofKit
import Derived.OpenShut
import Derived.SizedLaws
namespace Go.Proofs.Ytjlgodaiciopaaa.historyAgrees
open Go.ChangeShapes Go.WideShapes Go.ChangeAt Go.RowKit
set_option linter.unusedVariables false
theorem own : ownKnob Try.prog.godebug = none := by kernel_rfl
theorem laidOut : laidOutB Try.prog = true := by kernel_rfl
theorem readable : ∀ t ∈ Try.f6.params.toList, Try.prog.readableRec t = true ∧ t < Try.prog.types.size := by
  rw [Try.params6]
  intro t ht
  have : ((Try.prog.readableRec 22 && decide (22 < Try.prog.types.size)) && (Try.prog.readableRec 23 && decide (23 < Try.prog.types.size)) && (Try.prog.readableRec 3 && decide (3 < Try.prog.types.size)) : Bool) = true := by kernel_rfl
  simp only [Bool.and_eq_true, decide_eq_true_eq] at this
  simp at ht
  rcases ht with rfl | rfl | rfl
  all_goals simp_all
set_option maxRecDepth 100000 in
theorem lifted (os : Os) (started : os.Started) (H : Type) (enc : TypeId × Value → H) :
    ReturnsInHanded {} Try.checked os 6 .any (Rows.historyAgreesSpec.pre6 enc Try.prog Try.f6 Rows.historyAgreesRow.domain false) (Rows.historyAgreesSpec.post enc Try.prog Try.f6 false true false false) := by
  refine returnsInHanded_of_change_sized (C := Try.checked) own started (by kernel_rfl) Try.func6
    (ChangeSpec.witness6 (enc := enc) (C := Try.checked) false ⟨#[], #[.slice none 0 0, .slice none 0 0, .int .i64 0], []⟩ 8 (by kernel_rfl) (by kernel_rfl) (by kernel_rfl) (by kernel_rfl)) ?_
  intro W base args ds gs before hval0 hW hcnd hsz0 _
  have hsz : (DataW.weightsEach Try.prog (Try.f6.params.toList ++ Rows.historyAgreesSpec.plain.varTypes Try.prog) (ds ++ gs)).all (· ≤ reachBytes) = true := hsz0
  clear hsz0
  have hval : ∀ (j : Nat) t v, Try.f6.params[j]? = some t → args[j]? = some v → Value.okWide Try.prog W .any base t v := hval0
  have hW' := hW
  obtain ⟨p, q, hA0, hV, rfl, hfz, hnd⟩ := hW
  have hA : DataW.TrodAll enc Try.prog W 0 (fun _ => true) true Try.f6.params.toList args.toList ds p := hA0
  rw [Try.params6] at hA hval hsz
  obtain ⟨v0, vs0, d0, ds0, p0, q0, hargs, rfl, rfl, h0, r0⟩ := trodAll_cons hA
  obtain ⟨v1, vs1, d1, ds1, p1, q1, rfl, rfl, rfl, h1, r1⟩ := trodAll_cons r0
  obtain ⟨v2, vs2, d2, ds2, p2, q2, rfl, rfl, rfl, h2, r2⟩ := trodAll_cons r1
  obtain ⟨rfl, rfl, rfl⟩ := trodAll_nil r2
  obtain rfl : args = #[v0, v1, v2] := by cases args; simp_all
  obtain ⟨rfl, rfl⟩ := trodVars_none hV
  clear hA0 hval0
  have hlt := fun p hp => hW'.lt p hp
  have key : Calls Try.prog 6 #[v0, v1, v2] W fun e w' => e = .returned (.bool true) ∧ Keeps [] W w' := by
    obtain ⟨X0, l0, n0, hX0⟩ := open_recsW (hval 0 22 v0 rfl rfl) h0
    obtain ⟨X1, hX1⟩ := open_runs (hval 1 23 v1 rfl rfl) h1
    obtain ⟨a2, rfl, rfl, rfl, w2⟩ := open_int Try.underlying3 (hval 2 3 v2 rfl rfl) h2
    have b2 := bounds_i64 w2
    have hsz2 : ∀ k ∈ DataW.weights Try.prog 22 d0, k ≤ reachBytes := fun k hk => by
      have := List.all_eq_true.1 hsz k (DataW.weights_mem_each (j := 0) (t := 22) (d := d0) (by simp) (by simp) k hk)
      simpa using this
    exact historyAgrees_any X0 X1 a2 v0 v1 W n0 l0 (fun x hx => ⟨(hX0 x hx).1, by
      rcases (hX0 x hx).2.2 with h | ⟨k, hk, hk2⟩
      · rw [h]; decide
      · have := hsz2 k hk; unfold reachBytes at this; omega⟩) hX1 b2
  refine key.mono fun e W' ⟨he, hg⟩ => ?_
  subst he
  exact ⟨_, rfl, law_post hW' rfl rfl laidOut readable rfl Try.underlying4 hg.below⟩
theorem over : Rows.historyAgreesRow.holds Try.pinned (OpenSpec.ofChange Rows.historyAgreesSpec) :=
  OpenClaim.holds_of_wide 6 Try.f6 rfl rfl rfl rfl rfl rfl rfl ⟨rfl, rfl, rfl, rfl, rfl⟩ rfl rfl rfl rfl rfl (by kernel_rfl) Try.func6 (by kernel_rfl)
    (of_decide_eq_true (by kernel_rfl)) (by unfold Func.isWrapper; first | (rw [if_pos (by decide +kernel)]; kernel_rfl) | (rw [if_neg (by decide +kernel)]; exact ⟨rfl, rfl⟩))
    (fun os started H enc _ => lifted os started H enc)
theorem proved : Rows.HistoryAgreesSaid :=
  over
#print axioms proved
end Go.Proofs.Ytjlgodaiciopaaa.historyAgrees
