/- 'MemoryCellsAreIndependent' answers true for every input, and leaves its arguments as they were. No condition. -/
import Derived.Test.YtigmafikjbaigaaRows
import Derived.Test.YtigmafikjbaigaaIndep
import Derived.Test.YtigmafikjbaigaaCellArg
import Derived.Test.YtigmafikjbaigaaFrame
import Derived.WalkKit
import Derived.ProofKit
import Derived.OpenShut
import Derived.SizedLaws
namespace Go.Proofs.Ytigmafikjbaigaa.memoryCellsAreIndependent
open Go.ChangeShapes Go.WideShapes Go.ChangeAt Go.RowKit
set_option linter.unusedVariables false
theorem own : ownKnob Try.prog.godebug = none := by kernel_rfl
theorem laidOut : laidOutB Try.prog = true := by kernel_rfl
theorem readable : ∀ t ∈ Try.f8.params.toList, Try.prog.readableRec t = true ∧ t < Try.prog.types.size := by
  rw [Try.params8]
  intro t ht
  have : ((Try.prog.readableRec 44 && decide (44 < Try.prog.types.size)) && (Try.prog.readableRec 3 && decide (3 < Try.prog.types.size)) && (Try.prog.readableRec 36 && decide (36 < Try.prog.types.size)) && (Try.prog.readableRec 22 && decide (22 < Try.prog.types.size)) && (Try.prog.readableRec 4 && decide (4 < Try.prog.types.size)) : Bool) = true := by kernel_rfl
  simp only [Bool.and_eq_true, decide_eq_true_eq] at this
  simp at ht
  rcases ht with rfl | rfl | rfl | rfl | rfl
  all_goals simp_all
set_option maxRecDepth 100000 in
theorem lifted (os : Os) (started : os.Started) (H : Type) (enc : TypeId × Value → H) :
    ReturnsInHanded {} Try.checked os 8 .any (Rows.memoryCellsAreIndependentSpec.pre6 enc Try.prog Try.f8 Rows.memoryCellsAreIndependentRow.domain false) (Rows.memoryCellsAreIndependentSpec.post enc Try.prog Try.f8 false true false false) := by
  refine returnsInHanded_of_change_sized (C := Try.checked) own started (by kernel_rfl) Try.func8
    (ChangeSpec.witness6 (enc := enc) (C := Try.checked) false ⟨#[], #[.slice none 0 0, .int .i64 0, .agg #[.int .u64 0, .string ⟨#[]⟩, .int .u64 0], .int .u64 0, .bool false], []⟩ 8 (by kernel_rfl) (by kernel_rfl) (by kernel_rfl) (by kernel_rfl)) ?_
  intro W base args ds gs before hval0 hW hcnd hsz0 _
  have hsz : (DataW.weightsEach Try.prog (Try.f8.params.toList ++ Rows.memoryCellsAreIndependentSpec.plain.varTypes Try.prog) (ds ++ gs)).all (· ≤ reachBytes) = true := hsz0
  clear hsz0
  have hval : ∀ (j : Nat) t v, Try.f8.params[j]? = some t → args[j]? = some v → Value.okWide Try.prog W .any base t v := hval0
  have hW' := hW
  obtain ⟨p, q, hA0, hV, rfl, hfz, hnd⟩ := hW
  have hA : DataW.TrodAll enc Try.prog W 0 (fun _ => true) true Try.f8.params.toList args.toList ds p := hA0
  rw [Try.params8] at hA hval hsz
  obtain ⟨v0, vs0, d0, ds0, p0, q0, hargs, rfl, rfl, h0, r0⟩ := trodAll_cons hA
  obtain ⟨v1, vs1, d1, ds1, p1, q1, rfl, rfl, rfl, h1, r1⟩ := trodAll_cons r0
  obtain ⟨v2, vs2, d2, ds2, p2, q2, rfl, rfl, rfl, h2, r2⟩ := trodAll_cons r1
  obtain ⟨v3, vs3, d3, ds3, p3, q3, rfl, rfl, rfl, h3, r3⟩ := trodAll_cons r2
  obtain ⟨v4, vs4, d4, ds4, p4, q4, rfl, rfl, rfl, h4, r4⟩ := trodAll_cons r3
  obtain ⟨rfl, rfl, rfl⟩ := trodAll_nil r4
  obtain rfl : args = #[v0, v1, v2, v3, v4] := by cases args; simp_all
  obtain ⟨rfl, rfl⟩ := trodVars_none hV
  clear hA0 hval0
  have hlt := fun p hp => hW'.lt p hp
  have key : Calls Try.prog 8 #[v0, v1, v2, v3, v4] W fun e w' => e = .returned (.bool true) ∧ Keeps [] W w' := by
    obtain ⟨A, cap, b, o, X, rfl, hAA, hx, hl, _⟩ := open_cells (hval 0 44 v0 rfl rfl) h0
    obtain ⟨a1, rfl, rfl, rfl, w1⟩ := open_int Try.underlying3 (hval 1 3 v1 rfl rfl) h1
    obtain ⟨c, rfl⟩ := open_cell (hval 2 36 v2 rfl rfl) h2
    obtain ⟨a3, rfl, rfl, rfl, w3⟩ := open_int Try.underlying22 (hval 3 22 v3 rfl rfl) h3
    obtain ⟨a4, rfl, rfl, rfl⟩ := open_bool Try.underlying4 (hval 4 4 v4 rfl rfl) h4
    have b1 := bounds_i64 w1
    exact memoryCellsAreIndependent_any A cap b o X a1 c.N c.M a3 c.K a4 W hAA hx hl b1.1 b1.2
  refine key.mono fun e W' ⟨he, hg⟩ => ?_
  subst he
  exact ⟨_, rfl, law_post hW' rfl rfl laidOut readable rfl Try.underlying4 hg.below⟩
theorem over : Rows.memoryCellsAreIndependentRow.holds Try.pinned (OpenSpec.ofChange Rows.memoryCellsAreIndependentSpec) :=
  OpenClaim.holds_of_wide 8 Try.f8 rfl rfl rfl rfl rfl rfl rfl ⟨rfl, rfl, rfl, rfl, rfl⟩ rfl rfl rfl rfl rfl (by kernel_rfl) Try.func8 (by kernel_rfl)
    (of_decide_eq_true (by kernel_rfl)) (by unfold Func.isWrapper; first | (rw [if_pos (by decide +kernel)]; kernel_rfl) | (rw [if_neg (by decide +kernel)]; exact ⟨rfl, rfl⟩))
    (fun os started H enc _ => lifted os started H enc)
theorem proved : Rows.MemoryCellsAreIndependentSaid :=
  over
#print axioms proved
end Go.Proofs.Ytigmafikjbaigaa.memoryCellsAreIndependent
