/- 'ClientTrivial' answers true for every input, and leaves its arguments as they were. No condition. -/
import Derived.Test.YtjmhnlbkfbieaaaGreatRows
import Derived.Test.YtjmhnlbkfbieaaaGreatClientTrivialJc
import Derived.Test.YtjmhnlbkfbieaaaGreatTva
import Derived.Test.YtjmhnlbkfbieaaaGreatScArg
import Derived.Test.YtjmhnlbkfbieaaaGreatFrame
import Derived.WalkKit
import Derived.ProofKit
import Derived.OpenShut
import Derived.SizedLaws
namespace Go.Proofs.YtjmhnlbkfbieaaaGreat.clientTrivial
open Go.ChangeShapes Go.WideShapes Go.ChangeAt Go.RowKit
set_option linter.unusedVariables false
theorem own : ownKnob Tryz.prog.godebug = none := by kernel_rfl
theorem laidOut : laidOutB Tryz.prog = true := by kernel_rfl
theorem readable : ∀ t ∈ Tryz.f4.params.toList, Tryz.prog.readableRec t = true ∧ t < Tryz.prog.types.size := by
  rw [Tryz.params4]
  intro t ht
  have : ((Tryz.prog.readableRec 9 && decide (9 < Tryz.prog.types.size)) && (Tryz.prog.readableRec 9 && decide (9 < Tryz.prog.types.size)) && (Tryz.prog.readableRec 5 && decide (5 < Tryz.prog.types.size)) && (Tryz.prog.readableRec 3 && decide (3 < Tryz.prog.types.size)) && (Tryz.prog.readableRec 3 && decide (3 < Tryz.prog.types.size)) && (Tryz.prog.readableRec 3 && decide (3 < Tryz.prog.types.size)) : Bool) = true := by kernel_rfl
  simp only [Bool.and_eq_true, decide_eq_true_eq] at this
  simp at ht
  rcases ht with rfl | rfl | rfl
  all_goals simp_all
set_option maxRecDepth 100000 in
theorem lifted (os : Os) (started : os.Started) (H : Type) (enc : TypeId × Value → H) :
    ReturnsInHanded {} Tryz.checked os 4 .any (Rows.clientTrivialSpec.pre6 enc Tryz.prog Tryz.f4 Rows.clientTrivialRow.domain false) (Rows.clientTrivialSpec.post enc Tryz.prog Tryz.f4 false true false false) := by
  refine returnsInHanded_of_change_sized (C := Tryz.checked) own started (by kernel_rfl) Tryz.func4
    (ChangeSpec.witness6 (enc := enc) (C := Tryz.checked) false ⟨#[], #[.string ⟨#[]⟩, .string ⟨#[]⟩, .int .u8 0, .int .i64 0, .int .i64 0, .int .i64 0], []⟩ 8 (by kernel_rfl) (by kernel_rfl) (by kernel_rfl) (by kernel_rfl)) ?_
  intro W base args ds gs before hval0 hW hcnd hsz0 _
  have hsz : (DataW.weightsEach Tryz.prog (Tryz.f4.params.toList ++ Rows.clientTrivialSpec.plain.varTypes Tryz.prog) (ds ++ gs)).all (· ≤ reachBytes) = true := hsz0
  clear hsz0
  have hval : ∀ (j : Nat) t v, Tryz.f4.params[j]? = some t → args[j]? = some v → Value.okWide Tryz.prog W .any base t v := hval0
  have hW' := hW
  obtain ⟨p, q, hA0, hV, rfl, hfz, hnd⟩ := hW
  have hA : DataW.TrodAll enc Tryz.prog W 0 (fun _ => true) true Tryz.f4.params.toList args.toList ds p := hA0
  rw [Tryz.params4] at hA hval hsz
  obtain ⟨v0, vs0, d0, ds0, p0, q0, hargs, rfl, rfl, h0, r0⟩ := trodAll_cons hA
  obtain ⟨v1, vs1, d1, ds1, p1, q1, rfl, rfl, rfl, h1, r1⟩ := trodAll_cons r0
  obtain ⟨v2, vs2, d2, ds2, p2, q2, rfl, rfl, rfl, h2, r2⟩ := trodAll_cons r1
  obtain ⟨v3, vs3, d3, ds3, p3, q3, rfl, rfl, rfl, h3, r3⟩ := trodAll_cons r2
  obtain ⟨v4, vs4, d4, ds4, p4, q4, rfl, rfl, rfl, h4, r4⟩ := trodAll_cons r3
  obtain ⟨v5, vs5, d5, ds5, p5, q5, rfl, rfl, rfl, h5, r5⟩ := trodAll_cons r4
  obtain ⟨rfl, rfl, rfl⟩ := trodAll_nil r5
  obtain rfl : args = #[v0, v1, v2, v3, v4, v5] := by cases args; simp_all
  obtain ⟨rfl, rfl⟩ := trodVars_none hV
  clear hA0 hval0
  have hlt := fun p hp => hW'.lt p hp
  have key : Calls Tryz.prog 4 #[v0, v1, v2, v3, v4, v5] W fun e w' => e = .returned (.bool true) ∧ Keeps [] W w' := by
    obtain ⟨s0, rfl, _⟩ := Go.ChangeMaps.open_string Tryz.underlying9 (hval 0 9 v0 rfl rfl) h0
    obtain ⟨s1, rfl, _⟩ := Go.ChangeMaps.open_string Tryz.underlying9 (hval 1 9 v1 rfl rfl) h1
    obtain ⟨ww, rfl, rfl, rfl, w2⟩ := open_int Tryz.underlying5 (hval 2 5 v2 rfl rfl) h2
    obtain ⟨ha, rfl, rfl, rfl, w3⟩ := open_int Tryz.underlying3 (hval 3 3 v3 rfl rfl) h3
    obtain ⟨ho, rfl, rfl, rfl, w4⟩ := open_int Tryz.underlying3 (hval 4 3 v4 rfl rfl) h4
    obtain ⟨hc, rfl, rfl, rfl, w5⟩ := open_int Tryz.underlying3 (hval 5 3 v5 rfl rfl) h5
    obtain ⟨ky, rfl⟩ := str_of s0
    obtain ⟨vl, rfl⟩ := str_of s1
    have b2 := bounds_u8 w2
    have b3 := bounds_i64 w3
    have b4 := bounds_i64 w4
    have b5 := bounds_i64 w5
    exact tva_any ky vl ww ha ho hc ⟨b2.1, by omega⟩ ⟨b3.1, by omega⟩ ⟨b4.1, by omega⟩ ⟨b5.1, by omega⟩ W
  refine key.mono fun e W' ⟨he, hg⟩ => ?_
  subst he
  exact ⟨_, rfl, law_post hW' rfl rfl laidOut readable rfl Tryz.underlying4 hg.below⟩
theorem over : Rows.clientTrivialRow.holds Tryz.pinned (OpenSpec.ofChange Rows.clientTrivialSpec) :=
  OpenClaim.holds_of_wide 4 Tryz.f4 rfl rfl rfl rfl rfl rfl rfl ⟨rfl, rfl, rfl, rfl, rfl⟩ rfl rfl rfl rfl rfl fnNamed Tryz.func4 closed
    fnInst (by unfold Func.isWrapper; first | (rw [if_pos (by decide +kernel)]; kernel_rfl) | (rw [if_neg (by decide +kernel)]; exact ⟨rfl, rfl⟩))
    (fun os started H enc _ => lifted os started H enc)
theorem proved : Rows.ClientTrivialSaid :=
  over
#print axioms proved
end Go.Proofs.YtjmhnlbkfbieaaaGreat.clientTrivial
