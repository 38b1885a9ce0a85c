/- 'ScriptRejects' answers true for every input, and leaves its arguments as they were, for arguments of bulk at most 1048576. -/
import Derived.Test.YtkgmgnfcmnhhaaaRows
import Derived.Test.YtkgmgnfcmnhhaaaRj
import Derived.Test.YtkgmgnfcmnhhaaaScArg
import Derived.Test.YtkgmgnfcmnhhaaaFrame
import Derived.WalkKit
import Derived.ProofKit
import Derived.OpenShut
import Derived.JoinedCond
namespace Go.Proofs.Ytkgmgnfcmnhhaaa.scriptRejects
open Go.ChangeShapes Go.WideShapes Go.ChangeAt Go.RowKit
set_option linter.unusedVariables false
theorem own : ownKnob Try.prog.godebug = none := by kernel_rfl
theorem laidOut : laidOutB Try.prog = true := by kernel_rfl
theorem readable : ∀ t ∈ Try.f4.params.toList, Try.prog.readableRec t = true ∧ t < Try.prog.types.size := by
  rw [Try.params4]
  intro t ht
  have : ((Try.prog.readableRec 3 && decide (3 < Try.prog.types.size)) && (Try.prog.readableRec 3 && decide (3 < Try.prog.types.size)) && (Try.prog.readableRec 22 && decide (22 < Try.prog.types.size)) && (Try.prog.readableRec 23 && decide (23 < Try.prog.types.size)) && (Try.prog.readableRec 45 && decide (45 < Try.prog.types.size)) && (Try.prog.readableRec 3 && decide (3 < Try.prog.types.size)) && (Try.prog.readableRec 24 && decide (24 < Try.prog.types.size)) && (Try.prog.readableRec 5 && decide (5 < Try.prog.types.size)) : Bool) = true := by kernel_rfl
  simp only [Bool.and_eq_true, decide_eq_true_eq] at this
  simp at ht
  rcases ht with rfl | rfl | rfl | rfl | rfl | rfl | rfl
  all_goals simp_all
set_option maxRecDepth 100000 in
theorem lifted (os : Os) (started : os.Started) (H : Type) (enc : TypeId × Value → H) (F : Stop.Interp) :
    ReturnsInHanded {} Try.checked os 4 .any ((Rows.OpenSpec.upto Rows.scriptRejectsSpec).pre6 enc Try.prog Try.f4 Rows.scriptRejectsUptoRow.domain false) (((Rows.OpenSpec.upto Rows.scriptRejectsSpec).at F).post enc Try.prog Try.f4 false true false false) := by
  refine returnsInHanded_of_cond (C := Try.checked) (s := Rows.OpenSpec.upto Rows.scriptRejectsSpec) (k := Rows.uptoSmall) rfl own started (by kernel_rfl) Try.func4
    (OpenSpec.witness (enc := enc) (C := Try.checked) (s := Rows.OpenSpec.upto Rows.scriptRejectsSpec) (k := Rows.uptoSmall) rfl false ⟨#[], #[.int .i64 0, .int .i64 0, .slice none 0 0, .slice none 0 0, .agg #[.int .i64 0, .string ⟨#[]⟩, .int .u64 0, .slice none 0 0, .int .i64 0, .int .i64 0, .int .i64 0], .int .i64 0, .int .u64 0, .int .u8 0], []⟩ 8 (by kernel_rfl) (by kernel_rfl) (by kernel_rfl) (by kernel_rfl)
      (x := ([.lit (.int .i64 0), .lit (.int .i64 0), .nil, .nil, .agg [.lit (.int .i64 0), .lit (.string []), .lit (.int .u64 0), .nil, .lit (.int .i64 0), .lit (.int .i64 0), .lit (.int .i64 0)], .lit (.int .i64 0), .lit (.int .u64 0), .lit (.int .u8 0)], [], [])) (by kernel_rfl) rfl (by kernel_rfl)) ?_
  intro W base args ds gs before hval0 hW hcnd hk0 _
  have hval : ∀ (j : Nat) t v, Try.f4.params[j]? = some t → args[j]? = some v → Value.okWide Try.prog W .any base t v := hval0
  have hW' := hW
  obtain ⟨p, q, hA0, hV, rfl, hfz, hnd⟩ := hW
  have hA : DataW.TrodAll enc Try.prog W 0 (fun _ => true) true Try.f4.params.toList args.toList ds p := hA0
  rw [Try.params4] at hA hval
  obtain ⟨v0, vs0, d0, ds0, p0, q0, hargs, rfl, rfl, h0, r0⟩ := trodAll_cons hA
  obtain ⟨v1, vs1, d1, ds1, p1, q1, rfl, rfl, rfl, h1, r1⟩ := trodAll_cons r0
  obtain ⟨v2, vs2, d2, ds2, p2, q2, rfl, rfl, rfl, h2, r2⟩ := trodAll_cons r1
  obtain ⟨v3, vs3, d3, ds3, p3, q3, rfl, rfl, rfl, h3, r3⟩ := trodAll_cons r2
  obtain ⟨v4, vs4, d4, ds4, p4, q4, rfl, rfl, rfl, h4, r4⟩ := trodAll_cons r3
  obtain ⟨v5, vs5, d5, ds5, p5, q5, rfl, rfl, rfl, h5, r5⟩ := trodAll_cons r4
  obtain ⟨v6, vs6, d6, ds6, p6, q6, rfl, rfl, rfl, h6, r6⟩ := trodAll_cons r5
  obtain ⟨v7, vs7, d7, ds7, p7, q7, rfl, rfl, rfl, h7, r7⟩ := trodAll_cons r6
  obtain ⟨rfl, rfl, rfl⟩ := trodAll_nil r7
  obtain rfl : args = #[v0, v1, v2, v3, v4, v5, v6, v7] := by cases args; simp_all
  obtain ⟨rfl, rfl⟩ := trodVars_none hV
  clear hA0 hval0
  have hB : Rows.uptoBulkAll [d0, d1, d2, d3, d4, d5, d6, d7] ≤ 1048576 := of_decide_eq_true (by have := hk0; rw [List.append_nil] at this; exact this)
  have hlt := fun p hp => hW'.lt p hp
  have key : Calls Try.prog 4 #[v0, v1, v2, v3, v4, v5, v6, v7] W fun e w' => e = .returned (.bool true) ∧ Keeps [] W w' := by
    simp only [Rows.uptoBulkAll] at hB
    obtain ⟨th, rfl, rfl, rfl, w0⟩ := open_int Try.underlying3 (hval 0 3 v0 rfl rfl) h0
    obtain ⟨fa, rfl, rfl, rfl, w1⟩ := open_int Try.underlying3 (hval 1 3 v1 rfl rfl) h1
    obtain ⟨A, cap, X, rfl, hX, hXl, hXx⟩ := open_ops (hval 2 22 v2 rfl rfl) h2
    obtain ⟨B, capB, bB, oB, Y, rfl, hBA, hBr, hYl, hY⟩ := open_u8s Try.underlying23 Try.underlying5 cellsU8 (hval 3 23 v3 rfl rfl) h3
    obtain ⟨x, rfl, hx1, hx2, hx3⟩ := open_op (hval 4 45 v4 rfl rfl) h4
    obtain ⟨pi, rfl, rfl, rfl, w5⟩ := open_int Try.underlying3 (hval 5 3 v5 rfl rfl) h5
    obtain ⟨cl, rfl, rfl, rfl, w6⟩ := open_int Try.underlying24 (hval 6 24 v6 rfl rfl) h6
    obtain ⟨kd, rfl, rfl, rfl, w7⟩ := open_int Try.underlying5 (hval 7 5 v7 rfl rfl) h7
    have b0 := bounds_i64 w0
    have b1 := bounds_i64 w1
    have b5 := bounds_i64 w5
    have b6 := bounds_u64 w6
    have b7 := bounds_u8 w7
    have key := rj_any (Rows.uptoBulk d2 + Rows.uptoBulk d4) (by omega) th fa pi ⟨b0.1, by omega⟩ ⟨b1.1, by omega⟩ ⟨b5.1, by omega⟩ A cap X W hX hXl (fun z hz => ⟨(hXx z hz).1, (hXx z hz).2.1, (hXx z hz).2.2.mono (by omega)⟩) B capB Y ⟨B, capB, bB, oB, rfl, hBA, hBr⟩ hY hYl x hx1 hx2 (hx3.mono (by omega)) cl.toNat (by omega) kd.toNat (by omega)
    have e1 : ((cl.toNat : Nat) : Int) = cl := by omega
    have e2 : ((kd.toNat : Nat) : Int) = kd := by omega
    rw [e1, e2] at key
    exact key
  refine key.mono fun e W' ⟨he, hg⟩ => ?_
  subst he
  exact ⟨_, rfl, law_post hW' rfl rfl laidOut readable rfl Try.underlying4 hg.below⟩
theorem proved : Rows.ScriptRejectsUptoSaid :=
  OpenClaim.holds_of_cond 4 Try.f4 rfl rfl rfl rfl rfl rfl rfl ⟨rfl, rfl, rfl, rfl, rfl⟩ rfl rfl rfl rfl rfl (by kernel_rfl) Try.func4 (by kernel_rfl)
    (of_decide_eq_true (by kernel_rfl)) (by unfold Func.isWrapper; first | (rw [if_pos (by decide +kernel)]; kernel_rfl) | (rw [if_neg (by decide +kernel)]; exact ⟨rfl, rfl⟩))
    (fun os started H enc _ F => lifted os started H enc F)
#print axioms proved
end Go.Proofs.Ytkgmgnfcmnhhaaa.scriptRejects
