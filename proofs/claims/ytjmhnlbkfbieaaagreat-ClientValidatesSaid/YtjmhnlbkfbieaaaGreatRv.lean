/- The contracts of the references' Valid: of an operation (22) and of a configuration (3). -/
import Derived.Test.YtjmhnlbkfbieaaaGreatKon
import Derived.Test.YtjmhnlbkfbieaaaGreatSop
import Derived.Test.YtjmhnlbkfbieaaaGreatEng
import Derived.Test.YtjmhnlbkfbieaaaGreatScArg
namespace Go.Proofs.YtjmhnlbkfbieaaaGreat
open Go.RowKit
set_option linter.unusedSectionVars false
set_option linter.unusedVariables false
set_option linter.unusedSimpArgs false
set_option maxRecDepth 20000
set_option maxHeartbeats 4000000
theorem only_batch (x : OV) : (onlyV x).b = x.b ∨ (onlyV x).b.length ≠ x.b.length := by
  obtain ⟨_, _, ⟨_, _, h⟩ | ⟨_, _, h⟩⟩ := (show ((onlyV x).k = x.k ∨ (onlyV x).k = []) ∧ ((onlyV x).t = x.t ∨ (onlyV x).t = 0) ∧ (((onlyV x).bA = x.bA ∧ (onlyV x).bc = x.bc ∧ (onlyV x).b = x.b) ∨ ((onlyV x).bA = none ∧ (onlyV x).bc = 0 ∧ (onlyV x).b = [])) by
    unfold onlyV
    repeat' split
    all_goals simp)
  · exact .inl h
  · by_cases h0 : x.b = []
    · exact .inl (by rw [h, h0])
    · refine .inr ?_
      rw [h]
      have := List.length_pos_iff.2 h0
      simp
      omega
theorem only_short (x : OV) : (onlyV x).b.length ≤ x.b.length := by
  unfold onlyV
  repeat' split
  all_goals simp
theorem only_okb {w : World} {x : OV} (h : OkB w x) : OkB w (onlyV x) := by
  obtain ⟨_, _, ⟨h1, h2, h3⟩ | ⟨h1, h2, h3⟩⟩ := (show ((onlyV x).k = x.k ∨ (onlyV x).k = []) ∧ ((onlyV x).t = x.t ∨ (onlyV x).t = 0) ∧ (((onlyV x).bA = x.bA ∧ (onlyV x).bc = x.bc ∧ (onlyV x).b = x.b) ∨ ((onlyV x).bA = none ∧ (onlyV x).bc = 0 ∧ (onlyV x).b = [])) by
    unfold onlyV
    repeat' split
    all_goals simp)
  · unfold OkB at *
    rw [h1, h2, h3]; exact h
  · unfold OkB
    rw [h1, h2, h3]
    exact Lst.nil w
/-- What the reference says of an operation, as one test. -/
theorem v22_eq (S : Int) (x : OV) : vOp S x.op = (decide (1 ≤ x.c ∧ x.c ≤ 9) && (sopB (onlyV x) x && (decide (0 ≤ x.h) && (decide (x.h < S) && (decide (0 ≤ x.u) && (decide (x.u < 8) && (decide (0 ≤ x.m) && decide (x.m ≤ 4)))))))) := by
  by_cases hr : 1 ≤ x.c ∧ x.c ≤ 9
  · rw [decide_eq_true hr, Bool.true_and]
    obtain ⟨c, k, t, bA, bc, b, h, u, m⟩ := x
    simp only at hr
    have hb : b.length = 0 ↔ b = [] := List.length_eq_zero_iff
    obtain rfl | rfl | rfl | rfl | rfl | rfl | rfl | rfl | rfl : c = 1 ∨ c = 2 ∨ c = 3 ∨ c = 4 ∨ c = 5 ∨ c = 6 ∨ c = 7 ∨ c = 8 ∨ c = 9 := by omega
    · have e : (⟨1, k, t, bA, bc, b, h, u, m⟩ : OV).op = ⟨1, k, t, b, h, u, m⟩ := rfl
      have e2 : onlyV ⟨1, k, t, bA, bc, b, h, u, m⟩ = ⟨1, k, 0, none, 0, [], 0, 0, 0⟩ := rfl
      rw [e, e2]
      apply Bool.eq_iff_iff.2
      simp only [vOp, zrB, sopB, Bool.and_eq_true, Bool.or_eq_true, decide_eq_true_eq, List.length_nil]
      grind
    · have e : (⟨2, k, t, bA, bc, b, h, u, m⟩ : OV).op = ⟨2, k, t, b, h, u, m⟩ := rfl
      have e2 : onlyV ⟨2, k, t, bA, bc, b, h, u, m⟩ = ⟨2, k, t, none, 0, [], 0, 0, 0⟩ := rfl
      rw [e, e2]
      apply Bool.eq_iff_iff.2
      simp only [vOp, zrB, sopB, Bool.and_eq_true, Bool.or_eq_true, decide_eq_true_eq, List.length_nil]
      grind
    · have e : (⟨3, k, t, bA, bc, b, h, u, m⟩ : OV).op = ⟨3, k, t, b, h, u, m⟩ := rfl
      have e2 : onlyV ⟨3, k, t, bA, bc, b, h, u, m⟩ = ⟨3, [], 0, bA, bc, b, 0, 0, 0⟩ := rfl
      rw [e, e2]
      apply Bool.eq_iff_iff.2
      simp only [vOp, zrB, sopB, Bool.and_eq_true, Bool.or_eq_true, decide_eq_true_eq, List.length_nil]
      grind
    · have e : (⟨4, k, t, bA, bc, b, h, u, m⟩ : OV).op = ⟨4, k, t, b, h, u, m⟩ := rfl
      have e2 : onlyV ⟨4, k, t, bA, bc, b, h, u, m⟩ = ⟨4, [], 0, none, 0, [], h, 0, 0⟩ := rfl
      rw [e, e2]
      apply Bool.eq_iff_iff.2
      simp only [vOp, zrB, sopB, Bool.and_eq_true, Bool.or_eq_true, decide_eq_true_eq, List.length_nil]
      grind
    · have e : (⟨5, k, t, bA, bc, b, h, u, m⟩ : OV).op = ⟨5, k, t, b, h, u, m⟩ := rfl
      have e2 : onlyV ⟨5, k, t, bA, bc, b, h, u, m⟩ = ⟨5, [], 0, none, 0, [], h, 0, 0⟩ := rfl
      rw [e, e2]
      apply Bool.eq_iff_iff.2
      simp only [vOp, zrB, sopB, Bool.and_eq_true, Bool.or_eq_true, decide_eq_true_eq, List.length_nil]
      grind
    · have e : (⟨6, k, t, bA, bc, b, h, u, m⟩ : OV).op = ⟨6, k, t, b, h, u, m⟩ := rfl
      have e2 : onlyV ⟨6, k, t, bA, bc, b, h, u, m⟩ = ⟨6, [], 0, none, 0, [], h, u, 0⟩ := rfl
      rw [e, e2]
      apply Bool.eq_iff_iff.2
      simp only [vOp, zrB, sopB, Bool.and_eq_true, Bool.or_eq_true, decide_eq_true_eq, List.length_nil]
      grind
    · have e : (⟨7, k, t, bA, bc, b, h, u, m⟩ : OV).op = ⟨7, k, t, b, h, u, m⟩ := rfl
      have e2 : onlyV ⟨7, k, t, bA, bc, b, h, u, m⟩ = ⟨7, if m = 0 then k else [], 0, none, 0, [], 0, u, m⟩ := rfl
      rw [e, e2]
      apply Bool.eq_iff_iff.2
      by_cases h0 : m = 0
      · rw [if_pos h0]
        simp only [vOp, zrB, sopB, Bool.and_eq_true, Bool.or_eq_true, decide_eq_true_eq, List.length_nil]
        grind
      · rw [if_neg h0]
        simp only [vOp, zrB, sopB, Bool.and_eq_true, Bool.or_eq_true, decide_eq_true_eq, List.length_nil]
        grind
    · have e : (⟨8, k, t, bA, bc, b, h, u, m⟩ : OV).op = ⟨8, k, t, b, h, u, m⟩ := rfl
      have e2 : onlyV ⟨8, k, t, bA, bc, b, h, u, m⟩ = ⟨8, [], 0, none, 0, [], 0, u, 0⟩ := rfl
      rw [e, e2]
      apply Bool.eq_iff_iff.2
      simp only [vOp, zrB, sopB, Bool.and_eq_true, Bool.or_eq_true, decide_eq_true_eq, List.length_nil]
      grind
    · have e : (⟨9, k, t, bA, bc, b, h, u, m⟩ : OV).op = ⟨9, k, t, b, h, u, m⟩ := rfl
      have e2 : onlyV ⟨9, k, t, bA, bc, b, h, u, m⟩ = ⟨9, [], 0, none, 0, [], 0, 0, 0⟩ := rfl
      rw [e, e2]
      apply Bool.eq_iff_iff.2
      simp only [vOp, zrB, sopB, Bool.and_eq_true, Bool.or_eq_true, decide_eq_true_eq, List.length_nil]
      grind
  · have h0 : vOp S x.op = false := by
      cases hv : vOp S x.op with
      | false => rfl
      | true =>
        have := vOp_code hv
        have e : x.op.c = x.c.toNat := rfl
        omega
    rw [h0, decide_eq_false hr, Bool.false_and]
end Go.Proofs.YtjmhnlbkfbieaaaGreat
