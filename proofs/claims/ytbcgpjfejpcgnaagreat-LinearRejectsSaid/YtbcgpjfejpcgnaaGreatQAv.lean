/- Lemmas on the way to LinearRejects. No condition. -/
import Derived.Test.YtbcgpjfejpcgnaaGreatQAm
import Derived.Test.YtbcgpjfejpcgnaaGreatQAn
import Derived.Test.YtbcgpjfejpcgnaaGreatQAo
import Derived.Test.YtbcgpjfejpcgnaaGreatQAt
import Derived.Test.YtbcgpjfejpcgnaaGreatQAu
import Derived.SizedLaws
set_option linter.unusedSimpArgs false
set_option linter.unusedVariables false
set_option linter.unusedSectionVars false
section
namespace Go.Proofs.YtbcgpjfejpcgnaaGreat.O
open Go.RowKit
set_option linter.unusedSectionVars false
set_option linter.unusedVariables false
set_option linter.unusedSimpArgs false
set_option maxRecDepth 20000
set_option maxHeartbeats 4000000
theorem only_batch (x : OV) : (onlyV x).b = x.b ∨ (onlyV x).b.length ≠ x.b.length := by
  obtain ⟨_, _, ⟨_, _, h⟩ | ⟨_, _, h⟩⟩ := (show ((onlyV x).k = x.k ∨ (onlyV x).k = []) ∧ ((onlyV x).t = x.t ∨ (onlyV x).t = 0) ∧ (((onlyV x).bA = x.bA ∧ (onlyV x).bc = x.bc ∧ (onlyV x).b = x.b) ∨ ((onlyV x).bA = none ∧ (onlyV x).bc = 0 ∧ (onlyV x).b = [])) by
    unfold onlyV
    repeat' split
    all_goals simp)
  · exact .inl h
  · by_cases h0 : x.b = []
    · exact .inl (by rw [h, h0])
    · refine .inr ?_
      rw [h]
      have := List.length_pos_iff.2 h0
      simp
      omega
theorem only_short (x : OV) : (onlyV x).b.length ≤ x.b.length := by
  unfold onlyV
  repeat' split
  all_goals simp
theorem only_okb {w : World} {x : OV} (h : OkB w x) : OkB w (onlyV x) := by
  obtain ⟨_, _, ⟨h1, h2, h3⟩ | ⟨h1, h2, h3⟩⟩ := (show ((onlyV x).k = x.k ∨ (onlyV x).k = []) ∧ ((onlyV x).t = x.t ∨ (onlyV x).t = 0) ∧ (((onlyV x).bA = x.bA ∧ (onlyV x).bc = x.bc ∧ (onlyV x).b = x.b) ∨ ((onlyV x).bA = none ∧ (onlyV x).bc = 0 ∧ (onlyV x).b = [])) by
    unfold onlyV
    repeat' split
    all_goals simp)
  · unfold OkB at *
    rw [h1, h2, h3]; exact h
  · unfold OkB
    rw [h1, h2, h3]
    exact Lst.nil w
theorem v22_eq (S : Int) (x : OV) : vOp S x.op = (decide (1 ≤ x.c ∧ x.c ≤ 9) && (sopB (onlyV x) x && (decide (0 ≤ x.h) && (decide (x.h < S) && (decide (0 ≤ x.u) && (decide (x.u < 8) && (decide (0 ≤ x.m) && decide (x.m ≤ 4)))))))) := by
  by_cases hr : 1 ≤ x.c ∧ x.c ≤ 9
  · rw [decide_eq_true hr, Bool.true_and]
    obtain ⟨c, k, t, bA, bc, b, h, u, m⟩ := x
    simp only at hr
    have hb : b.length = 0 ↔ b = [] := List.length_eq_zero_iff
    obtain rfl | rfl | rfl | rfl | rfl | rfl | rfl | rfl | rfl : c = 1 ∨ c = 2 ∨ c = 3 ∨ c = 4 ∨ c = 5 ∨ c = 6 ∨ c = 7 ∨ c = 8 ∨ c = 9 := by omega
    · have e : (⟨1, k, t, bA, bc, b, h, u, m⟩ : OV).op = ⟨1, k, t, b, h, u, m⟩ := rfl
      have e2 : onlyV ⟨1, k, t, bA, bc, b, h, u, m⟩ = ⟨1, k, 0, none, 0, [], 0, 0, 0⟩ := rfl
      rw [e, e2]
      apply Bool.eq_iff_iff.2
      simp only [vOp, zrB, sopB, Bool.and_eq_true, Bool.or_eq_true, decide_eq_true_eq, List.length_nil]
      grind
    · have e : (⟨2, k, t, bA, bc, b, h, u, m⟩ : OV).op = ⟨2, k, t, b, h, u, m⟩ := rfl
      have e2 : onlyV ⟨2, k, t, bA, bc, b, h, u, m⟩ = ⟨2, k, t, none, 0, [], 0, 0, 0⟩ := rfl
      rw [e, e2]
      apply Bool.eq_iff_iff.2
      simp only [vOp, zrB, sopB, Bool.and_eq_true, Bool.or_eq_true, decide_eq_true_eq, List.length_nil]
      grind
    · have e : (⟨3, k, t, bA, bc, b, h, u, m⟩ : OV).op = ⟨3, k, t, b, h, u, m⟩ := rfl
      have e2 : onlyV ⟨3, k, t, bA, bc, b, h, u, m⟩ = ⟨3, [], 0, bA, bc, b, 0, 0, 0⟩ := rfl
      rw [e, e2]
      apply Bool.eq_iff_iff.2
      simp only [vOp, zrB, sopB, Bool.and_eq_true, Bool.or_eq_true, decide_eq_true_eq, List.length_nil]
      grind
    · have e : (⟨4, k, t, bA, bc, b, h, u, m⟩ : OV).op = ⟨4, k, t, b, h, u, m⟩ := rfl
      have e2 : onlyV ⟨4, k, t, bA, bc, b, h, u, m⟩ = ⟨4, [], 0, none, 0, [], h, 0, 0⟩ := rfl
      rw [e, e2]
      apply Bool.eq_iff_iff.2
      simp only [vOp, zrB, sopB, Bool.and_eq_true, Bool.or_eq_true, decide_eq_true_eq, List.length_nil]
      grind
    · have e : (⟨5, k, t, bA, bc, b, h, u, m⟩ : OV).op = ⟨5, k, t, b, h, u, m⟩ := rfl
      have e2 : onlyV ⟨5, k, t, bA, bc, b, h, u, m⟩ = ⟨5, [], 0, none, 0, [], h, 0, 0⟩ := rfl
      rw [e, e2]
      apply Bool.eq_iff_iff.2
      simp only [vOp, zrB, sopB, Bool.and_eq_true, Bool.or_eq_true, decide_eq_true_eq, List.length_nil]
      grind
    · have e : (⟨6, k, t, bA, bc, b, h, u, m⟩ : OV).op = ⟨6, k, t, b, h, u, m⟩ := rfl
      have e2 : onlyV ⟨6, k, t, bA, bc, b, h, u, m⟩ = ⟨6, [], 0, none, 0, [], h, u, 0⟩ := rfl
      rw [e, e2]
      apply Bool.eq_iff_iff.2
      simp only [vOp, zrB, sopB, Bool.and_eq_true, Bool.or_eq_true, decide_eq_true_eq, List.length_nil]
      grind
    · have e : (⟨7, k, t, bA, bc, b, h, u, m⟩ : OV).op = ⟨7, k, t, b, h, u, m⟩ := rfl
      have e2 : onlyV ⟨7, k, t, bA, bc, b, h, u, m⟩ = ⟨7, if m = 0 then k else [], 0, none, 0, [], 0, u, m⟩ := rfl
      rw [e, e2]
      apply Bool.eq_iff_iff.2
      by_cases h0 : m = 0
      · rw [if_pos h0]
        simp only [vOp, zrB, sopB, Bool.and_eq_true, Bool.or_eq_true, decide_eq_true_eq, List.length_nil]
        grind
      · rw [if_neg h0]
        simp only [vOp, zrB, sopB, Bool.and_eq_true, Bool.or_eq_true, decide_eq_true_eq, List.length_nil]
        grind
    · have e : (⟨8, k, t, bA, bc, b, h, u, m⟩ : OV).op = ⟨8, k, t, b, h, u, m⟩ := rfl
      have e2 : onlyV ⟨8, k, t, bA, bc, b, h, u, m⟩ = ⟨8, [], 0, none, 0, [], 0, u, 0⟩ := rfl
      rw [e, e2]
      apply Bool.eq_iff_iff.2
      simp only [vOp, zrB, sopB, Bool.and_eq_true, Bool.or_eq_true, decide_eq_true_eq, List.length_nil]
      grind
    · have e : (⟨9, k, t, bA, bc, b, h, u, m⟩ : OV).op = ⟨9, k, t, b, h, u, m⟩ := rfl
      have e2 : onlyV ⟨9, k, t, bA, bc, b, h, u, m⟩ = ⟨9, [], 0, none, 0, [], 0, 0, 0⟩ := rfl
      rw [e, e2]
      apply Bool.eq_iff_iff.2
      simp only [vOp, zrB, sopB, Bool.and_eq_true, Bool.or_eq_true, decide_eq_true_eq, List.length_nil]
      grind
  · have h0 : vOp S x.op = false := by
      cases hv : vOp S x.op with
      | false => rfl
      | true =>
        have := vOp_code hv
        have e : x.op.c = x.c.toNat := rfl
        omega
    rw [h0, decide_eq_false hr, Bool.false_and]
end Go.Proofs.YtbcgpjfejpcgnaaGreat.O
end
section
namespace Go.Proofs.YtbcgpjfejpcgnaaGreat.O
open Go.RowKit
set_option linter.unusedSectionVars false
set_option linter.unusedVariables false
set_option linter.unusedSimpArgs false
set_option maxRecDepth 100000
set_option maxHeartbeats 4000000
theorem v22_any (T S N C R F K : Int) (x : OV) (w : World) (hx : OkB w x) (hn : x.b.length ≤ 4611686018427387904) :
    Calls Tryz.prog 14 #[.agg #[.int .i64 T, .int .i64 S, .int .i64 N, .int .i64 C, .int .i64 R, .int .i64 F, .int .u64 K], .agg #[.int .i64 x.c, .string ⟨x.k.toArray⟩, .int .u64 (x.t : Int), .slice x.bA x.b.length x.bc, .int .i64 x.h, .int .i64 x.u, .int .i64 x.m]] w fun q w' => q = .returned (.bool (vOp S x.op)) ∧ Keeps [] w w' := by
  have hve := v22_eq S x
  have ka := ((Keeps.refl [] w).alloc (.cells #[.int .i64 T, .int .i64 S, .int .i64 N, .int .i64 C, .int .i64 R, .int .i64 F, .int .u64 K] 24)).alloc (.cells #[.int .i64 x.c, .string ⟨x.k.toArray⟩, .int .u64 (x.t : Int), .slice x.bA x.b.length x.bc, .int .i64 x.h, .int .i64 x.u, .int .i64 x.m] 29)
  have b2 := (Blk.new w [.int .i64 T, .int .i64 S, .int .i64 N, .int .i64 C, .int .i64 R, .int .i64 F, .int .u64 K] 24).alloc (.cells #[.int .i64 x.c, .string ⟨x.k.toArray⟩, .int .u64 (x.t : Int), .slice x.bA x.b.length x.bc, .int .i64 x.h, .int .i64 x.u, .int .i64 x.m] 29)
  have b3 := Blk.new_at (w.alloc (.cells #[.int .i64 T, .int .i64 S, .int .i64 N, .int .i64 C, .int .i64 R, .int .i64 F, .int .u64 K] 24)) (w.heap.size + 1) [.int .i64 x.c, .string ⟨x.k.toArray⟩, .int .u64 (x.t : Int), .slice x.bA x.b.length x.bc, .int .i64 x.h, .int .i64 x.u, .int .i64 x.m] 29 (by simp)
  change Blk ((w.alloc (.cells #[.int .i64 T, .int .i64 S, .int .i64 N, .int .i64 C, .int .i64 R, .int .i64 F, .int .u64 K] 24)).alloc (.cells #[.int .i64 x.c, .string ⟨x.k.toArray⟩, .int .u64 (x.t : Int), .slice x.bA x.b.length x.bc, .int .i64 x.h, .int .i64 x.u, .int .i64 x.m] 29)) _ _ at b2 b3
  obtain ⟨W, hW⟩ : ∃ W, (w.alloc (.cells #[.int .i64 T, .int .i64 S, .int .i64 N, .int .i64 C, .int .i64 R, .int .i64 F, .int .u64 K] 24)).alloc (.cells #[.int .i64 x.c, .string ⟨x.k.toArray⟩, .int .u64 (x.t : Int), .slice x.bA x.b.length x.bc, .int .i64 x.h, .int .i64 x.u, .int .i64 x.m] 29) = W := ⟨_, rfl⟩
  obtain ⟨g2, hg2⟩ : ∃ g2, w.heap.size = g2 := ⟨_, rfl⟩
  obtain ⟨g3, hg3⟩ : ∃ g3, g3 = g2 + 1 := ⟨_, rfl⟩
  rw [hW] at ka b2 b3
  rw [hg2] at b2 b3
  rw [← hg3] at b3
  have hoq := only_any x W
  unfold OnlyQ at hoq
  have HK := Lib.hid ka
  have HX := Lib.hid (hx.keeps ka)
  have HB2 := Lib.hid b2
  have HB3 := Lib.hid b3
  go_enter Tryz.func14, Tryz.ntmps14
  obtain ⟨p0, p1, p2, p3, p4, p5, p6, pf, pl⟩ := b3.o7
  rw [hg3] at p0 p1 p2 p3 p4 p5 p6 pf pl
  clear ka hx b2 b3
  by_cases hr : 1 ≤ x.c ∧ x.c ≤ 9
  · rw [decide_eq_true hr] at hoq hve
    rw [Bool.true_and] at hve
    have HVE := Lib.hid hve
    clear hr hve
    go_upto_region 1 with fail
    try rw [hW]
    clear hW
    go_wp2_with fail
    refine hoq.mono ?_
    rintro q w3 ⟨k3, y, hy, rfl⟩
    have k4 := k3.trans ((Keeps.refl [] w3).alloc (.cells #[.int .i64 y.c, .string ⟨y.k.toArray⟩, .int .u64 (y.t : Int), .slice y.bA y.b.length y.bc, .int .i64 y.h, .int .i64 y.u, .int .i64 y.m] 29)) (by simp)
    have b4 := Blk.new w3 [.int .i64 y.c, .string ⟨y.k.toArray⟩, .int .u64 (y.t : Int), .slice y.bA y.b.length y.bc, .int .i64 y.h, .int .i64 y.u, .int .i64 y.m] 29
    change Blk (w3.alloc (.cells #[.int .i64 y.c, .string ⟨y.k.toArray⟩, .int .u64 (y.t : Int), .slice y.bA y.b.length y.bc, .int .i64 y.h, .int .i64 y.u, .int .i64 y.m] 29)) _ _ at b4
    have HY := Lib.hid hy
    have K4 := Lib.hid k4
    have y1 : y.b = x.b ∨ y.b.length ≠ x.b.length := by rw [hy]; exact only_batch x
    have y2 : y.b.length ≤ 4611686018427387904 := by rw [hy]; have := only_short x; omega
    have y3 : OkB W y := by rw [hy]; exact only_okb HX.out
    have hsq := sop_any y x y1 y2 (w3.alloc (.cells #[.int .i64 y.c, .string ⟨y.k.toArray⟩, .int .u64 (y.t : Int), .slice y.bA y.b.length y.bc, .int .i64 y.h, .int .i64 y.u, .int .i64 y.m] 29)) (y3.keeps k4) (HX.out.keeps k4)
    clear y1 y2 y3
    have c2 := k4.blk HB2.out (by simp)
    have c3 := k4.blk HB3.out (by simp)
    rw [hg3] at c3
    clear hoq hy k3 k4 p0 p1 p2 p3 p4 p5 p6 pf pl
    obtain ⟨g4, hg4⟩ : ∃ g4, w3.heap.size = g4 := ⟨_, rfl⟩
    rw [hg4] at b4
    go_upto_region 2 with fail
    obtain ⟨w4, hw4⟩ : ∃ w4, w3.alloc (.cells #[.int .i64 y.c, .string ⟨y.k.toArray⟩, .int .u64 (y.t : Int), .slice y.bA y.b.length y.bc, .int .i64 y.h, .int .i64 y.u, .int .i64 y.m] 29) = w4 := ⟨_, rfl⟩
    rw [hw4] at b4 c2 c3 hsq K4 ⊢
    clear hw4 hg4
    obtain ⟨d0, d1, d2, d3, d4, d5, d6, df, dl⟩ := c2.o7
    obtain ⟨p0, p1, p2, p3, p4, p5, p6, pf, pl⟩ := c3.o7
    obtain ⟨r0, r1, r2, r3, r4, r5, r6, rf, rl⟩ := b4.o7
    cases hs : sopB y x with
    | false =>
      rw [hs] at hsq
      have HF : Hid (vOp S x.op = false) := Lib.hid (by rw [HVE.out, ← HY.out, hs, Bool.false_and])
      clear hs
      go_wp2_with fail
      refine hsq.mono ?_
      rintro q w5 ⟨rfl, k5⟩
      go_wp2_with fail
      go_ret
      exact ⟨by rw [HF.out]; first | rfl | (simp; omega) | (simp; assumption), (HK.out.trans K4.out (by simp)).trans k5 (by simp)⟩
    | true =>
      rw [hs] at hsq
      have HVS : Hid (vOp S x.op = (decide (0 ≤ x.h) && (decide (x.h < S) && (decide (0 ≤ x.u) && (decide (x.u < 8) && (decide (0 ≤ x.m) && decide (x.m ≤ 4))))))) := Lib.hid (by rw [HVE.out, ← HY.out, hs, Bool.true_and])
      clear hs
      by_cases h0 : 0 ≤ x.h
      · skip
        by_cases h1 : x.h < S
        · skip
          by_cases h2 : 0 ≤ x.u
          · skip
            by_cases h3 : x.u < 8
            · skip
              by_cases h4 : 0 ≤ x.m
              · skip
                by_cases h5 : x.m ≤ 4
                · skip
                  have e : (decide (0 ≤ x.h) && (decide (x.h < S) && (decide (0 ≤ x.u) && (decide (x.u < 8) && (decide (0 ≤ x.m) && decide (x.m ≤ 4)))))) = true := by simp [h0, h1, h2, h3, h4, h5]
                  have HF := Lib.hid (HVS.out.trans e)
                  clear e
                  go_wp2_with fail
                  refine hsq.mono ?_
                  rintro q w5 ⟨rfl, k5⟩
                  have c25 := k5.blk c2 (by simp)
                  have c35 := k5.blk c3 (by simp)
                  clear d0 d1 d2 d3 d4 d5 d6 df dl p0 p1 p2 p3 p4 p5 p6 pf pl r0 r1 r2 r3 r4 r5 r6 rf rl hsq
                  obtain ⟨d0, d1, d2, d3, d4, d5, d6, df, dl⟩ := c25.o7
                  obtain ⟨p0, p1, p2, p3, p4, p5, p6, pf, pl⟩ := c35.o7
                  go_wp2_with fail
                  go_ret
                  exact ⟨by rw [HF.out]; first | rfl | (simp; omega) | (simp; assumption), (HK.out.trans K4.out (by simp)).trans k5 (by simp)⟩
                · have e : (decide (0 ≤ x.h) && (decide (x.h < S) && (decide (0 ≤ x.u) && (decide (x.u < 8) && (decide (0 ≤ x.m) && decide (x.m ≤ 4)))))) = false := by simp [h0, h1, h2, h3, h4, h5]
                  have HF := Lib.hid (HVS.out.trans e)
                  clear e
                  go_wp2_with fail
                  refine hsq.mono ?_
                  rintro q w5 ⟨rfl, k5⟩
                  have c25 := k5.blk c2 (by simp)
                  have c35 := k5.blk c3 (by simp)
                  clear d0 d1 d2 d3 d4 d5 d6 df dl p0 p1 p2 p3 p4 p5 p6 pf pl r0 r1 r2 r3 r4 r5 r6 rf rl hsq
                  obtain ⟨d0, d1, d2, d3, d4, d5, d6, df, dl⟩ := c25.o7
                  obtain ⟨p0, p1, p2, p3, p4, p5, p6, pf, pl⟩ := c35.o7
                  go_wp2_with fail
                  go_ret
                  exact ⟨by rw [HF.out]; first | rfl | (simp; omega) | (simp; assumption), (HK.out.trans K4.out (by simp)).trans k5 (by simp)⟩
              · have e : (decide (0 ≤ x.h) && (decide (x.h < S) && (decide (0 ≤ x.u) && (decide (x.u < 8) && (decide (0 ≤ x.m) && decide (x.m ≤ 4)))))) = false := by simp [h0, h1, h2, h3, h4]
                have HF := Lib.hid (HVS.out.trans e)
                clear e
                go_wp2_with fail
                refine hsq.mono ?_
                rintro q w5 ⟨rfl, k5⟩
                have c25 := k5.blk c2 (by simp)
                have c35 := k5.blk c3 (by simp)
                clear d0 d1 d2 d3 d4 d5 d6 df dl p0 p1 p2 p3 p4 p5 p6 pf pl r0 r1 r2 r3 r4 r5 r6 rf rl hsq
                obtain ⟨d0, d1, d2, d3, d4, d5, d6, df, dl⟩ := c25.o7
                obtain ⟨p0, p1, p2, p3, p4, p5, p6, pf, pl⟩ := c35.o7
                go_wp2_with fail
                go_ret
                exact ⟨by rw [HF.out]; first | rfl | (simp; omega) | (simp; assumption), (HK.out.trans K4.out (by simp)).trans k5 (by simp)⟩
            · have e : (decide (0 ≤ x.h) && (decide (x.h < S) && (decide (0 ≤ x.u) && (decide (x.u < 8) && (decide (0 ≤ x.m) && decide (x.m ≤ 4)))))) = false := by simp [h0, h1, h2, h3]
              have HF := Lib.hid (HVS.out.trans e)
              clear e
              go_wp2_with fail
              refine hsq.mono ?_
              rintro q w5 ⟨rfl, k5⟩
              have c25 := k5.blk c2 (by simp)
              have c35 := k5.blk c3 (by simp)
              clear d0 d1 d2 d3 d4 d5 d6 df dl p0 p1 p2 p3 p4 p5 p6 pf pl r0 r1 r2 r3 r4 r5 r6 rf rl hsq
              obtain ⟨d0, d1, d2, d3, d4, d5, d6, df, dl⟩ := c25.o7
              obtain ⟨p0, p1, p2, p3, p4, p5, p6, pf, pl⟩ := c35.o7
              go_wp2_with fail
              go_ret
              exact ⟨by rw [HF.out]; first | rfl | (simp; omega) | (simp; assumption), (HK.out.trans K4.out (by simp)).trans k5 (by simp)⟩
          · have e : (decide (0 ≤ x.h) && (decide (x.h < S) && (decide (0 ≤ x.u) && (decide (x.u < 8) && (decide (0 ≤ x.m) && decide (x.m ≤ 4)))))) = false := by simp [h0, h1, h2]
            have HF := Lib.hid (HVS.out.trans e)
            clear e
            go_wp2_with fail
            refine hsq.mono ?_
            rintro q w5 ⟨rfl, k5⟩
            have c25 := k5.blk c2 (by simp)
            have c35 := k5.blk c3 (by simp)
            clear d0 d1 d2 d3 d4 d5 d6 df dl p0 p1 p2 p3 p4 p5 p6 pf pl r0 r1 r2 r3 r4 r5 r6 rf rl hsq
            obtain ⟨d0, d1, d2, d3, d4, d5, d6, df, dl⟩ := c25.o7
            obtain ⟨p0, p1, p2, p3, p4, p5, p6, pf, pl⟩ := c35.o7
            go_wp2_with fail
            go_ret
            exact ⟨by rw [HF.out]; first | rfl | (simp; omega) | (simp; assumption), (HK.out.trans K4.out (by simp)).trans k5 (by simp)⟩
        · have e : (decide (0 ≤ x.h) && (decide (x.h < S) && (decide (0 ≤ x.u) && (decide (x.u < 8) && (decide (0 ≤ x.m) && decide (x.m ≤ 4)))))) = false := by simp [h0, h1]
          have HF := Lib.hid (HVS.out.trans e)
          clear e
          go_wp2_with fail
          refine hsq.mono ?_
          rintro q w5 ⟨rfl, k5⟩
          have c25 := k5.blk c2 (by simp)
          have c35 := k5.blk c3 (by simp)
          clear d0 d1 d2 d3 d4 d5 d6 df dl p0 p1 p2 p3 p4 p5 p6 pf pl r0 r1 r2 r3 r4 r5 r6 rf rl hsq
          obtain ⟨d0, d1, d2, d3, d4, d5, d6, df, dl⟩ := c25.o7
          obtain ⟨p0, p1, p2, p3, p4, p5, p6, pf, pl⟩ := c35.o7
          go_wp2_with fail
          go_ret
          exact ⟨by rw [HF.out]; first | rfl | (simp; omega) | (simp; assumption), (HK.out.trans K4.out (by simp)).trans k5 (by simp)⟩
      · have e : (decide (0 ≤ x.h) && (decide (x.h < S) && (decide (0 ≤ x.u) && (decide (x.u < 8) && (decide (0 ≤ x.m) && decide (x.m ≤ 4)))))) = false := by simp [h0]
        have HF := Lib.hid (HVS.out.trans e)
        clear e
        go_wp2_with fail
        refine hsq.mono ?_
        rintro q w5 ⟨rfl, k5⟩
        have c25 := k5.blk c2 (by simp)
        have c35 := k5.blk c3 (by simp)
        clear d0 d1 d2 d3 d4 d5 d6 df dl p0 p1 p2 p3 p4 p5 p6 pf pl r0 r1 r2 r3 r4 r5 r6 rf rl hsq
        obtain ⟨d0, d1, d2, d3, d4, d5, d6, df, dl⟩ := c25.o7
        obtain ⟨p0, p1, p2, p3, p4, p5, p6, pf, pl⟩ := c35.o7
        go_wp2_with fail
        go_ret
        exact ⟨by rw [HF.out]; first | rfl | (simp; omega) | (simp; assumption), (HK.out.trans K4.out (by simp)).trans k5 (by simp)⟩
  · rw [decide_eq_false hr] at hoq hve
    rw [Bool.false_and] at hve
    have HF := Lib.hid hve
    clear hr hve
    go_upto_region 1 with fail
    try rw [hW]
    clear hW
    go_wp2_with fail
    refine hoq.mono ?_
    rintro q w3 ⟨k3, y, hy, rfl⟩
    have k4 := k3.trans ((Keeps.refl [] w3).alloc (.cells #[.int .i64 y.c, .string ⟨y.k.toArray⟩, .int .u64 (y.t : Int), .slice y.bA y.b.length y.bc, .int .i64 y.h, .int .i64 y.u, .int .i64 y.m] 29)) (by simp)
    have K4 := Lib.hid k4
    clear hoq hy k3 k4
    go_wp2_with fail
    go_ret
    exact ⟨by rw [HF.out]; first | rfl | (simp; omega) | (simp; assumption), HK.out.trans K4.out (by simp)⟩
end Go.Proofs.YtbcgpjfejpcgnaaGreat.O
end
section
namespace Go.Proofs.YtbcgpjfejpcgnaaGreat.O
open Go.RowKit
def cfgB (T S N C R F K : Int) : Bool := decide ((1 ≤ T ∧ T ≤ 64) ∧ (1 ≤ S ∧ S ≤ 8) ∧ (1 ≤ N ∧ N ≤ 4096) ∧ (1 ≤ C ∧ C ≤ 16384) ∧ (1 ≤ R ∧ R ≤ 65536) ∧ (4 ≤ F ∧ F ≤ 32) ∧ (1 ≤ K ∧ K ≤ 1099511627776))
theorem cfgB_yes {T S N C R F K : Int} (h : CfgOK T S N C R F K) : cfgB T S N C R F K = true := decide_eq_true ⟨⟨h.T0, h.T1⟩, ⟨h.S0, h.S1⟩, ⟨h.N0, h.N1⟩, ⟨h.C0, h.C1⟩, ⟨h.R0, h.R1⟩, ⟨h.F0, h.F1⟩, h.K0, h.K1⟩
theorem cfgB_no {T S N C R F K : Int} (h : ¬ CfgOK T S N C R F K) : cfgB T S N C R F K = false := decide_eq_false fun ⟨⟨a, b⟩, ⟨c, d⟩, ⟨e, f⟩, ⟨g, i⟩, ⟨j, k⟩, ⟨l, m⟩, n, o⟩ => h ⟨a, b, c, d, e, f, g, i, j, k, l, m, n, o⟩
end Go.Proofs.YtbcgpjfejpcgnaaGreat.O
end
section
namespace Go.Proofs.YtbcgpjfejpcgnaaGreat.O
open Go.RowKit
set_option linter.unusedSectionVars false
set_option linter.unusedVariables false
set_option linter.unusedSimpArgs false
set_option maxRecDepth 100000
set_option maxHeartbeats 4000000
theorem v3_any (T S N C R F K : Int) (w : World) :
    Calls Tryz.prog 9 #[.agg #[.int .i64 T, .int .i64 S, .int .i64 N, .int .i64 C, .int .i64 R, .int .i64 F, .int .u64 K]] w fun q w' => q = .returned (.bool (cfgB T S N C R F K)) ∧ Keeps [] w w' := by
  have ka := (Keeps.refl [] w).alloc (.cells #[.int .i64 T, .int .i64 S, .int .i64 N, .int .i64 C, .int .i64 R, .int .i64 F, .int .u64 K] 24)
  have b2 := Blk.new w [.int .i64 T, .int .i64 S, .int .i64 N, .int .i64 C, .int .i64 R, .int .i64 F, .int .u64 K] 24
  change Blk (w.alloc (.cells #[.int .i64 T, .int .i64 S, .int .i64 N, .int .i64 C, .int .i64 R, .int .i64 F, .int .u64 K] 24)) _ _ at b2
  obtain ⟨W, hW⟩ : ∃ W, w.alloc (.cells #[.int .i64 T, .int .i64 S, .int .i64 N, .int .i64 C, .int .i64 R, .int .i64 F, .int .u64 K] 24) = W := ⟨_, rfl⟩
  rw [hW] at b2
  have HK := Lib.hid ka
  clear ka
  by_cases h0 : 1 ≤ T
  · skip
    by_cases h1 : T ≤ 64
    · skip
      by_cases h2 : 1 ≤ S
      · skip
        by_cases h3 : S ≤ 8
        · skip
          by_cases h4 : 1 ≤ N
          · skip
            by_cases h5 : N ≤ 4096
            · skip
              by_cases h6 : 1 ≤ C
              · skip
                by_cases h7 : C ≤ 16384
                · skip
                  by_cases h8 : 1 ≤ R
                  · skip
                    by_cases h9 : R ≤ 65536
                    · skip
                      by_cases h10 : 4 ≤ F
                      · skip
                        by_cases h11 : F ≤ 32
                        · skip
                          by_cases h12 : 1 ≤ K
                          · skip
                            by_cases h13 : K ≤ 1099511627776
                            · skip
                              have e : cfgB T S N C R F K = true := by unfold cfgB; exact decide_eq_true (by omega)
                              rw [e]
                              clear e
                              go_enter Tryz.func9, Tryz.ntmps9
                              try rw [hW]
                              clear hW
                              obtain ⟨d0, d1, d2, d3, d4, d5, d6, df, dl⟩ := b2.o7
                              go_wp2_with fail
                              go_ret
                              exact ⟨rfl, HK.out⟩
                            · have e : cfgB T S N C R F K = false := by unfold cfgB; exact decide_eq_false (by omega)
                              rw [e]
                              clear e
                              go_enter Tryz.func9, Tryz.ntmps9
                              try rw [hW]
                              clear hW
                              obtain ⟨d0, d1, d2, d3, d4, d5, d6, df, dl⟩ := b2.o7
                              go_wp2_with fail
                              go_ret
                              exact ⟨rfl, HK.out⟩
                          · have e : cfgB T S N C R F K = false := by unfold cfgB; exact decide_eq_false (by omega)
                            rw [e]
                            clear e
                            go_enter Tryz.func9, Tryz.ntmps9
                            try rw [hW]
                            clear hW
                            obtain ⟨d0, d1, d2, d3, d4, d5, d6, df, dl⟩ := b2.o7
                            go_wp2_with fail
                            go_ret
                            exact ⟨rfl, HK.out⟩
                        · have e : cfgB T S N C R F K = false := by unfold cfgB; exact decide_eq_false (by omega)
                          rw [e]
                          clear e
                          go_enter Tryz.func9, Tryz.ntmps9
                          try rw [hW]
                          clear hW
                          obtain ⟨d0, d1, d2, d3, d4, d5, d6, df, dl⟩ := b2.o7
                          go_wp2_with fail
                          go_ret
                          exact ⟨rfl, HK.out⟩
                      · have e : cfgB T S N C R F K = false := by unfold cfgB; exact decide_eq_false (by omega)
                        rw [e]
                        clear e
                        go_enter Tryz.func9, Tryz.ntmps9
                        try rw [hW]
                        clear hW
                        obtain ⟨d0, d1, d2, d3, d4, d5, d6, df, dl⟩ := b2.o7
                        go_wp2_with fail
                        go_ret
                        exact ⟨rfl, HK.out⟩
                    · have e : cfgB T S N C R F K = false := by unfold cfgB; exact decide_eq_false (by omega)
                      rw [e]
                      clear e
                      go_enter Tryz.func9, Tryz.ntmps9
                      try rw [hW]
                      clear hW
                      obtain ⟨d0, d1, d2, d3, d4, d5, d6, df, dl⟩ := b2.o7
                      go_wp2_with fail
                      go_ret
                      exact ⟨rfl, HK.out⟩
                  · have e : cfgB T S N C R F K = false := by unfold cfgB; exact decide_eq_false (by omega)
                    rw [e]
                    clear e
                    go_enter Tryz.func9, Tryz.ntmps9
                    try rw [hW]
                    clear hW
                    obtain ⟨d0, d1, d2, d3, d4, d5, d6, df, dl⟩ := b2.o7
                    go_wp2_with fail
                    go_ret
                    exact ⟨rfl, HK.out⟩
                · have e : cfgB T S N C R F K = false := by unfold cfgB; exact decide_eq_false (by omega)
                  rw [e]
                  clear e
                  go_enter Tryz.func9, Tryz.ntmps9
                  try rw [hW]
                  clear hW
                  obtain ⟨d0, d1, d2, d3, d4, d5, d6, df, dl⟩ := b2.o7
                  go_wp2_with fail
                  go_ret
                  exact ⟨rfl, HK.out⟩
              · have e : cfgB T S N C R F K = false := by unfold cfgB; exact decide_eq_false (by omega)
                rw [e]
                clear e
                go_enter Tryz.func9, Tryz.ntmps9
                try rw [hW]
                clear hW
                obtain ⟨d0, d1, d2, d3, d4, d5, d6, df, dl⟩ := b2.o7
                go_wp2_with fail
                go_ret
                exact ⟨rfl, HK.out⟩
            · have e : cfgB T S N C R F K = false := by unfold cfgB; exact decide_eq_false (by omega)
              rw [e]
              clear e
              go_enter Tryz.func9, Tryz.ntmps9
              try rw [hW]
              clear hW
              obtain ⟨d0, d1, d2, d3, d4, d5, d6, df, dl⟩ := b2.o7
              go_wp2_with fail
              go_ret
              exact ⟨rfl, HK.out⟩
          · have e : cfgB T S N C R F K = false := by unfold cfgB; exact decide_eq_false (by omega)
            rw [e]
            clear e
            go_enter Tryz.func9, Tryz.ntmps9
            try rw [hW]
            clear hW
            obtain ⟨d0, d1, d2, d3, d4, d5, d6, df, dl⟩ := b2.o7
            go_wp2_with fail
            go_ret
            exact ⟨rfl, HK.out⟩
        · have e : cfgB T S N C R F K = false := by unfold cfgB; exact decide_eq_false (by omega)
          rw [e]
          clear e
          go_enter Tryz.func9, Tryz.ntmps9
          try rw [hW]
          clear hW
          obtain ⟨d0, d1, d2, d3, d4, d5, d6, df, dl⟩ := b2.o7
          go_wp2_with fail
          go_ret
          exact ⟨rfl, HK.out⟩
      · have e : cfgB T S N C R F K = false := by unfold cfgB; exact decide_eq_false (by omega)
        rw [e]
        clear e
        go_enter Tryz.func9, Tryz.ntmps9
        try rw [hW]
        clear hW
        obtain ⟨d0, d1, d2, d3, d4, d5, d6, df, dl⟩ := b2.o7
        go_wp2_with fail
        go_ret
        exact ⟨rfl, HK.out⟩
    · have e : cfgB T S N C R F K = false := by unfold cfgB; exact decide_eq_false (by omega)
      rw [e]
      clear e
      go_enter Tryz.func9, Tryz.ntmps9
      try rw [hW]
      clear hW
      obtain ⟨d0, d1, d2, d3, d4, d5, d6, df, dl⟩ := b2.o7
      go_wp2_with fail
      go_ret
      exact ⟨rfl, HK.out⟩
  · have e : cfgB T S N C R F K = false := by unfold cfgB; exact decide_eq_false (by omega)
    rw [e]
    clear e
    go_enter Tryz.func9, Tryz.ntmps9
    try rw [hW]
    clear hW
    obtain ⟨d0, d1, d2, d3, d4, d5, d6, df, dl⟩ := b2.o7
    go_wp2_with fail
    go_ret
    exact ⟨rfl, HK.out⟩
end Go.Proofs.YtbcgpjfejpcgnaaGreat.O
end
section
namespace Go.Proofs.YtbcgpjfejpcgnaaGreat
open Go.RowKit
set_option linter.unusedVariables false
def s0 : WS := ⟨[], 0, [], []⟩
def rxO (x : RV) : RX := ⟨x.n.th.toNat, x.n.ix, x.n.inv, x.n.pt, x.n.rs, x.code.toNat, x.key.data.toList, x.time.toNat, x.bA, x.bc, x.b, x.hd.toNat, x.cu.toNat, x.mo.toNat, x.er, x.at_.toNat, x.ak.data.toList, x.av.data.toList⟩
def ovO (x : RV) : O.OV := ⟨x.code, x.key.data.toList, x.time.toNat, x.bA, x.bc, x.b, x.hd, x.cu, x.mo⟩
def NatX (x : RV) : Prop := (0 ≤ x.time ∧ x.time ≤ 18446744073709551615) ∧ 0 ≤ x.at_
def okR (T S : Int) (x : RV) : Prop := x.n.th < T ∧ O.vOp S (ovO x).op = true
def exOk (T S N C R F K : Int) (xs : List RV) : Prop := O.cfgB T S N C R F K = true ∧ Good (xs.map (·.n)) ∧ ∀ x ∈ xs, okR T S x
open Classical in
noncomputable def exE (T S N C R F K : Int) (xs : List RV) : Int := if exOk T S N C R F K xs then (if (explW s0 ((ordL xs).map rxO)).1 = true then 0 else 13) else 1
theorem exE_bad {T S N C R F K : Int} {xs : List RV} (h : ¬ exOk T S N C R F K xs) : exE T S N C R F K xs = 1 := by unfold exE; rw [if_neg h]
theorem exE_good {T S N C R F K : Int} {xs : List RV} (h : exOk T S N C R F K xs) : exE T S N C R F K xs = if (explW s0 ((ordL xs).map rxO)).1 = true then 0 else 13 := by unfold exE; rw [if_pos h]
theorem key_back (k : ByteArray) : (⟨k.data.toList.toArray⟩ : ByteArray) = k := by
  cases k
  simp
structure OkXN (x : RV) : Prop where
  th : 0 ≤ x.n.th ∧ x.n.th < 64
  code : 1 ≤ x.code ∧ x.code ≤ 9
  hd : 0 ≤ x.hd ∧ x.hd < 8
  cu : 0 ≤ x.cu ∧ x.cu < 8
  mo : 0 ≤ x.mo ∧ x.mo ≤ 4
  rs : -1 ≤ x.n.rs
  nt : NatX x
theorem OkXN.of {T S N C R F K : Int} {xs : List RV} (h : exOk T S N C R F K xs) {x : RV} (hx : x ∈ xs) (hn : NatX x) : OkXN x := by
  obtain ⟨h1, h2, h3⟩ := h
  have hs := h2.snd x.n (List.mem_map.2 ⟨x, hx, rfl⟩)
  obtain ⟨h4, h5⟩ := h3 x hx
  obtain ⟨⟨c1, c2⟩, ⟨c3, c4⟩, _⟩ := of_decide_eq_true h1
  have hc := O.vOp_code h5
  simp only [O.vOp, Bool.and_eq_true, Bool.or_eq_true, decide_eq_true_eq] at h5
  obtain ⟨⟨⟨⟨q1, q2⟩, q3, q4⟩, q5, q6⟩, q7, q8⟩ := h5
  simp only [O.OV.op, ovO] at hc q3 q4 q5 q6 q7 q8
  exact ⟨⟨hs.1, by omega⟩, by omega, ⟨q3, by omega⟩, ⟨q5, q6⟩, ⟨q7, by omega⟩, hs.2.2.2.2.2.1, hn⟩
theorem OkXN.back {x : RV} (h : OkXN x) : rvX (rxO x) = x := by
  obtain ⟨⟨th, ix, inv, pt, rs⟩, code, key, time, bA, bc, b, hd, cu, mo, er, at_, ak, av⟩ := x
  obtain ⟨h1, h2, h3, h4, h5, h6, h7, h8⟩ := h
  simp only at h1 h2 h3 h4 h5 h7 h8
  have t1 := Int.toNat_of_nonneg h1.1
  have t2 := Int.toNat_of_nonneg (a := code) (by omega)
  have t3 := Int.toNat_of_nonneg h3.1
  have t4 := Int.toNat_of_nonneg h4.1
  have t5 := Int.toNat_of_nonneg h5.1
  have t6 := Int.toNat_of_nonneg h7.1
  have t7 := Int.toNat_of_nonneg h8
  simp only [rvX, rxO, t1, t2, t3, t4, t5, t6, t7, key_back]
theorem OkXN.ok {x : RV} (h : OkXN x) : OkX (rxO x) := by
  obtain ⟨h1, h2, h3, h4, h5, h6, h7, h8⟩ := h
  refine ⟨?_, ?_, ?_, ?_, ?_, h6⟩ <;> simp only [rxO] <;> omega
theorem OkXN.tm {x : RV} (h : OkXN x) : (rxO x).time ≤ 18446744073709551615 := by
  have := h.nt.1
  simp only [rxO]; omega
theorem ordL_mem {xs : List RV} {x : RV} (h : x ∈ ordL xs) : x ∈ xs ∧ x.n.pt ≠ -1 := by
  unfold ordL at h
  rw [stab_mem] at h
  obtain ⟨h1, h2⟩ := List.mem_filter.1 h
  exact ⟨h1, by simpa using h2⟩
theorem ordL_len (xs : List RV) : (ordL xs).length ≤ xs.length := by
  unfold ordL
  rw [stab_len]
  exact List.length_filter_le _ _
theorem ne_ans (a b : An) (w : World) : (binOp .neq 32 (ansV a) (ansV b)).run Tryz.prog w = .ok (.bool (!anB a b)) w := by
  obtain ⟨e1, t1, k1, v1⟩ := a
  obtain ⟨e2, t2, k2, v2⟩ := b
  have ht : ((t1 : Int) == (t2 : Int)) = decide (t1 = t2) := Bool.eq_iff_iff.2 (by simp; omega)
  have he : (e1 == e2) = decide (e1 = e2) := Bool.eq_iff_iff.2 (by simp)
  unfold anB
  simp only
  rw [← ht, ← he]
  clear ht he
  cases h1 : (e1 == e2) <;> cases h2 : ((t1 : Int) == (t2 : Int)) <;> by_cases h3 : k1 = k2 <;> by_cases h4 : v1 = v2
  all_goals simp [go_sem, h1, h2, h3, h4]
theorem explW_cons {s : WS} {x : RX} {l : List RX} : explW s (x :: l) = if fitsW (perfW s x) x then explW (perfW s x).2.2 l else (false, (perfW s x).2.2) := rfl
end Go.Proofs.YtbcgpjfejpcgnaaGreat
end
