/- The contract of the reference's Valid of an operation alone (the first half of XRv2), for seats without ref3.Valid. -/
import Derived.Test.YtjmhnlbkfbieaaaGreatRv
namespace Go.Proofs.YtjmhnlbkfbieaaaGreat
open Go.RowKit
set_option linter.unusedSectionVars false
set_option linter.unusedVariables false
set_option linter.unusedSimpArgs false
set_option maxRecDepth 100000
set_option maxHeartbeats 4000000
theorem v22_any (T S N C R F K : Int) (x : OV) (w : World) (hx : OkB w x) (hn : x.b.length ≤ 4611686018427387904) :
    Calls Tryz.prog 10 #[.agg #[.int .i64 T, .int .i64 S, .int .i64 N, .int .i64 C, .int .i64 R, .int .i64 F, .int .u64 K], .agg #[.int .i64 x.c, .string ⟨x.k.toArray⟩, .int .u64 (x.t : Int), .slice x.bA x.b.length x.bc, .int .i64 x.h, .int .i64 x.u, .int .i64 x.m]] w fun q w' => q = .returned (.bool (vOp S x.op)) ∧ Keeps [] w w' := by
  have hve := v22_eq S x
  have ka := ((Keeps.refl [] w).alloc (.cells #[.int .i64 T, .int .i64 S, .int .i64 N, .int .i64 C, .int .i64 R, .int .i64 F, .int .u64 K] 27)).alloc (.cells #[.int .i64 x.c, .string ⟨x.k.toArray⟩, .int .u64 (x.t : Int), .slice x.bA x.b.length x.bc, .int .i64 x.h, .int .i64 x.u, .int .i64 x.m] 25)
  have b2 := (Blk.new w [.int .i64 T, .int .i64 S, .int .i64 N, .int .i64 C, .int .i64 R, .int .i64 F, .int .u64 K] 27).alloc (.cells #[.int .i64 x.c, .string ⟨x.k.toArray⟩, .int .u64 (x.t : Int), .slice x.bA x.b.length x.bc, .int .i64 x.h, .int .i64 x.u, .int .i64 x.m] 25)
  have b3 := Blk.new_at (w.alloc (.cells #[.int .i64 T, .int .i64 S, .int .i64 N, .int .i64 C, .int .i64 R, .int .i64 F, .int .u64 K] 27)) (w.heap.size + 1) [.int .i64 x.c, .string ⟨x.k.toArray⟩, .int .u64 (x.t : Int), .slice x.bA x.b.length x.bc, .int .i64 x.h, .int .i64 x.u, .int .i64 x.m] 25 (by simp)
  change Blk ((w.alloc (.cells #[.int .i64 T, .int .i64 S, .int .i64 N, .int .i64 C, .int .i64 R, .int .i64 F, .int .u64 K] 27)).alloc (.cells #[.int .i64 x.c, .string ⟨x.k.toArray⟩, .int .u64 (x.t : Int), .slice x.bA x.b.length x.bc, .int .i64 x.h, .int .i64 x.u, .int .i64 x.m] 25)) _ _ at b2 b3
  obtain ⟨W, hW⟩ : ∃ W, (w.alloc (.cells #[.int .i64 T, .int .i64 S, .int .i64 N, .int .i64 C, .int .i64 R, .int .i64 F, .int .u64 K] 27)).alloc (.cells #[.int .i64 x.c, .string ⟨x.k.toArray⟩, .int .u64 (x.t : Int), .slice x.bA x.b.length x.bc, .int .i64 x.h, .int .i64 x.u, .int .i64 x.m] 25) = W := ⟨_, rfl⟩
  obtain ⟨g2, hg2⟩ : ∃ g2, w.heap.size = g2 := ⟨_, rfl⟩
  obtain ⟨g3, hg3⟩ : ∃ g3, g3 = g2 + 1 := ⟨_, rfl⟩
  rw [hW] at ka b2 b3
  rw [hg2] at b2 b3
  rw [← hg3] at b3
  have hoq := only_any x W
  unfold OnlyQ at hoq
  have HK := Lib.hid ka
  have HX := Lib.hid (hx.keeps ka)
  have HB2 := Lib.hid b2
  have HB3 := Lib.hid b3
  go_enter Tryz.func10, Tryz.ntmps10
  obtain ⟨p0, p1, p2, p3, p4, p5, p6, pf, pl⟩ := b3.o7
  rw [hg3] at p0 p1 p2 p3 p4 p5 p6 pf pl
  clear ka hx b2 b3
  by_cases hr : 1 ≤ x.c ∧ x.c ≤ 9
  · rw [decide_eq_true hr] at hoq hve
    rw [Bool.true_and] at hve
    have HVE := Lib.hid hve
    clear hr hve
    go_upto_region 1 with fail
    try rw [hW]
    clear hW
    go_wp2_with fail
    refine hoq.mono ?_
    rintro q w3 ⟨k3, y, hy, rfl⟩
    have k4 := k3.trans ((Keeps.refl [] w3).alloc (.cells #[.int .i64 y.c, .string ⟨y.k.toArray⟩, .int .u64 (y.t : Int), .slice y.bA y.b.length y.bc, .int .i64 y.h, .int .i64 y.u, .int .i64 y.m] 25)) (by simp)
    have b4 := Blk.new w3 [.int .i64 y.c, .string ⟨y.k.toArray⟩, .int .u64 (y.t : Int), .slice y.bA y.b.length y.bc, .int .i64 y.h, .int .i64 y.u, .int .i64 y.m] 25
    change Blk (w3.alloc (.cells #[.int .i64 y.c, .string ⟨y.k.toArray⟩, .int .u64 (y.t : Int), .slice y.bA y.b.length y.bc, .int .i64 y.h, .int .i64 y.u, .int .i64 y.m] 25)) _ _ at b4
    have HY := Lib.hid hy
    have K4 := Lib.hid k4
    have y1 : y.b = x.b ∨ y.b.length ≠ x.b.length := by rw [hy]; exact only_batch x
    have y2 : y.b.length ≤ 4611686018427387904 := by rw [hy]; have := only_short x; omega
    have y3 : OkB W y := by rw [hy]; exact only_okb HX.out
    have hsq := sop_any y x y1 y2 (w3.alloc (.cells #[.int .i64 y.c, .string ⟨y.k.toArray⟩, .int .u64 (y.t : Int), .slice y.bA y.b.length y.bc, .int .i64 y.h, .int .i64 y.u, .int .i64 y.m] 25)) (y3.keeps k4) (HX.out.keeps k4)
    clear y1 y2 y3
    have c2 := k4.blk HB2.out (by simp)
    have c3 := k4.blk HB3.out (by simp)
    rw [hg3] at c3
    clear hoq hy k3 k4 p0 p1 p2 p3 p4 p5 p6 pf pl
    obtain ⟨g4, hg4⟩ : ∃ g4, w3.heap.size = g4 := ⟨_, rfl⟩
    rw [hg4] at b4
    go_upto_region 2 with fail
    obtain ⟨w4, hw4⟩ : ∃ w4, w3.alloc (.cells #[.int .i64 y.c, .string ⟨y.k.toArray⟩, .int .u64 (y.t : Int), .slice y.bA y.b.length y.bc, .int .i64 y.h, .int .i64 y.u, .int .i64 y.m] 25) = w4 := ⟨_, rfl⟩
    rw [hw4] at b4 c2 c3 hsq K4 ⊢
    clear hw4 hg4
    obtain ⟨d0, d1, d2, d3, d4, d5, d6, df, dl⟩ := c2.o7
    obtain ⟨p0, p1, p2, p3, p4, p5, p6, pf, pl⟩ := c3.o7
    obtain ⟨r0, r1, r2, r3, r4, r5, r6, rf, rl⟩ := b4.o7
    cases hs : sopB y x with
    | false =>
      rw [hs] at hsq
      have HF : Hid (vOp S x.op = false) := Lib.hid (by rw [HVE.out, ← HY.out, hs, Bool.false_and])
      clear hs
      go_wp2_with fail
      refine hsq.mono ?_
      rintro q w5 ⟨rfl, k5⟩
      go_wp2_with fail
      go_ret
      exact ⟨by rw [HF.out]; first | rfl | (simp; omega) | (simp; assumption), (HK.out.trans K4.out (by simp)).trans k5 (by simp)⟩
    | true =>
      rw [hs] at hsq
      have HVS : Hid (vOp S x.op = (decide (0 ≤ x.h) && (decide (x.h < S) && (decide (0 ≤ x.u) && (decide (x.u < 8) && (decide (0 ≤ x.m) && decide (x.m ≤ 4))))))) := Lib.hid (by rw [HVE.out, ← HY.out, hs, Bool.true_and])
      clear hs
      by_cases h0 : 0 ≤ x.h
      · skip
        by_cases h1 : x.h < S
        · skip
          by_cases h2 : 0 ≤ x.u
          · skip
            by_cases h3 : x.u < 8
            · skip
              by_cases h4 : 0 ≤ x.m
              · skip
                by_cases h5 : x.m ≤ 4
                · skip
                  have e : (decide (0 ≤ x.h) && (decide (x.h < S) && (decide (0 ≤ x.u) && (decide (x.u < 8) && (decide (0 ≤ x.m) && decide (x.m ≤ 4)))))) = true := by simp [h0, h1, h2, h3, h4, h5]
                  have HF := Lib.hid (HVS.out.trans e)
                  clear e
                  go_wp2_with fail
                  refine hsq.mono ?_
                  rintro q w5 ⟨rfl, k5⟩
                  have c25 := k5.blk c2 (by simp)
                  have c35 := k5.blk c3 (by simp)
                  clear d0 d1 d2 d3 d4 d5 d6 df dl p0 p1 p2 p3 p4 p5 p6 pf pl r0 r1 r2 r3 r4 r5 r6 rf rl hsq
                  obtain ⟨d0, d1, d2, d3, d4, d5, d6, df, dl⟩ := c25.o7
                  obtain ⟨p0, p1, p2, p3, p4, p5, p6, pf, pl⟩ := c35.o7
                  go_wp2_with fail
                  go_ret
                  exact ⟨by rw [HF.out]; first | rfl | (simp; omega) | (simp; assumption), (HK.out.trans K4.out (by simp)).trans k5 (by simp)⟩
                · have e : (decide (0 ≤ x.h) && (decide (x.h < S) && (decide (0 ≤ x.u) && (decide (x.u < 8) && (decide (0 ≤ x.m) && decide (x.m ≤ 4)))))) = false := by simp [h0, h1, h2, h3, h4, h5]
                  have HF := Lib.hid (HVS.out.trans e)
                  clear e
                  go_wp2_with fail
                  refine hsq.mono ?_
                  rintro q w5 ⟨rfl, k5⟩
                  have c25 := k5.blk c2 (by simp)
                  have c35 := k5.blk c3 (by simp)
                  clear d0 d1 d2 d3 d4 d5 d6 df dl p0 p1 p2 p3 p4 p5 p6 pf pl r0 r1 r2 r3 r4 r5 r6 rf rl hsq
                  obtain ⟨d0, d1, d2, d3, d4, d5, d6, df, dl⟩ := c25.o7
                  obtain ⟨p0, p1, p2, p3, p4, p5, p6, pf, pl⟩ := c35.o7
                  go_wp2_with fail
                  go_ret
                  exact ⟨by rw [HF.out]; first | rfl | (simp; omega) | (simp; assumption), (HK.out.trans K4.out (by simp)).trans k5 (by simp)⟩
              · have e : (decide (0 ≤ x.h) && (decide (x.h < S) && (decide (0 ≤ x.u) && (decide (x.u < 8) && (decide (0 ≤ x.m) && decide (x.m ≤ 4)))))) = false := by simp [h0, h1, h2, h3, h4]
                have HF := Lib.hid (HVS.out.trans e)
                clear e
                go_wp2_with fail
                refine hsq.mono ?_
                rintro q w5 ⟨rfl, k5⟩
                have c25 := k5.blk c2 (by simp)
                have c35 := k5.blk c3 (by simp)
                clear d0 d1 d2 d3 d4 d5 d6 df dl p0 p1 p2 p3 p4 p5 p6 pf pl r0 r1 r2 r3 r4 r5 r6 rf rl hsq
                obtain ⟨d0, d1, d2, d3, d4, d5, d6, df, dl⟩ := c25.o7
                obtain ⟨p0, p1, p2, p3, p4, p5, p6, pf, pl⟩ := c35.o7
                go_wp2_with fail
                go_ret
                exact ⟨by rw [HF.out]; first | rfl | (simp; omega) | (simp; assumption), (HK.out.trans K4.out (by simp)).trans k5 (by simp)⟩
            · have e : (decide (0 ≤ x.h) && (decide (x.h < S) && (decide (0 ≤ x.u) && (decide (x.u < 8) && (decide (0 ≤ x.m) && decide (x.m ≤ 4)))))) = false := by simp [h0, h1, h2, h3]
              have HF := Lib.hid (HVS.out.trans e)
              clear e
              go_wp2_with fail
              refine hsq.mono ?_
              rintro q w5 ⟨rfl, k5⟩
              have c25 := k5.blk c2 (by simp)
              have c35 := k5.blk c3 (by simp)
              clear d0 d1 d2 d3 d4 d5 d6 df dl p0 p1 p2 p3 p4 p5 p6 pf pl r0 r1 r2 r3 r4 r5 r6 rf rl hsq
              obtain ⟨d0, d1, d2, d3, d4, d5, d6, df, dl⟩ := c25.o7
              obtain ⟨p0, p1, p2, p3, p4, p5, p6, pf, pl⟩ := c35.o7
              go_wp2_with fail
              go_ret
              exact ⟨by rw [HF.out]; first | rfl | (simp; omega) | (simp; assumption), (HK.out.trans K4.out (by simp)).trans k5 (by simp)⟩
          · have e : (decide (0 ≤ x.h) && (decide (x.h < S) && (decide (0 ≤ x.u) && (decide (x.u < 8) && (decide (0 ≤ x.m) && decide (x.m ≤ 4)))))) = false := by simp [h0, h1, h2]
            have HF := Lib.hid (HVS.out.trans e)
            clear e
            go_wp2_with fail
            refine hsq.mono ?_
            rintro q w5 ⟨rfl, k5⟩
            have c25 := k5.blk c2 (by simp)
            have c35 := k5.blk c3 (by simp)
            clear d0 d1 d2 d3 d4 d5 d6 df dl p0 p1 p2 p3 p4 p5 p6 pf pl r0 r1 r2 r3 r4 r5 r6 rf rl hsq
            obtain ⟨d0, d1, d2, d3, d4, d5, d6, df, dl⟩ := c25.o7
            obtain ⟨p0, p1, p2, p3, p4, p5, p6, pf, pl⟩ := c35.o7
            go_wp2_with fail
            go_ret
            exact ⟨by rw [HF.out]; first | rfl | (simp; omega) | (simp; assumption), (HK.out.trans K4.out (by simp)).trans k5 (by simp)⟩
        · have e : (decide (0 ≤ x.h) && (decide (x.h < S) && (decide (0 ≤ x.u) && (decide (x.u < 8) && (decide (0 ≤ x.m) && decide (x.m ≤ 4)))))) = false := by simp [h0, h1]
          have HF := Lib.hid (HVS.out.trans e)
          clear e
          go_wp2_with fail
          refine hsq.mono ?_
          rintro q w5 ⟨rfl, k5⟩
          have c25 := k5.blk c2 (by simp)
          have c35 := k5.blk c3 (by simp)
          clear d0 d1 d2 d3 d4 d5 d6 df dl p0 p1 p2 p3 p4 p5 p6 pf pl r0 r1 r2 r3 r4 r5 r6 rf rl hsq
          obtain ⟨d0, d1, d2, d3, d4, d5, d6, df, dl⟩ := c25.o7
          obtain ⟨p0, p1, p2, p3, p4, p5, p6, pf, pl⟩ := c35.o7
          go_wp2_with fail
          go_ret
          exact ⟨by rw [HF.out]; first | rfl | (simp; omega) | (simp; assumption), (HK.out.trans K4.out (by simp)).trans k5 (by simp)⟩
      · have e : (decide (0 ≤ x.h) && (decide (x.h < S) && (decide (0 ≤ x.u) && (decide (x.u < 8) && (decide (0 ≤ x.m) && decide (x.m ≤ 4)))))) = false := by simp [h0]
        have HF := Lib.hid (HVS.out.trans e)
        clear e
        go_wp2_with fail
        refine hsq.mono ?_
        rintro q w5 ⟨rfl, k5⟩
        have c25 := k5.blk c2 (by simp)
        have c35 := k5.blk c3 (by simp)
        clear d0 d1 d2 d3 d4 d5 d6 df dl p0 p1 p2 p3 p4 p5 p6 pf pl r0 r1 r2 r3 r4 r5 r6 rf rl hsq
        obtain ⟨d0, d1, d2, d3, d4, d5, d6, df, dl⟩ := c25.o7
        obtain ⟨p0, p1, p2, p3, p4, p5, p6, pf, pl⟩ := c35.o7
        go_wp2_with fail
        go_ret
        exact ⟨by rw [HF.out]; first | rfl | (simp; omega) | (simp; assumption), (HK.out.trans K4.out (by simp)).trans k5 (by simp)⟩
  · rw [decide_eq_false hr] at hoq hve
    rw [Bool.false_and] at hve
    have HF := Lib.hid hve
    clear hr hve
    go_upto_region 1 with fail
    try rw [hW]
    clear hW
    go_wp2_with fail
    refine hoq.mono ?_
    rintro q w3 ⟨k3, y, hy, rfl⟩
    have k4 := k3.trans ((Keeps.refl [] w3).alloc (.cells #[.int .i64 y.c, .string ⟨y.k.toArray⟩, .int .u64 (y.t : Int), .slice y.bA y.b.length y.bc, .int .i64 y.h, .int .i64 y.u, .int .i64 y.m] 25)) (by simp)
    have K4 := Lib.hid k4
    clear hoq hy k3 k4
    go_wp2_with fail
    go_ret
    exact ⟨by rw [HF.out]; first | rfl | (simp; omega) | (simp; assumption), HK.out.trans K4.out (by simp)⟩
end Go.Proofs.YtjmhnlbkfbieaaaGreat
