/- The contract of client.Valid. -/
import Derived.Test.YtjmhnlbkfbieaaaGreatScrJ
import Derived.Test.YtjmhnlbkfbieaaaGreatScrV
import Derived.Deep.CutRange
import Derived.Deep.CutBlock
namespace Go.Proofs.YtjmhnlbkfbieaaaGreat
open Go.RowKit
set_option linter.unusedSectionVars false
set_option linter.unusedVariables false
set_option linter.unusedSimpArgs false
set_option maxRecDepth 20000
set_option maxHeartbeats 4000000
theorem inside_any (n lim : Int) (w : World) : Calls Tryz.prog 22 #[.int .i64 n, .int .i64 lim] w fun q w' => q = .returned (.bool (decide (0 ≤ n) && decide (n < lim))) ∧ w = w' := by
  by_cases h : 0 ≤ n
  · by_cases h2 : n < lim
    · have e : (decide (0 ≤ n) && decide (n < lim)) = true := by simp [h, h2]
      rw [e]
      go_enter Tryz.func22, Tryz.ntmps22
      go_wp2
      go_ret
      exact ⟨rfl, rfl⟩
    · have e : (decide (0 ≤ n) && decide (n < lim)) = false := by simp [h2]
      rw [e]
      go_enter Tryz.func22, Tryz.ntmps22
      go_wp2
      go_ret
      exact ⟨rfl, rfl⟩
  · have e : (decide (0 ≤ n) && decide (n < lim)) = false := by simp [h]
    rw [e]
    go_enter Tryz.func22, Tryz.ntmps22
    go_wp2
    go_ret
    exact ⟨rfl, rfl⟩
theorem cliValid_any (T S N C R F K : Int) (x : OV) (w : World) :
    Calls Tryz.prog 12 #[.agg #[.int .i64 T, .int .i64 S, .int .i64 N, .int .i64 C, .int .i64 R, .int .i64 F, .int .u64 K], .agg #[.int .i64 x.c, .string ⟨x.k.toArray⟩, .int .u64 (x.t : Int), .slice x.bA x.b.length x.bc, .int .i64 x.h, .int .i64 x.u, .int .i64 x.m]] w fun q w' => q = .returned (.bool (vOp S x.op)) ∧ Keeps [] w w' := by
  go_enter Tryz.func12, Tryz.ntmps12
  go_upto_block 0 with fail
  go_cut [1, 4, 6, 8, 16] from 17 to 46 (fun _ s4 s6 _ _ wx => s4 = .bool false ∧ ∃ (k' : Str) (t' : Nat) (h' u' m' : Int) (bb : Bool), s6 = .bool bb ∧ wx = ((w.alloc (.cells #[.int .i64 T, .int .i64 S, .int .i64 N, .int .i64 C, .int .i64 R, .int .i64 F, .int .u64 K] 27)).alloc (.cells #[.int .i64 x.c, .string ⟨x.k.toArray⟩, .int .u64 (x.t : Int), .slice x.bA x.b.length x.bc, .int .i64 x.h, .int .i64 x.u, .int .i64 x.m] 25)).alloc (.cells #[.int .i64 0, .string ⟨k'.toArray⟩, .int .u64 (t' : Int), .slice none 0 0, .int .i64 h', .int .i64 u', .int .i64 m'] 25) ∧
    Hid (vOp S x.op = (decide (k' = []) && decide (t' = 0) && decide (h' = 0) && decide (u' = 0) && decide (m' = 0) && !bb && (decide (0 ≤ x.h) && decide (x.h < S)) && (decide (0 ≤ x.u) && decide (x.u < 8)) && (decide (0 ≤ x.m) && decide (x.m < 5)))))
  case first =>
    by_cases hr : 1 ≤ x.c ∧ x.c ≤ 9
    · obtain hc | hc | hc | hc | hc | hc | hc | hc | hc : x.c = 1 ∨ x.c = 2 ∨ x.c = 3 ∨ x.c = 4 ∨ x.c = 5 ∨ x.c = 6 ∨ x.c = 7 ∨ x.c = 8 ∨ x.c = 9 := by omega
      · have hvm : vOp S x.op = (decide (([] : Str) = []) && decide ((x.t : Nat) = 0) && decide ((x.h : Int) = 0) && decide ((x.u : Int) = 0) && decide ((x.m : Int) = 0) && !(decide (0 < x.b.length)) && (decide (0 ≤ x.h) && decide (x.h < S)) && (decide (0 ≤ x.u) && decide (x.u < 8)) && (decide (0 ≤ x.m) && decide (x.m < 5))) := by
          simp [vOp, zrB, OV.op, hc]
          cases hb : x.b with
          | nil => simp
          | cons a l => simp
        have HV := Lib.hid hvm
        clear hvm
        go_wp2_with fail
        go_meet
        exact ⟨rfl, [], x.t, x.h, x.u, x.m, decide (0 < x.b.length), rfl, by rw [hc] <;> rfl, HV⟩
      · have hvm : vOp S x.op = (decide (([] : Str) = []) && decide ((0 : Nat) = 0) && decide ((x.h : Int) = 0) && decide ((x.u : Int) = 0) && decide ((x.m : Int) = 0) && !(decide (0 < x.b.length)) && (decide (0 ≤ x.h) && decide (x.h < S)) && (decide (0 ≤ x.u) && decide (x.u < 8)) && (decide (0 ≤ x.m) && decide (x.m < 5))) := by
          simp [vOp, zrB, OV.op, hc]
          cases hb : x.b with
          | nil => simp
          | cons a l => simp
        have HV := Lib.hid hvm
        clear hvm
        go_wp2_with fail
        go_meet
        exact ⟨rfl, [], 0, x.h, x.u, x.m, decide (0 < x.b.length), rfl, by rw [hc] <;> rfl, HV⟩
      · have hvm : vOp S x.op = (decide ((x.k : Str) = []) && decide ((x.t : Nat) = 0) && decide ((x.h : Int) = 0) && decide ((x.u : Int) = 0) && decide ((x.m : Int) = 0) && !(false) && (decide (0 ≤ x.h) && decide (x.h < S)) && (decide (0 ≤ x.u) && decide (x.u < 8)) && (decide (0 ≤ x.m) && decide (x.m < 5))) := by
          simp [vOp, zrB, OV.op, hc]
        have HV := Lib.hid hvm
        clear hvm
        go_wp2_with fail
        go_meet
        exact ⟨rfl, x.k, x.t, x.h, x.u, x.m, false, rfl, by rw [hc] <;> rfl, HV⟩
      · have hvm : vOp S x.op = (decide ((x.k : Str) = []) && decide ((x.t : Nat) = 0) && decide ((0 : Int) = 0) && decide ((x.u : Int) = 0) && decide ((x.m : Int) = 0) && !(decide (0 < x.b.length)) && (decide (0 ≤ x.h) && decide (x.h < S)) && (decide (0 ≤ x.u) && decide (x.u < 8)) && (decide (0 ≤ x.m) && decide (x.m < 5))) := by
          simp [vOp, zrB, OV.op, hc]
          cases hb : x.b with
          | nil => simp
          | cons a l => simp
        have HV := Lib.hid hvm
        clear hvm
        go_wp2_with fail
        go_meet
        exact ⟨rfl, x.k, x.t, 0, x.u, x.m, decide (0 < x.b.length), rfl, by rw [hc] <;> rfl, HV⟩
      · have hvm : vOp S x.op = (decide ((x.k : Str) = []) && decide ((x.t : Nat) = 0) && decide ((0 : Int) = 0) && decide ((x.u : Int) = 0) && decide ((x.m : Int) = 0) && !(decide (0 < x.b.length)) && (decide (0 ≤ x.h) && decide (x.h < S)) && (decide (0 ≤ x.u) && decide (x.u < 8)) && (decide (0 ≤ x.m) && decide (x.m < 5))) := by
          simp [vOp, zrB, OV.op, hc]
          cases hb : x.b with
          | nil => simp
          | cons a l => simp
        have HV := Lib.hid hvm
        clear hvm
        go_wp2_with fail
        go_meet
        exact ⟨rfl, x.k, x.t, 0, x.u, x.m, decide (0 < x.b.length), rfl, by rw [hc] <;> rfl, HV⟩
      · have hvm : vOp S x.op = (decide ((x.k : Str) = []) && decide ((x.t : Nat) = 0) && decide ((0 : Int) = 0) && decide ((0 : Int) = 0) && decide ((x.m : Int) = 0) && !(decide (0 < x.b.length)) && (decide (0 ≤ x.h) && decide (x.h < S)) && (decide (0 ≤ x.u) && decide (x.u < 8)) && (decide (0 ≤ x.m) && decide (x.m < 5))) := by
          simp [vOp, zrB, OV.op, hc]
          cases hb : x.b with
          | nil => simp
          | cons a l => simp
        have HV := Lib.hid hvm
        clear hvm
        go_wp2_with fail
        go_meet
        exact ⟨rfl, x.k, x.t, 0, 0, x.m, decide (0 < x.b.length), rfl, by rw [hc] <;> rfl, HV⟩
      · have hvm : vOp S x.op = ((decide (x.k = []) || decide (x.m = 0)) && decide (x.t = 0) && decide (x.h = 0) && !(decide (0 < x.b.length)) && (decide (0 ≤ x.h) && decide (x.h < S)) && (decide (0 ≤ x.u) && decide (x.u < 8)) && (decide (0 ≤ x.m) && decide (x.m < 5))) := by
          simp [vOp, zrB, OV.op, hc]
          cases hb : x.b with
          | nil => simp
          | cons a l => simp
        have HV := Lib.hid hvm
        clear hvm
        by_cases hm : x.m = 0
        · go_wp2_with fail
          go_meet
          refine ⟨rfl, [], x.t, x.h, 0, 0, decide (0 < x.b.length), rfl, by rw [hc, hm] <;> rfl, Lib.hid ?_⟩
          rw [HV.out]
          simp [hm]
        · go_wp2_with fail
          go_meet
          refine ⟨rfl, x.k, x.t, x.h, 0, 0, decide (0 < x.b.length), rfl, by rw [hc], Lib.hid ?_⟩
          rw [HV.out]
          simp [hm]
      · have hvm : vOp S x.op = (decide ((x.k : Str) = []) && decide ((x.t : Nat) = 0) && decide ((x.h : Int) = 0) && decide ((0 : Int) = 0) && decide ((x.m : Int) = 0) && !(decide (0 < x.b.length)) && (decide (0 ≤ x.h) && decide (x.h < S)) && (decide (0 ≤ x.u) && decide (x.u < 8)) && (decide (0 ≤ x.m) && decide (x.m < 5))) := by
          simp [vOp, zrB, OV.op, hc]
          cases hb : x.b with
          | nil => simp
          | cons a l => simp
        have HV := Lib.hid hvm
        clear hvm
        go_wp2_with fail
        go_meet
        exact ⟨rfl, x.k, x.t, x.h, 0, x.m, decide (0 < x.b.length), rfl, by rw [hc] <;> rfl, HV⟩
      · have hvm : vOp S x.op = (decide ((x.k : Str) = []) && decide ((x.t : Nat) = 0) && decide ((x.h : Int) = 0) && decide ((x.u : Int) = 0) && decide ((x.m : Int) = 0) && !(decide (0 < x.b.length)) && (decide (0 ≤ x.h) && decide (x.h < S)) && (decide (0 ≤ x.u) && decide (x.u < 8)) && (decide (0 ≤ x.m) && decide (x.m < 5))) := by
          simp [vOp, zrB, OV.op, hc]
          cases hb : x.b with
          | nil => simp
          | cons a l => simp
        have HV := Lib.hid hvm
        clear hvm
        go_wp2_with fail
        go_meet
        exact ⟨rfl, x.k, x.t, x.h, x.u, x.m, decide (0 < x.b.length), rfl, by rw [hc] <;> rfl, HV⟩
    · have hv : vOp S x.op = false := by
        cases h : vOp S x.op with
        | false => rfl
        | true =>
          have := vOp_code h
          simp only [OV.op] at this
          omega
      have h1 : ¬ x.c = 1 := by omega
      have h2 : ¬ x.c = 2 := by omega
      have h3 : ¬ x.c = 3 := by omega
      have h4 : ¬ x.c = 4 := by omega
      have h5 : ¬ x.c = 5 := by omega
      have h6 : ¬ x.c = 6 := by omega
      have h7 : ¬ x.c = 7 := by omega
      have h8 : ¬ x.c = 8 := by omega
      have h9 : ¬ x.c = 9 := by omega
      clear hr
      go_wp2_with fail
      go_ret
      exact ⟨by first | rfl | (rw [hv]; rfl), (((Keeps.refl [] w).alloc _).alloc _).alloc _⟩
  case rest =>
    obtain ⟨rfl, k', t', h', u', m', bb, rfl, rfl, HV⟩ := hcut
    by_cases hk : k' = []
    · subst hk
      by_cases h1 : t' = 0
      · subst h1
        by_cases h2 : h' = 0
        · subst h2
          by_cases h3 : u' = 0
          · subst h3
            by_cases h4 : m' = 0
            · subst h4
              cases bb with
              | true =>
                have hv : vOp S x.op = false := by rw [HV.out]; simp
                go_wp2_with fail
                go_ret
                exact ⟨by first | rfl | (rw [hv]; rfl), (((Keeps.refl [] w).alloc _).alloc _).alloc _⟩
              | false =>
                go_wp2_with fail
                refine (inside_any x.h S _).mono ?_
                rintro q w1 ⟨rfl, rfl⟩
                by_cases g1 : 0 ≤ x.h ∧ x.h < S
                · have G1 : (decide (0 ≤ x.h) && decide (x.h < S)) = true := by simp [g1.1, g1.2]
                  rw [G1]
                  go_wp2_with fail
                  refine (inside_any x.u 8 _).mono ?_
                  rintro q w1 ⟨rfl, rfl⟩
                  by_cases g2 : 0 ≤ x.u ∧ x.u < 8
                  · have G2 : (decide (0 ≤ x.u) && decide (x.u < 8)) = true := by simp [g2.1, g2.2]
                    rw [G2]
                    go_wp2_with fail
                    refine (inside_any x.m 5 _).mono ?_
                    rintro q w1 ⟨rfl, rfl⟩
                    go_wp2_with fail
                    go_ret
                    exact ⟨by rw [HV.out]; simp [G1, G2, g1.1, g1.2, g2.1, g2.2], (((Keeps.refl [] w).alloc _).alloc _).alloc _⟩
                  · have G2 : (decide (0 ≤ x.u) && decide (x.u < 8)) = false := by simp only [Bool.and_eq_false_iff, decide_eq_false_iff_not]; omega
                    rw [G2]
                    go_wp2_with fail
                    go_ret
                    exact ⟨by rw [HV.out]; simp [G2], (((Keeps.refl [] w).alloc _).alloc _).alloc _⟩
                · have G1 : (decide (0 ≤ x.h) && decide (x.h < S)) = false := by simp only [Bool.and_eq_false_iff, decide_eq_false_iff_not]; omega
                  rw [G1]
                  go_wp2_with fail
                  go_ret
                  exact ⟨by rw [HV.out]; simp [G1], (((Keeps.refl [] w).alloc _).alloc _).alloc _⟩
            · have hv : vOp S x.op = false := by rw [HV.out]; simp [h4]
              go_wp2_with fail
              go_ret
              exact ⟨by first | rfl | (rw [hv]; rfl), (((Keeps.refl [] w).alloc _).alloc _).alloc _⟩
          · have hv : vOp S x.op = false := by rw [HV.out]; simp [h3]
            go_wp2_with fail
            go_ret
            exact ⟨by first | rfl | (rw [hv]; rfl), (((Keeps.refl [] w).alloc _).alloc _).alloc _⟩
        · have hv : vOp S x.op = false := by rw [HV.out]; simp [h2]
          go_wp2_with fail
          go_ret
          exact ⟨by first | rfl | (rw [hv]; rfl), (((Keeps.refl [] w).alloc _).alloc _).alloc _⟩
      · have hv : vOp S x.op = false := by rw [HV.out]; simp [h1]
        go_wp2_with fail
        go_ret
        exact ⟨by first | rfl | (rw [hv]; rfl), (((Keeps.refl [] w).alloc _).alloc _).alloc _⟩
    · have hv : vOp S x.op = false := by rw [HV.out]; simp [hk]
      have hkk : ¬ (⟨k'.toArray⟩ : ByteArray) = ⟨#[]⟩ := fun he => hk (by have := congrArg (fun b => b.data.toList) he; simpa using this)
      go_wp2_with fail
      go_ret
      exact ⟨by first | rfl | (rw [hv]; rfl), (((Keeps.refl [] w).alloc _).alloc _).alloc _⟩
end Go.Proofs.YtjmhnlbkfbieaaaGreat
