/- ClientValidates: the walk. -/
import Derived.Test.YtjmhnlbkfbieaaaGreatAwc
import Derived.Test.YtjmhnlbkfbieaaaGreatCno
import Derived.Test.YtjmhnlbkfbieaaaGreatRvo
namespace Go.Proofs.YtjmhnlbkfbieaaaGreat
open Go.RowKit
set_option linter.unusedSectionVars false
set_option linter.unusedVariables false
set_option linter.unusedSimpArgs false
set_option maxRecDepth 100000
set_option maxHeartbeats 4000000
theorem only_parts (z : OV) : ((onlyV z).k = z.k ∨ (onlyV z).k = []) ∧ ((onlyV z).t = z.t ∨ (onlyV z).t = 0) ∧ (((onlyV z).bA = z.bA ∧ (onlyV z).bc = z.bc ∧ (onlyV z).b = z.b) ∨ ((onlyV z).bA = none ∧ (onlyV z).bc = 0 ∧ (onlyV z).b = [])) := by
  unfold onlyV
  repeat' split
  all_goals simp
theorem only_vld (z : OV) (S : Int) (hc : 1 ≤ z.c ∧ z.c ≤ 9) (hh : 0 ≤ z.h ∧ z.h < S) (hu : 0 ≤ z.u ∧ z.u < 8) (hm : 0 ≤ z.m ∧ z.m < 5) : vOp S (onlyV z).op = true := by
  obtain ⟨c, k, t, bA, bc, b, h, u, m⟩ := z
  simp only at hc hh hu hm
  have hS : 0 < S := by omega
  obtain rfl | rfl | rfl | rfl | rfl | rfl | rfl | rfl | rfl : c = 1 ∨ c = 2 ∨ c = 3 ∨ c = 4 ∨ c = 5 ∨ c = 6 ∨ c = 7 ∨ c = 8 ∨ c = 9 := by omega
  case inr.inr.inr.inr.inr.inr.inl =>
    by_cases h0 : m = 0 <;> simp [onlyV, vOp, zrB, OV.op, h0, hS, hu.1, hu.2, hm.1, hm.2]
  all_goals simp [onlyV, vOp, zrB, OV.op, hS, hh.1, hh.2, hu.1, hu.2]
theorem norm_vld (z : OV) (S : Int) (hS : 1 ≤ S ∧ S ≤ 8) : vOp S (onlyV (normV S z)).op = true := by
  have h1 := Int.emod_nonneg z.h (show S ≠ 0 by omega)
  have h2 := Int.emod_lt_of_pos z.h (show 0 < S by omega)
  refine only_vld _ S ?_ ?_ ?_ ?_
  all_goals
    simp only [normV]
    omega
theorem only_okB {w : World} {z : OV} (h : OkB w z) : OkB w (onlyV z) := by
  obtain ⟨_, _, ⟨h1, h2, h3⟩ | ⟨h1, h2, h3⟩⟩ := only_parts z
  · unfold OkB at *
    rw [h1, h2, h3]; exact h
  · unfold OkB
    rw [h1, h2, h3]
    exact Lst.nil w
theorem wCs_take (l : List Wrt) (n : Nat) : wCs (l.take n) = (wCs l).take (n * 3) := by
  induction l generalizing n with
  | nil => simp [wCs]
  | cons x l ih =>
    cases n with
    | zero => simp [wCs]
    | succ n =>
      show wC x ++ wCs (l.take n) = (wC x ++ wCs l).take ((n + 1) * 3)
      have e : (wC x).length = 3 := rfl
      rw [ih, List.take_append, List.take_of_length_le (l := wC x) (by rw [e]; omega), e, show (n + 1) * 3 - 3 = n * 3 by omega]
theorem norm_okB {w : World} {S : Int} {z : OV} (h : OkB w z) : OkB w (normV S z) := by
  obtain ⟨A, cap, b, o, e, hA, har⟩ := h
  injection e with e1 e2 e3
  unfold OkB
  show Lst w (.slice z.bA (z.b.take 4).length z.bc) (z.b.take 4).length (wCs (z.b.take 4))
  have hl : (z.b.take 4).length ≤ z.b.length := by rw [List.length_take]; omega
  refine ⟨z.bA, z.bc, b, o, rfl, fun h0 => by rw [e1]; exact hA (by omega), ⟨fun i hi => ?_, fun h0 => har.lt ?_⟩⟩
  · rw [wCs_take] at hi ⊢
    rw [List.length_take] at hi
    rw [har.cells i (by omega), List.getElem?_take, if_pos (by omega)]
  · rw [wCs_take, List.length_take] at h0
    omega
/-- What is known of an operation that Only has made. -/
structure OpF (w : World) (N : Nat) (y : OV) : Prop where
  ok : OkB w y
  t : y.t < 2 ^ 64
  b : OpB N y
  n : y.b.length ≤ 4
  v : vOp 2 y.op = true
@[go_sem] theorem ptr_neq_nil_cli (w : World) : (binOp .neq 39 (.pointer none) (.pointer none)).run Tryz.prog w = .ok (.bool false) w := by kernel_rfl
def xCs (x : OV) : List Value := [.int .i64 x.c, .string ⟨x.k.toArray⟩, .int .u64 (x.t : Int), .slice x.bA x.b.length x.bc, .int .i64 x.h, .int .i64 x.u, .int .i64 x.m]
theorem cva_any (x o : OV) (th sn tr fd : Int) (hth : I64 th) (hsn : I64 sn) (htr : I64 tr) (hfd : 0 ≤ fd ∧ fd ≤ 255) (w : World) (hx : OkB w x) (hxn : OpN x) (ho : OkB w o) (hon : OpN o) :
    Calls Tryz.prog 3 #[.agg #[.int .i64 x.c, .string ⟨x.k.toArray⟩, .int .u64 (x.t : Int), .slice x.bA x.b.length x.bc, .int .i64 x.h, .int .i64 x.u, .int .i64 x.m], .agg #[.int .i64 o.c, .string ⟨o.k.toArray⟩, .int .u64 (o.t : Int), .slice o.bA o.b.length o.bc, .int .i64 o.h, .int .i64 o.u, .int .i64 o.m], .int .i64 th, .int .i64 sn, .int .i64 tr, .int .u8 fd] w fun q w' => q = .returned (.bool true) ∧ Keeps [] w w' := by
  have Hx := Lib.hid (And.intro hx hxn)
  have Ho := Lib.hid (And.intro ho hon)
  have Ht := Lib.hid (And.intro hth (And.intro hsn htr))
  clear hx hxn ho hon hth hsn htr
  have k0 := ((Keeps.refl [] w).alloc (.cells #[.int .i64 x.c, .string ⟨x.k.toArray⟩, .int .u64 (x.t : Int), .slice x.bA x.b.length x.bc, .int .i64 x.h, .int .i64 x.u, .int .i64 x.m] 25)).alloc (.cells #[.int .i64 o.c, .string ⟨o.k.toArray⟩, .int .u64 (o.t : Int), .slice o.bA o.b.length o.bc, .int .i64 o.h, .int .i64 o.u, .int .i64 o.m] 25)
  have bO := (Blk.new w [.int .i64 x.c, .string ⟨x.k.toArray⟩, .int .u64 (x.t : Int), .slice x.bA x.b.length x.bc, .int .i64 x.h, .int .i64 x.u, .int .i64 x.m] 25).alloc (.cells #[.int .i64 o.c, .string ⟨o.k.toArray⟩, .int .u64 (o.t : Int), .slice o.bA o.b.length o.bc, .int .i64 o.h, .int .i64 o.u, .int .i64 o.m] 25)
  have bR := Blk.new_at (w.alloc (.cells #[.int .i64 x.c, .string ⟨x.k.toArray⟩, .int .u64 (x.t : Int), .slice x.bA x.b.length x.bc, .int .i64 x.h, .int .i64 x.u, .int .i64 x.m] 25)) (w.heap.size + 1) [.int .i64 o.c, .string ⟨o.k.toArray⟩, .int .u64 (o.t : Int), .slice o.bA o.b.length o.bc, .int .i64 o.h, .int .i64 o.u, .int .i64 o.m] 25 (by simp)
  obtain ⟨W, hW⟩ : ∃ W, (w.alloc (.cells #[.int .i64 x.c, .string ⟨x.k.toArray⟩, .int .u64 (x.t : Int), .slice x.bA x.b.length x.bc, .int .i64 x.h, .int .i64 x.u, .int .i64 x.m] 25)).alloc (.cells #[.int .i64 o.c, .string ⟨o.k.toArray⟩, .int .u64 (o.t : Int), .slice o.bA o.b.length o.bc, .int .i64 o.h, .int .i64 o.u, .int .i64 o.m] 25) = W := ⟨_, rfl⟩
  obtain ⟨gO, hgO⟩ : ∃ gO, w.heap.size = gO := ⟨_, rfl⟩
  obtain ⟨gR, hgR⟩ : ∃ gR, w.heap.size + 1 = gR := ⟨_, rfl⟩
  change Blk ((w.alloc (.cells #[.int .i64 x.c, .string ⟨x.k.toArray⟩, .int .u64 (x.t : Int), .slice x.bA x.b.length x.bc, .int .i64 x.h, .int .i64 x.u, .int .i64 x.m] 25)).alloc (.cells #[.int .i64 o.c, .string ⟨o.k.toArray⟩, .int .u64 (o.t : Int), .slice o.bA o.b.length o.bc, .int .i64 o.h, .int .i64 o.u, .int .i64 o.m] 25)) _ _ at bO bR
  have HW := Lib.hid (And.intro hW (And.intro hgO hgR))
  have HG : Hid (gO = w.heap.size ∧ gR = w.heap.size + 1) := Lib.hid ⟨hgO.symm, hgR.symm⟩
  rw [hW] at k0 bO bR
  rw [hgR] at bR
  rw [hgO] at bO
  clear hW hgO hgR
  obtain ⟨a, ha⟩ : ∃ a, th % 4 = a := ⟨_, rfl⟩
  obtain ⟨b, hb⟩ : ∃ b, sn % 4 = b := ⟨_, rfl⟩
  have Hab : Hid ((0 ≤ a ∧ a ≤ 3) ∧ 0 ≤ b ∧ b ≤ 3) := Lib.hid (by omega)
  have Ha := Lib.hid ha
  have Hb := Lib.hid hb
  clear ha hb
  have hwa : wrap64 (1 + a) = 1 + a := IntWalk.wrap64_in _ ⟨by have := Hab.out; omega, by have := Hab.out; omega⟩
  have hwb : wrap64 (1 + b) = 1 + b := IntWalk.wrap64_in _ ⟨by have := Hab.out; omega, by have := Hab.out; omega⟩
  have hcfg : CfgOK (1 + a) (1 + b) 100 100 200 4 1000 := ⟨by have := Hab.out; omega, by have := Hab.out; omega, by have := Hab.out; omega, by have := Hab.out; omega, by omega, by omega, by omega, by omega, by omega, by omega, by omega, by omega, by omega, by omega⟩
  have HC := Lib.hid hcfg
  clear hcfg
  go_enter Tryz.func3, Tryz.ntmps3
  go_upto_region 1 with fail
  rw [HW.out.1, HW.out.2.2, HW.out.2.1]
  go_wp2_with fail
  refine (mod_any th 4 Ht.out.1.1 Ht.out.1.2 (by omega) (by omega) _).mono ?_
  rintro q w1 ⟨rfl, rfl⟩
  rw [Ha.out]
  go_wp2_with fail
  refine (config_kit (1 + a) 0 (by omega) (by omega) _).mono ?_
  rintro q w1 ⟨rfl, k1⟩
  rw [show (4 : Int) + 0 % 3 = 4 from rfl]
  have bO1 := k1.blk bO (by simp)
  have bR1 := k1.blk bR (by simp)
  have K1 := k0.trans k1 (by simp)
  clear bO bR k0 k1
  have kC := (Keeps.refl [] w1).alloc (.cells #[.int .i64 (1 + a), .int .i64 2, .int .i64 100, .int .i64 100, .int .i64 200, .int .i64 4, .int .u64 1000] 27)
  have bC := Blk.new w1 [.int .i64 (1 + a), .int .i64 2, .int .i64 100, .int .i64 100, .int .i64 200, .int .i64 4, .int .u64 1000] 27
  go_upto_region 2 with fail
  obtain ⟨W2, hW2⟩ : ∃ W2, w1.alloc (.cells #[.int .i64 (1 + a), .int .i64 2, .int .i64 100, .int .i64 100, .int .i64 200, .int .i64 4, .int .u64 1000] 27) = W2 := ⟨_, rfl⟩
  obtain ⟨gC, hgC⟩ : ∃ gC, w1.heap.size = gC := ⟨_, rfl⟩
  rw [hW2] at kC bC ⊢
  rw [hgC] at bC ⊢
  have bO2 := kC.blk bO1 (by simp)
  have bR2 := kC.blk bR1 (by simp)
  have K2 := K1.trans kC (by simp)
  have HGC : Hid (gO < gC ∧ gR < gC ∧ w.heap.size ≤ gC) := Lib.hid (by have := bO1.lt; have := bR1.lt; have := K1.size; omega)
  clear hW2 hgC kC bO1 bR1 K1
  go_wp2_with fail
  refine (mod_any sn 4 Ht.out.2.1.1 Ht.out.2.1.2 (by omega) (by omega) _).mono ?_
  rintro q w3 ⟨rfl, rfl⟩
  rw [Hb.out]
  obtain ⟨x0, x1, x2, x3, x4, x5, x6, xf, xl⟩ := bC.o7
  have kD := (Keeps.refl [gC] W2).setCell ⟨gC, 1, none⟩ (.int .i64 (1 + b)) (.inl (by simp))
  have bD := bC.set 1 (.int .i64 (1 + b))
  simp only [List.set_cons_zero, List.set_cons_succ] at bD
  go_upto_region 3 with fail
  obtain ⟨W3, hW3⟩ : ∃ W3, W2.setCell ⟨gC, 1, none⟩ (.int .i64 (1 + b)) = W3 := ⟨_, rfl⟩
  rw [hW3] at kD bD ⊢
  have bO3 := kD.blk bO2 (by have := HGC.out; simp; omega)
  have bR3 := kD.blk bR2 (by have := HGC.out; simp; omega)
  have K3 : Keeps [] w W3 := K2.trans kD (by have := HGC.out; simp; omega)
  clear hW3 kD bO2 bR2 K2 bC x0 x1 x2 x3 x4 x5 x6 xf xl
  obtain ⟨x0, x1, x2, x3, x4, x5, x6, xf, xl⟩ := bD.o7
  obtain ⟨N, hN⟩ : ∃ N : Nat, 8 + (1 + a) * (1 + b) + 100 * (4 + 4) + 100 + 3 * 200 = N := ⟨(8 + (1 + a) * (1 + b) + 100 * (4 + 4) + 100 + 3 * 200 : Int).toNat, by
    have := Hab.out
    have := Int.mul_nonneg (show 0 ≤ 1 + a by omega) (show 0 ≤ 1 + b by omega)
    omega⟩
  have hmq := kitMemory_yes (1 + a) (1 + b) 100 100 200 4 1000 HC.out N hN
  clear hN
  go_wp2_with fail
  refine (hmq _).mono ?_
  rintro q w4 ⟨mb, mc, rfl, hm, hmb, hmc, k4⟩
  clear hmq x0 x1 x2 x3 x4 x5 x6 xf xl
  have bO4 := k4.blk bO3 (by simp)
  have bR4 := k4.blk bR3 (by simp)
  have bC4 := k4.blk bD (by simp)
  have K4 := K3.trans k4 (by simp)
  clear bO3 bR3 bD K3 k4 hm hmb hmc
  have kL := (Keeps.refl [] w4).alloc (.cells #[.int .i64 (1 + a), .int .i64 (1 + b), .int .i64 100, .int .i64 100, .int .i64 200, .int .i64 4, .int .u64 1000] 31)
  have bL := Blk.new w4 [.int .i64 (1 + a), .int .i64 (1 + b), .int .i64 100, .int .i64 100, .int .i64 200, .int .i64 4, .int .u64 1000] 31
  go_upto_region 4 with fail
  obtain ⟨W5, hW5⟩ : ∃ W5, w4.alloc (.cells #[.int .i64 (1 + a), .int .i64 (1 + b), .int .i64 100, .int .i64 100, .int .i64 200, .int .i64 4, .int .u64 1000] 31) = W5 := ⟨_, rfl⟩
  obtain ⟨gL, hgL⟩ : ∃ gL, w4.heap.size = gL := ⟨_, rfl⟩
  rw [hW5] at kL bL ⊢
  rw [hgL] at bL ⊢
  have bO5 := kL.blk bO4 (by simp)
  have bR5 := kL.blk bR4 (by simp)
  have bC5 := kL.blk bC4 (by simp)
  have K5 := K4.trans kL (by simp)
  clear hW5 hgL kL bO4 bR4 bC4 K4
  go_wp2_with fail
  refine (awc_any _).mono ?_
  rintro q w6 ⟨rfl, k6⟩
  have bO6 := k6.blk bO5 (by simp)
  have bR6 := k6.blk bR5 (by simp)
  have bC6 := k6.blk bC5 (by simp)
  have bL6 := k6.blk bL (by simp)
  have K6 := K5.trans k6 (by simp)
  clear bO5 bR5 bC5 bL K5 k6
  obtain ⟨o0, o1, o2, o3, o4, o5, o6, of, ol⟩ := bO6.o7
  obtain ⟨r0, r1, r2, r3, r4, r5, r6, rf, rl⟩ := bR6.o7
  have Hbl := bO6
  by_cases h50 : 50 < x.b.length ∨ 50 < o.b.length
  · have h51 : decide ((x.b.length : Int) > 50) = true ∨ decide ((x.b.length : Int) > 50) = false ∧ decide ((o.b.length : Int) > 50) = true := by
      rcases Nat.lt_or_ge 50 x.b.length with h | h
      · left; simp; omega
      · right; simp; omega
    clear h50
    rcases h51 with h51 | ⟨h51, h52⟩
    all_goals
      go_wp2_with fail
      refine (awc_any _).mono ?_
      rintro q w7 ⟨rfl, k7⟩
      go_wp2_with fail
      go_ret
      exact ⟨rfl, K6.trans k7 (by simp)⟩
  · have h51 : decide ((x.b.length : Int) > 50) = false := by simp; omega
    have h52 : decide ((o.b.length : Int) > 50) = false := by simp; omega
    have H50 := Lib.hid h50
    obtain ⟨c0, c1, c2, c3, c4, c5, c6, cf, cl⟩ := bC6.o7
    have hko := kon_any (1 + a) (1 + b) 100 100 200 4 1000 (by have := Hab.out; omega) x w6 (Hx.out.1.keeps K6) Hx.out.2
    clear h50
    go_wp2_with fail
    refine hko.mono ?_
    rintro q w7 ⟨k7, y, hy, rfl⟩
    have Hy := Lib.hid hy
    clear hy hko h51 h52 c0 c1 c2 c3 c4 c5 c6 cf cl r0 r1 r2 r3 r4 r5 r6 rf rl o0 o1 o2 o3 o4 o5 o6 of ol Hbl
    have bO7 := k7.blk bO6 (by simp)
    have bR7 := k7.blk bR6 (by simp)
    have bC7 := k7.blk bC6 (by simp)
    have bL7 := k7.blk bL6 (by simp)
    have K7 := K6.trans k7 (by simp)
    clear bO6 bR6 bC6 bL6 K6 k7
    have kX := ((Keeps.refl [] w7).alloc (.cells #[.int .i64 y.c, .string ⟨y.k.toArray⟩, .int .u64 (y.t : Int), .slice y.bA y.b.length y.bc, .int .i64 y.h, .int .i64 y.u, .int .i64 y.m] 25)).alloc (.cells #[.int .i64 y.c, .string ⟨y.k.toArray⟩, .int .u64 (y.t : Int), .slice y.bA y.b.length y.bc, .int .i64 y.h, .int .i64 y.u, .int .i64 y.m] 25)
    have bX := (Blk.new w7 [.int .i64 y.c, .string ⟨y.k.toArray⟩, .int .u64 (y.t : Int), .slice y.bA y.b.length y.bc, .int .i64 y.h, .int .i64 y.u, .int .i64 y.m] 25).alloc (.cells #[.int .i64 y.c, .string ⟨y.k.toArray⟩, .int .u64 (y.t : Int), .slice y.bA y.b.length y.bc, .int .i64 y.h, .int .i64 y.u, .int .i64 y.m] 25)
    have bY := Blk.new_at (w7.alloc (.cells #[.int .i64 y.c, .string ⟨y.k.toArray⟩, .int .u64 (y.t : Int), .slice y.bA y.b.length y.bc, .int .i64 y.h, .int .i64 y.u, .int .i64 y.m] 25)) (w7.heap.size + 1) [.int .i64 y.c, .string ⟨y.k.toArray⟩, .int .u64 (y.t : Int), .slice y.bA y.b.length y.bc, .int .i64 y.h, .int .i64 y.u, .int .i64 y.m] 25 (by simp)
    change Blk ((w7.alloc (.cells #[.int .i64 y.c, .string ⟨y.k.toArray⟩, .int .u64 (y.t : Int), .slice y.bA y.b.length y.bc, .int .i64 y.h, .int .i64 y.u, .int .i64 y.m] 25)).alloc (.cells #[.int .i64 y.c, .string ⟨y.k.toArray⟩, .int .u64 (y.t : Int), .slice y.bA y.b.length y.bc, .int .i64 y.h, .int .i64 y.u, .int .i64 y.m] 25)) _ _ at bX bY
    go_upto_region 8 with fail
    obtain ⟨W8, hW8⟩ : ∃ W8, (w7.alloc (.cells #[.int .i64 y.c, .string ⟨y.k.toArray⟩, .int .u64 (y.t : Int), .slice y.bA y.b.length y.bc, .int .i64 y.h, .int .i64 y.u, .int .i64 y.m] 25)).alloc (.cells #[.int .i64 y.c, .string ⟨y.k.toArray⟩, .int .u64 (y.t : Int), .slice y.bA y.b.length y.bc, .int .i64 y.h, .int .i64 y.u, .int .i64 y.m] 25) = W8 := ⟨_, rfl⟩
    obtain ⟨gX, hgX⟩ : ∃ gX, w7.heap.size = gX := ⟨_, rfl⟩
    obtain ⟨gY, hgY⟩ : ∃ gY, w7.heap.size + 1 = gY := ⟨_, rfl⟩
    rw [hW8] at kX bX bY ⊢
    rw [hgY] at bY ⊢
    rw [hgX] at bX ⊢
    have bO8 := kX.blk bO7 (by simp)
    have bR8 := kX.blk bR7 (by simp)
    have bC8 := kX.blk bC7 (by simp)
    have bL8 := kX.blk bL7 (by simp)
    have K8 := K7.trans kX (by simp)
    have HX2 : Hid (gO < gX ∧ gR < gX ∧ gC < gX ∧ gL < gX ∧ gY = gX + 1 ∧ w.heap.size ≤ gX ∧ w.heap.size ≤ gY) := Lib.hid (by have := bO7.lt; have := bR7.lt; have := bC7.lt; have := bL7.lt; have := K7.size; omega)
    clear hW8 hgX hgY kX bO7 bR7 bC7 bL7 K7
    obtain ⟨r0, r1, r2, r3, r4, r5, r6, rf, rl⟩ := bR8.o7
    obtain ⟨y0, y1, y2, y3, y4, y5, y6, yf, yl⟩ := bY.o7
    go_upto_block 0 with fail
    obtain ⟨r, hr⟩ : ∃ r, fd % 6 = r := ⟨_, rfl⟩
    have Hr : Hid (0 ≤ r ∧ r ≤ 5) := Lib.hid (by omega)
    rw [hr]
    clear hr
    have HY : Hid (OkB w y ∧ y.b.length ≤ 50 ∧ OkB w o ∧ o.b.length ≤ 50) := Lib.hid (by
      have h1 := H50.out
      have h2 := only_short (normV (1 + b) x)
      have h3 : (normV (1 + b) x).b.length ≤ x.b.length := by simp only [normV, List.length_take]; omega
      rw [← Hy.out] at h2
      refine ⟨?_, by omega, Ho.out.1, by omega⟩
      rw [Hy.out]
      exact only_okB (norm_okB Hx.out.1))
    go_cut [12] from 67 to 94 (fun s12 wx => s12 = .bool false ∧ ∃ z : OV, Blk wx gY [.int .i64 z.c, .string ⟨z.k.toArray⟩, .int .u64 (z.t : Int), .slice z.bA z.b.length z.bc, .int .i64 z.h, .int .i64 z.u, .int .i64 z.m] ∧ Keeps [gY] W8 wx ∧ Hid (OkB w z ∧ z.b.length ≤ 50))
    case first =>
      have bY' := bY
      rcases (by have := Hr.out; omega : r = 0 ∨ r = 1 ∨ r = 2 ∨ r = 3 ∨ r = 4 ∨ r = 5) with rfl | rfl | rfl | rfl | rfl | rfl
      · go_wp2_with fail
        go_meet
        exact ⟨rfl, { y with k := o.k }, bY'.set 1 _, (Keeps.refl _ _).setCell _ _ (.inl (by simp)), Lib.hid ⟨HY.out.1, HY.out.2.1⟩⟩
      · go_wp2_with fail
        go_meet
        exact ⟨rfl, { y with t := o.t }, bY'.set 2 _, (Keeps.refl _ _).setCell _ _ (.inl (by simp)), Lib.hid ⟨HY.out.1, HY.out.2.1⟩⟩
      · go_wp2_with fail
        go_meet
        exact ⟨rfl, { y with bA := o.bA, bc := o.bc, b := o.b }, bY'.set 3 _, (Keeps.refl _ _).setCell _ _ (.inl (by simp)), Lib.hid ⟨HY.out.2.2.1, HY.out.2.2.2⟩⟩
      · go_wp2_with fail
        go_meet
        exact ⟨rfl, { y with h := o.h }, bY'.set 4 _, (Keeps.refl _ _).setCell _ _ (.inl (by simp)), Lib.hid ⟨HY.out.1, HY.out.2.1⟩⟩
      · go_wp2_with fail
        go_meet
        exact ⟨rfl, { y with u := o.u }, bY'.set 5 _, (Keeps.refl _ _).setCell _ _ (.inl (by simp)), Lib.hid ⟨HY.out.1, HY.out.2.1⟩⟩
      · go_wp2_with fail
        go_meet
        exact ⟨rfl, { y with m := o.m }, bY'.set 6 _, (Keeps.refl _ _).setCell _ _ (.inl (by simp)), Lib.hid ⟨HY.out.1, HY.out.2.1⟩⟩
    case rest =>
      obtain ⟨rfl, z, bZ, kZ, Hz⟩ := hcut
      have bO9 := kZ.blk bO8 (by have := HX2.out; simp; omega)
      have bX9 := kZ.blk bX (by have := HX2.out; simp; omega)
      have bC9 := kZ.blk bC8 (by have := HX2.out; simp; omega)
      have bL9 := kZ.blk bL8 (by have := HX2.out; simp; omega)
      have K9 : Keeps [] w wc := K8.trans kZ (by have := HX2.out; simp; omega)
      clear bO8 bR8 bC8 bL8 bX bY kZ K8 r0 r1 r2 r3 r4 r5 r6 rf rl y0 y1 y2 y3 y4 y5 y6 yf yl
      obtain ⟨o0, o1, o2, o3, o4, o5, o6, of, ol⟩ := bO9.o7
      obtain ⟨y0, y1, y2, y3, y4, y5, y6, yf, yl⟩ := bX9.o7
      obtain ⟨z0, z1, z2, z3, z4, z5, z6, zf, zl⟩ := bZ.o7
      have kS := (Keeps.refl [] wc).alloc (.cells #[.int .i64 x.c, .string ⟨x.k.toArray⟩, .int .u64 (x.t : Int), .slice x.bA x.b.length x.bc, .int .i64 x.h, .int .i64 x.u, .int .i64 x.m, .int .i64 y.c, .string ⟨y.k.toArray⟩, .int .u64 (y.t : Int), .slice y.bA y.b.length y.bc, .int .i64 y.h, .int .i64 y.u, .int .i64 y.m, .int .i64 z.c, .string ⟨z.k.toArray⟩, .int .u64 (z.t : Int), .slice z.bA z.b.length z.bc, .int .i64 z.h, .int .i64 z.u, .int .i64 z.m] 25)
      have bS := Blk.new wc [.int .i64 x.c, .string ⟨x.k.toArray⟩, .int .u64 (x.t : Int), .slice x.bA x.b.length x.bc, .int .i64 x.h, .int .i64 x.u, .int .i64 x.m, .int .i64 y.c, .string ⟨y.k.toArray⟩, .int .u64 (y.t : Int), .slice y.bA y.b.length y.bc, .int .i64 y.h, .int .i64 y.u, .int .i64 y.m, .int .i64 z.c, .string ⟨z.k.toArray⟩, .int .u64 (z.t : Int), .slice z.bA z.b.length z.bc, .int .i64 z.h, .int .i64 z.u, .int .i64 z.m] 25
      have hSl := bO9.lt
      go_wp2_with fail
      obtain ⟨WL, hWL⟩ : ∃ WL, wc.alloc (.cells #[.int .i64 x.c, .string ⟨x.k.toArray⟩, .int .u64 (x.t : Int), .slice x.bA x.b.length x.bc, .int .i64 x.h, .int .i64 x.u, .int .i64 x.m, .int .i64 y.c, .string ⟨y.k.toArray⟩, .int .u64 (y.t : Int), .slice y.bA y.b.length y.bc, .int .i64 y.h, .int .i64 y.u, .int .i64 y.m, .int .i64 z.c, .string ⟨z.k.toArray⟩, .int .u64 (z.t : Int), .slice z.bA z.b.length z.bc, .int .i64 z.h, .int .i64 z.u, .int .i64 z.m] 25) = WL := ⟨_, rfl⟩
      obtain ⟨gS, hgS⟩ : ∃ gS, wc.heap.size = gS := ⟨_, rfl⟩
      rw [hWL] at kS bS ⊢
      rw [hgS] at bS ⊢
      have bX0 := kS.blk bX9 (by simp)
      have bC0 := kS.blk bC9 (by simp)
      have bL0 := kS.blk bL9 (by simp)
      have K0 := K9.trans kS (by simp)
      have HZ : ∀ k, k < 3 → ∃ u : OV, (∀ (j : Nat) (v : Value), (xCs u)[j]? = some v → WL.cell? ⟨gS, k * 7 + j, none⟩ = some v) ∧ OkB w u ∧ u.b.length ≤ 50 := by
        intro k hk
        obtain rfl | rfl | rfl : k = 0 ∨ k = 1 ∨ k = 2 := by omega
        · refine ⟨x, fun j v hj => ?_, Hx.out.1, by have := H50.out; omega⟩
          have hj7 : j < 7 := by have := (List.getElem?_eq_some_iff.1 hj).1; simpa [xCs] using this
          rw [bS.cell]
          obtain rfl | rfl | rfl | rfl | rfl | rfl | rfl : j = 0 ∨ j = 1 ∨ j = 2 ∨ j = 3 ∨ j = 4 ∨ j = 5 ∨ j = 6 := by omega
          all_goals exact hj
        · refine ⟨y, fun j v hj => ?_, HY.out.1, HY.out.2.1⟩
          have hj7 : j < 7 := by have := (List.getElem?_eq_some_iff.1 hj).1; simpa [xCs] using this
          rw [bS.cell]
          obtain rfl | rfl | rfl | rfl | rfl | rfl | rfl : j = 0 ∨ j = 1 ∨ j = 2 ∨ j = 3 ∨ j = 4 ∨ j = 5 ∨ j = 6 := by omega
          all_goals exact hj
        · refine ⟨z, fun j v hj => ?_, Hz.out.1, Hz.out.2⟩
          have hj7 : j < 7 := by have := (List.getElem?_eq_some_iff.1 hj).1; simpa [xCs] using this
          rw [bS.cell]
          obtain rfl | rfl | rfl | rfl | rfl | rfl | rfl : j = 0 ∨ j = 1 ∨ j = 2 ∨ j = 3 ∨ j = 4 ∨ j = 5 ∨ j = 6 := by omega
          all_goals exact hj
      have HZ := Lib.hid HZ
      have HLL : Hid (gX < WL.heap.size ∧ gC < WL.heap.size ∧ gL < WL.heap.size ∧ gS < WL.heap.size) := Lib.hid ⟨bX0.lt, bC0.lt, bL0.lt, bS.lt⟩
      clear hWL hgS kS bO9 bX9 bC9 bL9 bZ K9 hSl o0 o1 o2 o3 o4 o5 o6 of ol y0 y1 y2 y3 y4 y5 y6 yf yl z0 z1 z2 z3 z4 z5 z6 zf zl bS
      go_loopw [100] (fun i wr => ∃ k : Nat, k ≤ 3 ∧ i = .int .i64 k ∧ Keeps [] WL wr) (fun i _ => 3 - (intOf i).toNat)
      case atStart => exact ⟨0, by omega, rfl, Keeps.refl _ _⟩
      case round =>
        obtain ⟨k, hk, rfl, kp⟩ := hrel
        by_cases hlt : k < 3
        · obtain ⟨u, hu, hub, hul⟩ := HZ.out k hlt
          have q0 : wr.cell? ⟨gS, k * 7, none⟩ = some (.int .i64 u.c) := kp.cellEq (hu 0 _ rfl) (by simp)
          have q1 := kp.cellEq (hu 1 _ rfl) (by simp)
          have q2 := kp.cellEq (hu 2 _ rfl) (by simp)
          have q3 := kp.cellEq (hu 3 _ rfl) (by simp)
          have q4 := kp.cellEq (hu 4 _ rfl) (by simp)
          have q5 := kp.cellEq (hu 5 _ rfl) (by simp)
          have q6 := kp.cellEq (hu 6 _ rfl) (by simp)
          have bCr := kp.blk bC0 (by simp)
          have bXr := kp.blk bX0 (by simp)
          have bLr := kp.blk bL0 (by simp)
          have hub2 := (hub.keeps K0).keeps kp
          have HB := Lib.hid (And.intro hub2 hul)
          clear hu hub hul hub2
          have hk0 : (0 : Int) ≤ k := by omega
          have hk3 : (k : Int) < 3 := by omega
          have kU := (Keeps.refl [] wr).alloc (.cells #[.int .i64 u.c, .string ⟨u.k.toArray⟩, .int .u64 (u.t : Int), .slice u.bA u.b.length u.bc, .int .i64 u.h, .int .i64 u.u, .int .i64 u.m] 25)
          have bU := Blk.new wr [.int .i64 u.c, .string ⟨u.k.toArray⟩, .int .u64 (u.t : Int), .slice u.bA u.b.length u.bc, .int .i64 u.h, .int .i64 u.u, .int .i64 u.m] 25
          go_upto_region 23 with fail
          obtain ⟨W3, hW3⟩ : ∃ W3, wr.alloc (.cells #[.int .i64 u.c, .string ⟨u.k.toArray⟩, .int .u64 (u.t : Int), .slice u.bA u.b.length u.bc, .int .i64 u.h, .int .i64 u.u, .int .i64 u.m] 25) = W3 := ⟨_, rfl⟩
          obtain ⟨gU, hgU⟩ : ∃ gU, wr.heap.size = gU := ⟨_, rfl⟩
          rw [hW3] at kU bU ⊢
          rw [hgU] at bU ⊢
          have bC3 := kU.blk bCr (by simp)
          have bX3 := kU.blk bXr (by simp)
          have bL3 := kU.blk bLr (by simp)
          have K3 := kp.trans kU (by simp)
          have hub3 := HB.out.1.keeps kU
          have hul := HB.out.2
          clear hW3 hgU kU bCr bXr bLr kp q0 q1 q2 q3 q4 q5 q6
          obtain ⟨c0, c1, c2, c3, c4, c5, c6, cf, cl⟩ := bC3.o7
          obtain ⟨u0, u1, u2, u3, u4, u5, u6, uf, ul⟩ := bU.o7
          have hv := v22_any (1 + a) (1 + b) 100 100 200 4 1000 u W3 hub3 (by omega)
          have Hul := Lib.hid hul
          clear hul
          go_wp2_with fail
          refine hv.mono ?_
          rintro q w4 ⟨rfl, k4⟩
          have bC4 := k4.blk bC3 (by simp)
          have bX4 := k4.blk bX3 (by simp)
          have bL4 := k4.blk bL3 (by simp)
          have bU4 := k4.blk bU (by simp)
          have K4 := K3.trans k4 (by simp)
          have hub4 := hub3.keeps k4
          clear hv bC3 bX3 bL3 bU K3 hub3 k4 c0 c1 c2 c3 c4 c5 c6 cf cl u0 u1 u2 u3 u4 u5 u6 uf ul
          obtain ⟨c0, c1, c2, c3, c4, c5, c6, cf, cl⟩ := bC4.o7
          have hwa2 : wrap64 (1 + a + 2) = 1 + a + 2 := IntWalk.wrap64_in _ ⟨by have := Hab.out; omega, by have := Hab.out; omega⟩
          go_wp2_with fail
          refine (mod_any tr (1 + a + 2) Ht.out.2.2.1 Ht.out.2.2.2 (by have := Hab.out; omega) (by have := Hab.out; omega) _).mono ?_
          rintro q w5 ⟨rfl, rfl⟩
          obtain ⟨t, ht⟩ : ∃ t, tr % (1 + a + 2) = t := ⟨_, rfl⟩
          have h1 := Int.emod_nonneg tr (show 1 + a + 2 ≠ 0 by have := Hab.out; omega)
          have h2 := Int.emod_lt_of_pos tr (show 0 < 1 + a + 2 by have := Hab.out; omega)
          rw [ht] at h1 h2 ⊢
          obtain ⟨i, hi⟩ : ∃ i, t - 1 = i := ⟨_, rfl⟩
          have hwt : wrap64 (t - 1) = i := by rw [← hi]; exact IntWalk.wrap64_in _ ⟨by omega, by have := Hab.out; omega⟩
          clear ht hi h1 h2 c0 c1 c2 c3 c4 c5 c6 cf cl
          obtain ⟨l0, l1, l2, l3, l4, l5, l6, lf, ll⟩ := bL4.o7
          obtain ⟨y0, y1, y2, y3, y4, y5, y6, yf, yl⟩ := bX4.o7
          obtain ⟨u0, u1, u2, u3, u4, u5, u6, uf, ul⟩ := bU4.o7
          have kP := (Keeps.refl [] w4).alloc (.cells #[.int .i64 y.c, .string ⟨y.k.toArray⟩, .int .u64 (y.t : Int), .slice y.bA y.b.length y.bc, .int .i64 y.h, .int .i64 y.u, .int .i64 y.m, .int .i64 u.c, .string ⟨u.k.toArray⟩, .int .u64 (u.t : Int), .slice u.bA u.b.length u.bc, .int .i64 u.h, .int .i64 u.u, .int .i64 u.m] 25)
          have bP := Blk.new w4 [.int .i64 y.c, .string ⟨y.k.toArray⟩, .int .u64 (y.t : Int), .slice y.bA y.b.length y.bc, .int .i64 y.h, .int .i64 y.u, .int .i64 y.m, .int .i64 u.c, .string ⟨u.k.toArray⟩, .int .u64 (u.t : Int), .slice u.bA u.b.length u.bc, .int .i64 u.h, .int .i64 u.u, .int .i64 u.m] 25
          go_wp2_with fail
          obtain ⟨W6, hW6⟩ : ∃ W6, w4.alloc (.cells #[.int .i64 y.c, .string ⟨y.k.toArray⟩, .int .u64 (y.t : Int), .slice y.bA y.b.length y.bc, .int .i64 y.h, .int .i64 y.u, .int .i64 y.m, .int .i64 u.c, .string ⟨u.k.toArray⟩, .int .u64 (u.t : Int), .slice u.bA u.b.length u.bc, .int .i64 u.h, .int .i64 u.u, .int .i64 u.m] 25) = W6 := ⟨_, rfl⟩
          obtain ⟨gP, hgP⟩ : ∃ gP, w4.heap.size = gP := ⟨_, rfl⟩
          rw [hW6] at kP bP ⊢
          rw [hgP] at bP ⊢
          rw [hwt]
          have bC6 := kP.blk bC4 (by simp)
          have bX6 := kP.blk bX4 (by simp)
          have bU6 := kP.blk bU4 (by simp)
          have K6 := K4.trans kP (by simp)
          have hub6 := hub4.keeps kP
          have hyb6 : OkB W6 y := ((HY.out.1.keeps K0).keeps K6)
          clear hW6 hgP kP bC4 bX4 bL4 bU4 K4 hub4 hwt hwa2 l0 l1 l2 l3 l4 l5 l6 lf ll y0 y1 y2 y3 y4 y5 y6 yf yl u0 u1 u2 u3 u4 u5 u6 uf ul
          have hyv : vOp (1 + b) y.op = true := by rw [Hy.out]; exact norm_vld x (1 + b) (by have := Hab.out; omega)
          by_cases hin : 0 ≤ i ∧ i < 1 + a
          · have hc : Calls Tryz.prog 11 #[.agg #[.int .i64 (1 + a), .int .i64 (1 + b), .int .i64 100, .int .i64 100, .int .i64 200, .int .i64 4, .int .u64 1000], .int .i64 i, .slice (some ⟨gP, 0, none⟩) 2 2] W6 (CNewQ W6 (vProg (1 + b) ([y, u].map OV.op))) :=
              cnew_any (1 + a) (1 + b) 100 100 200 4 1000 HC.out i hin [y, u] (by simp) (by intro v hv; have := HY.out; have := Hul.out; simp at hv; rcases hv with rfl | rfl <;> omega) (some ⟨gP, 0, none⟩) 2 W6 (Lst.blk (rest := []) bP) (by intro v hv; simp at hv; rcases hv with rfl | rfl; exact hyb6; exact hub6)
            refine hc.mono ?_
            rintro q w7 ⟨k7, hq7⟩
            rw [vProg_two _ y u hyv] at hq7
            have bC7 := k7.blk bC6 (by simp)
            have bU7 := k7.blk bU6 (by simp)
            have K7 := K6.trans k7 (by simp)
            obtain ⟨c0, c1, c2, c3, c4, c5, c6, cf, cl⟩ := bC7.o7
            obtain ⟨u0, u1, u2, u3, u4, u5, u6, uf, ul⟩ := bU7.o7
            have hcv := cliValid_any (1 + a) (1 + b) 100 100 200 4 1000 u w7
            obtain ⟨hin1, hin2⟩ := hin
            clear hc k7 bC6 bX6 bU6 K6 hub6 hyb6 bP
            cases hok : vOp (1 + b) u.op
            · rw [hok, if_neg (by simp)] at hq7
              rw [hok] at hcv
              subst hq7
              clear hok
              go_wp2_with fail
              refine hcv.mono ?_
              rintro q w8 ⟨rfl, k8⟩
              go_wp2_with fail
              exact ⟨⟨k + 1, by omega, by go_num, K7.trans k8 (by simp)⟩, by simp [intOf]; omega⟩
            · rw [hok, if_pos rfl] at hq7
              rw [hok] at hcv
              obtain ⟨gc, rfl⟩ := hq7
              clear hok
              go_wp2_with fail
              refine hcv.mono ?_
              rintro q w8 ⟨rfl, k8⟩
              go_wp2_with fail
              exact ⟨⟨k + 1, by omega, by go_num, K7.trans k8 (by simp)⟩, by simp [intOf]; omega⟩
          · refine (cnew_out (1 + a) (1 + b) 100 100 200 4 1000 i hin (some ⟨gP, 0, none⟩) 2 2 W6).mono ?_
            rintro q w7 ⟨rfl, k7⟩
            have bC7 := k7.blk bC6 (by simp)
            have bU7 := k7.blk bU6 (by simp)
            have K7 := K6.trans k7 (by simp)
            obtain ⟨c0, c1, c2, c3, c4, c5, c6, cf, cl⟩ := bC7.o7
            obtain ⟨u0, u1, u2, u3, u4, u5, u6, uf, ul⟩ := bU7.o7
            have hcv := cliValid_any (1 + a) (1 + b) 100 100 200 4 1000 u w7
            have hin2 : ¬ 0 ≤ i ∨ (0 ≤ i ∧ ¬ i < 1 + a) := by omega
            clear k7 bC6 bX6 bU6 K6 hub6 hyb6 bP hin
            rcases hin2 with h1 | ⟨h1, h2⟩
            all_goals
              cases hok : vOp (1 + b) u.op
              all_goals
                rw [hok] at hcv
                clear hok
                go_wp2_with fail
                refine hcv.mono ?_
                rintro q w8 ⟨rfl, k8⟩
                go_wp2_with fail
                exact ⟨⟨k + 1, by omega, by go_num, K7.trans k8 (by simp)⟩, by simp [intOf]; omega⟩
        · obtain rfl : k = 3 := by omega
          have bCr := kp.blk bC0 (by simp)
          have bXr := kp.blk bX0 (by simp)
          obtain ⟨c0, c1, c2, c3, c4, c5, c6, cf, cl⟩ := bCr.o7
          obtain ⟨y0, y1, y2, y3, y4, y5, y6, yf, yl⟩ := bXr.o7
          have hyv : vOp (1 + b) y.op = true := by rw [Hy.out]; exact norm_vld x (1 + b) (by have := Hab.out; omega)
          have hcv := cliValid_any (1 + a) (1 + b) 100 100 200 4 1000 y wr
          rw [hyv] at hcv
          clear hyv
          go_wp2_with fail
          refine hcv.mono ?_
          rintro q w8 ⟨rfl, k8⟩
          go_wp2_with fail
          go_ret
          exact ⟨rfl, (K0.trans kp (by simp)).trans k8 (by simp)⟩
end Go.Proofs.YtjmhnlbkfbieaaaGreat
