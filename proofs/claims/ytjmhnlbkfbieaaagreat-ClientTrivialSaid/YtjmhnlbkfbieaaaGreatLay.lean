/- The contracts of package layout. -/
import Derived.Test.YtjmhnlbkfbieaaaGreatMem
import Derived.Deep.RegionHeld3
import Derived.Lib.Hide
namespace Go.Proofs.YtjmhnlbkfbieaaaGreat
open Go.RowKit
structure CfgOK (T S N C R F K : Int) : Prop where
  T0 : 1 ≤ T
  T1 : T ≤ 64
  S0 : 1 ≤ S
  S1 : S ≤ 8
  N0 : 1 ≤ N
  N1 : N ≤ 4096
  C0 : 1 ≤ C
  C1 : C ≤ 16384
  R0 : 1 ≤ R
  R1 : R ≤ 65536
  F0 : 4 ≤ F
  F1 : F ≤ 32
  K0 : 1 ≤ K
  K1 : K ≤ 1099511627776
theorem prod_bounds {a b A B : Int} (a0 : 0 ≤ a) (a1 : a ≤ A) (b0 : 0 ≤ b) (b1 : b ≤ B) : 0 ≤ a * b ∧ a * b ≤ A * B :=
  ⟨Int.mul_nonneg a0 b0, Int.mul_le_mul a1 b1 b0 (by omega)⟩
set_option maxHeartbeats 400000 in
theorem between_any (a lo hi : Int) (w : World) :
    Calls Tryz.prog 80 #[.int .i64 a, .int .i64 lo, .int .i64 hi] w fun e w' => e = .returned (.bool (decide (lo ≤ a) && decide (a ≤ hi))) ∧ w = w' := by
  by_cases h : lo ≤ a
  · by_cases h2 : a ≤ hi
    · have e : (decide (lo ≤ a) && decide (a ≤ hi)) = true := by simp [h, h2]
      rw [e]
      go_enter Tryz.func80, Tryz.ntmps80
      go_wp2
      go_ret
      exact ⟨rfl, rfl⟩
    · have e : (decide (lo ≤ a) && decide (a ≤ hi)) = false := by simp [h2]
      rw [e]
      go_enter Tryz.func80, Tryz.ntmps80
      go_wp2
      go_ret
      exact ⟨rfl, rfl⟩
  · have e : (decide (lo ≤ a) && decide (a ≤ hi)) = false := by simp [h]
    rw [e]
    go_enter Tryz.func80, Tryz.ntmps80
    go_wp2
    go_ret
    exact ⟨rfl, rfl⟩
set_option maxHeartbeats 400000 in
theorem config_any (T S N C R F K : Int) (w : World) :
    Calls Tryz.prog 23 #[.agg #[.int .i64 T, .int .i64 S, .int .i64 N, .int .i64 C, .int .i64 R, .int .i64 F, .int .u64 K]] w fun e w' => e = .returned (.agg #[.int .i64 T, .int .i64 S, .int .i64 N, .int .i64 C, .int .i64 R, .int .i64 F, .int .u64 K]) ∧ Keeps [] w w' := by
  go_enter Tryz.func23, Tryz.ntmps23
  go_wp2
  exact bodyPost_ret (v := .agg #[.int .i64 T, .int .i64 S, .int .i64 N, .int .i64 C, .int .i64 R, .int .i64 F, .int .u64 K]) (by simp [results, Tryz.results23, go_sem]) rfl ⟨rfl, (((Keeps.refl _ _).alloc _).alloc _)⟩
set_option maxHeartbeats 400000 in
theorem root_any (T S N C R F K : Int) (w : World) :
    Calls Tryz.prog 30 #[.agg #[.int .i64 T, .int .i64 S, .int .i64 N, .int .i64 C, .int .i64 R, .int .i64 F, .int .u64 K]] w fun e w' => e = .returned (.int .i64 0) ∧ Keeps [] w w' := by
  go_enter Tryz.func30, Tryz.ntmps30
  go_wp2
  go_ret
  exact ⟨rfl, (Keeps.refl _ _).alloc _⟩
set_option maxHeartbeats 400000 in
theorem nodes_any (T S N C R F K : Int) (w : World) :
    Calls Tryz.prog 31 #[.agg #[.int .i64 T, .int .i64 S, .int .i64 N, .int .i64 C, .int .i64 R, .int .i64 F, .int .u64 K]] w fun e w' => e = .returned (.int .i64 4) ∧ Keeps [] w w' := by
  go_enter Tryz.func31, Tryz.ntmps31
  go_wp2
  go_ret
  exact ⟨rfl, (Keeps.refl _ _).alloc _⟩
set_option maxHeartbeats 400000 in
theorem published_any (T S N C R F K : Int) (w : World) :
    Calls Tryz.prog 88 #[.agg #[.int .i64 T, .int .i64 S, .int .i64 N, .int .i64 C, .int .i64 R, .int .i64 F, .int .u64 K]] w fun e w' => e = .returned (.int .i64 2) ∧ Keeps [] w w' := by
  go_enter Tryz.func88, Tryz.ntmps88
  go_wp2
  go_ret
  exact ⟨rfl, (Keeps.refl _ _).alloc _⟩
set_option maxHeartbeats 400000 in
theorem firstNode_any (T S N C R F K : Int) (h : CfgOK T S N C R F K) (w : World) :
    Calls Tryz.prog 82 #[.agg #[.int .i64 T, .int .i64 S, .int .i64 N, .int .i64 C, .int .i64 R, .int .i64 F, .int .u64 K]] w fun e w' => e = .returned (.int .i64 (8 + T * S)) ∧ Keeps [] w w' := by
  obtain ⟨p0, p1⟩ := prod_bounds (by have := h.T0; omega) h.T1 (by have := h.S0; omega) h.S1
  go_enter Tryz.func82, Tryz.ntmps82
  go_wp2
  go_ret
  exact ⟨rfl, (Keeps.refl _ _).alloc _⟩
/-- The box of a layout. -/
theorem lay_box (T S N C R F K : Int) (w : World) (t : TypeId) : ∃ wb lb, wb = w.alloc (.cells #[.int .i64 T, .int .i64 S, .int .i64 N, .int .i64 C, .int .i64 R, .int .i64 F, .int .u64 K] t) ∧ lb = w.heap.size ∧ Blk wb lb [.int .i64 T, .int .i64 S, .int .i64 N, .int .i64 C, .int .i64 R, .int .i64 F, .int .u64 K] ∧ Keeps [] w wb :=
  ⟨_, _, rfl, rfl, Blk.new w [.int .i64 T, .int .i64 S, .int .i64 N, .int .i64 C, .int .i64 R, .int .i64 F, .int .u64 K] t, (Keeps.refl _ _).alloc _⟩
set_option maxHeartbeats 1000000 in
theorem firstChain_any (T S N C R F K : Int) (h : CfgOK T S N C R F K) (w : World) :
    Calls Tryz.prog 81 #[.agg #[.int .i64 T, .int .i64 S, .int .i64 N, .int .i64 C, .int .i64 R, .int .i64 F, .int .u64 K]] w fun e w' => e = .returned (.int .i64 (8 + T * S + N * (F + 4))) ∧ Keeps [] w w' := by
  obtain ⟨p0, p1⟩ := prod_bounds (by have := h.T0; omega) h.T1 (by have := h.S0; omega) h.S1
  obtain ⟨q0, q1⟩ := prod_bounds (a := N) (b := F + 4) (by have := h.N0; omega) h.N1 (by have := h.F0; omega) (show F + 4 ≤ 36 by have := h.F1; omega)
  have f0 := h.F0
  have f1 := h.F1
  have c0 := h.C0
  have c1 := h.C1
  have r0 := h.R0
  have r1 := h.R1
  have e0 : IntKind.i64.wrap (F + 4) = F + 4 := IntWalk.i64_in _ ⟨by omega, by omega⟩
  have e1 : IntKind.i64.wrap (N * (F + 4)) = N * (F + 4) := IntWalk.i64_in _ ⟨by omega, by omega⟩
  have e2 : IntKind.i64.wrap (8 + T * S + N * (F + 4)) = 8 + T * S + N * (F + 4) := IntWalk.i64_in _ ⟨by omega, by omega⟩
  go_enter Tryz.func81, Tryz.ntmps81
  go_wp2_with fail
  obtain ⟨wb, lb, hwb, hlb, hb, kb⟩ := lay_box T S N C R F K w 31
  rw [← hwb, ← hlb]
  have d0 := hb.cell 0
  have d1 := hb.cell 1
  have d2 := hb.cell 2
  have d3 := hb.cell 3
  have d4 := hb.cell 4
  have d5 := hb.cell 5
  have d6 := hb.cell 6
  simp only [List.getElem?_cons_zero, List.getElem?_cons_succ] at d0 d1 d2 d3 d4 d5 d6
  clear hwb hlb p0 p1 q0 q1 f0 f1 c0 c1 r0 r1
  go_region_held3 (fun w' => w'.cell? ⟨lb, 0, none⟩ = some (.int .i64 T) ∧ w'.cell? ⟨lb, 1, none⟩ = some (.int .i64 S) ∧ w'.cell? ⟨lb, 2, none⟩ = some (.int .i64 N) ∧ w'.cell? ⟨lb, 3, none⟩ = some (.int .i64 C) ∧ w'.cell? ⟨lb, 4, none⟩ = some (.int .i64 R) ∧ w'.cell? ⟨lb, 5, none⟩ = some (.int .i64 F) ∧ w'.cell? ⟨lb, 6, none⟩ = some (.int .u64 K))
    (first
      | go_keep
      | exact ⟨k1.cellEq d0 (by simp), k1.cellEq d1 (by simp), k1.cellEq d2 (by simp), k1.cellEq d3 (by simp), k1.cellEq d4 (by simp), k1.cellEq d5 (by simp), k1.cellEq d6 (by simp)⟩)
    ((go_at_call 82; refine (firstNode_any T S N C R F K h _).mono ?_; rintro e w1 ⟨rfl, k1⟩))
  all_goals (go_wp2_with fail; go_ret; exact ⟨rfl, kb.trans k1.undrew (by simp)⟩)
set_option maxHeartbeats 1000000 in
theorem firstRecord_any (T S N C R F K : Int) (h : CfgOK T S N C R F K) (w : World) :
    Calls Tryz.prog 45 #[.agg #[.int .i64 T, .int .i64 S, .int .i64 N, .int .i64 C, .int .i64 R, .int .i64 F, .int .u64 K]] w fun e w' => e = .returned (.int .i64 (8 + T * S + N * (F + 4) + C)) ∧ Keeps [] w w' := by
  obtain ⟨p0, p1⟩ := prod_bounds (by have := h.T0; omega) h.T1 (by have := h.S0; omega) h.S1
  obtain ⟨q0, q1⟩ := prod_bounds (a := N) (b := F + 4) (by have := h.N0; omega) h.N1 (by have := h.F0; omega) (show F + 4 ≤ 36 by have := h.F1; omega)
  have f0 := h.F0
  have f1 := h.F1
  have c0 := h.C0
  have c1 := h.C1
  have r0 := h.R0
  have r1 := h.R1
  have e0 : IntKind.i64.wrap (8 + T * S + N * (F + 4) + C) = 8 + T * S + N * (F + 4) + C := IntWalk.i64_in _ ⟨by omega, by omega⟩
  go_enter Tryz.func45, Tryz.ntmps45
  go_wp2_with fail
  obtain ⟨wb, lb, hwb, hlb, hb, kb⟩ := lay_box T S N C R F K w 31
  rw [← hwb, ← hlb]
  have d0 := hb.cell 0
  have d1 := hb.cell 1
  have d2 := hb.cell 2
  have d3 := hb.cell 3
  have d4 := hb.cell 4
  have d5 := hb.cell 5
  have d6 := hb.cell 6
  simp only [List.getElem?_cons_zero, List.getElem?_cons_succ] at d0 d1 d2 d3 d4 d5 d6
  clear hwb hlb p0 p1 q0 q1 f0 f1 c0 c1 r0 r1
  go_region_held3 (fun w' => w'.cell? ⟨lb, 0, none⟩ = some (.int .i64 T) ∧ w'.cell? ⟨lb, 1, none⟩ = some (.int .i64 S) ∧ w'.cell? ⟨lb, 2, none⟩ = some (.int .i64 N) ∧ w'.cell? ⟨lb, 3, none⟩ = some (.int .i64 C) ∧ w'.cell? ⟨lb, 4, none⟩ = some (.int .i64 R) ∧ w'.cell? ⟨lb, 5, none⟩ = some (.int .i64 F) ∧ w'.cell? ⟨lb, 6, none⟩ = some (.int .u64 K))
    (first
      | go_keep
      | exact ⟨k1.cellEq d0 (by simp), k1.cellEq d1 (by simp), k1.cellEq d2 (by simp), k1.cellEq d3 (by simp), k1.cellEq d4 (by simp), k1.cellEq d5 (by simp), k1.cellEq d6 (by simp)⟩)
    ((go_at_call 81; refine (firstChain_any T S N C R F K h _).mono ?_; rintro e w1 ⟨rfl, k1⟩))
  all_goals (go_wp2_with fail; go_ret; exact ⟨rfl, kb.trans k1.undrew (by simp)⟩)
set_option maxHeartbeats 1000000 in
theorem layCells_any (T S N C R F K : Int) (h : CfgOK T S N C R F K) (w : World) :
    Calls Tryz.prog 28 #[.agg #[.int .i64 T, .int .i64 S, .int .i64 N, .int .i64 C, .int .i64 R, .int .i64 F, .int .u64 K]] w fun e w' => e = .returned (.int .i64 (8 + T * S + N * (F + 4) + C + 3 * R)) ∧ Keeps [] w w' := by
  obtain ⟨p0, p1⟩ := prod_bounds (by have := h.T0; omega) h.T1 (by have := h.S0; omega) h.S1
  obtain ⟨q0, q1⟩ := prod_bounds (a := N) (b := F + 4) (by have := h.N0; omega) h.N1 (by have := h.F0; omega) (show F + 4 ≤ 36 by have := h.F1; omega)
  have f0 := h.F0
  have f1 := h.F1
  have c0 := h.C0
  have c1 := h.C1
  have r0 := h.R0
  have r1 := h.R1
  have e0 : IntKind.i64.wrap (3 * R) = 3 * R := IntWalk.i64_in _ ⟨by omega, by omega⟩
  have e1 : IntKind.i64.wrap (8 + T * S + N * (F + 4) + C + 3 * R) = 8 + T * S + N * (F + 4) + C + 3 * R := IntWalk.i64_in _ ⟨by omega, by omega⟩
  go_enter Tryz.func28, Tryz.ntmps28
  go_wp2_with fail
  obtain ⟨wb, lb, hwb, hlb, hb, kb⟩ := lay_box T S N C R F K w 31
  rw [← hwb, ← hlb]
  have d0 := hb.cell 0
  have d1 := hb.cell 1
  have d2 := hb.cell 2
  have d3 := hb.cell 3
  have d4 := hb.cell 4
  have d5 := hb.cell 5
  have d6 := hb.cell 6
  simp only [List.getElem?_cons_zero, List.getElem?_cons_succ] at d0 d1 d2 d3 d4 d5 d6
  clear hwb hlb p0 p1 q0 q1 f0 f1 c0 c1 r0 r1
  go_region_held3 (fun w' => w'.cell? ⟨lb, 0, none⟩ = some (.int .i64 T) ∧ w'.cell? ⟨lb, 1, none⟩ = some (.int .i64 S) ∧ w'.cell? ⟨lb, 2, none⟩ = some (.int .i64 N) ∧ w'.cell? ⟨lb, 3, none⟩ = some (.int .i64 C) ∧ w'.cell? ⟨lb, 4, none⟩ = some (.int .i64 R) ∧ w'.cell? ⟨lb, 5, none⟩ = some (.int .i64 F) ∧ w'.cell? ⟨lb, 6, none⟩ = some (.int .u64 K))
    (first
      | go_keep
      | exact ⟨k1.cellEq d0 (by simp), k1.cellEq d1 (by simp), k1.cellEq d2 (by simp), k1.cellEq d3 (by simp), k1.cellEq d4 (by simp), k1.cellEq d5 (by simp), k1.cellEq d6 (by simp)⟩)
    ((go_at_call 45; refine (firstRecord_any T S N C R F K h _).mono ?_; rintro e w1 ⟨rfl, k1⟩))
  all_goals (go_wp2_with fail; go_ret; exact ⟨rfl, kb.trans k1.undrew (by simp)⟩)
set_option maxHeartbeats 1000000 in
theorem snapshot_yes (T S N C R F K : Int) (h : CfgOK T S N C R F K) (t j : Int) (t0 : 0 ≤ t) (t1 : t < T) (j0 : 0 ≤ j) (j1 : j < S) (w : World) :
    Calls Tryz.prog 66 #[.agg #[.int .i64 T, .int .i64 S, .int .i64 N, .int .i64 C, .int .i64 R, .int .i64 F, .int .u64 K], .int .i64 t, .int .i64 j] w fun e w' => e = .returned (.int .i64 (8 + t * S + j)) ∧ Keeps [] w w' := by
  have bT := h.T1
  have bS := h.S1
  obtain ⟨p0, p1⟩ := prod_bounds (a := t) (b := S) (A := 64) (B := 8) t0 (by omega) (by omega) bS
  have E1 := Lib.hid (show (decide (0 ≤ t) && decide (t ≤ T - 1)) = true by simp; omega)
  have E2 := Lib.hid (show (decide (0 ≤ j) && decide (j ≤ S - 1)) = true by simp; omega)
  go_enter Tryz.func66, Tryz.ntmps66
  go_wp2_with fail
  refine (between_any t 0 (T - 1) _).mono ?_
  rintro e w1 ⟨rfl, rfl⟩
  rw [E1.out]
  go_wp2_with fail
  refine (between_any j 0 (S - 1) _).mono ?_
  rintro e w1 ⟨rfl, rfl⟩
  rw [E2.out]
  go_wp2_with fail
  go_ret
  exact ⟨rfl, (Keeps.refl _ _).alloc _⟩
set_option maxHeartbeats 1000000 in
theorem node_any (T S N C R F K : Int) (h : CfgOK T S N C R F K) (i k : Int) (i0 : 1 ≤ i) (i1 : i ≤ N) (k0 : 0 ≤ k) (k1 : k ≤ 64) (w : World) :
    Calls Tryz.prog 47 #[.agg #[.int .i64 T, .int .i64 S, .int .i64 N, .int .i64 C, .int .i64 R, .int .i64 F, .int .u64 K], .int .u64 i, .int .i64 k] w fun e w' => e = .returned (.int .i64 (8 + T * S + (i - 1) * (F + 4) + k)) ∧ Keeps [] w w' := by
  obtain ⟨p0, p1⟩ := prod_bounds (by have := h.T0; omega) h.T1 (by have := h.S0; omega) h.S1
  obtain ⟨q0, q1⟩ := prod_bounds (a := N) (b := F + 4) (by have := h.N0; omega) h.N1 (by have := h.F0; omega) (show F + 4 ≤ 36 by have := h.F1; omega)
  have f0 := h.F0
  have f1 := h.F1
  have c0 := h.C0
  have c1 := h.C1
  have r0 := h.R0
  have r1 := h.R1
  have n1 := h.N1
  obtain ⟨s0, s1⟩ := prod_bounds (a := i - 1) (b := F + 4) (A := 4096) (B := 36) (by omega) (by omega) (by omega) (by omega)
  have e0 : IntKind.i64.wrap (F + 4) = F + 4 := IntWalk.i64_in _ ⟨by omega, by omega⟩
  have e1 : IntKind.i64.wrap ((i - 1) * (F + 4)) = (i - 1) * (F + 4) := IntWalk.i64_in _ ⟨by omega, by omega⟩
  have e2 : IntKind.i64.wrap (8 + T * S + (i - 1) * (F + 4)) = 8 + T * S + (i - 1) * (F + 4) := IntWalk.i64_in _ ⟨by omega, by omega⟩
  have e3 : IntKind.i64.wrap (8 + T * S + (i - 1) * (F + 4) + k) = 8 + T * S + (i - 1) * (F + 4) + k := IntWalk.i64_in _ ⟨by omega, by omega⟩
  have e4 : IntKind.u64.wrap (i - 1) = i - 1 := IntWalk.u64_in _ ⟨by omega, by omega⟩
  have e5 : IntKind.i64.wrap (i - 1) = i - 1 := IntWalk.i64_in _ ⟨by omega, by omega⟩
  go_enter Tryz.func47, Tryz.ntmps47
  go_wp2_with fail
  obtain ⟨wb, lb, hwb, hlb, hb, kb⟩ := lay_box T S N C R F K w 31
  rw [← hwb, ← hlb]
  have d0 := hb.cell 0
  have d1 := hb.cell 1
  have d2 := hb.cell 2
  have d3 := hb.cell 3
  have d4 := hb.cell 4
  have d5 := hb.cell 5
  have d6 := hb.cell 6
  simp only [List.getElem?_cons_zero, List.getElem?_cons_succ] at d0 d1 d2 d3 d4 d5 d6
  clear hwb hlb p0 p1 q0 q1 f0 f1 c0 c1 r0 r1 s0 s1
  go_region_held3 (fun w' => w'.cell? ⟨lb, 0, none⟩ = some (.int .i64 T) ∧ w'.cell? ⟨lb, 1, none⟩ = some (.int .i64 S) ∧ w'.cell? ⟨lb, 2, none⟩ = some (.int .i64 N) ∧ w'.cell? ⟨lb, 3, none⟩ = some (.int .i64 C) ∧ w'.cell? ⟨lb, 4, none⟩ = some (.int .i64 R) ∧ w'.cell? ⟨lb, 5, none⟩ = some (.int .i64 F) ∧ w'.cell? ⟨lb, 6, none⟩ = some (.int .u64 K))
    (first
      | go_keep
      | exact ⟨k1.cellEq d0 (by simp), k1.cellEq d1 (by simp), k1.cellEq d2 (by simp), k1.cellEq d3 (by simp), k1.cellEq d4 (by simp), k1.cellEq d5 (by simp), k1.cellEq d6 (by simp)⟩)
    ((go_at_call 82; refine (firstNode_any T S N C R F K h _).mono ?_; rintro e w1 ⟨rfl, k1⟩))
  all_goals (go_wp2_with fail; go_ret; exact ⟨rfl, kb.trans k1.undrew (by simp)⟩)
set_option maxHeartbeats 1000000 in
theorem valid_yes (T S N C R F K : Int) (h : CfgOK T S N C R F K) (w : World) :
    Calls Tryz.prog 44 #[.agg #[.int .i64 T, .int .i64 S, .int .i64 N, .int .i64 C, .int .i64 R, .int .i64 F, .int .u64 K]] w fun e w' => e = .returned (.bool true) ∧ Keeps [] w w' := by
  have E1 := Lib.hid (show (decide (1 ≤ T) && decide (T ≤ 64)) = true by have := h.T0; have := h.T1; simp; omega)
  have E2 := Lib.hid (show (decide (1 ≤ S) && decide (S ≤ 8)) = true by have := h.S0; have := h.S1; simp; omega)
  have E3 := Lib.hid (show (decide (1 ≤ N) && decide (N ≤ 4096)) = true by have := h.N0; have := h.N1; simp; omega)
  have E4 := Lib.hid (show (decide (1 ≤ C) && decide (C ≤ 16384)) = true by have := h.C0; have := h.C1; simp; omega)
  have E5 := Lib.hid (show (decide (1 ≤ R) && decide (R ≤ 65536)) = true by have := h.R0; have := h.R1; simp; omega)
  have E6 := Lib.hid (show (decide (4 ≤ F) && decide (F ≤ 32)) = true by have := h.F0; have := h.F1; simp; omega)
  have hK0 := h.K0
  have hK1 := h.K1
  go_enter Tryz.func44, Tryz.ntmps44
  go_wp2_with fail
  refine (between_any T 1 64 _).mono ?_
  rintro e w1 ⟨rfl, rfl⟩
  rw [E1.out]
  go_wp2_with fail
  refine (between_any S 1 8 _).mono ?_
  rintro e w2 ⟨rfl, rfl⟩
  rw [E2.out]
  go_wp2_with fail
  refine (between_any N 1 4096 _).mono ?_
  rintro e w3 ⟨rfl, rfl⟩
  rw [E3.out]
  go_wp2_with fail
  refine (between_any C 1 16384 _).mono ?_
  rintro e w4 ⟨rfl, rfl⟩
  rw [E4.out]
  go_wp2_with fail
  refine (between_any R 1 65536 _).mono ?_
  rintro e w5 ⟨rfl, rfl⟩
  rw [E5.out]
  go_wp2_with fail
  refine (between_any F 4 32 _).mono ?_
  rintro e w6 ⟨rfl, rfl⟩
  rw [E6.out]
  go_wp2_with fail
  go_ret
  exact ⟨rfl, (Keeps.refl _ _).alloc _⟩
set_option maxHeartbeats 1000000 in
theorem layNew_yes (T S N C R F K : Int) (h : CfgOK T S N C R F K) (w : World) :
    Calls Tryz.prog 26 #[.agg #[.int .i64 T, .int .i64 S, .int .i64 N, .int .i64 C, .int .i64 R, .int .i64 F, .int .u64 K]] w fun e w' => e = .returned (.tuple #[.agg #[.int .i64 T, .int .i64 S, .int .i64 N, .int .i64 C, .int .i64 R, .int .i64 F, .int .u64 K], .int .i64 0]) ∧ Keeps [] w w' := by
  go_enter Tryz.func26, Tryz.ntmps26
  go_wp2_with fail
  refine (valid_yes T S N C R F K h _).mono ?_
  rintro e w1 ⟨rfl, k1⟩
  have hb := k1.blk ((Blk.new w [.int .i64 T, .int .i64 S, .int .i64 N, .int .i64 C, .int .i64 R, .int .i64 F, .int .u64 K] 27).alloc (.cells #[.int .i64 0, .int .i64 0, .int .i64 0, .int .i64 0, .int .i64 0, .int .i64 0, .int .u64 0] 31)) (by simp)
  have hr := k1.blk (Blk.new_at (w.alloc (.cells #[.int .i64 T, .int .i64 S, .int .i64 N, .int .i64 C, .int .i64 R, .int .i64 F, .int .u64 K] 27)) (w.heap.size + 1) [.int .i64 0, .int .i64 0, .int .i64 0, .int .i64 0, .int .i64 0, .int .i64 0, .int .u64 0] 31 (by simp)) (by simp)
  have d0 := hb.cell 0
  have d1 := hb.cell 1
  have d2 := hb.cell 2
  have d3 := hb.cell 3
  have d4 := hb.cell 4
  have d5 := hb.cell 5
  have d6 := hb.cell 6
  have r0 := hr.cell 0
  have r1 := hr.cell 1
  have r2 := hr.cell 2
  have r3 := hr.cell 3
  have r4 := hr.cell 4
  have r5 := hr.cell 5
  have r6 := hr.cell 6
  simp only [List.getElem?_cons_zero, List.getElem?_cons_succ] at d0 d1 d2 d3 d4 d5 d6 r0 r1 r2 r3 r4 r5 r6
  have rf := hr.frozen
  have rl := hr.lt
  have K1 := (((Keeps.refl [] w).alloc (.cells #[.int .i64 T, .int .i64 S, .int .i64 N, .int .i64 C, .int .i64 R, .int .i64 F, .int .u64 K] 27)).alloc (.cells #[.int .i64 0, .int .i64 0, .int .i64 0, .int .i64 0, .int .i64 0, .int .i64 0, .int .u64 0] 31)).trans k1 (by simp)
  go_wp2_with fail
  exact bodyPost_ret (v := .tuple #[.agg #[.int .i64 T, .int .i64 S, .int .i64 N, .int .i64 C, .int .i64 R, .int .i64 F, .int .u64 K], .int .i64 0]) (by simp [results, Tryz.results26, go_sem, *]) rfl ⟨rfl, (((((((K1.setCell _ _ (.inr (by simp))).setCell _ _ (.inr (by simp))).setCell _ _ (.inr (by simp))).setCell _ _ (.inr (by simp))).setCell _ _ (.inr (by simp))).setCell _ _ (.inr (by simp))).setCell _ _ (.inr (by simp)))⟩
end Go.Proofs.YtjmhnlbkfbieaaaGreat
