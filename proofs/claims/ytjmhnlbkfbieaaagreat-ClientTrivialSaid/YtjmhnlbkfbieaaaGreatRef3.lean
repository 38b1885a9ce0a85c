/- The contracts of blinktreeref3's beginnings of regions. -/
import Derived.Test.YtjmhnlbkfbieaaaGreatLay
namespace Go.Proofs.YtjmhnlbkfbieaaaGreat
open Go.RowKit
set_option maxHeartbeats 400000 in
theorem refA_any (T S N C R F K : Int) (h : CfgOK T S N C R F K) (w : World) :
    Calls Tryz.prog 83 #[.agg #[.int .i64 T, .int .i64 S, .int .i64 N, .int .i64 C, .int .i64 R, .int .i64 F, .int .u64 K]] w fun e w' => e = .returned (.int .i64 (8 + T * S)) ∧ Keeps [] w w' := by
  obtain ⟨p0, p1⟩ := prod_bounds (by have := h.T0; omega) h.T1 (by have := h.S0; omega) h.S1
  go_enter Tryz.func83, Tryz.ntmps83
  go_wp2
  go_ret
  exact ⟨rfl, (Keeps.refl _ _).alloc _⟩
set_option maxHeartbeats 1000000 in
theorem refB_any (T S N C R F K : Int) (h : CfgOK T S N C R F K) (w : World) :
    Calls Tryz.prog 48 #[.agg #[.int .i64 T, .int .i64 S, .int .i64 N, .int .i64 C, .int .i64 R, .int .i64 F, .int .u64 K]] w fun e w' => e = .returned (.int .i64 (8 + T * S + N * (F + 4))) ∧ Keeps [] w w' := by
  obtain ⟨p0, p1⟩ := prod_bounds (by have := h.T0; omega) h.T1 (by have := h.S0; omega) h.S1
  obtain ⟨q0, q1⟩ := prod_bounds (a := N) (b := F + 4) (by have := h.N0; omega) h.N1 (by have := h.F0; omega) (show F + 4 ≤ 36 by have := h.F1; omega)
  have f0 := h.F0
  have f1 := h.F1
  have c0 := h.C0
  have c1 := h.C1
  have r0 := h.R0
  have r1 := h.R1
  have e0 : IntKind.i64.wrap (F + 4) = F + 4 := IntWalk.i64_in _ ⟨by omega, by omega⟩
  have e1 : IntKind.i64.wrap (N * (F + 4)) = N * (F + 4) := IntWalk.i64_in _ ⟨by omega, by omega⟩
  have e2 : IntKind.i64.wrap (8 + T * S + N * (F + 4)) = 8 + T * S + N * (F + 4) := IntWalk.i64_in _ ⟨by omega, by omega⟩
  go_enter Tryz.func48, Tryz.ntmps48
  go_wp2_with fail
  obtain ⟨wb, lb, hwb, hlb, hb, kb⟩ := lay_box T S N C R F K w 27
  rw [← hwb, ← hlb]
  have d0 := hb.cell 0
  have d1 := hb.cell 1
  have d2 := hb.cell 2
  have d3 := hb.cell 3
  have d4 := hb.cell 4
  have d5 := hb.cell 5
  have d6 := hb.cell 6
  simp only [List.getElem?_cons_zero, List.getElem?_cons_succ] at d0 d1 d2 d3 d4 d5 d6
  clear hwb hlb p0 p1 q0 q1 f0 f1 c0 c1 r0 r1
  go_region_held3 (fun w' => w'.cell? ⟨lb, 0, none⟩ = some (.int .i64 T) ∧ w'.cell? ⟨lb, 1, none⟩ = some (.int .i64 S) ∧ w'.cell? ⟨lb, 2, none⟩ = some (.int .i64 N) ∧ w'.cell? ⟨lb, 3, none⟩ = some (.int .i64 C) ∧ w'.cell? ⟨lb, 4, none⟩ = some (.int .i64 R) ∧ w'.cell? ⟨lb, 5, none⟩ = some (.int .i64 F) ∧ w'.cell? ⟨lb, 6, none⟩ = some (.int .u64 K))
    (first
      | go_keep
      | exact ⟨k1.cellEq d0 (by simp), k1.cellEq d1 (by simp), k1.cellEq d2 (by simp), k1.cellEq d3 (by simp), k1.cellEq d4 (by simp), k1.cellEq d5 (by simp), k1.cellEq d6 (by simp)⟩)
    ((go_at_call 83; refine (refA_any T S N C R F K h _).mono ?_; rintro e w1 ⟨rfl, k1⟩))
  all_goals (go_wp2_with fail; go_ret; exact ⟨rfl, kb.trans k1.undrew (by simp)⟩)
set_option maxHeartbeats 1000000 in
theorem refC_any (T S N C R F K : Int) (h : CfgOK T S N C R F K) (w : World) :
    Calls Tryz.prog 33 #[.agg #[.int .i64 T, .int .i64 S, .int .i64 N, .int .i64 C, .int .i64 R, .int .i64 F, .int .u64 K]] w fun e w' => e = .returned (.int .i64 (8 + T * S + N * (F + 4) + C)) ∧ Keeps [] w w' := by
  obtain ⟨p0, p1⟩ := prod_bounds (by have := h.T0; omega) h.T1 (by have := h.S0; omega) h.S1
  obtain ⟨q0, q1⟩ := prod_bounds (a := N) (b := F + 4) (by have := h.N0; omega) h.N1 (by have := h.F0; omega) (show F + 4 ≤ 36 by have := h.F1; omega)
  have f0 := h.F0
  have f1 := h.F1
  have c0 := h.C0
  have c1 := h.C1
  have r0 := h.R0
  have r1 := h.R1
  have e0 : IntKind.i64.wrap (8 + T * S + N * (F + 4) + C) = 8 + T * S + N * (F + 4) + C := IntWalk.i64_in _ ⟨by omega, by omega⟩
  go_enter Tryz.func33, Tryz.ntmps33
  go_wp2_with fail
  obtain ⟨wb, lb, hwb, hlb, hb, kb⟩ := lay_box T S N C R F K w 27
  rw [← hwb, ← hlb]
  have d0 := hb.cell 0
  have d1 := hb.cell 1
  have d2 := hb.cell 2
  have d3 := hb.cell 3
  have d4 := hb.cell 4
  have d5 := hb.cell 5
  have d6 := hb.cell 6
  simp only [List.getElem?_cons_zero, List.getElem?_cons_succ] at d0 d1 d2 d3 d4 d5 d6
  clear hwb hlb p0 p1 q0 q1 f0 f1 c0 c1 r0 r1
  go_region_held3 (fun w' => w'.cell? ⟨lb, 0, none⟩ = some (.int .i64 T) ∧ w'.cell? ⟨lb, 1, none⟩ = some (.int .i64 S) ∧ w'.cell? ⟨lb, 2, none⟩ = some (.int .i64 N) ∧ w'.cell? ⟨lb, 3, none⟩ = some (.int .i64 C) ∧ w'.cell? ⟨lb, 4, none⟩ = some (.int .i64 R) ∧ w'.cell? ⟨lb, 5, none⟩ = some (.int .i64 F) ∧ w'.cell? ⟨lb, 6, none⟩ = some (.int .u64 K))
    (first
      | go_keep
      | exact ⟨k1.cellEq d0 (by simp), k1.cellEq d1 (by simp), k1.cellEq d2 (by simp), k1.cellEq d3 (by simp), k1.cellEq d4 (by simp), k1.cellEq d5 (by simp), k1.cellEq d6 (by simp)⟩)
    ((go_at_call 48; refine (refB_any T S N C R F K h _).mono ?_; rintro e w1 ⟨rfl, k1⟩))
  all_goals (go_wp2_with fail; go_ret; exact ⟨rfl, kb.trans k1.undrew (by simp)⟩)
set_option maxHeartbeats 1000000 in
theorem refCells_any (T S N C R F K : Int) (h : CfgOK T S N C R F K) (w : World) :
    Calls Tryz.prog 19 #[.agg #[.int .i64 T, .int .i64 S, .int .i64 N, .int .i64 C, .int .i64 R, .int .i64 F, .int .u64 K]] w fun e w' => e = .returned (.int .i64 (8 + T * S + N * (F + 4) + C + 3 * R)) ∧ Keeps [] w w' := by
  obtain ⟨p0, p1⟩ := prod_bounds (by have := h.T0; omega) h.T1 (by have := h.S0; omega) h.S1
  obtain ⟨q0, q1⟩ := prod_bounds (a := N) (b := F + 4) (by have := h.N0; omega) h.N1 (by have := h.F0; omega) (show F + 4 ≤ 36 by have := h.F1; omega)
  have f0 := h.F0
  have f1 := h.F1
  have c0 := h.C0
  have c1 := h.C1
  have r0 := h.R0
  have r1 := h.R1
  have e0 : IntKind.i64.wrap (3 * R) = 3 * R := IntWalk.i64_in _ ⟨by omega, by omega⟩
  have e1 : IntKind.i64.wrap (8 + T * S + N * (F + 4) + C + 3 * R) = 8 + T * S + N * (F + 4) + C + 3 * R := IntWalk.i64_in _ ⟨by omega, by omega⟩
  go_enter Tryz.func19, Tryz.ntmps19
  go_wp2_with fail
  obtain ⟨wb, lb, hwb, hlb, hb, kb⟩ := lay_box T S N C R F K w 27
  rw [← hwb, ← hlb]
  have d0 := hb.cell 0
  have d1 := hb.cell 1
  have d2 := hb.cell 2
  have d3 := hb.cell 3
  have d4 := hb.cell 4
  have d5 := hb.cell 5
  have d6 := hb.cell 6
  simp only [List.getElem?_cons_zero, List.getElem?_cons_succ] at d0 d1 d2 d3 d4 d5 d6
  clear hwb hlb p0 p1 q0 q1 f0 f1 c0 c1 r0 r1
  go_region_held3 (fun w' => w'.cell? ⟨lb, 0, none⟩ = some (.int .i64 T) ∧ w'.cell? ⟨lb, 1, none⟩ = some (.int .i64 S) ∧ w'.cell? ⟨lb, 2, none⟩ = some (.int .i64 N) ∧ w'.cell? ⟨lb, 3, none⟩ = some (.int .i64 C) ∧ w'.cell? ⟨lb, 4, none⟩ = some (.int .i64 R) ∧ w'.cell? ⟨lb, 5, none⟩ = some (.int .i64 F) ∧ w'.cell? ⟨lb, 6, none⟩ = some (.int .u64 K))
    (first
      | go_keep
      | exact ⟨k1.cellEq d0 (by simp), k1.cellEq d1 (by simp), k1.cellEq d2 (by simp), k1.cellEq d3 (by simp), k1.cellEq d4 (by simp), k1.cellEq d5 (by simp), k1.cellEq d6 (by simp)⟩)
    ((go_at_call 33; refine (refC_any T S N C R F K h _).mono ?_; rintro e w1 ⟨rfl, k1⟩))
  all_goals (go_wp2_with fail; go_ret; exact ⟨rfl, kb.trans k1.undrew (by simp)⟩)
end Go.Proofs.YtjmhnlbkfbieaaaGreat
