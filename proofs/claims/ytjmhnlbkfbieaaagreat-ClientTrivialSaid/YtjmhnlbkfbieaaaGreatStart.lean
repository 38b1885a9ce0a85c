/- The contract of layout.Start. -/
import Derived.Test.YtjmhnlbkfbieaaaGreatLay
namespace Go.Proofs.YtjmhnlbkfbieaaaGreat
open Go.RowKit
set_option maxHeartbeats 1000000 in
theorem high_any (T S N C R F K : Int) (h : CfgOK T S N C R F K) (i : Int) (i0 : 1 ≤ i) (i1 : i ≤ N) (w : World) :
    Calls Tryz.prog 32 #[.agg #[.int .i64 T, .int .i64 S, .int .i64 N, .int .i64 C, .int .i64 R, .int .i64 F, .int .u64 K], .int .u64 i] w fun e w' => e = .returned (.int .i64 (8 + T * S + (i - 1) * (F + 4) + 2)) ∧ Keeps [] w w' := by
  go_enter Tryz.func32, Tryz.ntmps32
  go_wp2_with fail
  refine (node_any T S N C R F K h i 2 i0 i1 (by omega) (by omega) _).mono ?_
  rintro e w1 ⟨rfl, k1⟩
  go_wp2_with fail
  go_ret
  exact ⟨rfl, ((Keeps.refl [] w).alloc _).trans k1 (by simp)⟩
/-- The cells of an empty database. -/
def cells0 (n : Nat) (hi : Int) : List C3 := memSet (memSet (memSet (List.replicate n C3.zero) 0 ⟨1, ⟨#[]⟩, 0⟩) 4 ⟨1, ⟨#[]⟩, 0⟩) hi ⟨0, ⟨#[]⟩, 1⟩
set_option maxHeartbeats 4000000 in
theorem start_yes (T S N C R F K : Int) (h : CfgOK T S N C R F K) (n : Nat) (hn : 8 + T * S + N * (F + 4) + C + 3 * R = n) (w : World) :
    Calls Tryz.prog 17 #[.agg #[.int .i64 T, .int .i64 S, .int .i64 N, .int .i64 C, .int .i64 R, .int .i64 F, .int .u64 K]] w fun e w' => ∃ m c, e = .returned (.tuple #[.agg #[.int .i64 T, .int .i64 S, .int .i64 N, .int .i64 C, .int .i64 R, .int .i64 F, .int .u64 K], .pointer (some ⟨m, 0, none⟩), .int .i64 0]) ∧ MemAt w' m c (cells0 n (8 + T * S + 2)) 0 ∧ w.heap.size ≤ m ∧ w.heap.size ≤ c ∧ Keeps [] w w' := by
  obtain ⟨p0, p1⟩ := prod_bounds (by have := h.T0; omega) h.T1 (by have := h.S0; omega) h.S1
  obtain ⟨q0, q1⟩ := prod_bounds (a := N) (b := F + 4) (by have := h.N0; omega) h.N1 (by have := h.F0; omega) (show F + 4 ≤ 36 by have := h.F1; omega)
  have hn0 : 1 ≤ n := by have := h.C0; have := h.R0; omega
  have hn1 : n ≤ 1048576 := by have := h.C1; have := h.R1; omega
  have hh2 : 8 + T * S + (1 - 1) * (F + 4) + 2 = 8 + T * S + 2 := by simp
  have N0 := h.N0
  have Hn := Lib.hid hn
  have Hh := Lib.hid hh2
  clear hn hh2 p0 p1 q0 q1
  go_enter Tryz.func17, Tryz.ntmps17
  go_wp2_with fail
  refine (layNew_yes T S N C R F K h _).mono ?_
  rintro e w1 ⟨rfl, k1⟩
  have hr1 := k1.blk (Blk.new_at (w.alloc (.cells #[.int .i64 T, .int .i64 S, .int .i64 N, .int .i64 C, .int .i64 R, .int .i64 F, .int .u64 K] 27)) (w.heap.size + 1) [.int .i64 0, .int .i64 0, .int .i64 0, .int .i64 0, .int .i64 0, .int .i64 0, .int .u64 0] 31 (by simp)) (by simp)
  have K1 := (((Keeps.refl [] w).alloc (.cells #[.int .i64 T, .int .i64 S, .int .i64 N, .int .i64 C, .int .i64 R, .int .i64 F, .int .u64 K] 27)).alloc (.cells #[.int .i64 0, .int .i64 0, .int .i64 0, .int .i64 0, .int .i64 0, .int .i64 0, .int .u64 0] 31)).trans k1 (by simp)
  clear k1
  have s1 := K1.size
  have hr1l := hr1.lt
  go_wp2_with fail
  refine (layCells_any T S N C R F K h _).mono ?_
  rintro e w3 ⟨rfl, k3⟩
  have hl3 := k3.blk (Blk.new w1 [.int .i64 T, .int .i64 S, .int .i64 N, .int .i64 C, .int .i64 R, .int .i64 F, .int .u64 K] 31) (by simp)
  have hr3 := k3.blk (hr1.alloc _) (by simp)
  have K3 := (K1.alloc _).trans k3 (by simp)
  clear k3 hr1 K1
  rw [Hn.out]
  go_wp2_with fail
  refine (new_yes n hn0 hn1 _).mono ?_
  rintro e w4 ⟨m, c, rfl, h4, hm, hc, k4⟩
  have hl4 := k4.blk hl3 (by simp)
  have hr4 := k4.blk hr3 (by simp)
  have K4 := K3.trans k4 (by simp)
  have s3 := K3.size
  have s4 := hl3.lt
  have s5 := hr3.lt
  clear k4 hl3 hr3 K3
  have a0 := hl4.cell 0
  have a1 := hl4.cell 1
  have a2 := hl4.cell 2
  have a3 := hl4.cell 3
  have a4 := hl4.cell 4
  have a5 := hl4.cell 5
  have a6 := hl4.cell 6
  simp only [List.getElem?_cons_zero, List.getElem?_cons_succ] at a0 a1 a2 a3 a4 a5 a6
  go_wp2_with fail
  refine (root_any T S N C R F K _).mono ?_
  rintro e w5 ⟨rfl, k5⟩
  have hl5 := k5.blk hl4 (by simp)
  have hr5 := k5.blk hr4 (by simp)
  have h5 := h4.keeps k5 (by simp) (by simp)
  have K5 := K4.trans k5 (by simp)
  clear k5 hl4 hr4 h4 K4 a0 a1 a2 a3 a4 a5 a6
  have b0 := hl5.cell 0
  have b1 := hl5.cell 1
  have b2 := hl5.cell 2
  have b3 := hl5.cell 3
  have b4 := hl5.cell 4
  have b5 := hl5.cell 5
  have b6 := hl5.cell 6
  simp only [List.getElem?_cons_zero, List.getElem?_cons_succ] at b0 b1 b2 b3 b4 b5 b6
  go_wp2_with fail
  refine (poke_any _ m c _ 0 h5 0 1 0 ⟨#[]⟩).mono ?_
  rintro e w6 ⟨rfl, h6, k6⟩
  have hl6 := k6.blk hl5 (by simp; omega)
  have hr6 := k6.blk hr5 (by simp; omega)
  have K6 : Keeps [] w w6 := K5.trans k6 (by simp; omega)
  clear k6 hl5 hr5 h5 K5 b0 b1 b2 b3 b4 b5 b6
  have c0 := hl6.cell 0
  have c1 := hl6.cell 1
  have c2 := hl6.cell 2
  have c3 := hl6.cell 3
  have c4 := hl6.cell 4
  have c5 := hl6.cell 5
  have c6 := hl6.cell 6
  simp only [List.getElem?_cons_zero, List.getElem?_cons_succ] at c0 c1 c2 c3 c4 c5 c6
  go_wp2_with fail
  refine (nodes_any T S N C R F K _).mono ?_
  rintro e w7 ⟨rfl, k7⟩
  have hl7 := k7.blk hl6 (by simp)
  have hr7 := k7.blk hr6 (by simp)
  have h7 := h6.keeps k7 (by simp) (by simp)
  have K7 := K6.trans k7 (by simp)
  clear k7 hl6 hr6 h6 K6 c0 c1 c2 c3 c4 c5 c6
  have d0 := hl7.cell 0
  have d1 := hl7.cell 1
  have d2 := hl7.cell 2
  have d3 := hl7.cell 3
  have d4 := hl7.cell 4
  have d5 := hl7.cell 5
  have d6 := hl7.cell 6
  simp only [List.getElem?_cons_zero, List.getElem?_cons_succ] at d0 d1 d2 d3 d4 d5 d6
  go_wp2_with fail
  refine (poke_any _ m c _ 0 h7 4 1 0 ⟨#[]⟩).mono ?_
  rintro e w8 ⟨rfl, h8, k8⟩
  have hl8 := k8.blk hl7 (by simp; omega)
  have hr8 := k8.blk hr7 (by simp; omega)
  have K8 : Keeps [] w w8 := K7.trans k8 (by simp; omega)
  clear k8 hl7 hr7 h7 K7 d0 d1 d2 d3 d4 d5 d6
  have e0 := hl8.cell 0
  have e1 := hl8.cell 1
  have e2 := hl8.cell 2
  have e3 := hl8.cell 3
  have e4 := hl8.cell 4
  have e5 := hl8.cell 5
  have e6 := hl8.cell 6
  simp only [List.getElem?_cons_zero, List.getElem?_cons_succ] at e0 e1 e2 e3 e4 e5 e6
  go_wp2_with fail
  refine (high_any T S N C R F K h 1 (by omega) N0 _).mono ?_
  rintro e w9 ⟨rfl, k9⟩
  rw [Hh.out]
  have hl9 := k9.blk hl8 (by simp)
  have hr9 := k9.blk hr8 (by simp)
  have h9 := h8.keeps k9 (by simp) (by simp)
  have K9 := K8.trans k9 (by simp)
  clear k9 hl8 hr8 h8 K8 e0 e1 e2 e3 e4 e5 e6
  have f0 := hl9.cell 0
  have f1 := hl9.cell 1
  have f2 := hl9.cell 2
  have f3 := hl9.cell 3
  have f4 := hl9.cell 4
  have f5 := hl9.cell 5
  have f6 := hl9.cell 6
  simp only [List.getElem?_cons_zero, List.getElem?_cons_succ] at f0 f1 f2 f3 f4 f5 f6
  go_wp2_with fail
  refine (poke_any _ m c _ 0 h9 (8 + T * S + 2) 0 1 ⟨#[]⟩).mono ?_
  rintro e w10 ⟨rfl, h10, k10⟩
  have hl10 := k10.blk hl9 (by simp; omega)
  have hr10 := k10.blk hr9 (by simp; omega)
  have K10 : Keeps [] w w10 := K9.trans k10 (by simp; omega)
  clear k10 hl9 hr9 h9 K9 f0 f1 f2 f3 f4 f5 f6
  have g0 := hl10.cell 0
  have g1 := hl10.cell 1
  have g2 := hl10.cell 2
  have g3 := hl10.cell 3
  have g4 := hl10.cell 4
  have g5 := hl10.cell 5
  have g6 := hl10.cell 6
  simp only [List.getElem?_cons_zero, List.getElem?_cons_succ] at g0 g1 g2 g3 g4 g5 g6
  have r0 := hr10.cell 0
  have r1 := hr10.cell 1
  have r2 := hr10.cell 2
  have r3 := hr10.cell 3
  have r4 := hr10.cell 4
  have r5 := hr10.cell 5
  have r6 := hr10.cell 6
  simp only [List.getElem?_cons_zero, List.getElem?_cons_succ] at r0 r1 r2 r3 r4 r5 r6
  have rf := hr10.frozen
  have rl := hr10.lt
  go_wp2_with fail
  exact bodyPost_ret (v := .tuple #[.agg #[.int .i64 T, .int .i64 S, .int .i64 N, .int .i64 C, .int .i64 R, .int .i64 F, .int .u64 K], .pointer (some ⟨m, 0, none⟩), .int .i64 0]) (by simp [results, Tryz.results17, go_sem, *]) rfl ⟨m, c, rfl, ((((((((h10.other _ _ (by simp; omega) (by simp; omega)).other _ _ (by simp; omega) (by simp; omega)).other _ _ (by simp; omega) (by simp; omega)).other _ _ (by simp; omega) (by simp; omega)).other _ _ (by simp; omega) (by simp; omega)).other _ _ (by simp; omega) (by simp; omega)).other _ _ (by simp; omega) (by simp; omega))), by omega, by omega, (((((((K10.setCell _ _ (.inr (by simp))).setCell _ _ (.inr (by simp))).setCell _ _ (.inr (by simp))).setCell _ _ (.inr (by simp))).setCell _ _ (.inr (by simp))).setCell _ _ (.inr (by simp))).setCell _ _ (.inr (by simp)))⟩
end Go.Proofs.YtjmhnlbkfbieaaaGreat
