/- The contract of blinktreekit.Memory. -/
import Derived.Test.YtjmhnlbkfbieaaaGreatStart
import Derived.Test.YtjmhnlbkfbieaaaGreatRef3
namespace Go.Proofs.YtjmhnlbkfbieaaaGreat
open Go.RowKit
theorem cells0_length (n : Nat) (hi : Int) : (cells0 n hi).length = n := by simp [cells0, memSet_length]
@[go_sem] theorem ptr_eql_nil_mem (m : Nat) (w : World) : (binOp .eql 32 (.pointer (some ⟨m, 0, none⟩)) (.pointer none)).run Tryz.prog w = .ok (.bool false) w := by kernel_rfl
set_option maxHeartbeats 4000000 in
theorem kitMemory_yes (T S N C R F K : Int) (h : CfgOK T S N C R F K) (n : Nat) (hn : 8 + T * S + N * (F + 4) + C + 3 * R = n) (w : World) :
    Calls Tryz.prog 7 #[.agg #[.int .i64 T, .int .i64 S, .int .i64 N, .int .i64 C, .int .i64 R, .int .i64 F, .int .u64 K]] w fun e w' => ∃ m c, e = .returned (.tuple #[.agg #[.int .i64 T, .int .i64 S, .int .i64 N, .int .i64 C, .int .i64 R, .int .i64 F, .int .u64 K], .pointer (some ⟨m, 0, none⟩)]) ∧ MemAt w' m c (cells0 n (8 + T * S + 2)) 0 ∧ w.heap.size ≤ m ∧ w.heap.size ≤ c ∧ Keeps [] w w' := by
  go_enter Tryz.func7, Tryz.ntmps7
  go_wp2_with fail
  refine (start_yes T S N C R F K h n hn _).mono ?_
  rintro e w1 ⟨m, c, rfl, h1, hm, hc, k1⟩
  have hs := k1.size
  simp at hs hm hc
  have hb := (k1.blk ((Blk.new w [.int .i64 T, .int .i64 S, .int .i64 N, .int .i64 C, .int .i64 R, .int .i64 F, .int .u64 K] 27).alloc _) (by simp)).alloc (.cells #[.int .i64 T, .int .i64 S, .int .i64 N, .int .i64 C, .int .i64 R, .int .i64 F, .int .u64 K] 31)
  have hr := (k1.blk (Blk.new_at (w.alloc (.cells #[.int .i64 T, .int .i64 S, .int .i64 N, .int .i64 C, .int .i64 R, .int .i64 F, .int .u64 K] 27)) (w.heap.size + 1) [.int .i64 0, .int .i64 0, .int .i64 0, .int .i64 0, .int .i64 0, .int .i64 0, .int .u64 0] 31 (by simp)) (by simp)).alloc (.cells #[.int .i64 T, .int .i64 S, .int .i64 N, .int .i64 C, .int .i64 R, .int .i64 F, .int .u64 K] 31)
  have K1 := ((((Keeps.refl [] w).alloc _).alloc _).trans k1 (by simp)).alloc (.cells #[.int .i64 T, .int .i64 S, .int .i64 N, .int .i64 C, .int .i64 R, .int .i64 F, .int .u64 K] 31)
  have hl := Blk.new w1 [.int .i64 T, .int .i64 S, .int .i64 N, .int .i64 C, .int .i64 R, .int .i64 F, .int .u64 K] 31
  have h2 := h1.alloc (.cells #[.int .i64 T, .int .i64 S, .int .i64 N, .int .i64 C, .int .i64 R, .int .i64 F, .int .u64 K] 31)
  go_wp2_with fail
  obtain ⟨wb, hwb⟩ : ∃ wb, wb = w1.alloc (.cells #[.int .i64 T, .int .i64 S, .int .i64 N, .int .i64 C, .int .i64 R, .int .i64 F, .int .u64 K] 31) := ⟨_, rfl⟩
  rw [← hwb] at hb hl hr K1 h2 ⊢
  clear hwb
  have d0 := hb.cell 0
  have d1 := hb.cell 1
  have d2 := hb.cell 2
  have d3 := hb.cell 3
  have d4 := hb.cell 4
  have d5 := hb.cell 5
  have d6 := hb.cell 6
  simp only [List.getElem?_cons_zero, List.getElem?_cons_succ] at d0 d1 d2 d3 d4 d5 d6
  go_region_held3 (fun w' => w'.cell? ⟨w.heap.size, 0, none⟩ = some (.int .i64 T) ∧ w'.cell? ⟨w.heap.size, 1, none⟩ = some (.int .i64 S) ∧ w'.cell? ⟨w.heap.size, 2, none⟩ = some (.int .i64 N) ∧ w'.cell? ⟨w.heap.size, 3, none⟩ = some (.int .i64 C) ∧ w'.cell? ⟨w.heap.size, 4, none⟩ = some (.int .i64 R) ∧ w'.cell? ⟨w.heap.size, 5, none⟩ = some (.int .i64 F) ∧ w'.cell? ⟨w.heap.size, 6, none⟩ = some (.int .u64 K) ∧ MemAt w' m c (cells0 n (8 + T * S + 2)) 0)
    (first
      | exact ⟨d0, d1, d2, d3, d4, d5, d6, h2.drew⟩
      | exact ⟨k5.cellEq d0 (by simp), k5.cellEq d1 (by simp), k5.cellEq d2 (by simp), k5.cellEq d3 (by simp), k5.cellEq d4 (by simp), k5.cellEq d5 (by simp), k5.cellEq d6 (by simp), h2.keeps (k5.undrew) (by simp) (by simp)⟩
      | go_keep)
    ((first | (go_at_call 19; refine (refCells_any T S N C R F K h _).mono ?_; rintro e w5 ⟨rfl, k5⟩) | (go_at_call 18; refine (cells_any _ m c _ 0 (by first | exact h2.drew | (rename_i hh; exact hh.2.2.2.2.2.2.2))).mono ?_; rintro e w6 ⟨rfl, rfl⟩)))
  have hne : ((n : Int) != (n : Int)) = false := by simp
  rw [cells0_length, hne]
  have hl5 := k5.undrew.blk hl (by simp)
  have hr5 := k5.undrew.blk hr (by simp)
  have h5 := h2.keeps k5.undrew (by simp) (by simp)
  have K5 := K1.trans k5.undrew (by simp)
  have a0 := hl5.cell 0
  have r0 := hr5.cell 0
  have a1 := hl5.cell 1
  have r1 := hr5.cell 1
  have a2 := hl5.cell 2
  have r2 := hr5.cell 2
  have a3 := hl5.cell 3
  have r3 := hr5.cell 3
  have a4 := hl5.cell 4
  have r4 := hr5.cell 4
  have a5 := hl5.cell 5
  have r5 := hr5.cell 5
  have a6 := hl5.cell 6
  have r6 := hr5.cell 6
  simp only [List.getElem?_cons_zero, List.getElem?_cons_succ] at a0 a1 a2 a3 a4 a5 a6 r0 r1 r2 r3 r4 r5 r6
  have rf := hr5.frozen
  have rl := hr5.lt
  go_wp2_with fail
  exact bodyPost_ret (v := .tuple #[.agg #[.int .i64 T, .int .i64 S, .int .i64 N, .int .i64 C, .int .i64 R, .int .i64 F, .int .u64 K], .pointer (some ⟨m, 0, none⟩)]) (by simp [results, Tryz.results7, go_sem, *]) rfl ⟨m, c, rfl, ((((((((h5.other _ _ (by simp; omega) (by simp; omega)).other _ _ (by simp; omega) (by simp; omega)).other _ _ (by simp; omega) (by simp; omega)).other _ _ (by simp; omega) (by simp; omega)).other _ _ (by simp; omega) (by simp; omega)).other _ _ (by simp; omega) (by simp; omega)).other _ _ (by simp; omega) (by simp; omega))), by omega, by omega, (((((((K5.setCell _ _ (.inr (by simp))).setCell _ _ (.inr (by simp))).setCell _ _ (.inr (by simp))).setCell _ _ (.inr (by simp))).setCell _ _ (.inr (by simp))).setCell _ _ (.inr (by simp))).setCell _ _ (.inr (by simp)))⟩
end Go.Proofs.YtjmhnlbkfbieaaaGreat
