/- The contracts of package registry: entries, entry and the Watermark's scan. -/
import Derived.Test.YtiodlmmbjjdojaaWm
namespace Go.Proofs.Ytiodlmmbjjdojaa
open Go.RowKit
@[go_sem] theorem field_Config_0 (a b c d e f g : Value) (w : World) : (Instr.field 25 (.agg #[a, b, c, d, e, f, g]) 0).run Try.prog w = .ok a w := by kernel_rfl
@[go_sem] theorem field_Config_1 (a b c d e f g : Value) (w : World) : (Instr.field 25 (.agg #[a, b, c, d, e, f, g]) 1).run Try.prog w = .ok b w := by kernel_rfl
theorem quo_facts (k S : Int) (hS : 0 < S) (k0 : 0 ≤ k) (k1 : k ≤ 9223372036854775807) : k.tdiv S = k / S ∧ IntKind.i64.wrap (k / S) = k / S ∧ k.tmod S = k % S := by
  have h1 : 0 ≤ k / S := Int.ediv_nonneg k0 (by omega)
  have h2 : k / S ≤ k := Int.ediv_le_self S k0
  exact ⟨Int.tdiv_eq_ediv_of_nonneg k0, IntWalk.i64_in _ ⟨by omega, by omega⟩, Int.tmod_eq_emod_of_nonneg k0⟩
set_option maxHeartbeats 1000000 in
theorem entries_any (T S N C R F K : Int) (hc : CfgOK T S N C R F K) (w : World) :
    Calls Try.prog 42 #[.agg #[.int .i64 T, .int .i64 S, .int .i64 N, .int .i64 C, .int .i64 R, .int .i64 F, .int .u64 K]] w fun e w' => e = .returned (.int .i64 (T * S)) ∧ Keeps [] w w' := by
  have q1 := hc.T0
  have q2 := hc.T1
  have q3 := hc.S0
  have q4 := hc.S1
  obtain ⟨p0, p1⟩ := prod_bounds (a := T) (b := S) (A := 64) (B := 8) (by omega) (by omega) (by omega) q4
  go_enter Try.func42, Try.ntmps42
  go_wp2_with fail
  have hl := Blk.new w [.int .i64 T, .int .i64 S, .int .i64 N, .int .i64 C, .int .i64 R, .int .i64 F, .int .u64 K] 29
  have K0 := (Keeps.refl [] w).alloc (.cells #[.int .i64 T, .int .i64 S, .int .i64 N, .int .i64 C, .int .i64 R, .int .i64 F, .int .u64 K] 29)
  obtain ⟨wb, hwb⟩ : ∃ wb, wb = w.alloc (.cells #[.int .i64 T, .int .i64 S, .int .i64 N, .int .i64 C, .int .i64 R, .int .i64 F, .int .u64 K] 29) := ⟨_, rfl⟩
  rw [← hwb] at hl K0 ⊢
  clear hwb
  obtain ⟨l0, l1, l2, l3, l4, l5, l6, -, hll⟩ := hl.o7
  have hmul : IntKind.i64.wrap (T * S) = T * S := IntWalk.i64_in _ ⟨by omega, by omega⟩
  clear q1 q2 q3 q4 p0 p1
  go_region_held3 (fun w' => Keeps [] wb w' ∧ w'.cell? ⟨w.heap.size, 0, none⟩ = some (.int .i64 T) ∧ w'.cell? ⟨w.heap.size, 1, none⟩ = some (.int .i64 S) ∧ w'.cell? ⟨w.heap.size, 2, none⟩ = some (.int .i64 N) ∧ w'.cell? ⟨w.heap.size, 3, none⟩ = some (.int .i64 C) ∧ w'.cell? ⟨w.heap.size, 4, none⟩ = some (.int .i64 R) ∧ w'.cell? ⟨w.heap.size, 5, none⟩ = some (.int .i64 F) ∧ w'.cell? ⟨w.heap.size, 6, none⟩ = some (.int .u64 K))
    (first
      | exact ⟨k1, k1.cellEq l0 (by simp), k1.cellEq l1 (by simp), k1.cellEq l2 (by simp), k1.cellEq l3 (by simp), k1.cellEq l4 (by simp), k1.cellEq l5 (by simp), k1.cellEq l6 (by simp)⟩
      | exact ⟨(Keeps.refl [] wb).drew, l0, l1, l2, l3, l4, l5, l6⟩
      | go_keep)
    ((go_at_call 61; refine (config_any T S N C R F K _).mono ?_; rintro e w1 ⟨rfl, k1⟩; rename_i hh _ _; replace k1 := hh.1.trans k1 (by simp)))
  go_wp2_with fail
  go_ret
  exact ⟨rfl, K0.trans k1 (by simp)⟩
set_option maxHeartbeats 1000000 in
theorem entry_any (T S N C R F K : Int) (hc : CfgOK T S N C R F K) (k : Int) (k0 : 0 ≤ k) (k1' : k < T * S) (w : World) :
    Calls Try.prog 43 #[.agg #[.int .i64 T, .int .i64 S, .int .i64 N, .int .i64 C, .int .i64 R, .int .i64 F, .int .u64 K], .int .i64 k] w fun e w' => e = .returned (.int .i64 (8 + k)) ∧ Keeps [] w w' := by
  have q1 := hc.T0
  have q2 := hc.T1
  have q3 := hc.S0
  have q4 := hc.S1
  obtain ⟨p0, p1⟩ := prod_bounds (a := T) (b := S) (A := 64) (B := 8) (by omega) (by omega) (by omega) q4
  go_enter Try.func43, Try.ntmps43
  go_wp2_with fail
  have hl := Blk.new w [.int .i64 T, .int .i64 S, .int .i64 N, .int .i64 C, .int .i64 R, .int .i64 F, .int .u64 K] 29
  have K0 := (Keeps.refl [] w).alloc (.cells #[.int .i64 T, .int .i64 S, .int .i64 N, .int .i64 C, .int .i64 R, .int .i64 F, .int .u64 K] 29)
  obtain ⟨wb, hwb⟩ : ∃ wb, wb = w.alloc (.cells #[.int .i64 T, .int .i64 S, .int .i64 N, .int .i64 C, .int .i64 R, .int .i64 F, .int .u64 K] 29) := ⟨_, rfl⟩
  rw [← hwb] at hl K0 ⊢
  clear hwb
  obtain ⟨l0, l1, l2, l3, l4, l5, l6, -, hll⟩ := hl.o7
  have hS0 : ¬ S = 0 := by omega
  obtain ⟨hq1, hq2, hq3⟩ := quo_facts k S (by omega) k0 (by omega)
  have hd0 := Lib.hid (Int.ediv_nonneg k0 (show 0 ≤ S by omega))
  have hd1 := Lib.hid (Int.ediv_lt_of_lt_mul (a := k) (b := T) (c := S) (by omega) k1')
  have hr0 := Lib.hid (Int.emod_nonneg k (show S ≠ 0 by omega))
  have hr1 := Lib.hid (Int.emod_lt_of_pos k (show 0 < S by omega))
  have hem : 8 + k / S * S + k % S = 8 + k := by rw [Int.add_assoc, Int.mul_comm, Int.mul_ediv_add_emod]
  have Hem := Lib.hid hem
  clear hem q1 q2 q3 q4 p0 p1 k1' k0
  go_region_held3 (fun w' => Keeps [] wb w' ∧ w'.cell? ⟨w.heap.size, 0, none⟩ = some (.int .i64 T) ∧ w'.cell? ⟨w.heap.size, 1, none⟩ = some (.int .i64 S) ∧ w'.cell? ⟨w.heap.size, 2, none⟩ = some (.int .i64 N) ∧ w'.cell? ⟨w.heap.size, 3, none⟩ = some (.int .i64 C) ∧ w'.cell? ⟨w.heap.size, 4, none⟩ = some (.int .i64 R) ∧ w'.cell? ⟨w.heap.size, 5, none⟩ = some (.int .i64 F) ∧ w'.cell? ⟨w.heap.size, 6, none⟩ = some (.int .u64 K))
    (first
      | exact ⟨k1, k1.cellEq l0 (by simp), k1.cellEq l1 (by simp), k1.cellEq l2 (by simp), k1.cellEq l3 (by simp), k1.cellEq l4 (by simp), k1.cellEq l5 (by simp), k1.cellEq l6 (by simp)⟩
      | exact ⟨(Keeps.refl [] wb).drew, l0, l1, l2, l3, l4, l5, l6⟩
      | go_keep)
    ((first | (go_at_call 61; refine (config_any T S N C R F K _).mono ?_; rintro e w1 ⟨rfl, k1⟩; rename_i hh _ _; replace k1 := hh.1.trans k1 (by simp)) | (go_at_call 47; refine (snapshot_yes T S N C R F K hc (k / S) (k % S) hd0.out hd1.out hr0.out hr1.out _).mono ?_; rintro e w1 ⟨rfl, k1⟩; rw [Hem.out]; rename_i hh _ _; replace k1 := hh.1.trans k1 (by simp))))
  go_wp2_with fail
  go_ret
  exact ⟨rfl, K0.trans k1 (by simp)⟩
end Go.Proofs.Ytiodlmmbjjdojaa
