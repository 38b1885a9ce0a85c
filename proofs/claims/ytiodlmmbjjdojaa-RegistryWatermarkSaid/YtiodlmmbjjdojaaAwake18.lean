/- The contract of blinktreelaw18.awake. -/
import Derived.Test.YtiodlmmbjjdojaaLive
import Derived.Test.YtiodlmmbjjdojaaRun
namespace Go.Proofs.Ytiodlmmbjjdojaa
open Go.RowKit
theorem cfg2 : CfgOK 2 2 100 100 200 4 1000 := ⟨by omega, by omega, by omega, by omega, by omega, by omega, by omega, by omega, by omega, by omega, by omega, by omega, by omega, by omega⟩
/-- The cells in awake. -/
def LA : List C3 := memSet (memSet (memSet (cells0 1512 14) 2 ⟨5, ⟨#[]⟩, 0⟩) 8 ⟨4, ⟨#[]⟩, 0⟩) 11 ⟨6, ⟨#[]⟩, 0⟩
theorem LA_len : LA.length = 1512 := by simp only [LA, memSet_length, cells0_length]
theorem LA_at (j : Int) (h0 : j ≠ 0) (h4 : j ≠ 4) (h14 : j ≠ 14) (h2 : j ≠ 2) (h8 : j ≠ 8) (h11 : j ≠ 11) : (memAt LA j).N = 0 := by
  unfold LA
  rw [memAt_set_other _ _ _ _ (Ne.symm h11), memAt_set_other _ _ _ _ (Ne.symm h8), memAt_set_other _ _ _ _ (Ne.symm h2), memAt_cells0 _ _ _ h0 h4 h14]
  rfl
theorem LA_2 : (memAt LA 2).N = 5 := by
  unfold LA
  rw [memAt_set_other _ _ _ _ (by omega), memAt_set_other _ _ _ _ (by omega), memAt_set_same _ _ _ (by omega) (by rw [cells0_length]; omega)]
theorem LA_8 : (memAt LA 8).N = 4 := by
  unfold LA
  rw [memAt_set_other _ _ _ _ (by omega), memAt_set_same _ _ _ (by omega) (by rw [memSet_length, cells0_length]; omega)]
theorem LA_11 : (memAt LA 11).N = 6 := by
  unfold LA
  rw [memAt_set_same _ _ _ (by omega) (by rw [memSet_length, memSet_length, cells0_length]; omega)]
theorem LA_least : leastOf LA 4 = 3 := by
  have e9 : (memAt LA 9).N = 0 := LA_at 9 (by omega) (by omega) (by omega) (by omega) (by omega) (by omega)
  have e10 : (memAt LA 10).N = 0 := LA_at 10 (by omega) (by omega) (by omega) (by omega) (by omega) (by omega)
  simp [leastOf, wmin, LA_2, LA_8, LA_11, e9, e10]
theorem LA_live : isort (liveIn LA 4) = [3, 5] := by
  have e9 : (memAt LA 9).N = 0 := LA_at 9 (by omega) (by omega) (by omega) (by omega) (by omega) (by omega)
  have e10 : (memAt LA 10).N = 0 := LA_at 10 (by omega) (by omega) (by omega) (by omega) (by omega) (by omega)
  have h : liveIn LA 4 = [3, 5] := by
    rw [liveIn_succ, liveIn_succ, liveIn_succ, liveIn_succ]
    simp [liveIn, LA_8, LA_11, e9, e10]
  rw [h]
  decide
theorem LA_cells : ∀ i : Nat, i < 4 → 0 ≤ (memAt LA (8 + (i : Int))).N ∧ (memAt LA (8 + (i : Int))).N ≤ 18446744073709551615 := by
  intro i hi
  have e9 : (memAt LA 9).N = 0 := LA_at 9 (by omega) (by omega) (by omega) (by omega) (by omega) (by omega)
  have e10 : (memAt LA 10).N = 0 := LA_at 10 (by omega) (by omega) (by omega) (by omega) (by omega) (by omega)
  rcases (by omega : i = 0 ∨ i = 1 ∨ i = 2 ∨ i = 3) with rfl | rfl | rfl | rfl
  · simp [LA_8]
  · simp [e9]
  · simp [e10]
  · simp [LA_11]
set_option maxHeartbeats 4000000 in
theorem awake18_any (w : World) :
    Calls Try.prog 11 #[] w fun e w' => e = .returned (.bool true) ∧ Keeps [] w w' := by
  go_enter Try.func11, Try.ntmps11
  go_wp2_with fail
  refine (config_kit 2 0 (by omega) (by omega) _).mono ?_
  rintro e w1 ⟨rfl, k1⟩
  go_wp2_with fail
  refine (kitMemory_yes 2 2 100 100 200 4 1000 cfg2 1512 (by omega) _).mono ?_
  rintro e w2 ⟨m, c, rfl, hm2, hm, hc, k2⟩
  have K2 := k1.trans k2 (by simp)
  have s1 := k1.size
  go_wp2_with fail
  have hl := Blk.new w2 [.int .i64 2, .int .i64 2, .int .i64 100, .int .i64 100, .int .i64 200, .int .i64 4, .int .u64 1000] 29
  have K3 := K2.alloc (.cells #[.int .i64 2, .int .i64 2, .int .i64 100, .int .i64 100, .int .i64 200, .int .i64 4, .int .u64 1000] 29)
  have hm3 := hm2.alloc (.cells #[.int .i64 2, .int .i64 2, .int .i64 100, .int .i64 100, .int .i64 200, .int .i64 4, .int .u64 1000] 29)
  have hml := hm2.lt
  refine (poke_any _ m c _ 0 hm3 2 5 0 ⟨#[]⟩).mono ?_
  rintro e w4 ⟨rfl, hm4, k4⟩
  have hl4 := k4.blk hl (by simp; omega)
  have K4 := K3.trans k4 (by simp; omega)
  clear hm2 hm3 hl K3 K2 k1 k2
  go_wp2_with fail
  refine (poke_any _ m c _ 0 hm4 8 4 0 ⟨#[]⟩).mono ?_
  rintro e w5 ⟨rfl, hm5, k5⟩
  have hl5 := k5.blk hl4 (by simp; omega)
  have K5 := K4.trans k5 (by simp; omega)
  clear hm4 hl4 K4 k4 k5
  go_wp2_with fail
  refine (poke_any _ m c _ 0 hm5 11 6 0 ⟨#[]⟩).mono ?_
  rintro e w6 ⟨rfl, hm6', k6⟩
  have hm6 : MemAt w6 m c LA 0 := hm6'
  have hl6 := k6.blk hl5 (by simp; omega)
  have hl6o := hl6.o7
  have K6 := K5.trans k6 (by simp; omega)
  clear hm5 hl5 K5 k6 hm6'
  go_wp2_with fail
  refine (wmAt_new 2 2 100 100 200 4 1000 LA 4 _).mono ?_
  rintro e w7 ⟨wm, rfl, hw7, k7⟩
  have hl7 := k7.blk hl6 (by simp)
  have hm7 := hm6.keeps k7 (by simp) (by simp)
  have hml6 := hm6.lt
  have hll6 := hl6.lt
  clear hl6o
  go_wp2_with fail
  go_loopw [4] (fun i wr => ∃ k : Nat, k ≤ 4 ∧ i = .int .i64 k ∧ WmAt wr wm w6.heap.size 2 2 100 100 200 4 1000 LA 4 k ∧ MemAt wr m c LA k ∧ Keeps [m] w6 wr) (fun i _ => 20 - (intOf i).toNat)
  case atStart => exact ⟨0, by omega, rfl, hw7, hm7, k7.mono (by simp)⟩
  case round =>
    obtain ⟨k, hk, rfl, hwr, hmr, hkr⟩ := hrel
    have hk20 : (k : Int) < 20 := by omega
    by_cases hlast : k = 4
    · have hd : decide (k = 4) = true := by simp [hlast]
      go_wp2_with fail
      refine (wmAt_step w6 wr wm m c 2 2 100 100 200 4 1000 LA 4 k k cfg2 (by omega) hwr hk hmr (by omega) (by omega) hml6.1 hml6.2 hkr LA_cells).mono ?_
      rintro e w8 ⟨rfl, hw8, hm8, k8⟩
      rw [hd]
      subst hlast
      have hw9 := hw8.done
      have hl8 := k8.blk hl6 (by simp; omega)
      have hl8o := hl8.o7
      rw [LA_least] at hw9
      go_wp2_with fail
      refine (wmTime_done w8 wm 2 2 100 100 200 4 1000 3 hw9).mono ?_
      rintro e w' ⟨rfl, rfl⟩
      go_wp2_with fail
      refine (live_any 2 2 100 100 200 4 1000 m c LA _ cfg2 _ hm8 4 (by omega) (by have := liveIn_le LA 4; omega) LA_cells).mono ?_
      rintro e w10 ⟨v, rfl, hv, k10⟩
      rw [LA_live] at hv
      have KE := (K6.trans k8 (by simp; omega)).trans k10 (by simp)
      rcases hv with ⟨h0, _⟩ | ⟨b, cap, rest, rfl, hb, hbs⟩
      · cases h0
      · go_wp2_with fail
        refine (same64_eq _ b w10.heap.size cap 2 [3, 5] rest [] (hb.alloc _) (by simpa [uV] using Blk.new w10 [.int .u64 3, .int .u64 5] 22) (by simp)).mono ?_
        rintro e w11 ⟨rfl, k11⟩
        go_wp2_with fail
        go_ret
        exact ⟨rfl, (KE.alloc _).trans k11 (by simp)⟩
    · have hd : decide (k = 4) = false := by simp [hlast]
      go_wp2_with fail
      refine (wmAt_step w6 wr wm m c 2 2 100 100 200 4 1000 LA 4 k k cfg2 (by omega) hwr hk hmr (by omega) (by omega) hml6.1 hml6.2 hkr LA_cells).mono ?_
      rintro e w8 ⟨rfl, hw8, hm8, k8⟩
      rw [hd]
      go_wp2_with fail
      exact ⟨⟨k + 1, by omega, by go_num, hw8, by simpa using hm8, k8⟩, by simp [intOf]; omega⟩
end Go.Proofs.Ytiodlmmbjjdojaa
