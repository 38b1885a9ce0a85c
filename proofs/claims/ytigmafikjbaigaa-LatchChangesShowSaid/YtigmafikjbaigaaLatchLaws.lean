/- The walks of the three statements on words of latches: each returns true for every word. -/
import Derived.Test.YtigmafikjbaigaaLatch
namespace Go.Proofs.Ytigmafikjbaigaa
open Go.RowKit
set_option maxHeartbeats 1000000 in
theorem latchWords_any (y x : Int) (k0 : 0 ≤ y) (k1 : y ≤ 18446744073709551615) (h0 : 0 ≤ x) (h1 : x ≤ 18446744073709551615) (w : World) :
    Calls Try.prog 4 #[.int .u64 y, .int .u64 x] w fun e w' => e = .returned (.bool true) ∧ w = w' := by
  have hE : ((x / 4 * 4 + x % 2 + 4) % 18446744073709551616 == 4 * ((x / 4 + 1) % 4611686018427387904) + x % 2) = true := by
    rw [beq_iff_eq]; omega
  go_enter Try.func4, Try.ntmps4
  go_wp2_with (first | (go_at_call 13; refine (awake4_any _).mono ?_; rintro e w' ⟨rfl, rfl⟩) | (go_at_call 15; refine (locked_any _ h0 h1 _).mono ?_; rintro e w' ⟨rfl, rfl⟩) | (go_at_call 19; refine (changing_any _ h0 h1 _).mono ?_; rintro e w' ⟨rfl, rfl⟩) | (go_at_call 18; refine (version_any _ h0 h1 _).mono ?_; rintro e w' ⟨rfl, rfl⟩) | (go_at_call 14; refine (lock_any _ h0 h1 _).mono ?_; rintro e w' ⟨rfl, rfl⟩) | (go_at_call 12; refine (unlock_any _ h0 h1 _).mono ?_; rintro e w' ⟨rfl, rfl⟩) | (go_at_call 16; refine (begin_any _ h0 h1 _).mono ?_; rintro e w' ⟨rfl, rfl⟩) | (go_at_call 17; refine (end_any _ h0 h1 _).mono ?_; rintro e w' ⟨rfl, rfl⟩) | (go_at_call 20; refine (same_any _ _ k0 k1 h0 h1 _).mono ?_; rintro e w' ⟨rfl, rfl⟩))
  go_ret
  exact ⟨rfl, rfl⟩
set_option maxHeartbeats 1000000 in
theorem latchChangesShow_any (x0 : Int) (k0 : 0 ≤ x0) (k1 : x0 ≤ 18446744073709551615) (w : World) :
    Calls Try.prog 5 #[.int .u64 x0] w fun e w' => e = .returned (.bool true) ∧ w = w' := by
  obtain ⟨q, r, hq0, hq1, hr0, hr1, rfl⟩ : ∃ q r : Int, 0 ≤ q ∧ q ≤ 4611686018427387903 ∧ 0 ≤ r ∧ r < 4 ∧ x0 = 4 * q + r := ⟨x0 / 4, x0 % 4, by omega, by omega, by omega, by omega, by omega⟩
  have hx : (4 * q + r) / 4 * 4 = 4 * q := by omega
  go_enter Try.func5, Try.ntmps5
  go_wp2_with (first | (go_at_call 13; refine (awake4_any _).mono ?_; rintro e w' ⟨rfl, rfl⟩) | (go_at_call 14; refine (lock_is _ (4 * q + 1) (by omega) (by omega) (by omega) _).mono ?_; rintro e w' ⟨rfl, rfl⟩) | (go_at_call 16; refine (begin_is _ (4 * q + 3) (by omega) (by omega) (by omega) _).mono ?_; rintro e w' ⟨rfl, rfl⟩) | (go_at_call 17; refine (end_is _ ((4 * q + 5) % 18446744073709551616) (by omega) (by omega) (by omega) _).mono ?_; rintro e w' ⟨rfl, rfl⟩) | (go_at_call 12; refine (unlock_is _ ((4 * q + 4) % 18446744073709551616) (by omega) (by omega) (by omega) _).mono ?_; rintro e w' ⟨rfl, rfl⟩) | (go_at_call 20; refine (same_yes _ _ (by omega) (by omega) (by omega) (by omega) (by omega) _).mono ?_; rintro e w' ⟨rfl, rfl⟩) | (go_at_call 20; refine (same_no _ _ (by omega) (by omega) (by omega) (by omega) (by omega) _).mono ?_; rintro e w' ⟨rfl, rfl⟩) | (go_at_call 15; refine (locked_yes _ (by omega) (by omega) (by omega) _).mono ?_; rintro e w' ⟨rfl, rfl⟩) | (go_at_call 15; refine (locked_no _ (by omega) (by omega) (by omega) _).mono ?_; rintro e w' ⟨rfl, rfl⟩) | (go_at_call 19; refine (changing_no _ (by omega) (by omega) (by omega) _).mono ?_; rintro e w' ⟨rfl, rfl⟩))
  go_ret
  exact ⟨rfl, rfl⟩
end Go.Proofs.Ytigmafikjbaigaa
