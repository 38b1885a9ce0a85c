/- The walk of LatchWordsInvert: it returns true for every word and every number of changes. -/
import Derived.Test.YtigmafikjbaigaaLatch
import Derived.Lib.Hide
namespace Go.Proofs.Ytigmafikjbaigaa
open Go.RowKit
def xk (q s t : Int) (k : Nat) : Int := if k = 0 then 4 * q + 2 * s + t else (q + k) % 4611686018427387904 * 4 + t
theorem xk_facts (q s t : Int) (k : Nat) (hq0 : 0 ≤ q) (hq1 : q ≤ 4611686018427387903) (hs0 : 0 ≤ s) (hs1 : s < 2) (ht0 : 0 ≤ t) (ht1 : t < 2) :
    0 ≤ xk q s t k ∧ xk q s t k ≤ 18446744073709551615 ∧ xk q s t k / 4 = (q + k) % 4611686018427387904 ∧ xk q s t k % 2 = t ∧
      ((xk q s t k / 4 * 4 + 2 + xk q s t k % 2) / 4 * 4 + (xk q s t k / 4 * 4 + 2 + xk q s t k % 2) % 2 + 4) % 18446744073709551616 = xk q s t (k + 1) ∧
      (k ≠ 0 → xk q s t k / 2 % 2 = 0) := by
  have a : 0 ≤ xk q s t k ∧ xk q s t k ≤ 18446744073709551615 ∧ xk q s t k / 4 = (q + k) % 4611686018427387904 ∧ xk q s t k % 2 = t ∧ (k ≠ 0 → xk q s t k / 2 % 2 = 0) := by
    unfold xk
    split
    · subst_vars; refine ⟨by omega, by omega, by omega, by omega, by omega⟩
    · refine ⟨by omega, by omega, by omega, by omega, by omega⟩
  obtain ⟨a0, a1, a2, a3, a4⟩ := a
  refine ⟨a0, a1, a2, a3, ?_, a4⟩
  have e : xk q s t (k + 1) = (q + (k + 1 : Nat)) % 4611686018427387904 * 4 + t := by unfold xk; simp
  rw [e, a2, a3]
  omega
set_option maxHeartbeats 1000000 in
theorem latchWordsInvert_any (x0 : Int) (n : Nat) (k0 : 0 ≤ x0) (k1 : x0 ≤ 18446744073709551615) (c1 : n ≤ 255) (w : World) :
    Calls Try.prog 3 #[.int .u64 x0, .int .u8 (n : Int)] w fun e w' => e = .returned (.bool true) ∧ w = w' := by
  obtain ⟨q, s, t, hq0, hq1, hs0, hs1, ht0, ht1, rfl⟩ : ∃ q s t : Int, 0 ≤ q ∧ q ≤ 4611686018427387903 ∧ 0 ≤ s ∧ s < 2 ∧ 0 ≤ t ∧ t < 2 ∧ x0 = 4 * q + 2 * s + t := ⟨x0 / 4, x0 / 2 % 2, x0 % 2, by omega, by omega, by omega, by omega, by omega, by omega, by omega⟩
  go_enter Try.func3, Try.ntmps3
  go_wp2_with (first | (go_at_call 13; refine (awake4_any _).mono ?_; rintro e w' ⟨rfl, rfl⟩) | (go_at_call 14; refine (lock_is _ (4 * q + 2 * s + 1) (by omega) (by omega) (by omega) _).mono ?_; rintro e w' ⟨rfl, rfl⟩) | (go_at_call 12; refine (unlock_is _ (4 * q + 2 * s) (by omega) (by omega) (by omega) _).mono ?_; rintro e w' ⟨rfl, rfl⟩) | (go_at_call 16; refine (begin_is _ (4 * q + 2 + t) (by omega) (by omega) (by omega) _).mono ?_; rintro e w' ⟨rfl, rfl⟩) | (go_at_call 17; refine (end_any _ (by omega) (by omega) _).mono ?_; rintro e w' ⟨rfl, rfl⟩) | (go_at_call 15; refine (locked_is _ t (by omega) (by omega) (by omega) _).mono ?_; rintro e w' ⟨rfl, rfl⟩))
  go_loop [6, 7] (fun x i => ∃ k : Nat, k ≤ n ∧ i = .int .i64 k ∧ x = .int .u64 (xk q s t k)) (fun _ i => n - (intOf i).toNat)
  case atStart => exact ⟨0, Nat.zero_le _, rfl, rfl⟩
  case round =>
    obtain ⟨k, hk, rfl, rfl⟩ := hrel
    obtain ⟨hx0, hx1, hx4, hx2, hnext, hch⟩ := xk_facts q s t k hq0 hq1 hs0 hs1 ht0 ht1
    have H4 := Lib.hid hx4
    have H2 := Lib.hid hx2
    have Hn := Lib.hid hnext
    have Hch := Lib.hid hch
    clear hx4 hx2 hnext hch
    by_cases hlt : k < n
    · go_wp2_with (first | (go_at_call 16; refine (begin_any _ (by omega) (by omega) _).mono ?_; rintro e w' ⟨rfl, rfl⟩) | (go_at_call 17; refine (end_is _ (xk q s t (k + 1)) (by omega) (by omega) Hn.out _).mono ?_; rintro e w' ⟨rfl, rfl⟩))
      go_round
      case rel => exact ⟨k + 1, by omega, by go_num, rfl⟩
      case measure => simp [intOf]; omega
    · obtain rfl : k = n := by omega
      by_cases hz : k = 0
      · subst hz
        have e4 : q % 4611686018427387904 = q := by omega
        go_wp2_with (first | (go_at_call 18; refine (version_is _ q (by omega) (by omega) (by first | omega | (rw [H4.out]; omega)) _).mono ?_; rintro e w' ⟨rfl, rfl⟩))
        go_ret
        exact ⟨rfl, rfl⟩
      · have hz' : ((k : Int) == 0) = false := by rw [beq_eq_false_iff_ne]; omega
        go_wp2_with (first | (go_at_call 18; refine (version_is _ q (by omega) (by omega) (by omega) _).mono ?_; rintro e w' ⟨rfl, rfl⟩) | (go_at_call 18; refine (version_is _ ((q + (k : Int)) % 4611686018427387904) (by omega) (by omega) H4.out _).mono ?_; rintro e w' ⟨rfl, rfl⟩) | (go_at_call 19; refine (changing_no _ (by omega) (by omega) (Hch.out hz) _).mono ?_; rintro e w' ⟨rfl, rfl⟩))
        go_ret
        exact ⟨rfl, rfl⟩
end Go.Proofs.Ytigmafikjbaigaa
