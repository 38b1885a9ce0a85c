/- What the functions of words of package latch return, each for every 64-bit word. Conditions: the word is in range. -/
import Derived.Test.YtigmafikjbaigaaProg
import Derived.WalkKit
import Derived.WalkSpells
import Derived.WalkLawsBesides
import Derived.Test.YtigmafikjbaigaaBits
namespace Go.Proofs.Ytigmafikjbaigaa
open Go.RowKit
theorem unlock_any (x : Int) (h0 : 0 ≤ x) (h1 : x ≤ 18446744073709551615) (w : World) :
    Calls Try.prog 12 #[.int .u64 x] w fun e w' => e = .returned (.int .u64 (x / 2 * 2)) ∧ w = w' := by
  have hb := b_andNot1 x h0 h1
  go_enter Try.func12, Try.ntmps12
  go_wp2
  go_ret
  exact ⟨rfl, rfl⟩
theorem lock_any (x : Int) (h0 : 0 ≤ x) (h1 : x ≤ 18446744073709551615) (w : World) :
    Calls Try.prog 14 #[.int .u64 x] w fun e w' => e = .returned (.int .u64 (x / 2 * 2 + 1)) ∧ w = w' := by
  have hb := b_or1 x h0 h1
  go_enter Try.func14, Try.ntmps14
  go_wp2
  go_ret
  exact ⟨rfl, rfl⟩
theorem locked_any (x : Int) (h0 : 0 ≤ x) (h1 : x ≤ 18446744073709551615) (w : World) :
    Calls Try.prog 15 #[.int .u64 x] w fun e w' => e = .returned (.bool (x % 2 == 1)) ∧ w = w' := by
  have hb := b_and1 x h0 h1
  have hc : (x % 2 != 0) = (x % 2 == 1) := by
    rcases (by omega : x % 2 = 0 ∨ x % 2 = 1) with h | h <;> rw [h] <;> rfl
  go_enter Try.func15, Try.ntmps15
  go_wp2
  go_ret
  exact ⟨rfl, rfl⟩
theorem begin_any (x : Int) (h0 : 0 ≤ x) (h1 : x ≤ 18446744073709551615) (w : World) :
    Calls Try.prog 16 #[.int .u64 x] w fun e w' => e = .returned (.int .u64 (x / 4 * 4 + 2 + x % 2)) ∧ w = w' := by
  have hb := b_or2 x h0 h1
  go_enter Try.func16, Try.ntmps16
  go_wp2
  go_ret
  exact ⟨rfl, rfl⟩
theorem end_any (x : Int) (h0 : 0 ≤ x) (h1 : x ≤ 18446744073709551615) (w : World) :
    Calls Try.prog 17 #[.int .u64 x] w fun e w' => e = .returned (.int .u64 ((x / 4 * 4 + x % 2 + 4) % 18446744073709551616)) ∧ w = w' := by
  have hb := b_andNot2 x h0 h1
  go_enter Try.func17, Try.ntmps17
  go_wp2
  go_ret
  exact ⟨by simp [IntKind.wrap_u64], rfl⟩
theorem version_any (x : Int) (h0 : 0 ≤ x) (h1 : x ≤ 18446744073709551615) (w : World) :
    Calls Try.prog 18 #[.int .u64 x] w fun e w' => e = .returned (.int .u64 (x / 4)) ∧ w = w' := by
  go_enter Try.func18, Try.ntmps18
  go_wp2
  go_ret
  exact ⟨rfl, rfl⟩
theorem changing_any (x : Int) (h0 : 0 ≤ x) (h1 : x ≤ 18446744073709551615) (w : World) :
    Calls Try.prog 19 #[.int .u64 x] w fun e w' => e = .returned (.bool (x / 2 % 2 == 1)) ∧ w = w' := by
  have hb := b_and2 x h0 h1
  have hc : (x / 2 % 2 * 2 != 0) = (x / 2 % 2 == 1) := by
    rcases (by omega : x / 2 % 2 = 0 ∨ x / 2 % 2 = 1) with h | h <;> rw [h] <;> rfl
  go_enter Try.func19, Try.ntmps19
  go_wp2
  go_ret
  exact ⟨rfl, rfl⟩
theorem same_any (x y : Int) (h0 : 0 ≤ x) (h1 : x ≤ 18446744073709551615) (k0 : 0 ≤ y) (k1 : y ≤ 18446744073709551615) (w : World) :
    Calls Try.prog 20 #[.int .u64 x, .int .u64 y] w fun e w' => e = .returned (.bool (x / 2 == y / 2)) ∧ w = w' := by
  have hb := b_andNot1 x h0 h1
  have hc := b_andNot1 y k0 k1
  have hd : (x / 2 * 2 == y / 2 * 2) = (x / 2 == y / 2) := by
    rw [Bool.eq_iff_iff, beq_iff_eq, beq_iff_eq]; omega
  go_enter Try.func20, Try.ntmps20
  go_wp2
  go_ret
  exact ⟨rfl, rfl⟩
theorem awake4_any (w : World) :
    Calls Try.prog 13 #[] w fun e w' => e = .returned (.bool true) ∧ w = w' := by
  have h1 := b_or1 8 (by omega) (by omega)
  have h2 := b_or2 9 (by omega) (by omega)
  have h3 := b_andNot2 11 (by omega) (by omega)
  have h4 := b_andNot1 13 (by omega) (by omega)
  go_enter Try.func13, Try.ntmps13
  go_wp2
  go_ret
  exact ⟨rfl, rfl⟩
theorem unlock_is (x y : Int) (h0 : 0 ≤ x) (h1 : x ≤ 18446744073709551615) (hy : x / 2 * 2 = y) (w : World) :
    Calls Try.prog 12 #[.int .u64 x] w fun e w' => e = .returned (.int .u64 y) ∧ w = w' := by
  subst hy; exact unlock_any x h0 h1 w
theorem lock_is (x y : Int) (h0 : 0 ≤ x) (h1 : x ≤ 18446744073709551615) (hy : x / 2 * 2 + 1 = y) (w : World) :
    Calls Try.prog 14 #[.int .u64 x] w fun e w' => e = .returned (.int .u64 y) ∧ w = w' := by
  subst hy; exact lock_any x h0 h1 w
theorem begin_is (x y : Int) (h0 : 0 ≤ x) (h1 : x ≤ 18446744073709551615) (hy : x / 4 * 4 + 2 + x % 2 = y) (w : World) :
    Calls Try.prog 16 #[.int .u64 x] w fun e w' => e = .returned (.int .u64 y) ∧ w = w' := by
  subst hy; exact begin_any x h0 h1 w
theorem end_is (x y : Int) (h0 : 0 ≤ x) (h1 : x ≤ 18446744073709551615) (hy : (x / 4 * 4 + x % 2 + 4) % 18446744073709551616 = y) (w : World) :
    Calls Try.prog 17 #[.int .u64 x] w fun e w' => e = .returned (.int .u64 y) ∧ w = w' := by
  subst hy; exact end_any x h0 h1 w
theorem locked_yes (x : Int) (h0 : 0 ≤ x) (h1 : x ≤ 18446744073709551615) (h : x % 2 = 1) (w : World) :
    Calls Try.prog 15 #[.int .u64 x] w fun e w' => e = .returned (.bool true) ∧ w = w' := by
  have := locked_any x h0 h1 w
  rwa [beq_iff_eq.2 h] at this
theorem locked_no (x : Int) (h0 : 0 ≤ x) (h1 : x ≤ 18446744073709551615) (h : x % 2 = 0) (w : World) :
    Calls Try.prog 15 #[.int .u64 x] w fun e w' => e = .returned (.bool false) ∧ w = w' := by
  have := locked_any x h0 h1 w
  rwa [h] at this
theorem changing_no (x : Int) (h0 : 0 ≤ x) (h1 : x ≤ 18446744073709551615) (h : x / 2 % 2 = 0) (w : World) :
    Calls Try.prog 19 #[.int .u64 x] w fun e w' => e = .returned (.bool false) ∧ w = w' := by
  have := changing_any x h0 h1 w
  rwa [h] at this
theorem same_yes (x y : Int) (h0 : 0 ≤ x) (h1 : x ≤ 18446744073709551615) (k0 : 0 ≤ y) (k1 : y ≤ 18446744073709551615) (h : x / 2 = y / 2) (w : World) :
    Calls Try.prog 20 #[.int .u64 x, .int .u64 y] w fun e w' => e = .returned (.bool true) ∧ w = w' := by
  have := same_any x y h0 h1 k0 k1 w
  rwa [beq_iff_eq.2 h] at this
theorem same_no (x y : Int) (h0 : 0 ≤ x) (h1 : x ≤ 18446744073709551615) (k0 : 0 ≤ y) (k1 : y ≤ 18446744073709551615) (h : x / 2 ≠ y / 2) (w : World) :
    Calls Try.prog 20 #[.int .u64 x, .int .u64 y] w fun e w' => e = .returned (.bool false) ∧ w = w' := by
  have := same_any x y h0 h1 k0 k1 w
  rwa [beq_eq_false_iff_ne.2 h] at this
theorem locked_is (x z : Int) (h0 : 0 ≤ x) (h1 : x ≤ 18446744073709551615) (h : x % 2 = z) (w : World) :
    Calls Try.prog 15 #[.int .u64 x] w fun e w' => e = .returned (.bool (z == 1)) ∧ w = w' := by
  have := locked_any x h0 h1 w
  rwa [h] at this
theorem version_is (x z : Int) (h0 : 0 ≤ x) (h1 : x ≤ 18446744073709551615) (h : x / 4 = z) (w : World) :
    Calls Try.prog 18 #[.int .u64 x] w fun e w' => e = .returned (.int .u64 z) ∧ w = w' := by
  have := version_any x h0 h1 w
  rwa [h] at this
end Go.Proofs.Ytigmafikjbaigaa
