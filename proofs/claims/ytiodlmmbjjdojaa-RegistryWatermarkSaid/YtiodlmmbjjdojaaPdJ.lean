/- math/bits.Len64, Len, slices.nextPowerOfTwo, slices.breakPatternsOrdered at uint64, for at most 25 elements. -/
import Derived.Test.YtiodlmmbjjdojaaPdF
namespace Go.Proofs.Ytiodlmmbjjdojaa
open Go.RowKit
set_option linter.unusedVariables false
set_option linter.unusedSimpArgs false
set_option maxRecDepth 100000
set_option maxHeartbeats 4000000
def bl (x : Nat) : Nat := if x = 0 then 0 else if x < 2 then 1 else if x < 4 then 2 else if x < 8 then 3 else if x < 16 then 4 else 5
theorem bl_tab : ∀ x, x < 32 → Go.Sort.bitsLen x = bl x := by decide +kernel
theorem len64_ex (x : Nat) (hx : x < 26) (w : World) : Calls Try.prog 81 #[.int .u64 x] w fun e w' => e = .returned (.int .i64 (bl x : Nat)) ∧ w = w' := by
  have h : x = 0 ∨ x = 1 ∨ x = 2 ∨ x = 3 ∨ x = 4 ∨ x = 5 ∨ x = 6 ∨ x = 7 ∨ x = 8 ∨ x = 9 ∨ x = 10 ∨ x = 11 ∨ x = 12 ∨ x = 13 ∨ x = 14 ∨ x = 15 ∨ x = 16 ∨ x = 17 ∨ x = 18 ∨ x = 19 ∨ x = 20 ∨ x = 21 ∨ x = 22 ∨ x = 23 ∨ x = 24 ∨ x = 25 := by omega
  rcases h with rfl | rfl | rfl | rfl | rfl | rfl | rfl | rfl | rfl | rfl | rfl | rfl | rfl | rfl | rfl | rfl | rfl | rfl | rfl | rfl | rfl | rfl | rfl | rfl | rfl | rfl
  all_goals
    go_enter Try.func81, Try.ntmps81
    go_wp2_with fail
    go_ret
    exact ⟨by kernel_rfl, rfl⟩
theorem len_ex (x : Nat) (hx : x < 26) (w : World) : Calls Try.prog 63 #[.int .u64 x] w fun e w' => e = .returned (.int .i64 (bl x : Nat)) ∧ w = w' := by
  have h := len64_ex x hx
  go_enter Try.func63, Try.ntmps63
  go_wp2_with fail
  refine (h _).mono ?_
  rintro e w' ⟨rfl, rfl⟩
  go_wp2_with fail
  go_ret
  exact ⟨rfl, rfl⟩
theorem np2_any (x : Nat) (hx : 13 ≤ x ∧ x < 26) (w : World) : Calls Try.prog 85 #[.int .i64 x] w fun e w' => e = .returned (.int .u64 (if x < 16 then 16 else 32)) ∧ w = w' := by
  have h := len_ex x hx.2
  have hwx : IntKind.u64.wrap (x : Int) = (x : Int) := by rw [IntKind.wrap_u64]; omega
  rcases (by unfold bl; split <;> (try omega) ; split <;> (try omega); split <;> (try omega); split <;> (try omega); split <;> simp_all : (bl x = 4 ∧ x < 16) ∨ (bl x = 5 ∧ ¬ x < 16)) with ⟨h1, h2⟩ | ⟨h1, h2⟩
  all_goals
    rw [h1] at h
    first | rw [if_pos h2] | rw [if_neg h2]
    clear h2 hx
    go_enter Try.func85, Try.ntmps85
    go_wp2_with fail
    refine (h _).mono ?_
    rintro e w' ⟨rfl, rfl⟩
    go_wp2_with fail
    go_ret
    exact ⟨rfl, rfl⟩
end Go.Proofs.Ytiodlmmbjjdojaa
