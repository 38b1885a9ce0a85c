/- The contract of blinktreekit.Same at cells: equal lists. -/
import Derived.Test.YtiodlmmbjjdojaaKit
import Derived.Deep.QuietTactic
import Derived.BigQuiet
namespace Go.Proofs.Ytiodlmmbjjdojaa
open Go.RowKit
set_option maxHeartbeats 400000 in
theorem same_cells (w : World) (b1 b2 c1 c2 : Nat) (X : List C3) (r1 r2 : List Value) (h1 : Blk w b1 (flat X ++ r1)) (h2 : Blk w b2 (flat X ++ r2)) (hx : X.length ≤ 1048577) :
    Calls Try.prog 21 #[.slice (some ⟨b1, 0, none⟩) X.length c1, .slice (some ⟨b2, 0, none⟩) X.length c2] w fun e w' => e = .returned (.bool true) ∧ Keeps [] w w' := by
  have l1 := h1.lt
  have l2 := h2.lt
  go_enter Try.func21, Try.ntmps21
  go_wp2_with fail
  go_loopw [5] (fun i wr => ∃ k j : Nat, k ≤ X.length ∧ i = .int .i64 k ∧ wr = w.drewN j) (fun i _ => X.length - (intOf i).toNat)
  case atStart => exact ⟨0, 0, by omega, rfl, rfl⟩
  case round =>
    obtain ⟨k, j, hk, rfl, rfl⟩ := hrel
    by_cases hlt : k < X.length
    · obtain ⟨y, hy⟩ : ∃ y, X[k]? = some y := ⟨X[k], by simp [hlt]⟩
      obtain ⟨f0, f1, f2⟩ := flat_cells h1 k y hy
      obtain ⟨g0, g1, g2⟩ := flat_cells h2 k y hy
      have hi1 : (k : Int) < (X.length : Int) := by omega
      clear hy
      go_wp2_with fail
      go_quiet (fail)
      go_wp2_with fail
      go_roundw
      case rel => exact ⟨k + 1, _, by omega, by go_num, rfl⟩
      case measure => simp [intOf]; omega
    · obtain rfl : k = X.length := by omega
      go_wp2_with fail
      go_ret
      exact ⟨rfl, (Keeps.refl _ _).drewN _⟩
end Go.Proofs.Ytiodlmmbjjdojaa
