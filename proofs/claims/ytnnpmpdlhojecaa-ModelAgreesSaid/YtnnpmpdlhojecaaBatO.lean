/- The contracts of batch.Normal and of the statements' awake. -/
import Derived.Test.YtnnpmpdlhojecaaBatN
namespace Go.Proofs.Ytnnpmpdlhojecaa
open Go.RowKit
theorem check_len {b : List Wrt} (h : checkR 8 1 b = 0) : b.length ≤ 16 := by
  rcases Nat.lt_or_ge 16 b.length with h1 | h1
  · rw [checkR, if_pos h1] at h; exact absurd h (by decide)
  · exact h1
set_option maxHeartbeats 1000000 in
set_option maxRecDepth 100000 in
theorem normal_any (b : List Wrt) (hn : b.length ≤ 9223372036854775807) (bv : Value) (w : World) (hbv : Lst w bv b.length (wCs b)) :
    Calls Try.prog 46 #[bv] w fun e w' => ∃ r : Bool, e = .returned (.bool r) ∧ (r = true ↔ checkR 8 1 b = 0 ∧ norm b = b) ∧ Keeps [] w w' := by
  have hnz := normalize_any b hn bv w hbv
  by_cases hc : checkR 8 1 b = 0
  · have hlen := check_len hc
    rw [hc] at hnz ⊢
    simp only [if_true] at hnz
    have Hc := Lib.hid hc
    clear hc
    go_enter Try.func46, Try.ntmps46
    go_wp2_with fail
    refine hnz.mono ?_
    rintro e w1 ⟨u, rfl, hu, k1⟩
    go_wp2_with fail
    refine (equalW_any (norm b) b (by have := norm_le b; omega) (by omega) u bv w1 hu (hbv.keeps k1)).mono ?_
    rintro e w2 ⟨r, rfl, hr, k2⟩
    go_wp2_with fail
    go_ret
    exact ⟨r, rfl, by simpa using hr, k1.trans k2 (by simp)⟩
  · have hcb : (checkR 8 1 b == 0) = false := by simpa using hc
    go_enter Try.func46, Try.ntmps46
    go_wp2_with fail
    refine hnz.mono ?_
    rintro e w1 ⟨u, rfl, hu, k1⟩
    go_wp2_with fail
    go_ret
    exact ⟨false, rfl, by simp [hc], k1⟩
def b0 : List Wrt := [⟨[98], [49], false⟩, ⟨[97], [50], false⟩, ⟨[98], [], true⟩]
def b1 : List Wrt := [⟨[97], [50], false⟩, ⟨[98], [], true⟩]
theorem b0_check : checkR 8 1 b0 = 0 := by decide
theorem b1_check : checkR 8 1 b1 = 0 := by decide
theorem b0_norm : norm b0 = b1 := by kernel_rfl
theorem b1_norm : norm b1 = b1 := by rw [← b0_norm, norm_norm]
set_option maxHeartbeats 1000000 in
set_option maxRecDepth 100000 in
theorem awake_any (w : World) : Calls Try.prog 36 #[] w fun e w' => e = .returned (.bool true) ∧ Keeps [] w w' := by
  go_enter Try.func36, Try.ntmps36
  have hb := Blk.new w (wCs b0 ++ []) 57
  have k0 := (Keeps.refl [] w).alloc (.cells (wCs b0 ++ []).toArray 57)
  have hl := Lst.blk (n := 3) (cap := 3) hb
  have hn0 := normalize_any b0 (by decide) _ _ hl
  rw [b0_check] at hn0
  simp only [if_true, b0_norm] at hn0
  clear hl
  go_wp2_with fail
  refine hn0.mono ?_
  rintro e w1 ⟨u, rfl, hu, k1⟩
  have K1 := k0.trans k1 (by simp)
  clear hn0 k0 k1 hb
  have hb1 := Blk.new w1 (wCs b1 ++ []) 57
  have k2 := (Keeps.refl [] w1).alloc (.cells (wCs b1 ++ []).toArray 57)
  have hl1 := Lst.blk (n := 2) (cap := 2) hb1
  have hs := sameW_any b1 b1 (by decide) (by decide) u _ _ (hu.keeps k2) hl1
  go_wp2_with fail
  refine hs.mono ?_
  rintro e w2 ⟨r, rfl, hr, k3⟩
  obtain rfl : r = true := by simpa using hr
  have k4 := k2.trans k3 (by simp)
  go_wp2_with fail
  refine (normal_any b1 (by decide) u _ (hu.keeps k4)).mono ?_
  rintro e w3 ⟨r, rfl, hr, k5⟩
  obtain rfl : r = true := hr.2 ⟨b1_check, b1_norm⟩
  go_wp2_with fail
  go_ret
  exact ⟨rfl, (K1.trans k4 (by simp)).trans k5 (by simp)⟩
end Go.Proofs.Ytnnpmpdlhojecaa
