/- The walks of awake and of MemoryNew. -/
import Derived.Test.YtigmafikjbaigaaMem
namespace Go.Proofs.Ytigmafikjbaigaa
open Go.RowKit
set_option maxHeartbeats 1000000 in
theorem awake2_any (w : World) :
    Calls Try.prog 23 #[] w fun e w' => e = .returned (.bool true) ∧ Keeps [] w w' := by
  go_enter Try.func23, Try.ntmps23
  go_wp2_with fail
  refine (new_yes 3 (by omega) (by omega) _).mono ?_
  rintro e w1 ⟨m, c, rfl, h1, hm, hc, hk⟩
  go_wp2_with fail
  refine (swap_any _ m c _ 0 h1 0 0 5 0 ⟨#[]⟩ (by omega) (by omega)).mono ?_
  rintro e w2 ⟨rfl, h2, k2⟩
  have e1 : (memIn (List.replicate 3 C3.zero) 0 && (memAt (List.replicate 3 C3.zero) 0).N == 0) = true := rfl
  rw [e1] at h2 ⊢
  have K2 := hk.trans k2 (by simp; omega)
  clear e1 h1 k2 hk
  go_wp2_with fail
  refine (swap_any _ m c _ _ h2 0 0 6 0 ⟨#[]⟩ (by omega) (by omega)).mono ?_
  rintro e w3 ⟨rfl, h3, k3⟩
  have e1 : (memIn (memSet (List.replicate 3 C3.zero) 0 ⟨5, ⟨#[]⟩, 0⟩) 0 && (memAt (memSet (List.replicate 3 C3.zero) 0 ⟨5, ⟨#[]⟩, 0⟩) 0).N == 0) = false := rfl
  simp only [if_true] at h3 ⊢
  rw [e1] at h3 ⊢
  have K3 := K2.trans k3 (by simp; omega)
  clear e1 h2 k3 K2
  go_wp2_with (first | (go_at_call 25; refine (accesses_any _ m c _ _ h3).mono ?_; rintro e w' ⟨rfl, rfl⟩) | (go_at_call 24; refine (cells_any _ m c _ _ h3).mono ?_; rintro e w' ⟨rfl, rfl⟩))
  go_ret
  exact ⟨rfl, K3⟩
theorem memAt_zero (k : Nat) (i : Int) : memAt (List.replicate k C3.zero) i = C3.zero := by
  unfold memAt
  split
  · rw [List.getD_eq_getElem?_getD, List.getElem?_replicate]
    split <;> rfl
  · rfl
set_option maxHeartbeats 1000000 in
theorem memoryNew_any (n small at_ : Int) (s0 : -9223372036854775808 ≤ small) (s1 : small ≤ 9223372036854775807) (a0 : -9223372036854775808 ≤ at_) (a1 : at_ ≤ 9223372036854775807) (w : World) :
    Calls Try.prog 6 #[.int .i64 n, .int .i64 small, .int .i64 at_] w fun e w' => e = .returned (.bool true) ∧ Keeps [] w w' := by
  have hm0 := Int.emod_nonneg small (show (100 : Int) ≠ 0 by omega)
  have hm1 := Int.emod_lt_of_pos small (show (0 : Int) < 100 by omega)
  obtain ⟨r, hr⟩ : ∃ r : Nat, small % 100 = r := ⟨(small % 100).toNat, by omega⟩
  rw [hr] at hm0 hm1
  have Hr := Lib.hid hr
  clear hr
  have hk1 : ((1 + r : Nat) : Int) = 1 + (r : Int) := by omega
  by_cases hn : n < 1 ∨ 1048576 < n
  · go_enter Try.func6, Try.ntmps6
    go_wp2_with fail
    refine (new_no n hn _).mono ?_
    rintro e w1 ⟨rfl, hk⟩
    rcases hn with hn | hn
    all_goals
      go_wp2_with fail
      refine (mod_any small 100 s0 s1 (by omega) (by omega) _).mono ?_
      rintro e w' ⟨rfl, rfl⟩
      rw [Hr.out]
      go_wp2_with fail
      rw [← hk1]
      refine (new_yes (1 + r) (by omega) (by omega) _).mono ?_
      rintro e w2 ⟨m, c, rfl, h2, hm, hc, k2⟩
      have K2 := hk.trans k2 (by simp)
      have hms := hk.size
      clear hk k2
      go_wp2_with fail
      refine (awake2_any _).mono ?_
      rintro e w3 ⟨rfl, k3⟩
      have h3 := h2.keeps k3 (by simp) (by simp)
      have K3 := K2.trans k3 (by simp)
      clear h2 k3 K2
      go_wp2_with (first | (go_at_call 25; refine (accesses_any _ m c _ _ h3).mono ?_; rintro e w' ⟨rfl, rfl⟩) | (go_at_call 24; refine (cells_any _ m c _ _ h3).mono ?_; rintro e w' ⟨rfl, rfl⟩))
      refine (mod_any at_ (1 + r) a0 a1 (by omega) (by omega) _).mono ?_
      rintro e w' ⟨rfl, rfl⟩
      go_wp2_with fail
      refine (load_any _ m c _ _ h3 _ (by omega) (by omega)).mono ?_
      rintro e w4 ⟨he, h4, k4⟩
      rw [memAt_zero] at he; simp only [C3.zero] at he
      subst he
      have K4 := K3.trans k4 (by simp; omega)
      clear h3 k4 K3
      go_wp2_with fail
      refine (peek_any _ m c _ _ h4 _).mono ?_
      rintro e w5 ⟨he, k5⟩
      rw [memAt_zero] at he; simp only [C3.zero] at he
      subst he
      have K5 := K4.trans k5 (by simp)
      clear h4 k5 K4
      go_wp2_with fail
      go_ret
      exact ⟨rfl, K5⟩
  · obtain ⟨N, rfl⟩ : ∃ N : Nat, n = N := ⟨n.toNat, by omega⟩
    have hn1 : 1 ≤ N := by omega
    have hn2 : N ≤ 1048576 := by omega
    have hn3 : (1 : Int) ≤ N := by omega
    have hn4 : (N : Int) ≤ 1048576 := by omega
    clear hn
    go_enter Try.func6, Try.ntmps6
    go_wp2_with fail
    refine (new_yes N hn1 hn2 _).mono ?_
    rintro e w1 ⟨m0, c0, rfl, _, _, _, hk⟩
    go_wp2_with fail
    refine (mod_any small 100 s0 s1 (by omega) (by omega) _).mono ?_
    rintro e w' ⟨rfl, rfl⟩
    rw [Hr.out]
    go_wp2_with fail
    rw [← hk1]
    refine (new_yes (1 + r) (by omega) (by omega) _).mono ?_
    rintro e w2 ⟨m, c, rfl, h2, hm, hc, k2⟩
    have K2 := hk.trans k2 (by simp)
    have hms := hk.size
    clear hk k2
    go_wp2_with fail
    refine (awake2_any _).mono ?_
    rintro e w3 ⟨rfl, k3⟩
    have h3 := h2.keeps k3 (by simp) (by simp)
    have K3 := K2.trans k3 (by simp)
    clear h2 k3 K2
    go_wp2_with (first | (go_at_call 25; refine (accesses_any _ m c _ _ h3).mono ?_; rintro e w' ⟨rfl, rfl⟩) | (go_at_call 24; refine (cells_any _ m c _ _ h3).mono ?_; rintro e w' ⟨rfl, rfl⟩))
    refine (mod_any at_ (1 + r) a0 a1 (by omega) (by omega) _).mono ?_
    rintro e w' ⟨rfl, rfl⟩
    go_wp2_with fail
    refine (load_any _ m c _ _ h3 _ (by omega) (by omega)).mono ?_
    rintro e w4 ⟨he, h4, k4⟩
    rw [memAt_zero] at he; simp only [C3.zero] at he
    subst he
    have K4 := K3.trans k4 (by simp; omega)
    clear h3 k4 K3
    go_wp2_with fail
    refine (peek_any _ m c _ _ h4 _).mono ?_
    rintro e w5 ⟨he, k5⟩
    rw [memAt_zero] at he; simp only [C3.zero] at he
    subst he
    have K5 := K4.trans k5 (by simp)
    clear h4 k5 K4
    go_wp2_with fail
    go_ret
    exact ⟨rfl, K5⟩
end Go.Proofs.Ytigmafikjbaigaa
