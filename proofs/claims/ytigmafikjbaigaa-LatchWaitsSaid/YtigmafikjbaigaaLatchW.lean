/- The walk of LatchWaits. -/
import Derived.Test.YtigmafikjbaigaaLatchM
namespace Go.Proofs.Ytigmafikjbaigaa
open Go.RowKit
theorem memAt_one' (x : C3) : memAt [x] 0 = x := rfl
theorem memSet_one (x y : C3) : memSet [x] 0 y = [y] := rfl
theorem memIn_one (x : C3) : memIn [x] 0 = true := rfl
set_option maxRecDepth 100000 in
set_option maxHeartbeats 2000000 in
theorem latchWaits_any (x0 : Int) (s : Nat) (k0 : 0 ≤ x0) (k1 : x0 ≤ 18446744073709551615) (s1 : s ≤ 255) (w : World) :
    Calls Try.prog 11 #[.int .u64 x0, .int .u8 s] w fun e w' => e = .returned (.bool true) ∧ Keeps [] w w' := by
  obtain ⟨h, t, h0, h1, t0, t1, rfl⟩ : ∃ h t : Int, 0 ≤ h ∧ h ≤ 9223372036854775807 ∧ 0 ≤ t ∧ t < 2 ∧ x0 = 2 * h + t := ⟨x0 / 2, x0 % 2, by omega, by omega, by omega, by omega, by omega⟩
  obtain ⟨r, hr, hr1⟩ : ∃ r : Nat, s % 50 = r ∧ r < 50 := ⟨_, rfl, Nat.mod_lt _ (by omega)⟩
  have hrs : (s : Int) % 50 = (r : Int) := by omega
  have Hr := Lib.hid hr
  clear hr
  go_enter Try.func11, Try.ntmps11
  go_wp2_with fail
  refine (new_yes 1 (by omega) (by omega) _).mono ?_
  rintro e w1 ⟨m, c, rfl, hm1, hm, hc, q1⟩
  go_wp2_with (first | (go_at_call 13; refine (awake4_any _).mono ?_; rintro e w' ⟨rfl, rfl⟩) | (go_at_call 14; refine (lock_is _ (2 * h + 1) (by omega) (by omega) (by omega) _).mono ?_; rintro e w' ⟨rfl, rfl⟩))
  refine (poke_any _ m c _ 0 hm1 0 (2 * h + 1) 0 ⟨#[]⟩).mono ?_
  rintro e w2 ⟨rfl, hm2, q2⟩
  have e2 : memSet (List.replicate 1 C3.zero) 0 ⟨2 * h + 1, ⟨#[]⟩, 0⟩ = [⟨2 * h + 1, ⟨#[]⟩, 0⟩] := rfl
  rw [e2] at hm2
  have Q2 := q1.trans q2 (by simp; omega)
  clear hm1 q1 q2 e2
  go_wp2_with fail
  refine (newAcquire_any 0 _).mono ?_
  rintro e w3 ⟨ab, rfl, ha3, hab, q3⟩
  have hm3 := hm2.keeps q3 (by simp) (by simp)
  have hl3 := hm2.lt
  have Q3 := Q2.trans q3 (by simp)
  have hws := Q2.size
  have hne : ab ≠ m ∧ ab ≠ c := by omega
  clear hm2 q3 Q2
  go_wp2_with fail
  go_loopw [8] (fun i wr => ∃ k : Nat, k ≤ r ∧ i = .int .i64 k ∧ Acq wr ab .look 0 0 ∧ MemAt wr m c [⟨2 * h + 1, ⟨#[]⟩, 0⟩] k ∧ Keeps [m, ab] w3 wr) (fun i _ => r - (intOf i).toNat)
  case atStart => exact ⟨0, by omega, rfl, ha3, hm3, Keeps.refl _ _⟩
  case round =>
    obtain ⟨k, hk, rfl, ha4, hm4, q4⟩ := hrel
    by_cases hkr : k < r
    · go_wp2_with fail
      refine (acqStep_busy _ ab m c _ k 0 0 ha4 hm4 (by omega) (by omega) hne (by rw [memAt_one']; dsimp only; omega) (by rw [memAt_one']; dsimp only; omega) (by rw [memAt_one']; dsimp only; omega)).mono ?_
      rintro e w5 ⟨rfl, ha5, hm5, q5⟩
      go_wp2_with fail
      refine (peek_any _ m c _ _ hm5 0).mono ?_
      rintro e w6 ⟨he, q6⟩
      rw [memAt_one'] at he
      dsimp only at he
      subst he
      have hm6 := hm5.keeps q6 (by simp) (by simp)
      have ha6 : Acq w6 ab .look 0 0 := q6.blk ha5 (by simp)
      go_wp2_with (go_at_call 14; refine (lock_is _ (2 * h + 1) (by omega) (by omega) (by omega) _).mono ?_; rintro e w' ⟨rfl, rfl⟩)
      go_roundw
      case rel => exact ⟨k + 1, by omega, by go_num, ha6, hm6, (q4.trans q5 (by simp)).trans q6 (by simp)⟩
      case measure => simp [intOf]; omega
    · obtain rfl : k = r := by omega
      go_wp2_with (go_at_call 14; refine (lock_is _ (2 * h + 1) (by omega) (by omega) (by omega) _).mono ?_; rintro e w' ⟨rfl, rfl⟩)
      refine (newRelease_any 0 (2 * h + 1) _).mono ?_
      rintro e w5 ⟨rb, ib, wb, rfl, hr5, hrb, hib, hwb, q5⟩
      have hm5 := hm4.keeps q5 (by simp) (by simp)
      have ha5 : Acq w5 ab .look 0 0 := q5.blk ha4 (by simp)
      have hm4l := hm4.lt
      have ha4l := ha4.lt
      have hq4 := q4.size
      have hq3 := Q3.size
      have Q5 : Keeps [] w w5 := (Q3.trans q4 (by simp; omega)).trans q5 (by simp)
      clear hm4 ha4 q4 q5
      go_wp2_with fail
      refine (relStep_any _ rb ib wb m c _ _ 0 (2 * h + 1) hr5 hm5 (by omega) (by omega) (by omega) (by omega) (by omega)).mono ?_
      rintro e w6 ⟨rfl, hm6, q6⟩
      have e6 : (2 * h + 1) / 2 * 2 = 2 * h := by omega
      rw [memSet_one, e6] at hm6
      have ha6 : Acq w6 ab .look 0 0 := q6.blk ha5 (by simp; omega)
      have Q6 : Keeps [] w w6 := Q5.trans q6 (by simp; omega)
      clear hm5 ha5 hr5 q6 Q5 e6
      go_wp2_with fail
      refine (peek_any _ m c _ _ hm6 0).mono ?_
      rintro e w7 ⟨he, q7⟩
      rw [memAt_one'] at he
      dsimp only at he
      subst he
      have hm7 := hm6.keeps q7 (by simp) (by simp)
      have ha7 : Acq w7 ab .look 0 0 := q7.blk ha6 (by simp)
      have Q7 := Q6.trans q7 (by simp)
      clear hm6 ha6 q7 Q6
      go_wp2_with (go_at_call 12; refine (unlock_is _ (2 * h) (by omega) (by omega) (by omega) _).mono ?_; rintro e w' ⟨rfl, rfl⟩)
      go_loopw [9] (fun i wr => i = .int .i64 0 ∧ Acq wr ab .look 0 0 ∧ MemAt wr m c [⟨2 * h, ⟨#[]⟩, 0⟩] (k + 1) ∧ Keeps [] w wr ∨ i = .int .i64 1 ∧ Acq wr ab .lock 0 (2 * h + 1) ∧ MemAt wr m c [⟨2 * h, ⟨#[]⟩, 0⟩] (k + 2) ∧ Keeps [] w wr) (fun i _ => 2 - (intOf i).toNat)
      case atStart => exact .inl ⟨rfl, ha7, hm7, Q7⟩
      case round =>
        rcases hrel with ⟨rfl, ha8, hm8, Q8⟩ | ⟨rfl, ha8, hm8, Q8⟩
        · go_wp2_with fail
          refine (acqStep_free _ ab m c _ _ 0 0 ha8 hm8 (by omega) (by omega) hne (by rw [memAt_one']; dsimp only; omega) (by rw [memAt_one']; dsimp only; omega) (by rw [memAt_one']; dsimp only; omega)).mono ?_
          rintro e w9 ⟨rfl, ha9, hm9, q9⟩
          rw [memAt_one'] at ha9
          dsimp only at ha9
          rw [show 2 * h / 2 * 2 + 1 = 2 * h + 1 by omega] at ha9
          go_wp2_with fail
          refine (peek_any _ m c _ _ hm9 0).mono ?_
          rintro e w10 ⟨he, q10⟩
          rw [memAt_one'] at he
          dsimp only at he
          subst he
          have hm10 := hm9.keeps q10 (by simp) (by simp)
          have ha10 : Acq w10 ab .lock 0 (2 * h + 1) := q10.blk ha9 (by simp)
          go_wp2_with (go_at_call 15; refine (locked_no _ (by omega) (by omega) (by omega) _).mono ?_; rintro e w' ⟨rfl, rfl⟩)
          go_roundw
          case rel => exact .inr ⟨rfl, ha10, by rw [show (k : Int) + 2 = k + 1 + 1 by omega]; exact hm10, (Q8.trans q9 (by simp; omega)).trans q10 (by simp)⟩
          case measure => simp [intOf]
        · go_wp2_with fail
          refine (acqStep_hit _ ab m c _ _ 0 (2 * h + 1) ha8 hm8 (by omega) (by omega) hne (by omega) (by omega) (by rw [memAt_one', memIn_one]; simp; omega)).mono ?_
          rintro e w9 ⟨rfl, ha9, hm9, q9⟩
          rw [memSet_one] at hm9
          have Q9 : Keeps [] w w9 := Q8.trans q9 (by simp; omega)
          clear ha8 hm8 Q8 q9
          go_wp2_with (go_at_call 25; refine (accesses_any _ m c _ _ (by exact hm9)).mono ?_; rintro e w' ⟨rfl, rfl⟩)
          refine (acqStep_done _ ab m 0 (2 * h + 1) ha9).mono ?_
          rintro e w' ⟨rfl, rfl⟩
          go_wp2_with (first | (go_at_call 25; refine (accesses_any _ m c _ _ (by exact hm9)).mono ?_; rintro e w' ⟨rfl, rfl⟩) | (go_at_call 37; refine (acqWord_done _ ab 0 (2 * h + 1) ha9).mono ?_; rintro e w' ⟨rfl, rfl⟩) | (go_at_call 14; refine (lock_is _ (2 * h + 1) (by omega) (by omega) (by omega) _).mono ?_; rintro e w' ⟨rfl, rfl⟩))
          refine (peek_any _ m c _ _ hm9 0).mono ?_
          rintro e w10 ⟨he, q10⟩
          rw [memAt_one'] at he
          dsimp only at he
          subst he
          go_wp2_with (go_at_call 14; refine (lock_is _ (2 * h + 1) (by omega) (by omega) (by omega) _).mono ?_; rintro e w' ⟨rfl, rfl⟩)
          go_ret
          exact ⟨rfl, Q9.trans q10 (by simp)⟩
end Go.Proofs.Ytigmafikjbaigaa
