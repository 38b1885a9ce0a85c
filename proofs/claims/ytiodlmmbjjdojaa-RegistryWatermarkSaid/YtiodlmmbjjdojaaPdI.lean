/- slices.partialInsertionSortOrdered at uint64, for fewer than 50 elements. -/
import Derived.Test.YtiodlmmbjjdojaaPdP
namespace Go.Proofs.Ytiodlmmbjjdojaa
open Go.RowKit
set_option linter.unusedVariables false
set_option linter.unusedSimpArgs false
set_option maxRecDepth 100000
set_option maxHeartbeats 4000000
theorem pins_eq (d : Array Int) (a e : Nat) (h : e - a < 50) : Go.Sort.partialInsertionSort Go.Sort.ltInt d a e = (d, decide (Go.Sort.scanSorted Go.Sort.ltInt d e (a + 1) = e)) := by
  unfold Go.Sort.partialInsertionSort Go.Sort.partialIns
  simp only
  by_cases h1 : Go.Sort.scanSorted Go.Sort.ltInt d e (a + 1) = e
  · rw [if_pos h1, decide_eq_true h1]
  · rw [if_neg h1, if_pos h, decide_eq_false h1]
theorem scanS_step {d : Array Int} {e i : Nat} (h : i < e) (hl : ¬ d[i]! < d[i - 1]!) : Go.Sort.scanSorted Go.Sort.ltInt d e i = Go.Sort.scanSorted Go.Sort.ltInt d e (i + 1) := by
  conv => lhs; rw [Go.Sort.scanSorted, if_pos (by simp [h, Go.Sort.ltInt]; omega)]
theorem scanS_stop {d : Array Int} {e i : Nat} (h : i < e → d[i]! < d[i - 1]!) : Go.Sort.scanSorted Go.Sort.ltInt d e i = i := by
  rw [Go.Sort.scanSorted, if_neg]
  intro hc
  simp only [Bool.and_eq_true, decide_eq_true_eq, Go.Sort.ltInt, Bool.not_eq_true', decide_eq_false_iff_not] at hc
  exact hc.2 (h hc.1)
theorem pins_any (b cap n a e : Nat) (rest : List Value) (d : Array Int) (w : World) (hb : Rw w b rest d) (hd : d.size = n) (hn : n ≤ 4096) (hae : a + 1 < e ∧ e ≤ n ∧ e - a < 50) :
    Calls Try.prog 76 #[.slice (some ⟨b, 0, none⟩) n cap, .int .i64 a, .int .i64 e] w fun q w' => q = .returned (.bool (Go.Sort.partialInsertionSort Go.Sort.ltInt d a e).2) ∧ Rw w' b rest (Go.Sort.partialInsertionSort Go.Sort.ltInt d a e).1 ∧ Keeps [b] w w' := by
  rw [pins_eq d a e hae.2.2]
  obtain ⟨r, hr⟩ : ∃ r, Go.Sort.scanSorted Go.Sort.ltInt d e (a + 1) = r := ⟨_, rfl⟩
  rw [hr]
  have Hr := Lib.hid hr
  have Hd := Lib.hid hd
  have Ha := Lib.hid hae
  have hwa : IntKind.i64.wrap ((a : Int) + 1) = (a : Int) + 1 := i64w _ (by omega) (by omega)
  have hwe : IntKind.i64.wrap ((e : Int) - (a : Int)) = (e : Int) - (a : Int) := i64w _ (by omega) (by omega)
  have hc5 : decide ((e : Int) - (a : Int) < 50) = true := by simp; omega
  clear hd hr hae
  go_enter Try.func76, Try.ntmps76
  go_wp2_with fail
  refine wp_loop_rounds 1 ?_
  rw [rounds_succ]
  go_wp2_with fail
  go_loopw [7] (fun i wr => ∃ k : Nat, i = .int .i64 k ∧ Hid (a + 1 ≤ k ∧ k ≤ e ∧ Go.Sort.scanSorted Go.Sort.ltInt d e k = r) ∧ Rw wr b rest d ∧ Keeps [b] w wr) (fun i _ => e - (intOf i).toNat)
  case atStart => exact ⟨a + 1, by go_num, Lib.hid ⟨Nat.le_refl _, by have := Ha.out; omega, Hr.out⟩, hb, Keeps.refl _ _⟩
  case round =>
    obtain ⟨k, rfl, hk, hb2, hk2⟩ := hrel
    have hsz := Hd.out
    have hae := Ha.out
    obtain ⟨k1, k2, k3⟩ := hk.out
    by_cases hlt : k < e
    · obtain ⟨k', rfl⟩ : ∃ k', k = k' + 1 := ⟨k - 1, by omega⟩
      have xa := hb2.cell k' (by omega)
      have xk := hb2.cell (k' + 1) (by omega)
      have xf := hb2.frozen
      have xl := hb2.lt
      have hc : (k' : Int) + 1 < (e : Int) := by omega
      have c1 : (0 : Int) ≤ (k' : Int) + 1 := by omega
      have c2 : (k' : Int) + 1 < n := by omega
      have c3 : (0 : Int) ≤ (k' : Int) := by omega
      have c4 : (k' : Int) < n := by omega
      have hwk : IntKind.i64.wrap (k' : Int) = (k' : Int) := i64w _ (by omega) (by omega)
      have hwk2 : IntKind.i64.wrap ((k' : Int) + 1 + 1) = (k' : Int) + 1 + 1 := i64w _ (by omega) (by omega)
      have hbe : (((k' : Int) + 1) == (e : Int)) = false := by simp; omega
      have hne : ¬ ((k' : Int) + 1) = (e : Int) := by omega
      have Hne : Hid (k' + 1 < e) := Lib.hid hlt
      have hst := fun (h : d[k' + 1]! < d[k']!) => (scanS_stop (d := d) (e := e) (i := k' + 1) (fun _ => h)).symm.trans k3
      have hsp := fun (h : ¬ d[k' + 1]! < d[k']!) => (scanS_step (d := d) (e := e) (i := k' + 1) hlt h).symm.trans k3
      have Hst := Lib.hid (And.intro hst hsp)
      rw [show ((k' + 1 : Nat) : Int) = (k' : Int) + 1 from rfl]
      clear hsz hae k1 k2 k3 hlt hst hsp
      by_cases hl : d[k' + 1]! < d[k']!
      · have hd4 : decide (d[k' + 1]! < d[k']!) = true := by simp [hl]
        go_wp2_with fail
        go_region_held3 (fun w' => w'.cell? ⟨b, k', none⟩ = some (.int .u64 d[k']!) ∧ w'.cell? ⟨b, k' + 1, none⟩ = some (.int .u64 d[k' + 1]!)) (go_keep)
          ((go_at_call 77; refine (less_any _ _ _).mono ?_; rintro e w' ⟨rfl, rfl⟩))
        go_wp2_with fail
        go_ret
        have := Hst.out.1 hl
        have := Hne.out
        exact ⟨by rw [decide_eq_false (by omega)]; rfl, hb2.drew, hk2.drew⟩
      · have hd4 : decide (d[k' + 1]! < d[k']!) = false := by simp; omega
        go_wp2_with fail
        go_region_held3 (fun w' => w'.cell? ⟨b, k', none⟩ = some (.int .u64 d[k']!) ∧ w'.cell? ⟨b, k' + 1, none⟩ = some (.int .u64 d[k' + 1]!)) (go_keep)
          ((go_at_call 77; refine (less_any _ _ _).mono ?_; rintro e w' ⟨rfl, rfl⟩))
        go_wp2_with fail
        exact ⟨⟨k' + 1 + 1, by go_num, Lib.hid ⟨by have := hk.out; omega, by have := Hne.out; omega, Hst.out.2 hl⟩, hb2.drew, hk2.drew⟩, by have := Hne.out; simp [intOf]; omega⟩
    · obtain rfl : k = e := by omega
      have hre : r = k := by rw [← k3]; exact scanS_stop (fun h => absurd h hlt)
      have Hre := Lib.hid hre
      have hc : ¬ (k : Int) < (k : Int) := by omega
      clear hsz hae k1 k2 k3 hre hlt
      go_wp2_with fail
      go_quiet (fail)
      go_wp2_with fail
      go_ret
      exact ⟨by rw [Hre.out, decide_eq_true rfl]; rfl, hb2.drewN _, hk2.drewN _⟩
end Go.Proofs.Ytiodlmmbjjdojaa
