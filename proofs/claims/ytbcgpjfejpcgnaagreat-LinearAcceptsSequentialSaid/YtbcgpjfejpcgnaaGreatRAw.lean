/- Lemmas on the way to LinearAcceptsSequential. No condition. -/
import Derived.Test.YtbcgpjfejpcgnaaGreatRAu
import Derived.Deep.CutBlock
set_option linter.unusedSimpArgs false
set_option linter.unusedVariables false
set_option linter.unusedSectionVars false
section
namespace Go.Proofs.YtbcgpjfejpcgnaaGreat
open Go.RowKit
set_option linter.unusedVariables false
set_option linter.unusedSimpArgs false
set_option maxRecDepth 100000
set_option maxHeartbeats 4000000
theorem parEq_any (b cap n a e pv : Nat) (rest : List Value) (d : Array Int) (w : World) (hb : Rw w b rest d) (hd : d.size = n) (hn : n ≤ 4096) (hae : a + 1 < e ∧ e ≤ n) (hpv : a ≤ pv ∧ pv < e) :
    Calls Tryz.prog 107 #[.slice (some ⟨b, 0, none⟩) n cap, .int .i64 a, .int .i64 e, .int .i64 pv] w fun q w' => q = .returned (.int .i64 (Go.Sort.partitionEqual Go.Sort.ltInt d a e pv).1) ∧ Rw w' b rest (Go.Sort.partitionEqual Go.Sort.ltInt d a e pv).2 ∧ Keeps [b] w w' := by
  obtain ⟨e', rfl⟩ : ∃ e', e = e' + 1 := ⟨e - 1, by omega⟩
  have x1 := hb.cell a (by omega)
  have x2 := hb.cell pv (by omega)
  have xf := hb.frozen
  have xl := hb.lt
  have b1 : (0 : Int) ≤ (a : Int) := by omega
  have b2 : (a : Int) < n := by omega
  have b3 : (0 : Int) ≤ (pv : Int) := by omega
  have b4 : (pv : Int) < n := by omega
  have hz := (hb.swp a pv (by omega) (by omega)).drew
  have hkz := (keeps_swp (b := b) (by simp) w (Keeps.refl [b] w) a pv (.int .u64 d[pv]!) (.int .u64 d[a]!)).drew
  obtain ⟨D, hD⟩ : ∃ D, Go.Sort.swp d a pv = D := ⟨_, rfl⟩
  have hDs : Hid (D.size = n) := Lib.hid (by rw [← hD, Go.Sort.size_swp]; exact hd)
  unfold Go.Sort.partitionEqual
  rw [hD, Nat.add_sub_cancel]
  have HD := Lib.hid hD
  clear hd hD
  rw [show ((e' + 1 : Nat) : Int) = (e' : Int) + 1 from rfl]
  have hwa : IntKind.i64.wrap ((a : Int) + 1) = (a : Int) + 1 := i64w _ (by omega) (by omega)
  have hwe : IntKind.i64.wrap (e' : Int) = (e' : Int) := i64w _ (by omega) (by omega)
  go_enter Tryz.func107, Tryz.ntmps107
  go_upto_region 1 with fail
  go_cut [8] from 11 to 24 (fun s8 wx => s8 = .int .i64 0 ∧ Rw wx b rest D ∧ Keeps [b] w wx)
  case first =>
    by_cases hap : a = pv
    · subst hap
      go_wp2_with fail
      go_region
      all_goals go_wp2_with fail
      all_goals go_meet
      all_goals exact ⟨rfl, by rw [← HD.out]; exact hz, hkz⟩
    · have hn1 : a ≠ pv := hap
      have hn2 : pv ≠ a := Ne.symm hap
      go_wp2_with fail
      go_region
      all_goals go_wp2_with fail
      all_goals go_meet
      all_goals exact ⟨rfl, by rw [← HD.out]; exact hz, hkz⟩
  case rest =>
  obtain ⟨rfl, hbD, hkD⟩ := hcut
  clear hz hkz x1 x2 xf xl hb
  have He : Hid (a < e' ∧ e' < n) := Lib.hid (by omega)
  go_wp2_with fail
  go_loopw [9, 10] (fun i j wr => ∃ (p q : Nat) (d' : Array Int), i = .int .i64 p ∧ j = .int .i64 q ∧ Hid (a < p ∧ p ≤ q + 1 ∧ q < n ∧ d'.size = n ∧ Go.Sort.partEqLoop Go.Sort.ltInt a p q d' = Go.Sort.partEqLoop Go.Sort.ltInt a (a + 1) e' D) ∧ Rw wr b rest d' ∧ Keeps [b] w wr) (fun i j _ => (intOf j + 1 - intOf i).toNat)
  case atStart => exact ⟨a + 1, e', D, by go_num, by go_num, Lib.hid ⟨by omega, by have := He.out; omega, He.out.2, hDs.out, rfl⟩, hbD, hkD⟩
  case round =>
    obtain ⟨p, q, d', rfl, rfl, hR, hbr, hkr⟩ := hrel
    go_upto_block 2 with fail
    go_cut [9] from 29 to 45 (fun s9 wx => s9 = .int .i64 (Go.Sort.scanUp (fun x => !Go.Sort.ltInt d'[a]! x) d' q p : Nat) ∧ Rw wx b rest d' ∧ Keeps [b] w wx)
    case first =>
      go_wp2_with fail
      go_loopw [9] (fun i wr2 => ∃ k : Nat, i = .int .i64 k ∧ Hid (p ≤ k ∧ k ≤ q + 1 ∧ Go.Sort.scanUp (fun x => !Go.Sort.ltInt d'[a]! x) d' q k = Go.Sort.scanUp (fun x => !Go.Sort.ltInt d'[a]! x) d' q p) ∧ Rw wr2 b rest d' ∧ Keeps [b] w wr2) (fun i _ => q + 1 - (intOf i).toNat)
      case atStart => exact ⟨p, rfl, Lib.hid ⟨Nat.le_refl _, hR.out.2.1, rfl⟩, hbr, hkr⟩
      case round =>
        obtain ⟨k, rfl, hk, hb2, hk2⟩ := hrel
        have hsz := hR.out.2.2.2.1
        have hqn := hR.out.2.2.1
        by_cases hle : k ≤ q
        · have xa := hb2.cell a (by omega)
          have xk := hb2.cell k (by omega)
          have xf := hb2.frozen
          have xl := hb2.lt
          have hc : (k : Int) ≤ (q : Int) := by omega
          have c1 : (0 : Int) ≤ (k : Int) := by omega
          have c2 : (k : Int) < n := by omega
          have hwk : IntKind.i64.wrap ((k : Int) + 1) = (k : Int) + 1 := i64w _ (by omega) (by omega)
          clear hsz hqn
          by_cases hlt : d'[a]! < d'[k]!
          · have hd4 : decide (d'[a]! < d'[k]!) = true := by simp [hlt]
            have hst : Go.Sort.scanUp (fun x => !Go.Sort.ltInt d'[a]! x) d' q p = k := by rw [← hk.out.2.2]; exact scanUp_stop (fun _ => by simp [Go.Sort.ltInt, hlt])
            have Hst := Lib.hid hst
            clear hst
            go_wp2_with fail
            go_region_held3 (fun w' => w'.cell? ⟨b, a, none⟩ = some (.int .u64 d'[a]!) ∧ w'.cell? ⟨b, k, none⟩ = some (.int .u64 d'[k]!)) (go_keep)
              ((go_at_call 106; refine (less_any _ _ _).mono ?_; rintro e w' ⟨rfl, rfl⟩))
            go_wp2_with fail
            go_meet
            exact ⟨by rw [Hst.out], hb2.drew, hk2.drew⟩
          · have hd4 : decide (d'[a]! < d'[k]!) = false := by simp; omega
            go_wp2_with fail
            go_region_held3 (fun w' => w'.cell? ⟨b, a, none⟩ = some (.int .u64 d'[a]!) ∧ w'.cell? ⟨b, k, none⟩ = some (.int .u64 d'[k]!)) (go_keep)
              ((go_at_call 106; refine (less_any _ _ _).mono ?_; rintro e w' ⟨rfl, rfl⟩))
            go_wp2_with fail
            exact ⟨⟨k + 1, by go_num, Lib.hid ⟨by have := hk.out; omega, by omega, by rw [← hk.out.2.2]; exact (scanUp_step hle (by simp [Go.Sort.ltInt]; omega)).symm⟩, hb2.drew, hk2.drew⟩, by simp [intOf]; omega⟩
        · have hc : ¬ (k : Int) ≤ (q : Int) := by omega
          have hdc : decide ((k : Int) ≤ (q : Int)) = false := decide_eq_false hc
          have hst : Go.Sort.scanUp (fun x => !Go.Sort.ltInt d'[a]! x) d' q p = k := by rw [← hk.out.2.2]; exact scanUp_stop (fun h => absurd h hle)
          have Hst := Lib.hid hst
          clear hst hsz hqn
          go_wp2_with fail
          go_quiet (fail)
          go_wp2_with fail
          go_meet
          exact ⟨by rw [Hst.out], hb2.drewN _, hk2.drewN _⟩
    case rest =>
      obtain ⟨rfl, hbx, hkx⟩ := hcut
      obtain ⟨i2, hi2⟩ : ∃ i2, Go.Sort.scanUp (fun x => !Go.Sort.ltInt d'[a]! x) d' q p = i2 := ⟨_, rfl⟩
      rw [hi2]
      have Hi2 := Lib.hid hi2
      clear hi2 hbr hkr
      have Hp2 : Hid (p ≤ i2 ∧ i2 ≤ q + 1 ∧ (i2 ≤ q → d'[a]! < d'[i2]!)) := Lib.hid (by
        obtain ⟨h1, h2, _, h4⟩ := Go.Sort.scanUp_spec (fun x => !Go.Sort.ltInt d'[a]! x) d' q _ p rfl
        rw [Hi2.out] at h1 h2 h4
        exact ⟨h1, h2 hR.out.2.1, fun h => by simpa [Go.Sort.ltInt] using h4 h⟩)
      go_upto_block 4 with fail
      go_cut [10] from 46 to 61 (fun s10 wx => s10 = .int .i64 (Go.Sort.scanDown (fun x => Go.Sort.ltInt d'[a]! x) d' i2 q : Nat) ∧ Rw wx b rest d' ∧ Keeps [b] w wx)
      case first =>
        go_wp2_with fail
        go_loopw [10] (fun i wr2 => ∃ k : Nat, i = .int .i64 k ∧ Hid (k ≤ q ∧ i2 ≤ k + 1 ∧ Go.Sort.scanDown (fun x => Go.Sort.ltInt d'[a]! x) d' i2 k = Go.Sort.scanDown (fun x => Go.Sort.ltInt d'[a]! x) d' i2 q) ∧ Rw wr2 b rest d' ∧ Keeps [b] w wr2) (fun i _ => (intOf i).toNat)
        case atStart => exact ⟨q, rfl, Lib.hid ⟨Nat.le_refl _, Hp2.out.2.1, rfl⟩, hbx, hkx⟩
        case round =>
          obtain ⟨k, rfl, hk, hb2, hk2⟩ := hrel
          have hsz := hR.out.2.2.2.1
          have hqn := hR.out.2.2.1
          have hap := hR.out.1
          have hi1 := Hp2.out.1
          have hkq := hk.out.1
          by_cases hle : i2 ≤ k
          · obtain ⟨k', rfl⟩ : ∃ k', k = k' + 1 := ⟨k - 1, by omega⟩
            have xa := hb2.cell a (by omega)
            have xk := hb2.cell (k' + 1) (by omega)
            have xf := hb2.frozen
            have xl := hb2.lt
            have hc : (i2 : Int) ≤ (k' : Int) + 1 := by omega
            have c1 : (0 : Int) ≤ (k' : Int) + 1 := by omega
            have c2 : (k' : Int) + 1 < n := by omega
            have hwk : IntKind.i64.wrap (k' : Int) = (k' : Int) := i64w _ (by omega) (by omega)
            have hki : Hid (k' + 1 ≤ q ∧ i2 ≤ k' + 1) := Lib.hid ⟨hkq, hle⟩
            rw [show ((k' + 1 : Nat) : Int) = (k' : Int) + 1 from rfl]
            clear hsz hqn hap hi1 hkq
            by_cases hlt : d'[a]! < d'[k' + 1]!
            · have hd4 : decide (d'[a]! < d'[k' + 1]!) = true := by simp [hlt]
              go_wp2_with fail
              go_region_held3 (fun w' => w'.cell? ⟨b, a, none⟩ = some (.int .u64 d'[a]!) ∧ w'.cell? ⟨b, k' + 1, none⟩ = some (.int .u64 d'[k' + 1]!)) (go_keep)
                ((go_at_call 106; refine (less_any _ _ _).mono ?_; rintro e w' ⟨rfl, rfl⟩))
              go_wp2_with fail
              exact ⟨⟨k', by go_num, Lib.hid ⟨by have := hki.out; omega, hki.out.2, by rw [← hk.out.2.2]; exact (scanDown_step hki.out.2 (by simp [Go.Sort.ltInt, hlt])).symm⟩, hb2.drew, hk2.drew⟩, by simp [intOf]⟩
            · have hd4 : decide (d'[a]! < d'[k' + 1]!) = false := by simp; omega
              have hst : Go.Sort.scanDown (fun x => Go.Sort.ltInt d'[a]! x) d' i2 q = k' + 1 := by rw [← hk.out.2.2]; exact scanDown_stop (fun _ => by simp [Go.Sort.ltInt]; omega)
              have Hst := Lib.hid hst
              clear hst
              go_wp2_with fail
              go_region_held3 (fun w' => w'.cell? ⟨b, a, none⟩ = some (.int .u64 d'[a]!) ∧ w'.cell? ⟨b, k' + 1, none⟩ = some (.int .u64 d'[k' + 1]!)) (go_keep)
                ((go_at_call 106; refine (less_any _ _ _).mono ?_; rintro e w' ⟨rfl, rfl⟩))
              go_wp2_with fail
              go_meet
              exact ⟨by rw [Hst.out]; rfl, hb2.drew, hk2.drew⟩
          · have hc : ¬ (i2 : Int) ≤ (k : Int) := by omega
            have hdc : decide ((i2 : Int) ≤ (k : Int)) = false := decide_eq_false hc
            have hst : Go.Sort.scanDown (fun x => Go.Sort.ltInt d'[a]! x) d' i2 q = k := by rw [← hk.out.2.2]; exact scanDown_stop (fun h => absurd h hle)
            have Hst := Lib.hid hst
            clear hst hsz hqn hap hi1 hkq
            go_wp2_with fail
            go_quiet (fail)
            go_wp2_with fail
            go_meet
            exact ⟨by rw [Hst.out], hb2.drewN _, hk2.drewN _⟩
      case rest =>
        obtain ⟨rfl, hby, hky⟩ := hcut
        obtain ⟨j2, hj2⟩ : ∃ j2, Go.Sort.scanDown (fun x => Go.Sort.ltInt d'[a]! x) d' i2 q = j2 := ⟨_, rfl⟩
        rw [hj2]
        have Hj2 := Lib.hid hj2
        clear hj2 hbx hkx
        have Hq2 : Hid (j2 ≤ q ∧ (i2 ≤ j2 → ¬ d'[a]! < d'[j2]!)) := Lib.hid (by
          obtain ⟨h1, _, _, h4⟩ := Go.Sort.scanDown_spec (fun x => Go.Sort.ltInt d'[a]! x) d' i2 q
          rw [Hj2.out] at h1 h4
          refine ⟨h1, fun h => ?_⟩
          have := hR.out.1
          have := Hp2.out.1
          have h5 := h4 h (by omega)
          simpa [Go.Sort.ltInt] using h5)
        by_cases hgt : i2 > j2
        · have hc : (j2 : Int) < (i2 : Int) := by omega
          have hre : Go.Sort.partEqLoop Go.Sort.ltInt a (a + 1) e' D = (i2, d') := by
            rw [← hR.out.2.2.2.2, Go.Sort.partEqLoop_eq, Hi2.out, Hj2.out, if_pos hgt]
          have Hre := Lib.hid hre
          clear hre
          go_wp2_with fail
          go_ret
          exact ⟨by rw [Hre.out]; rfl, by rw [Hre.out]; exact hby, hky⟩
        · have hlt2 : i2 < j2 := by
            rcases Nat.lt_or_ge i2 j2 with h | h
            · exact h
            · exfalso
              obtain rfl : i2 = j2 := by omega
              exact Hq2.out.2 (Nat.le_refl _) (Hp2.out.2.2 Hq2.out.1)
          obtain ⟨j', rfl⟩ : ∃ j', j2 = j' + 1 := ⟨j2 - 1, by omega⟩
          have hc : ¬ ((j' : Int) + 1) < (i2 : Int) := by omega
          have hsz := hR.out.2.2.2.1
          have hqn := hR.out.2.2.1
          have hap := hR.out.1
          have hi1 := Hp2.out.1
          have hjq := Hq2.out.1
          have x1 := hby.cell i2 (by omega)
          have x2 := hby.cell (j' + 1) (by omega)
          have xf := hby.frozen
          have xl := hby.lt
          have c1 : (0 : Int) ≤ (i2 : Int) := by omega
          have c2 : (i2 : Int) < n := by omega
          have c3 : (0 : Int) ≤ (j' : Int) + 1 := by omega
          have c4 : (j' : Int) + 1 < n := by omega
          have hn1 : i2 ≠ j' + 1 := by omega
          have hn2 : j' + 1 ≠ i2 := by omega
          have hwi : IntKind.i64.wrap ((i2 : Int) + 1) = (i2 : Int) + 1 := i64w _ (by omega) (by omega)
          have hwj : IntKind.i64.wrap (j' : Int) = (j' : Int) := i64w _ (by omega) (by omega)
          have hz2 := (hby.swp i2 (j' + 1) (by omega) (by omega)).drew
          have hkz2 := (keeps_swp (b := b) (by simp) w hky i2 (j' + 1) (.int .u64 d'[j' + 1]!) (.int .u64 d'[i2]!)).drew
          have hR2 : Hid (a < i2 + 1 ∧ i2 + 1 ≤ j' + 1 ∧ j' < n ∧ (Go.Sort.swp d' i2 (j' + 1)).size = n ∧ Go.Sort.partEqLoop Go.Sort.ltInt a (i2 + 1) j' (Go.Sort.swp d' i2 (j' + 1)) = Go.Sort.partEqLoop Go.Sort.ltInt a (a + 1) e' D) := Lib.hid ⟨by omega, by omega, by omega, by rw [Go.Sort.size_swp]; exact hsz, by
            rw [← hR.out.2.2.2.2]
            conv => rhs; rw [Go.Sort.partEqLoop_eq, Hi2.out, Hj2.out, if_neg (by omega)]
            rfl⟩
          have hms : Hid (j' + 1 ≤ q ∧ p ≤ i2 ∧ i2 < j' + 1) := Lib.hid ⟨hjq, hi1, hlt2⟩
          rw [show ((j' + 1 : Nat) : Int) = (j' : Int) + 1 from rfl]
          clear hsz hqn hap hi1 hjq hlt2 hgt
          go_wp2_with fail
          go_region
          all_goals go_wp2_with fail
          all_goals exact ⟨⟨i2 + 1, j', _, by go_num, by go_num, hR2, hz2, hkz2⟩, by have := hms.out; simp [intOf]; omega⟩
end Go.Proofs.YtbcgpjfejpcgnaaGreat
end
section
namespace Go.Proofs.YtbcgpjfejpcgnaaGreat
open Go.RowKit
set_option linter.unusedVariables false
set_option linter.unusedSimpArgs false
set_option maxRecDepth 100000
set_option maxHeartbeats 4000000
theorem par_any (b cap n a e pv : Nat) (rest : List Value) (d : Array Int) (w : World) (hb : Rw w b rest d) (hd : d.size = n) (hn : n ≤ 4096) (hae : a + 1 < e ∧ e ≤ n) (hpv : a ≤ pv ∧ pv < e) :
    Calls Tryz.prog 108 #[.slice (some ⟨b, 0, none⟩) n cap, .int .i64 a, .int .i64 e, .int .i64 pv] w fun q w' => q = .returned (.tuple #[.int .i64 (Go.Sort.partition Go.Sort.ltInt d a e pv).1, .bool (Go.Sort.partition Go.Sort.ltInt d a e pv).2.1]) ∧ Rw w' b rest (Go.Sort.partition Go.Sort.ltInt d a e pv).2.2 ∧ Keeps [b] w w' := by
  obtain ⟨e', rfl⟩ : ∃ e', e = e' + 1 := ⟨e - 1, by omega⟩
  have x1 := hb.cell a (by omega)
  have x2 := hb.cell pv (by omega)
  have xf := hb.frozen
  have xl := hb.lt
  have b1 : (0 : Int) ≤ (a : Int) := by omega
  have b2 : (a : Int) < n := by omega
  have b3 : (0 : Int) ≤ (pv : Int) := by omega
  have b4 : (pv : Int) < n := by omega
  have hz := (hb.swp a pv (by omega) (by omega)).drew
  have hkz := (keeps_swp (b := b) (by simp) w (Keeps.refl [b] w) a pv (.int .u64 d[pv]!) (.int .u64 d[a]!)).drew
  obtain ⟨D, hD⟩ : ∃ D, Go.Sort.swp d a pv = D := ⟨_, rfl⟩
  have hDs : Hid (D.size = n) := Lib.hid (by rw [← hD, Go.Sort.size_swp]; exact hd)
  obtain ⟨R, hRR⟩ : ∃ R, Go.Sort.partition Go.Sort.ltInt d a (e' + 1) pv = R := ⟨_, rfl⟩
  rw [hRR]
  unfold Go.Sort.partition at hRR
  simp only [hD, Nat.add_sub_cancel] at hRR
  have HRR := Lib.hid hRR
  have HD := Lib.hid hD
  clear hd hD hRR
  rw [show ((e' + 1 : Nat) : Int) = (e' : Int) + 1 from rfl]
  have hwa : IntKind.i64.wrap ((a : Int) + 1) = (a : Int) + 1 := i64w _ (by omega) (by omega)
  have hwe : IntKind.i64.wrap (e' : Int) = (e' : Int) := i64w _ (by omega) (by omega)
  go_enter Tryz.func108, Tryz.ntmps108
  go_upto_region 1 with fail
  go_cut [8] from 12 to 25 (fun s8 wx => s8 = .int .i64 0 ∧ Rw wx b rest D ∧ Keeps [b] w wx)
  case first =>
    by_cases hap : a = pv
    · subst hap
      go_wp2_with fail
      go_region
      all_goals go_wp2_with fail
      all_goals go_meet
      all_goals exact ⟨rfl, by rw [← HD.out]; exact hz, hkz⟩
    · have hn1 : a ≠ pv := hap
      have hn2 : pv ≠ a := Ne.symm hap
      go_wp2_with fail
      go_region
      all_goals go_wp2_with fail
      all_goals go_meet
      all_goals exact ⟨rfl, by rw [← HD.out]; exact hz, hkz⟩
  case rest =>
  obtain ⟨rfl, hbD, hkD⟩ := hcut
  clear hz hkz x1 x2 xf xl hb
  have He : Hid (a < a + 1 ∧ a + 1 ≤ e' + 1 ∧ e' < n ∧ D.size = n ∧ a < e') := Lib.hid ⟨by omega, by omega, by omega, hDs.out, by omega⟩
  go_upto_block 0 with fail
  go_cut [10] from 30 to 45 (fun si wx => si = .int .i64 (Go.Sort.scanUp (fun x => Go.Sort.ltInt x D[a]!) D e' (a + 1) : Nat) ∧ Rw wx b rest D ∧ Keeps [b] w wx)
  case first =>
    go_wp2_with fail
    go_loopw [10] (fun i wr2 => ∃ k : Nat, i = .int .i64 k ∧ Hid ((a + 1) ≤ k ∧ k ≤ e' + 1 ∧ Go.Sort.scanUp (fun x => Go.Sort.ltInt x D[a]!) D e' k = Go.Sort.scanUp (fun x => Go.Sort.ltInt x D[a]!) D e' (a + 1)) ∧ Rw wr2 b rest D ∧ Keeps [b] w wr2) (fun i _ => e' + 1 - (intOf i).toNat)
    case atStart => exact ⟨(a + 1), by first | rfl | go_num, Lib.hid ⟨Nat.le_refl _, He.out.2.1, rfl⟩, hbD, hkD⟩
    case round =>
      obtain ⟨k, rfl, hk, hb2, hk2⟩ := hrel
      have hsz := He.out.2.2.2.1
      have hqn := He.out.2.2.1
      by_cases hle : k ≤ e'
      · have xa := hb2.cell a (by omega)
        have xk := hb2.cell k (by omega)
        have xf := hb2.frozen
        have xl := hb2.lt
        have hc : (k : Int) ≤ (e' : Int) := by omega
        have c1 : (0 : Int) ≤ (k : Int) := by omega
        have c2 : (k : Int) < n := by omega
        have hwk : IntKind.i64.wrap ((k : Int) + 1) = (k : Int) + 1 := i64w _ (by omega) (by omega)
        clear hsz hqn
        by_cases hlt : D[k]! < D[a]!
        · have hd4 : decide (D[k]! < D[a]!) = true := by simp [hlt]
          go_wp2_with fail
          go_region_held3 (fun w' => w'.cell? ⟨b, a, none⟩ = some (.int .u64 D[a]!) ∧ w'.cell? ⟨b, k, none⟩ = some (.int .u64 D[k]!)) (go_keep)
            ((go_at_call 106; refine (less_any _ _ _).mono ?_; rintro e w' ⟨rfl, rfl⟩))
          go_wp2_with fail
          exact ⟨⟨k + 1, by go_num, Lib.hid ⟨by have := hk.out; omega, by omega, by rw [← hk.out.2.2]; exact (scanUp_step hle (by simp [Go.Sort.ltInt, hlt])).symm⟩, hb2.drew, hk2.drew⟩, by simp [intOf]; omega⟩
        · have hd4 : decide (D[k]! < D[a]!) = false := by simp; omega
          have hst : Go.Sort.scanUp (fun x => Go.Sort.ltInt x D[a]!) D e' (a + 1) = k := by rw [← hk.out.2.2]; exact scanUp_stop (fun _ => by simp [Go.Sort.ltInt]; omega)
          have Hst := Lib.hid hst
          clear hst
          go_wp2_with fail
          go_region_held3 (fun w' => w'.cell? ⟨b, a, none⟩ = some (.int .u64 D[a]!) ∧ w'.cell? ⟨b, k, none⟩ = some (.int .u64 D[k]!)) (go_keep)
            ((go_at_call 106; refine (less_any _ _ _).mono ?_; rintro e w' ⟨rfl, rfl⟩))
          go_wp2_with fail
          go_meet
          exact ⟨by rw [Hst.out], hb2.drew, hk2.drew⟩
      · have hc : ¬ (k : Int) ≤ (e' : Int) := by omega
        have hdc : decide ((k : Int) ≤ (e' : Int)) = false := decide_eq_false hc
        have hst : Go.Sort.scanUp (fun x => Go.Sort.ltInt x D[a]!) D e' (a + 1) = k := by rw [← hk.out.2.2]; exact scanUp_stop (fun h => absurd h hle)
        have Hst := Lib.hid hst
        clear hst hsz hqn
        go_wp2_with fail
        go_quiet (fail)
        go_wp2_with fail
        go_meet
        exact ⟨by rw [Hst.out], hb2.drewN _, hk2.drewN _⟩
  case rest =>
  obtain ⟨rfl, hbx, hkx⟩ := hcut
  obtain ⟨i2, hi2⟩ : ∃ i2, Go.Sort.scanUp (fun x => Go.Sort.ltInt x D[a]!) D e' (a + 1) = i2 := ⟨_, rfl⟩
  rw [hi2]
  have Hi2 := Lib.hid hi2
  clear hi2 hbD hkD
  have Hp2 : Hid ((a + 1) ≤ i2 ∧ i2 ≤ e' + 1 ∧ (i2 ≤ e' → ¬ D[i2]! < D[a]!)) := Lib.hid (by
    obtain ⟨h1, h2, _, h4⟩ := Go.Sort.scanUp_spec (fun x => Go.Sort.ltInt x D[a]!) D e' _ ((a + 1)) rfl
    rw [Hi2.out] at h1 h2 h4
    exact ⟨h1, h2 He.out.2.1, fun h => by simpa [Go.Sort.ltInt] using h4 h⟩)
  go_upto_block 2 with fail
  go_cut [11] from 46 to 62 (fun sj wx => sj = .int .i64 (Go.Sort.scanDown (fun x => !Go.Sort.ltInt x D[a]!) D i2 e' : Nat) ∧ Rw wx b rest D ∧ Keeps [b] w wx)
  case first =>
    go_wp2_with fail
    go_loopw [11] (fun i wr2 => ∃ k : Nat, i = .int .i64 k ∧ Hid (k ≤ e' ∧ i2 ≤ k + 1 ∧ Go.Sort.scanDown (fun x => !Go.Sort.ltInt x D[a]!) D i2 k = Go.Sort.scanDown (fun x => !Go.Sort.ltInt x D[a]!) D i2 e') ∧ Rw wr2 b rest D ∧ Keeps [b] w wr2) (fun i _ => (intOf i).toNat)
    case atStart => exact ⟨e', rfl, Lib.hid ⟨Nat.le_refl _, Hp2.out.2.1, rfl⟩, hbx, hkx⟩
    case round =>
      obtain ⟨k, rfl, hk, hb2, hk2⟩ := hrel
      have hsz := He.out.2.2.2.1
      have hqn := He.out.2.2.1
      have hap := He.out.1
      have hi1 := Hp2.out.1
      have hkq := hk.out.1
      by_cases hle : i2 ≤ k
      · obtain ⟨k', rfl⟩ : ∃ k', k = k' + 1 := ⟨k - 1, by omega⟩
        have xa := hb2.cell a (by omega)
        have xk := hb2.cell (k' + 1) (by omega)
        have xf := hb2.frozen
        have xl := hb2.lt
        have hc : (i2 : Int) ≤ (k' : Int) + 1 := by omega
        have c1 : (0 : Int) ≤ (k' : Int) + 1 := by omega
        have c2 : (k' : Int) + 1 < n := by omega
        have hwk : IntKind.i64.wrap (k' : Int) = (k' : Int) := i64w _ (by omega) (by omega)
        have hki : Hid (k' + 1 ≤ e' ∧ i2 ≤ k' + 1) := Lib.hid ⟨hkq, hle⟩
        rw [show ((k' + 1 : Nat) : Int) = (k' : Int) + 1 from rfl]
        clear hsz hqn hap hi1 hkq
        by_cases hlt : D[k' + 1]! < D[a]!
        · have hd4 : decide (D[k' + 1]! < D[a]!) = true := by simp [hlt]
          have hst : Go.Sort.scanDown (fun x => !Go.Sort.ltInt x D[a]!) D i2 e' = k' + 1 := by rw [← hk.out.2.2]; exact scanDown_stop (fun _ => by simp [Go.Sort.ltInt, hlt])
          have Hst := Lib.hid hst
          clear hst
          go_wp2_with fail
          go_region_held3 (fun w' => w'.cell? ⟨b, a, none⟩ = some (.int .u64 D[a]!) ∧ w'.cell? ⟨b, k' + 1, none⟩ = some (.int .u64 D[k' + 1]!)) (go_keep)
            ((go_at_call 106; refine (less_any _ _ _).mono ?_; rintro e w' ⟨rfl, rfl⟩))
          go_wp2_with fail
          go_meet
          exact ⟨by rw [Hst.out]; rfl, hb2.drew, hk2.drew⟩
        · have hd4 : decide (D[k' + 1]! < D[a]!) = false := by simp; omega
          go_wp2_with fail
          go_region_held3 (fun w' => w'.cell? ⟨b, a, none⟩ = some (.int .u64 D[a]!) ∧ w'.cell? ⟨b, k' + 1, none⟩ = some (.int .u64 D[k' + 1]!)) (go_keep)
            ((go_at_call 106; refine (less_any _ _ _).mono ?_; rintro e w' ⟨rfl, rfl⟩))
          go_wp2_with fail
          exact ⟨⟨k', by go_num, Lib.hid ⟨by have := hki.out; omega, hki.out.2, by rw [← hk.out.2.2]; exact (scanDown_step hki.out.2 (by simp [Go.Sort.ltInt]; omega)).symm⟩, hb2.drew, hk2.drew⟩, by simp [intOf]⟩
      · have hc : ¬ (i2 : Int) ≤ (k : Int) := by omega
        have hdc : decide ((i2 : Int) ≤ (k : Int)) = false := decide_eq_false hc
        have hst : Go.Sort.scanDown (fun x => !Go.Sort.ltInt x D[a]!) D i2 e' = k := by rw [← hk.out.2.2]; exact scanDown_stop (fun h => absurd h hle)
        have Hst := Lib.hid hst
        clear hst hsz hqn hap hi1 hkq
        go_wp2_with fail
        go_quiet (fail)
        go_wp2_with fail
        go_meet
        exact ⟨by rw [Hst.out], hb2.drewN _, hk2.drewN _⟩
  case rest =>
  obtain ⟨rfl, hby, hky⟩ := hcut
  obtain ⟨j2, hj2⟩ : ∃ j2, Go.Sort.scanDown (fun x => !Go.Sort.ltInt x D[a]!) D i2 e' = j2 := ⟨_, rfl⟩
  rw [hj2]
  have Hj2 := Lib.hid hj2
  clear hj2 hbx hkx
  have Hq2 : Hid (j2 ≤ e' ∧ i2 ≤ j2 + 1 ∧ (i2 ≤ j2 → D[j2]! < D[a]!)) := Lib.hid (by
    obtain ⟨h1, h2, _, h4⟩ := Go.Sort.scanDown_spec (fun x => !Go.Sort.ltInt x D[a]!) D i2 e'
    rw [Hj2.out] at h1 h2 h4
    refine ⟨h1, h2 Hp2.out.2.1, fun h => ?_⟩
    have := He.out.1
    have := Hp2.out.1
    have h5 := h4 h (by omega)
    simpa [Go.Sort.ltInt] using h5)
  by_cases hgt : i2 > j2
  · have hc : (j2 : Int) < (i2 : Int) := by omega
    have hre : (j2, true, Go.Sort.swp D j2 a) = R := by
      have h := HRR.out
      rw [Hi2.out, Hj2.out, if_pos hgt] at h
      exact h
    have Hre := Lib.hid hre
    clear hre
    have hsz := He.out.2.2.2.1
    have hqn := He.out.2.2.1
    have hap := He.out.1
    have hj1 := Hq2.out.1
    have hj2 := Hq2.out.2.1
    have hj3 := Hp2.out.1
    have x1 := hby.cell j2 (by omega)
    have x2 := hby.cell a (by omega)
    have xf := hby.frozen
    have xl := hby.lt
    have c1 : (0 : Int) ≤ (j2 : Int) := by omega
    have c2 : (j2 : Int) < n := by omega
    have hzf := (hby.swp j2 a (by omega) (by omega)).drew
    have hkf := (keeps_swp (b := b) (by simp) w hky j2 a (.int .u64 D[a]!) (.int .u64 D[j2]!)).drew
    clear hsz hqn hap
    by_cases hja : j2 = a
    · subst hja
      go_wp2_with fail
      go_region
      all_goals go_wp2_with fail
      all_goals go_ret2
      all_goals exact ⟨by rw [← Hre.out]; rfl, by rw [← Hre.out]; exact hzf, hkf⟩
    · have hn1 : j2 ≠ a := hja
      have hn2 : a ≠ j2 := Ne.symm hja
      go_wp2_with fail
      go_region
      all_goals go_wp2_with fail
      all_goals go_ret2
      all_goals exact ⟨by rw [← Hre.out]; rfl, by rw [← Hre.out]; exact hzf, hkf⟩
  · have hlt2 : i2 < j2 := by
      rcases Nat.lt_or_ge i2 j2 with h | h
      · exact h
      · exfalso
        obtain rfl : i2 = j2 := by omega
        exact Hp2.out.2.2 Hq2.out.1 (Hq2.out.2.2 (Nat.le_refl _))
    obtain ⟨j', rfl⟩ : ∃ j', j2 = j' + 1 := ⟨j2 - 1, by omega⟩
    have hc : ¬ ((j' : Int) + 1) < (i2 : Int) := by omega
    have hsz := He.out.2.2.2.1
    have hqn := He.out.2.2.1
    have hap := He.out.1
    have hi1 := Hp2.out.1
    have hjq := Hq2.out.1
    have x1 := hby.cell i2 (by omega)
    have x2 := hby.cell (j' + 1) (by omega)
    have xf := hby.frozen
    have xl := hby.lt
    have c1 : (0 : Int) ≤ (i2 : Int) := by omega
    have c2 : (i2 : Int) < n := by omega
    have c3 : (0 : Int) ≤ (j' : Int) + 1 := by omega
    have c4 : (j' : Int) + 1 < n := by omega
    have hn1 : i2 ≠ j' + 1 := by omega
    have hn2 : j' + 1 ≠ i2 := by omega
    have hwi : IntKind.i64.wrap ((i2 : Int) + 1) = (i2 : Int) + 1 := i64w _ (by omega) (by omega)
    have hwj : IntKind.i64.wrap (j' : Int) = (j' : Int) := i64w _ (by omega) (by omega)
    have hz2 := (hby.swp i2 (j' + 1) (by omega) (by omega)).drew
    have hkz2 := (keeps_swp (b := b) (by simp) w hky i2 (j' + 1) (.int .u64 D[j' + 1]!) (.int .u64 D[i2]!)).drew
    obtain ⟨D2, hD2⟩ : ∃ D2, Go.Sort.swp D i2 (j' + 1) = D2 := ⟨_, rfl⟩
    rw [hD2] at hz2
    have hs2 : D2.size = n := by rw [← hD2, Go.Sort.size_swp]; exact hsz
    have hre : ((Go.Sort.partLoop Go.Sort.ltInt a (i2 + 1) j' D2).1, false, Go.Sort.swp (Go.Sort.partLoop Go.Sort.ltInt a (i2 + 1) j' D2).2 (Go.Sort.partLoop Go.Sort.ltInt a (i2 + 1) j' D2).1 a) = R := by
      have h := HRR.out
      rw [Hi2.out, Hj2.out, if_neg hgt, hD2] at h
      exact h
    have Hre := Lib.hid hre
    have H0 : Hid (a < i2 + 1 ∧ i2 + 1 ≤ j' + 1 ∧ j' < n ∧ D2.size = n ∧ a < i2) := Lib.hid ⟨by omega, by omega, by omega, hs2, by omega⟩
    rw [show ((j' + 1 : Nat) : Int) = (j' : Int) + 1 from rfl]
    clear hre hs2 hsz hqn hap hi1 hjq hlt2 hgt hD2
    go_upto_region 10 with fail
    go_cut [8] from 81 to 94 (fun s8 wx => s8 = .int .i64 0 ∧ Rw wx b rest D2 ∧ Keeps [b] w wx)
    case first =>
      go_wp2_with fail
      go_region
      all_goals go_wp2_with fail
      all_goals go_meet
      all_goals exact ⟨rfl, hz2, hkz2⟩
    case rest =>
    obtain ⟨rfl, hb3, hk3⟩ := hcut
    clear Hi2 Hj2 Hp2 Hq2
    obtain ⟨iS, hiS⟩ : ∃ iS, iS = i2 := ⟨_, rfl⟩
    obtain ⟨jS, hjS⟩ : ∃ jS, jS = j' := ⟨_, rfl⟩
    rw [← hiS] at Hre H0 hwi ⊢
    rw [← hjS] at Hre H0 hwj ⊢
    clear hiS hjS
    clear hz2 hkz2 x1 x2 xf xl hby hky c1 c2 c3 c4 hn1 hn2 hc
    go_wp2_with fail
    go_loopw [10, 11] (fun i j wr => ∃ (p q : Nat) (d' : Array Int), i = .int .i64 p ∧ j = .int .i64 q ∧ Hid (a < p ∧ p ≤ q + 1 ∧ q < n ∧ d'.size = n ∧ Go.Sort.partLoop Go.Sort.ltInt a p q d' = Go.Sort.partLoop Go.Sort.ltInt a (iS + 1) jS D2) ∧ Rw wr b rest d' ∧ Keeps [b] w wr) (fun i j _ => (intOf j + 1 - intOf i).toNat)
    case atStart => exact ⟨iS + 1, jS, D2, by go_num, by go_num, Lib.hid ⟨H0.out.1, H0.out.2.1, H0.out.2.2.1, H0.out.2.2.2.1, rfl⟩, hb3, hk3⟩
    case round =>
      obtain ⟨p, q, d', rfl, rfl, hR, hbr, hkr⟩ := hrel
      go_upto_block 6 with fail
      go_cut [10] from 99 to 114 (fun si wx => si = .int .i64 (Go.Sort.scanUp (fun x => Go.Sort.ltInt x d'[a]!) d' q p : Nat) ∧ Rw wx b rest d' ∧ Keeps [b] w wx)
      case first =>
        go_wp2_with fail
        go_loopw [10] (fun i wr2 => ∃ k : Nat, i = .int .i64 k ∧ Hid (p ≤ k ∧ k ≤ q + 1 ∧ Go.Sort.scanUp (fun x => Go.Sort.ltInt x d'[a]!) d' q k = Go.Sort.scanUp (fun x => Go.Sort.ltInt x d'[a]!) d' q p) ∧ Rw wr2 b rest d' ∧ Keeps [b] w wr2) (fun i _ => q + 1 - (intOf i).toNat)
        case atStart => exact ⟨p, by first | rfl | go_num, Lib.hid ⟨Nat.le_refl _, hR.out.2.1, rfl⟩, hbr, hkr⟩
        case round =>
          obtain ⟨k, rfl, hk, hb2, hk2⟩ := hrel
          have hsz := hR.out.2.2.2.1
          have hqn := hR.out.2.2.1
          by_cases hle : k ≤ q
          · have xa := hb2.cell a (by omega)
            have xk := hb2.cell k (by omega)
            have xf := hb2.frozen
            have xl := hb2.lt
            have hc : (k : Int) ≤ (q : Int) := by omega
            have c1 : (0 : Int) ≤ (k : Int) := by omega
            have c2 : (k : Int) < n := by omega
            have hwk : IntKind.i64.wrap ((k : Int) + 1) = (k : Int) + 1 := i64w _ (by omega) (by omega)
            clear hsz hqn
            by_cases hlt : d'[k]! < d'[a]!
            · have hd4 : decide (d'[k]! < d'[a]!) = true := by simp [hlt]
              go_wp2_with fail
              go_region_held3 (fun w' => w'.cell? ⟨b, a, none⟩ = some (.int .u64 d'[a]!) ∧ w'.cell? ⟨b, k, none⟩ = some (.int .u64 d'[k]!)) (go_keep)
                ((go_at_call 106; refine (less_any _ _ _).mono ?_; rintro e w' ⟨rfl, rfl⟩))
              go_wp2_with fail
              exact ⟨⟨k + 1, by go_num, Lib.hid ⟨by have := hk.out; omega, by omega, by rw [← hk.out.2.2]; exact (scanUp_step hle (by simp [Go.Sort.ltInt, hlt])).symm⟩, hb2.drew, hk2.drew⟩, by simp [intOf]; omega⟩
            · have hd4 : decide (d'[k]! < d'[a]!) = false := by simp; omega
              have hst : Go.Sort.scanUp (fun x => Go.Sort.ltInt x d'[a]!) d' q p = k := by rw [← hk.out.2.2]; exact scanUp_stop (fun _ => by simp [Go.Sort.ltInt]; omega)
              have Hst := Lib.hid hst
              clear hst
              go_wp2_with fail
              go_region_held3 (fun w' => w'.cell? ⟨b, a, none⟩ = some (.int .u64 d'[a]!) ∧ w'.cell? ⟨b, k, none⟩ = some (.int .u64 d'[k]!)) (go_keep)
                ((go_at_call 106; refine (less_any _ _ _).mono ?_; rintro e w' ⟨rfl, rfl⟩))
              go_wp2_with fail
              go_meet
              exact ⟨by rw [Hst.out], hb2.drew, hk2.drew⟩
          · have hc : ¬ (k : Int) ≤ (q : Int) := by omega
            have hdc : decide ((k : Int) ≤ (q : Int)) = false := decide_eq_false hc
            have hst : Go.Sort.scanUp (fun x => Go.Sort.ltInt x d'[a]!) d' q p = k := by rw [← hk.out.2.2]; exact scanUp_stop (fun h => absurd h hle)
            have Hst := Lib.hid hst
            clear hst hsz hqn
            go_wp2_with fail
            go_quiet (fail)
            go_wp2_with fail
            go_meet
            exact ⟨by rw [Hst.out], hb2.drewN _, hk2.drewN _⟩
      case rest =>
      obtain ⟨rfl, hbx, hkx⟩ := hcut
      obtain ⟨i2, hi2⟩ : ∃ i2, Go.Sort.scanUp (fun x => Go.Sort.ltInt x d'[a]!) d' q p = i2 := ⟨_, rfl⟩
      rw [hi2]
      have Hi2 := Lib.hid hi2
      clear hi2 hbr hkr
      have Hp2 : Hid (p ≤ i2 ∧ i2 ≤ q + 1 ∧ (i2 ≤ q → ¬ d'[i2]! < d'[a]!)) := Lib.hid (by
        obtain ⟨h1, h2, _, h4⟩ := Go.Sort.scanUp_spec (fun x => Go.Sort.ltInt x d'[a]!) d' q _ (p) rfl
        rw [Hi2.out] at h1 h2 h4
        exact ⟨h1, h2 hR.out.2.1, fun h => by simpa [Go.Sort.ltInt] using h4 h⟩)
      go_upto_block 8 with fail
      go_cut [11] from 115 to 131 (fun sj wx => sj = .int .i64 (Go.Sort.scanDown (fun x => !Go.Sort.ltInt x d'[a]!) d' i2 q : Nat) ∧ Rw wx b rest d' ∧ Keeps [b] w wx)
      case first =>
        go_wp2_with fail
        go_loopw [11] (fun i wr2 => ∃ k : Nat, i = .int .i64 k ∧ Hid (k ≤ q ∧ i2 ≤ k + 1 ∧ Go.Sort.scanDown (fun x => !Go.Sort.ltInt x d'[a]!) d' i2 k = Go.Sort.scanDown (fun x => !Go.Sort.ltInt x d'[a]!) d' i2 q) ∧ Rw wr2 b rest d' ∧ Keeps [b] w wr2) (fun i _ => (intOf i).toNat)
        case atStart => exact ⟨q, rfl, Lib.hid ⟨Nat.le_refl _, Hp2.out.2.1, rfl⟩, hbx, hkx⟩
        case round =>
          obtain ⟨k, rfl, hk, hb2, hk2⟩ := hrel
          have hsz := hR.out.2.2.2.1
          have hqn := hR.out.2.2.1
          have hap := hR.out.1
          have hi1 := Hp2.out.1
          have hkq := hk.out.1
          by_cases hle : i2 ≤ k
          · obtain ⟨k', rfl⟩ : ∃ k', k = k' + 1 := ⟨k - 1, by omega⟩
            have xa := hb2.cell a (by omega)
            have xk := hb2.cell (k' + 1) (by omega)
            have xf := hb2.frozen
            have xl := hb2.lt
            have hc : (i2 : Int) ≤ (k' : Int) + 1 := by omega
            have c1 : (0 : Int) ≤ (k' : Int) + 1 := by omega
            have c2 : (k' : Int) + 1 < n := by omega
            have hwk : IntKind.i64.wrap (k' : Int) = (k' : Int) := i64w _ (by omega) (by omega)
            have hki : Hid (k' + 1 ≤ q ∧ i2 ≤ k' + 1) := Lib.hid ⟨hkq, hle⟩
            rw [show ((k' + 1 : Nat) : Int) = (k' : Int) + 1 from rfl]
            clear hsz hqn hap hi1 hkq
            by_cases hlt : d'[k' + 1]! < d'[a]!
            · have hd4 : decide (d'[k' + 1]! < d'[a]!) = true := by simp [hlt]
              have hst : Go.Sort.scanDown (fun x => !Go.Sort.ltInt x d'[a]!) d' i2 q = k' + 1 := by rw [← hk.out.2.2]; exact scanDown_stop (fun _ => by simp [Go.Sort.ltInt, hlt])
              have Hst := Lib.hid hst
              clear hst
              go_wp2_with fail
              go_region_held3 (fun w' => w'.cell? ⟨b, a, none⟩ = some (.int .u64 d'[a]!) ∧ w'.cell? ⟨b, k' + 1, none⟩ = some (.int .u64 d'[k' + 1]!)) (go_keep)
                ((go_at_call 106; refine (less_any _ _ _).mono ?_; rintro e w' ⟨rfl, rfl⟩))
              go_wp2_with fail
              go_meet
              exact ⟨by rw [Hst.out]; rfl, hb2.drew, hk2.drew⟩
            · have hd4 : decide (d'[k' + 1]! < d'[a]!) = false := by simp; omega
              go_wp2_with fail
              go_region_held3 (fun w' => w'.cell? ⟨b, a, none⟩ = some (.int .u64 d'[a]!) ∧ w'.cell? ⟨b, k' + 1, none⟩ = some (.int .u64 d'[k' + 1]!)) (go_keep)
                ((go_at_call 106; refine (less_any _ _ _).mono ?_; rintro e w' ⟨rfl, rfl⟩))
              go_wp2_with fail
              exact ⟨⟨k', by go_num, Lib.hid ⟨by have := hki.out; omega, hki.out.2, by rw [← hk.out.2.2]; exact (scanDown_step hki.out.2 (by simp [Go.Sort.ltInt]; omega)).symm⟩, hb2.drew, hk2.drew⟩, by simp [intOf]⟩
          · have hc : ¬ (i2 : Int) ≤ (k : Int) := by omega
            have hdc : decide ((i2 : Int) ≤ (k : Int)) = false := decide_eq_false hc
            have hst : Go.Sort.scanDown (fun x => !Go.Sort.ltInt x d'[a]!) d' i2 q = k := by rw [← hk.out.2.2]; exact scanDown_stop (fun h => absurd h hle)
            have Hst := Lib.hid hst
            clear hst hsz hqn hap hi1 hkq
            go_wp2_with fail
            go_quiet (fail)
            go_wp2_with fail
            go_meet
            exact ⟨by rw [Hst.out], hb2.drewN _, hk2.drewN _⟩
      case rest =>
      obtain ⟨rfl, hby, hky⟩ := hcut
      obtain ⟨j2, hj2⟩ : ∃ j2, Go.Sort.scanDown (fun x => !Go.Sort.ltInt x d'[a]!) d' i2 q = j2 := ⟨_, rfl⟩
      rw [hj2]
      have Hj2 := Lib.hid hj2
      clear hj2 hbx hkx
      have Hq2 : Hid (j2 ≤ q ∧ i2 ≤ j2 + 1 ∧ (i2 ≤ j2 → d'[j2]! < d'[a]!)) := Lib.hid (by
        obtain ⟨h1, h2, _, h4⟩ := Go.Sort.scanDown_spec (fun x => !Go.Sort.ltInt x d'[a]!) d' i2 q
        rw [Hj2.out] at h1 h2 h4
        refine ⟨h1, h2 Hp2.out.2.1, fun h => ?_⟩
        have := hR.out.1
        have := Hp2.out.1
        have h5 := h4 h (by omega)
        simpa [Go.Sort.ltInt] using h5)
      by_cases hgt : i2 > j2
      · have hc : (j2 : Int) < (i2 : Int) := by omega
        have hre : Go.Sort.partLoop Go.Sort.ltInt a (iS + 1) jS D2 = (j2, d') := by
          rw [← hR.out.2.2.2.2, Go.Sort.partLoop_eq, Hi2.out, Hj2.out, if_pos hgt]
        have hre2 : (j2, false, Go.Sort.swp d' j2 a) = R := by
          have h := Hre.out
          rw [hre] at h
          exact h
        have Hre2 := Lib.hid hre2
        clear hre hre2
        have hsz := hR.out.2.2.2.1
        have hqn := hR.out.2.2.1
        have hap := hR.out.1
        have hj1 := Hq2.out.1
        have hj2 := Hq2.out.2.1
        have hj3 := Hp2.out.1
        have x1 := hby.cell j2 (by omega)
        have x2 := hby.cell a (by omega)
        have xf := hby.frozen
        have xl := hby.lt
        have c1 : (0 : Int) ≤ (j2 : Int) := by omega
        have c2 : (j2 : Int) < n := by omega
        have hzf := (hby.swp j2 a (by omega) (by omega)).drew
        have hkf := (keeps_swp (b := b) (by simp) w hky j2 a (.int .u64 d'[a]!) (.int .u64 d'[j2]!)).drew
        clear hsz hqn hap
        by_cases hja : j2 = a
        · subst hja
          go_wp2_with fail
          go_region
          all_goals go_wp2_with fail
          all_goals go_ret2
          all_goals exact ⟨by rw [← Hre2.out]; rfl, by rw [← Hre2.out]; exact hzf, hkf⟩
        · have hn1 : j2 ≠ a := hja
          have hn2 : a ≠ j2 := Ne.symm hja
          go_wp2_with fail
          go_region
          all_goals go_wp2_with fail
          all_goals go_ret2
          all_goals exact ⟨by rw [← Hre2.out]; rfl, by rw [← Hre2.out]; exact hzf, hkf⟩
      · have hlt2 : i2 < j2 := by
          rcases Nat.lt_or_ge i2 j2 with h | h
          · exact h
          · exfalso
            obtain rfl : i2 = j2 := by omega
            exact Hp2.out.2.2 Hq2.out.1 (Hq2.out.2.2 (Nat.le_refl _))
        obtain ⟨j', rfl⟩ : ∃ j', j2 = j' + 1 := ⟨j2 - 1, by omega⟩
        have hc : ¬ ((j' : Int) + 1) < (i2 : Int) := by omega
        have hsz := hR.out.2.2.2.1
        have hqn := hR.out.2.2.1
        have hap := hR.out.1
        have hi1 := Hp2.out.1
        have hjq := Hq2.out.1
        have x1 := hby.cell i2 (by omega)
        have x2 := hby.cell (j' + 1) (by omega)
        have xf := hby.frozen
        have xl := hby.lt
        have c1 : (0 : Int) ≤ (i2 : Int) := by omega
        have c2 : (i2 : Int) < n := by omega
        have c3 : (0 : Int) ≤ (j' : Int) + 1 := by omega
        have c4 : (j' : Int) + 1 < n := by omega
        have hn1 : i2 ≠ j' + 1 := by omega
        have hn2 : j' + 1 ≠ i2 := by omega
        have hwi : IntKind.i64.wrap ((i2 : Int) + 1) = (i2 : Int) + 1 := i64w _ (by omega) (by omega)
        have hwj : IntKind.i64.wrap (j' : Int) = (j' : Int) := i64w _ (by omega) (by omega)
        have hz2 := (hby.swp i2 (j' + 1) (by omega) (by omega)).drew
        have hkz2 := (keeps_swp (b := b) (by simp) w hky i2 (j' + 1) (.int .u64 d'[j' + 1]!) (.int .u64 d'[i2]!)).drew
        have hR2 : Hid (a < i2 + 1 ∧ i2 + 1 ≤ j' + 1 ∧ j' < n ∧ (Go.Sort.swp d' i2 (j' + 1)).size = n ∧ Go.Sort.partLoop Go.Sort.ltInt a (i2 + 1) j' (Go.Sort.swp d' i2 (j' + 1)) = Go.Sort.partLoop Go.Sort.ltInt a (iS + 1) jS D2) := Lib.hid ⟨by omega, by omega, by omega, by rw [Go.Sort.size_swp]; exact hsz, by
          rw [← hR.out.2.2.2.2]
          conv => rhs; rw [Go.Sort.partLoop_eq, Hi2.out, Hj2.out, if_neg (by omega)]
          rfl⟩
        have hms : Hid (j' + 1 ≤ q ∧ p ≤ i2 ∧ i2 < j' + 1) := Lib.hid ⟨hjq, hi1, hlt2⟩
        rw [show ((j' + 1 : Nat) : Int) = (j' : Int) + 1 from rfl]
        clear hsz hqn hap hi1 hjq hlt2 hgt
        go_wp2_with fail
        go_region
        all_goals go_wp2_with fail
        all_goals exact ⟨⟨i2 + 1, j', _, by go_num, by go_num, hR2, hz2, hkz2⟩, by have := hms.out; simp [intOf]; omega⟩
end Go.Proofs.YtbcgpjfejpcgnaaGreat
end
