/- Lemmas on the way to LinearAcceptsSequential. No condition. -/
import Derived.Test.YtbcgpjfejpcgnaaGreatRAu
import Derived.Test.YtbcgpjfejpcgnaaGreatRAv
import Derived.Test.YtbcgpjfejpcgnaaGreatRAw
import Derived.Test.YtbcgpjfejpcgnaaGreatRAx
import Derived.Maps.RangeWalk
set_option linter.unusedSimpArgs false
set_option linter.unusedVariables false
set_option linter.unusedSectionVars false
section
namespace Go.Proofs.YtbcgpjfejpcgnaaGreat
open Go.RowKit
set_option linter.unusedVariables false
set_option linter.unusedSimpArgs false
set_option maxRecDepth 100000
set_option maxHeartbeats 4000000
def PdqQ (w : World) (b : Nat) (rest : List Value) (n : Nat) (R : Array Int) (q : Ending) (w' : World) : Prop := q = .returned (.tuple #[]) ∧ Rw w' b rest R ∧ R.size = n ∧ Keeps [b] w w'
theorem pdq_run (b cap n lim : Nat) (rest : List Value) (hn : n ≤ 25) : ∀ (N a e : Nat) (d : Array Int) (w : World) (l0 : Nat), e - a ≤ N → Rw w b rest d → d.size = n → a ≤ e → e ≤ n → l0 ≤ 64 →
    Calls Tryz.prog 95 #[.slice (some ⟨b, 0, none⟩) n cap, .int .i64 a, .int .i64 e, .int .i64 l0] w (PdqQ w b rest n (Go.Sort.pdq Go.Sort.ltInt d a e l0 true true)) := by
  intro N
  induction N using Nat.strongRecOn with
  | ind N ih =>
  intro a e d w l0 hN hb hd hae hen hl0
  obtain ⟨R, hR⟩ : ∃ R, Go.Sort.pdq Go.Sort.ltInt d a e l0 true true = R := ⟨_, rfl⟩
  rw [hR]
  have Hih := Lib.hid ih
  have H0 := Lib.hid (And.intro hR (And.intro hd (And.intro hae (And.intro hen (And.intro hl0 hN)))))
  clear hR hd hae hen hl0 hN ih
  go_enter Tryz.func95, Tryz.ntmps95
  go_wp2_with fail
  go_loopw [1, 2, 3, 8, 9] (fun s1 s2 s3 s8 s9 wr => ∃ (a' e' l : Nat) (wb wp : Bool) (d' : Array Int), s1 = .int .i64 a' ∧ s2 = .int .i64 e' ∧ s3 = .int .i64 l ∧ s8 = .bool wb ∧ s9 = .bool wp ∧ Hid (a' ≤ e' ∧ e' ≤ n ∧ e' - a' ≤ N ∧ l ≤ 64 ∧ d'.size = n ∧ Go.Sort.pdq Go.Sort.ltInt d' a' e' l wb wp = R) ∧ Rw wr b rest d' ∧ Keeps [b] w wr) (fun s1 s2 _ _ _ _ => (intOf s2 - intOf s1).toNat)
  case atStart => exact ⟨a, e, l0, true, true, d, rfl, rfl, rfl, rfl, rfl, Lib.hid ⟨H0.out.2.2.1, H0.out.2.2.2.1, H0.out.2.2.2.2.2, H0.out.2.2.2.2.1, H0.out.2.1, H0.out.1⟩, hb, Keeps.refl _ _⟩
  case round =>
    obtain ⟨a', e', l, wb, wp, d', rfl, rfl, rfl, rfl, rfl, hI, hbr, hkr⟩ := hrel
    obtain ⟨i1, i2, i3, i4, i5, i6⟩ := hI.out
    obtain ⟨L, hL⟩ : ∃ L, e' - a' = L := ⟨_, rfl⟩
    have hwL : IntKind.i64.wrap ((e' : Int) - (a' : Int)) = (L : Int) := by rw [i64w _ (by omega) (by omega)]; omega
    by_cases h12 : L ≤ 12
    · have hc : (L : Int) ≤ 12 := by omega
      have hq := insp_any b cap n a' e' rest d' wr hbr i5 (by omega) ⟨i1, i2⟩
      have hs := ins_size d' a' e' i1 (by omega)
      have hre : Go.Sort.insertionSort Go.Sort.ltInt d' a' e' = R := by rw [← i6]; exact (pdq_small (by omega)).symm
      rw [hre] at hq hs
      have Hs : Hid (R.size = n) := Lib.hid (hs.trans i5)
      clear i1 i2 i3 i4 i5 i6 hL hre hs h12
      go_wp2_with fail
      refine hq.mono ?_
      rintro q w1 ⟨rfl, h1, k1⟩
      go_wp2_with fail
      refine bodyPost_ret (results_none rfl _ _ _) rfl ?_
      exact ⟨rfl, h1, Hs.out, hkr.trans k1 (fun j hj => .inl hj)⟩
    · have hc : ¬ (L : Int) ≤ 12 := by omega
      by_cases hl : l = 0
      · subst hl
        have hq := heap_any b cap n a' e' rest d' wr hbr i5 (by omega) ⟨by omega, i2⟩
        have hs := heap_size d' a' e' i1 (by omega)
        have hre : Go.Sort.heapSort Go.Sort.ltInt d' a' e' = R := by rw [← i6]; exact (pdq_heap (by omega)).symm
        rw [hre] at hq hs
        have Hs : Hid (R.size = n) := Lib.hid (hs.trans i5)
        clear i1 i2 i3 i4 i5 i6 hL hre hs h12
        go_wp2_with fail
        refine hq.mono ?_
        rintro q w1 ⟨rfl, h1, k1⟩
        go_wp2_with fail
        refine bodyPost_ret (results_none rfl _ _ _) rfl ?_
        exact ⟨rfl, h1, Hs.out, hkr.trans k1 (fun j hj => .inl hj)⟩
      · have hlc : ((l : Int) == 0) = false := by simp; omega
        have hlc2 : ¬ (l : Int) = 0 := by omega
        have HB : Hid (a' ≤ e' ∧ e' ≤ n ∧ e' - a' ≤ N ∧ l ≤ 64 ∧ d'.size = n ∧ Go.Sort.pdq Go.Sort.ltInt d' a' e' l wb wp = R ∧ e' - a' = L ∧ 12 < L ∧ l ≠ 0) := Lib.hid ⟨i1, i2, i3, i4, i5, i6, hL, by omega, hl⟩
        obtain ⟨d1, hd1⟩ : ∃ d1, (if (!wb) = true then Go.Sort.breakPatterns d' a' e' else d') = d1 := ⟨_, rfl⟩
        obtain ⟨l1, hl1⟩ : ∃ l1, (if (!wb) = true then l - 1 else l) = l1 := ⟨_, rfl⟩
        have hbp := bp_any b cap n a' e' rest d' wr hbr i5 (by omega) ⟨by omega, i2, by omega, by omega⟩
        have HD1 : Hid (d1.size = n ∧ l1 ≤ 64) := Lib.hid ⟨by rw [← hd1]; split; exact (bp_size d' a' e' i1 (by omega)).trans i5; exact i5, by rw [← hl1]; split <;> omega⟩
        have hwl : IntKind.i64.wrap ((l : Int) - 1) = (l : Int) - 1 := i64w _ (by omega) (by omega)
        have Hd1 := Lib.hid hd1
        have Hl1 := Lib.hid hl1
        clear i1 i2 i3 i4 i5 i6 hL h12 hl hd1 hl1 hI
        go_upto_if 35 with fail
        go_cut [3] from 36 to 41 (fun s3 wx => s3 = .int .i64 (l1 : Nat) ∧ Rw wx b rest d1 ∧ Keeps [b] w wx)
        case first =>
          cases wb with
          | false =>
            go_wp2_with fail
            refine hbp.mono ?_
            rintro q w1 ⟨rfl, h1, k1⟩
            go_wp2_with fail
            go_meet
            refine ⟨?_, ?_, hkr.trans k1 (fun j hj => .inl hj)⟩
            · have h1 : l - 1 = l1 := Hl1.out
              have h2 := HB.out.2.2.2.2.2.2.2.2
              rw [← h1]
              congr 1
              omega
            · rw [← Hd1.out]; exact h1
          | true =>
            go_wp2_with fail
            go_meet
            exact ⟨by rw [← Hl1.out]; rfl, by rw [← Hd1.out]; exact hbr, hkr⟩
        case rest =>
        obtain ⟨rfl, hb1, hk1⟩ := hcut
        have hpv := piv_any b cap n a' e' rest d1 wc hb1 HD1.out.1 (by omega) (by have := HB.out; omega)
        have hpe := piv_eq d1 a' e' (by have := HB.out; omega) (by have := HB.out; omega)
        have hpr := Go.Sort.choosePivot_holds Go.Sort.ltInt d1 a' e' (by have := HB.out; omega)
        obtain ⟨⟨p, hv⟩, hcp⟩ : ∃ r, Go.Sort.choosePivot Go.Sort.ltInt d1 a' e' = r := ⟨_, rfl⟩
        rw [hcp] at hpv hpe hpr
        simp only at hpv hpr
        have hvv : hv = .increasing ∨ hv = .unknown := by
          have h2 := congrArg Prod.snd hpe
          simp only at h2
          rw [h2]
          split
          · exact .inl rfl
          · exact .inr rfl
        obtain ⟨c, hcc⟩ : ∃ c, (wb && wp && decide (hv = .increasing)) = c := ⟨_, rfl⟩
        obtain ⟨r, hrr⟩ : ∃ r, (c && decide (Go.Sort.scanSorted Go.Sort.ltInt d1 e' (a' + 1) = e')) = r := ⟨_, rfl⟩
        have hpi : (if (wb && wp && decide (hv = .increasing)) = true then Go.Sort.partialInsertionSort Go.Sort.ltInt d1 a' e' else (d1, false)) = (d1, r) := by
          rw [hcc, ← hrr]
          cases c
          · rfl
          · rw [if_pos rfl, pins_eq d1 a' e' (by have := HB.out; omega)]; rfl
        have hpq := parEq_range d1 a' e' p (by have := HB.out; have := HD1.out; omega) hpr
        have hpt := par_range d1 a' e' p (by have := HB.out; have := HD1.out; omega) hpr
        have hgo := pdq_go (d := d') (a := a') (e := e') (l := l) (wb := wb) (wp := wp) d1 l1 (by have := HB.out; omega) HB.out.2.2.2.2.2.2.2.2 Hd1.out Hl1.out p hv hcp (by rcases hvv with rfl | rfl <;> simp) r hpi hpq.1 hpt.1
        rw [HB.out.2.2.2.2.2.1] at hgo
        have Hgo := Lib.hid hgo
        have Hpq := Lib.hid hpq
        have Hpt := Lib.hid hpt
        have Hpr := Lib.hid hpr
        obtain ⟨h, hh⟩ : ∃ h, hintV hv = h := ⟨_, rfl⟩
        rw [hh] at hpv
        have hne2 : ¬ h = 2 := by rw [← hh]; rcases hvv with rfl | rfl <;> simp [hintV]
        have hne2b : (h == 2) = false := by simp [hne2]
        have hh1 : decide (hv = .increasing) = decide (h = 1) := by rw [← hh]; rcases hvv with rfl | rfl <;> simp [hintV]
        rw [hh1] at hcc
        have Hc := Lib.hid hcc
        have Hr := Lib.hid hrr
        clear hpe hpr hcp hvv hpi hpq hpt hgo hh hh1 hcc hrr hbr hkr hbp hwl
        go_wp2_with fail
        refine hpv.mono ?_
        rintro q w2 ⟨rfl, k2⟩
        have hb2 := hb1.keeps k2 (by simp)
        have hk2 : Keeps [b] w w2 := hk1.trans k2 (by simp)
        clear hpv hb1 hk1 k2
        go_upto_region 15 with fail
        go_cut [68] from 61 to 67 (fun s68 wx => s68 = .bool c ∧ wx = w2)
        case first =>
          have hc1 := Hc.out
          by_cases h1 : h = 1
          · subst h1
            cases wb <;> cases wp
            all_goals go_wp2_with fail
            all_goals go_meet
            all_goals exact ⟨by rw [← hc1]; rfl, rfl⟩
          · have h1b : (h == 1) = false := by simp [h1]
            cases wb <;> cases wp
            all_goals go_wp2_with fail
            all_goals go_meet
            all_goals exact ⟨by rw [← hc1, decide_eq_false h1]; rfl, rfl⟩
        case rest =>
        obtain ⟨rfl, rfl⟩ := hcut
        go_upto_if 68 with fail
        go_cut [3] from 69 to 72 (fun s3 wx => s3 = .int .i64 (l1 : Nat) ∧ Hid (r = false) ∧ Rw wx b rest d1 ∧ Keeps [b] w wx)
        case first =>
          cases hc : c with
          | false =>
            have hr : r = false := by rw [← Hr.out, hc]; rfl
            subst hc
            go_wp2_with fail
            go_meet
            exact ⟨rfl, Lib.hid hr, hb2, hk2⟩
          | true =>
            have hq := pins_any b cap n a' e' rest d1 wc hb2 HD1.out.1 (by omega) (by have := HB.out; omega)
            have hr : decide (Go.Sort.scanSorted Go.Sort.ltInt d1 e' (a' + 1) = e') = r := by rw [← Hr.out, hc]; rfl
            rw [pins_eq d1 a' e' (by have := HB.out; omega), hr] at hq
            simp only at hq
            have Hr2 := Lib.hid hr
            subst hc
            clear hr
            cases hrv : r with
            | false =>
              rw [hrv] at hq
              have HF := Lib.hid hrv
              clear hrv
              go_wp2_with fail
              refine hq.mono ?_
              rintro q w3 ⟨rfl, h3, k3⟩
              go_wp2_with fail
              go_meet
              exact ⟨rfl, HF, h3, hk2.trans k3 (fun j hj => .inl hj)⟩
            | true =>
              rw [hrv] at hq
              have hRd : R = d1 := by rw [Hgo.out, hrv, if_pos rfl]
              have HF := Lib.hid hRd
              clear hrv hRd
              go_wp2_with fail
              refine hq.mono ?_
              rintro q w3 ⟨rfl, h3, k3⟩
              go_wp2_with fail
              refine bodyPost_ret (results_none rfl _ _ _) rfl ?_
              exact ⟨rfl, by rw [HF.out]; exact h3, by rw [HF.out]; exact HD1.out.1, hk2.trans k3 (fun j hj => .inl hj)⟩
        case rest =>
        obtain ⟨rfl, Hrf, hb3, hk3⟩ := hcut
        obtain ⟨c2, hc2⟩ : ∃ c2, (decide (a' > 0) && !Go.Sort.ltInt d1[a' - 1]! d1[p]!) = c2 := ⟨_, rfl⟩
        have Hc2 := Lib.hid hc2
        clear hc2 Hr Hc hne2 hne2b
        go_upto_region 17 with fail
        go_cut [87] from 73 to 86 (fun s87 wx => s87 = .bool c2 ∧ Rw wx b rest d1 ∧ Keeps [b] w wx)
        case first =>
          have hpn := Hpr.out
          have hBB := HB.out
          have hsz := HD1.out.1
          have xp := hb3.cell p (by omega)
          have xf := hb3.frozen
          have xl := hb3.lt
          have p1 : (0 : Int) ≤ (p : Int) := by omega
          have p2 : (p : Int) < n := by omega
          have hc3 := Hc2.out
          by_cases ha0 : a' = 0
          · have hc4 : c2 = false := by rw [← hc3, ha0]; rfl
            have HC4 := Lib.hid hc4
            subst ha0
            clear hpn hBB hsz hc3 hc4
            go_wp2_with fail
            go_quiet (fail)
            go_wp2_with fail
            go_meet
            exact ⟨by rw [HC4.out], hb3.drewN _, hk3.drewN _⟩
          · obtain ⟨a2, rfl⟩ : ∃ a2, a' = a2 + 1 := ⟨a' - 1, by omega⟩
            have xa := hb3.cell a2 (by omega)
            have q1 : (0 : Int) ≤ (a2 : Int) := by omega
            have q2 : (a2 : Int) < n := by omega
            have hwq : IntKind.i64.wrap (a2 : Int) = (a2 : Int) := i64w _ (by omega) (by omega)
            have hgt : decide ((a2 : Int) + 1 > 0) = true := decide_eq_true (by omega)
            have hc4 : c2 = !decide (d1[a2]! < d1[p]!) := by rw [← hc3]; simp [Go.Sort.ltInt]
            have HC4 := Lib.hid hc4
            rw [show ((a2 + 1 : Nat) : Int) = (a2 : Int) + 1 from rfl]
            clear hpn hBB hsz hc3 hc4 ha0
            by_cases hl : d1[a2]! < d1[p]!
            · have hd4 : decide (d1[a2]! < d1[p]!) = true := by simp [hl]
              go_wp2_with fail
              go_region_held3 (fun w' => w'.cell? ⟨b, a2, none⟩ = some (.int .u64 d1[a2]!) ∧ w'.cell? ⟨b, p, none⟩ = some (.int .u64 d1[p]!)) (go_keep)
                ((go_at_call 106; refine (less_any _ _ _).mono ?_; rintro e w' ⟨rfl, rfl⟩))
              go_wp2_with fail
              go_meet
              exact ⟨by rw [HC4.out, decide_eq_true hl]; rfl, hb3.drew, hk3.drew⟩
            · have hd4 : decide (d1[a2]! < d1[p]!) = false := by simp; omega
              go_wp2_with fail
              go_region_held3 (fun w' => w'.cell? ⟨b, a2, none⟩ = some (.int .u64 d1[a2]!) ∧ w'.cell? ⟨b, p, none⟩ = some (.int .u64 d1[p]!)) (go_keep)
                ((go_at_call 106; refine (less_any _ _ _).mono ?_; rintro e w' ⟨rfl, rfl⟩))
              go_wp2_with fail
              go_meet
              exact ⟨by rw [HC4.out, decide_eq_false (by omega)]; rfl, hb3.drew, hk3.drew⟩
        case rest =>
        obtain ⟨rfl, hb4, hk4⟩ := hcut
        have hG := Hgo.out
        rw [Hrf.out, if_neg (by simp), Hc2.out] at hG
        have hPq := Hpq.out
        have hPt := Hpt.out
        cases hcv : c2 with
        | true =>
          rw [hcv, if_pos rfl] at hG
          have hq := parEq_any b cap n a' e' p rest d1 wc hb4 HD1.out.1 (by omega) (by have := HB.out; omega) Hpr.out
          obtain ⟨⟨mid, d4⟩, hm⟩ : ∃ r, Go.Sort.partitionEqual Go.Sort.ltInt d1 a' e' p = r := ⟨_, rfl⟩
          rw [hm] at hq hG hPq
          simp only at hq hG hPq
          have hI2 : Hid (mid ≤ e' ∧ e' ≤ n ∧ e' - mid ≤ N ∧ l1 ≤ 64 ∧ d4.size = n ∧ Go.Sort.pdq Go.Sort.ltInt d4 mid e' l1 wb wp = R) := Lib.hid ⟨hPq.1.2, HB.out.2.1, by have := HB.out; omega, HD1.out.2, hPq.2.trans HD1.out.1, hG.symm⟩
          have Hms : Hid (a' < mid ∧ mid ≤ e') := Lib.hid hPq.1
          subst hcv
          clear hG hPq hPt hm
          go_wp2_with fail
          refine hq.mono ?_
          rintro q w5 ⟨rfl, h5, k5⟩
          go_wp2_with fail
          exact ⟨⟨mid, e', l1, wb, wp, d4, rfl, rfl, rfl, rfl, rfl, hI2, h5, hk4.trans k5 (fun j hj => .inl hj)⟩, by have := Hms.out; simp [intOf]; omega⟩
        | false =>
          rw [hcv, if_neg (by simp)] at hG
          have hq := par_any b cap n a' e' p rest d1 wc hb4 HD1.out.1 (by omega) (by have := HB.out; omega) Hpr.out
          obtain ⟨⟨mid, ap, d4⟩, hm⟩ : ∃ r, Go.Sort.partition Go.Sort.ltInt d1 a' e' p = r := ⟨_, rfl⟩
          rw [hm] at hq hG hPt
          simp only at hq hG hPt
          have hB2 := HB.out
          obtain ⟨L1, hL1⟩ : ∃ L1, L1 = mid - a' := ⟨_, rfl⟩
          obtain ⟨L2, hL2⟩ : ∃ L2, L2 = e' - mid := ⟨_, rfl⟩
          obtain ⟨T, hT⟩ : ∃ T, T = L / 8 := ⟨_, rfl⟩
          have hw1 : IntKind.i64.wrap ((mid : Int) - (a' : Int)) = (L1 : Int) := by rw [i64w _ (by omega) (by omega)]; omega
          have hw2 : IntKind.i64.wrap ((e' : Int) - (mid : Int)) = (L2 : Int) := by rw [i64w _ (by omega) (by omega)]; omega
          have hw3 : ((L : Int)).tdiv 8 = (T : Int) := by rw [Int.tdiv_eq_ediv_of_nonneg (by omega)]; omega
          have hw4 : IntKind.i64.wrap (T : Int) = (T : Int) := i64w _ (by omega) (by omega)
          have hw5 : IntKind.i64.wrap ((mid : Int) + 1) = (mid : Int) + 1 := i64w _ (by omega) (by omega)
          rw [← hL1, ← hL2, hB2.2.2.2.2.2.2.1, ← hT] at hG
          have hsz4 : d4.size = n := hPt.2.trans HD1.out.1
          have hl1 := HD1.out.2
          by_cases hlt : L1 < L2
          · rw [if_pos hlt] at hG
            have hltI : (L1 : Int) < (L2 : Int) := by omega
            obtain ⟨B, hB⟩ : ∃ B, decide (L1 ≥ T) = B := ⟨_, rfl⟩
            have hB3 : decide ((L1 : Int) ≥ (T : Int)) = B := by rw [← hB]; simp
            have hB4 : decide ((T : Int) ≤ (L1 : Int)) = B := by rw [← hB]; simp
            rw [hB] at hG
            have HBv := Lib.hid hB
            have hrec := fun w6 h6 => Hih.out (mid - a') (by omega) a' mid d4 w6 l1 (Nat.le_refl _) h6 hsz4 (by omega) (by omega) hl1
            obtain ⟨d5, hd5⟩ : ∃ d5, Go.Sort.pdq Go.Sort.ltInt d4 a' mid l1 true true = d5 := ⟨_, rfl⟩
            rw [hd5] at hrec hG
            have hI2 : Hid (mid + 1 ≤ e' ∧ e' ≤ n ∧ e' - (mid + 1) ≤ N ∧ l1 ≤ 64 ∧ Go.Sort.pdq Go.Sort.ltInt d5 (mid + 1) e' l1 B ap = R) := Lib.hid ⟨by omega, by omega, by omega, hl1, hG.symm⟩
            have Hms : Hid (a' ≤ mid ∧ mid < e') := Lib.hid hPt.1
            subst hcv
            clear hG hPq hPt hm hL1 hL2 hT hB2 hsz4 hl1 hlt hB hd5
            go_wp2_with fail
            refine hq.mono ?_
            rintro q w5 ⟨rfl, h5, k5⟩
            go_wp2_with fail
            refine (hrec _ h5).mono ?_
            rintro q w6 ⟨rfl, h6, hs6, k6⟩
            go_wp2_with fail
            exact ⟨⟨mid + 1, e', l1, B, ap, d5, by go_num, rfl, rfl, by first | rfl | exact congrArg Value.bool HBv.out, rfl, Lib.hid ⟨hI2.out.1, hI2.out.2.1, hI2.out.2.2.1, hI2.out.2.2.2.1, hs6, hI2.out.2.2.2.2⟩, h6, (hk4.trans k5 (fun j hj => .inl hj)).trans k6 (fun j hj => .inl hj)⟩, by have := Hms.out; simp [intOf]; omega⟩
          · rw [if_neg hlt] at hG
            have hltI : ¬ (L1 : Int) < (L2 : Int) := by omega
            obtain ⟨B, hB⟩ : ∃ B, decide (L2 ≥ T) = B := ⟨_, rfl⟩
            have hB3 : decide ((L2 : Int) ≥ (T : Int)) = B := by rw [← hB]; simp
            have hB4 : decide ((T : Int) ≤ (L2 : Int)) = B := by rw [← hB]; simp
            rw [hB] at hG
            have HBv := Lib.hid hB
            have hrec := fun w6 h6 => Hih.out (e' - (mid + 1)) (by omega) (mid + 1) e' d4 w6 l1 (Nat.le_refl _) h6 hsz4 (by omega) (by omega) hl1
            rw [show ((mid + 1 : Nat) : Int) = (mid : Int) + 1 from rfl] at hrec
            obtain ⟨d5, hd5⟩ : ∃ d5, Go.Sort.pdq Go.Sort.ltInt d4 (mid + 1) e' l1 true true = d5 := ⟨_, rfl⟩
            rw [hd5] at hrec hG
            have hI2 : Hid (a' ≤ mid ∧ mid ≤ n ∧ mid - a' ≤ N ∧ l1 ≤ 64 ∧ Go.Sort.pdq Go.Sort.ltInt d5 a' mid l1 B ap = R) := Lib.hid ⟨by omega, by omega, by omega, hl1, hG.symm⟩
            have Hms : Hid (a' ≤ mid ∧ mid < e') := Lib.hid hPt.1
            subst hcv
            clear hG hPq hPt hm hL1 hL2 hT hB2 hsz4 hl1 hlt hB hd5
            go_wp2_with fail
            refine hq.mono ?_
            rintro q w5 ⟨rfl, h5, k5⟩
            go_wp2_with fail
            refine (hrec _ h5).mono ?_
            rintro q w6 ⟨rfl, h6, hs6, k6⟩
            go_wp2_with fail
            exact ⟨⟨a', mid, l1, B, ap, d5, rfl, rfl, rfl, by first | rfl | exact congrArg Value.bool HBv.out, rfl, Lib.hid ⟨hI2.out.1, hI2.out.2.1, hI2.out.2.2.1, hI2.out.2.2.2.1, hs6, hI2.out.2.2.2.2⟩, h6, (hk4.trans k5 (fun j hj => .inl hj)).trans k6 (fun j hj => .inl hj)⟩, by have := Hms.out; simp [intOf]; omega⟩
end Go.Proofs.YtbcgpjfejpcgnaaGreat
end
section
namespace Go.Proofs.YtbcgpjfejpcgnaaGreat
open Go.RowKit
set_option linter.unusedVariables false
set_option maxRecDepth 100000
set_option maxHeartbeats 4000000
theorem bl_le : ∀ x, x < 32 → bl x ≤ 64 := by decide +kernel
theorem sorted_eq : ∀ (l m : List Int), l.Perm m → l.Pairwise (· ≤ ·) → m.Pairwise (· ≤ ·) → l = m
  | [], m, h, _, _ => (List.nil_perm.1 h).symm
  | x :: l, [], h, _, _ => absurd h.length_eq (by simp)
  | x :: l, y :: m, h, h1, h2 => by
    rw [List.pairwise_cons] at h1 h2
    have hx : x ∈ y :: m := h.mem_iff.1 (by simp)
    have hy : y ∈ x :: l := h.mem_iff.2 (by simp)
    have e : x = y := by
      rcases List.mem_cons.1 hx with r | r
      · exact r
      · rcases List.mem_cons.1 hy with s | s
        · exact s.symm
        · have := h1.1 _ s
          have := h2.1 _ r
          omega
    subst e
    rw [sorted_eq l m h.cons_inv h1.2 h2.2]
theorem sort_isort (xs : List Int) : (Go.Sort.sort Go.Sort.ltInt xs.toArray).toList = isort xs := by
  rw [Go.Sort.sortInt xs]
  refine sorted_eq _ _ ((List.mergeSort_perm xs _).trans (isort_perm xs).symm) ?_ (isort_sorted xs)
  have h := List.pairwise_mergeSort (le := fun x y : Int => decide (x ≤ y)) (fun a b c h1 h2 => by simp at *; omega) (fun a b => by simp; omega) xs
  exact h.imp (fun h => by simpa using h)
theorem sort25_any (xs : List Int) (b cap : Nat) (rest : List Value) (w : World) (hb : Blk w b (xs.map uV ++ rest)) (hn : xs.length ≤ 25) :
    Calls Tryz.prog 82 #[.slice (some ⟨b, 0, none⟩) xs.length cap] w fun e w' => e = .returned (.tuple #[]) ∧ Blk w' b ((isort xs).map uV ++ rest) ∧ Keeps [b] w w' := by
  have hr : Rw w b rest xs.toArray := hb
  have hq := pdq_run b cap xs.length 0 rest hn xs.length 0 xs.length xs.toArray w (bl xs.length) (by omega) hr (by simp) (by omega) (Nat.le_refl _) (bl_le _ (by omega))
  have hs : Go.Sort.pdq Go.Sort.ltInt xs.toArray 0 xs.length (bl xs.length) true true = Go.Sort.sort Go.Sort.ltInt xs.toArray := by
    unfold Go.Sort.sort
    rw [bl_tab _ (by simp; omega)]
    rfl
  rw [hs] at hq
  have hl := len_ex xs.length (by omega)
  have hwx : IntKind.u64.wrap (xs.length : Int) = (xs.length : Int) := by rw [IntKind.wrap_u64]; omega
  clear hs hr hb
  go_enter Tryz.func82, Tryz.ntmps82
  go_wp2_with fail
  refine (hl _).mono ?_
  rintro e w' ⟨rfl, rfl⟩
  go_wp2_with fail
  refine hq.mono ?_
  rintro e w1 ⟨rfl, h1, _, k1⟩
  go_wp2_with fail
  go_end0
  refine ⟨rfl, ?_, k1⟩
  unfold Rw at h1
  rw [sort_isort] at h1
  exact h1
end Go.Proofs.YtbcgpjfejpcgnaaGreat
end
section
namespace Go.Proofs.YtbcgpjfejpcgnaaGreat
open Go.RowKit
set_option maxRecDepth 100000 in
set_option maxHeartbeats 4000000 in
theorem len64_any (x : Nat) (hx : x ≤ 12) (w : World) : Calls Tryz.prog 110 #[.int .u64 x] w fun e w' => (∃ v : Int, e = .returned (.int .i64 v)) ∧ w = w' := by
  rcases (by omega : x = 0 ∨ x = 1 ∨ x = 2 ∨ x = 3 ∨ x = 4 ∨ x = 5 ∨ x = 6 ∨ x = 7 ∨ x = 8 ∨ x = 9 ∨ x = 10 ∨ x = 11 ∨ x = 12) with rfl | rfl | rfl | rfl | rfl | rfl | rfl | rfl | rfl | rfl | rfl | rfl | rfl
  all_goals
    go_enter Tryz.func110, Tryz.ntmps110
    go_wp2_with fail
    go_ret
    exact ⟨⟨_, rfl⟩, rfl⟩
theorem len_any (x : Nat) (hx : x ≤ 12) (w : World) : Calls Tryz.prog 96 #[.int .u64 x] w fun e w' => (∃ v : Int, e = .returned (.int .i64 v)) ∧ w = w' := by
  go_enter Tryz.func96, Tryz.ntmps96
  go_wp2_with fail
  refine (len64_any x hx _).mono ?_
  rintro e w' ⟨⟨v, rfl⟩, rfl⟩
  go_wp2_with fail
  go_ret
  exact ⟨⟨v, rfl⟩, rfl⟩
theorem pdq_nil (v : Int) (w : World) :
    Calls Tryz.prog 95 #[.slice none 0 0, .int .i64 0, .int .i64 0, .int .i64 v] w fun e w' => e = .returned (.tuple #[]) ∧ Keeps [] w w' := by
  go_enter Tryz.func95, Tryz.ntmps95
  go_wp2_with fail
  refine wp_loop_rounds 1 ?_
  rw [rounds_succ]
  go_wp2_with fail
  refine (ins_nil w).mono ?_
  rintro e w1 ⟨rfl, k1⟩
  go_wp2_with fail
  refine bodyPost_ret (results_none rfl _ _ _) rfl ?_
  exact ⟨rfl, k1⟩
theorem sort_nil (w : World) :
    Calls Tryz.prog 82 #[.slice none 0 0] w fun e w' => e = .returned (.tuple #[]) ∧ Keeps [] w w' := by
  go_enter Tryz.func82, Tryz.ntmps82
  go_wp2_with fail
  refine (len_any 0 (by omega) _).mono ?_
  rintro e w' ⟨⟨v, rfl⟩, rfl⟩
  go_wp2_with fail
  refine (pdq_nil v w).mono ?_
  rintro e w1 ⟨rfl, k1⟩
  go_wp2_with fail
  go_end0
  exact ⟨rfl, k1⟩
end Go.Proofs.YtbcgpjfejpcgnaaGreat
end
section
namespace Go.Proofs.YtbcgpjfejpcgnaaGreat
open Go.RowKit Go.Maps Go.MapKept Go.ChangeMaps
set_option maxRecDepth 100000
theorem infoU : (Tryz.prog.info? 22).map (fun i => (i.zero, i.size, i.bytes)) = some (some (.int .u64 0), 1, 8) := by kernel_rfl
def vl (p : Lit × DataW Unit) : Int := match p.2 with | .lit (.int _ x) => x | _ => 0
def gone (es : List (Lit × DataW Unit)) (left : Lit → Bool) : List Int := (es.filter (fun p => !left p.1)).map vl
theorem gone_none {es : List (Lit × DataW Unit)} {left : Lit → Bool} (h : ∀ p ∈ es, left p.1 = true) : gone es left = [] := by
  unfold gone
  rw [List.filter_eq_nil_iff.2 (fun p hp => by simp [h p hp])]
  rfl
theorem gone_all {es : List (Lit × DataW Unit)} {left : Lit → Bool} (h : ∀ k, left k = false) : gone es left = es.map vl := by
  unfold gone
  rw [List.filter_eq_self.2 (fun p _ => by simp [h p.1])]
theorem gone_len (es : List (Lit × DataW Unit)) (left : Lit → Bool) : (gone es left).length ≤ es.length := by
  unfold gone
  rw [List.length_map]
  exact List.length_filter_le _ _
theorem gone_same {es : List (Lit × DataW Unit)} {l l' : Lit → Bool} (h : ∀ p ∈ es, l p.1 = l' p.1) : gone es l = gone es l' := by
  unfold gone
  rw [List.filter_congr (fun p hp => by rw [h p hp])]
theorem gone_step {left : Lit → Bool} {kl : Lit} (hl : left kl = true) (hs : kl.sameKey kl = true) : ∀ {es : List (Lit × DataW Unit)}, es.Pairwise (fun p q => p.1 ≠ q.1) → ∀ {p : Lit × DataW Unit}, p ∈ es → p.1 = kl →
    (gone es (fun z => left z && !z.sameKey kl)).Perm (gone es left ++ [vl p])
  | [], _, p, hp, _ => by simp at hp
  | q :: es, hpw, p, hp, hk => by
    have hpw' := List.pairwise_cons.1 hpw
    rcases List.mem_cons.1 hp with rfl | hp
    · have e : gone es (fun z => left z && !z.sameKey kl) = gone es left := gone_same fun r hr => by
        have : r.1 ≠ kl := fun e => hpw'.1 r hr (by rw [hk, e])
        simp [sameKey_ne this]
      have e1 : gone (p :: es) (fun z => left z && !z.sameKey kl) = vl p :: gone es (fun z => left z && !z.sameKey kl) := by
        unfold gone; rw [List.filter_cons_of_pos (by simp [hk, hs])]; rfl
      have e2 : gone (p :: es) left = gone es left := by
        unfold gone; rw [List.filter_cons_of_neg (by simp [hk, hl])]
      rw [e1, e2, e]
      exact (List.perm_append_singleton _ _).symm
    · have ih := gone_step hl hs hpw'.2 hp hk
      have hq : q.1 ≠ kl := fun e => hpw'.1 p hp (by rw [hk, e])
      cases hlq : left q.1 with
      | true =>
        have e1 : gone (q :: es) (fun z => left z && !z.sameKey kl) = gone es (fun z => left z && !z.sameKey kl) := by
          unfold gone; rw [List.filter_cons_of_neg (by simp [hlq, sameKey_ne hq])]
        have e2 : gone (q :: es) left = gone es left := by
          unfold gone; rw [List.filter_cons_of_neg (by simp [hlq])]
        rw [e1, e2]; exact ih
      | false =>
        have e1 : gone (q :: es) (fun z => left z && !z.sameKey kl) = vl q :: gone es (fun z => left z && !z.sameKey kl) := by
          unfold gone; rw [List.filter_cons_of_pos (by simp [hlq])]; rfl
        have e2 : gone (q :: es) left = vl q :: gone es left := by
          unfold gone; rw [List.filter_cons_of_pos (by simp [hlq])]; rfl
        rw [e1, e2]; exact ih.cons _
theorem isort_of_perm {a b : List Int} (h : a.Perm b) : isort a = isort b :=
  List.Perm.eq_of_pairwise (le := (· ≤ ·)) (fun _ _ _ _ h1 h2 => Int.le_antisymm h1 h2) (isort_sorted a) (isort_sorted b) (((isort_perm a).trans h).trans (isort_perm b).symm)
def OwnU (w : World) (base : Nat) (v : Value) (l : List Int) : Prop := w.ownsRow base 22 1 v l.length (l.map uV)
theorem appendU {wb W : World} {base : Nat} {v : Value} {acc : List Int} (ho : OwnU W base v acc) (hn : acc.length < 4096) (x : Int) (hk : Keeps [] wb W) (hb : wb.heap.size ≤ base) (hbase : base ≤ W.heap.size) :
    ∃ v' w', (Builtin.append_ #[130, 130] 130 #[v, .slice (some ⟨W.heap.size, 0, none⟩) 1 1]).run Tryz.prog (W.alloc (.cells #[.int .u64 x] 22)) = .ok v' w' ∧ OwnU w' base v' (acc ++ [x]) ∧ Keeps [] wb w' ∧ ∃ row, W.grownBy w' row ∧ (∀ g, row = some g → base ≤ g) := by
  obtain ⟨i0, hi0, hz0, hz1, hz2⟩ := info_parts infoU
  have ho1 : (W.alloc (.cells #[.int .u64 x] 22)).ownsRow base 22 1 v acc.length (acc.map uV) := World.ownsRow.alloc ho _
  obtain ⟨v', w', hr, h2, h3, _⟩ := run_append_own (P := Tryz.prog) _ base 130 130 22 i0 _ 1 8 Tryz.underlying130 hi0 hz0 hz1 hz2 rfl (by decide) v acc.length (acc.map uV) ho1 ⟨W.heap.size, 0, none⟩ 1 1 [uV x] rfl
    (fun j u hj => by match j, hj with | 0, hj => simp at hj; subst hj; simp [Addr.add, uV])
    (fun u hu => by simp only [List.mem_cons, List.mem_nil_iff, or_false] at hu; subst hu; rfl) (by unfold maxLen; omega) (by omega) (by simp; omega)
  have hlt := World.ownsRow.lt ho
  refine ⟨v', w', hr, ?_, (hk.alloc _).trans (Keeps.of_grownBy h3 v.ownBlock.toList (fun g hg => by rw [hg]; simp)) (fun g hg => .inr ?_), v.ownBlock, (World.grownBy_alloc W _ _).trans h3, fun g hg => (hlt g hg).1⟩
  · unfold OwnU
    rw [List.length_append, List.map_append]; exact h2
  · have := (hlt g (by simpa using hg)).1; omega
def Rd (w : World) (v : Value) (ys : List Int) : Prop :=
  (ys = [] ∧ v = .slice none 0 0) ∨ ∃ b cap rest, v = .slice (some ⟨b, 0, none⟩) ys.length cap ∧ Blk w b (ys.map uV ++ rest)
variable {w w' : World} {base m sb cap mb nb F : Nat} {Q : List Nat} {sv rest : List Value} {St : List (List Ent)} {D : DataW Unit}
theorem own_blk' {w : World} {base e size n : Nat} {v : Value} {xs : List Value} (h : w.ownsRow base e size v n xs) (hn : 0 < n) :
    ∃ g cap rest, v = .slice (some ⟨g, 0, none⟩) n cap ∧ base ≤ g ∧ Blk w g (xs ++ rest) := by
  obtain ⟨h1, h2⟩ := h
  rcases h2 with ⟨_, h0⟩ | ⟨g, cap, cur, hv, hg, hh, hnc, hcap, hsz, htk⟩
  · omega
  · refine ⟨g, cap, cur.toList.drop (n * size), hv, hg, e, ?_⟩
    rw [hh, ← htk, List.take_append_drop]
def snaps : DataW Unit → List Int
  | .map es => isort (es.map vl)
  | _ => []
set_option maxHeartbeats 600000 in
theorem msnap_any (h : MO w base Q m sb cap mb nb sv rest St F D) (hsz : Maps.size D ≤ 25) :
    Calls Tryz.prog 74 #[.pointer (some ⟨m, 0, none⟩)] w fun e w' => ∃ v, e = .returned v ∧ Rd w' v (snaps D) ∧ Keeps [] w w' := by
  obtain ⟨d0, d1, d2, d3, d4⟩ := h.hm.o3
  have hown := h.hmap
  have hmbl := hown.lt
  obtain ⟨es, hD, hpw, hkL⟩ := hown.entries lawK
  subst hD
  have hes : es.length ≤ 25 := hsz
  clear h hsz
  go_enter Tryz.func74, Tryz.ntmps74
  go_wp2_with (at_range; refine wpList_range_own _ rfl _ 96 rfl 134 22 lawK Tryz.underlying96 _ mb nb _ rfl hown ?_; intro w0 hrg0 hg0 hs0)
  go_frame
  have k0 : Keeps [] w w0 := Keeps.of_grownBy hg0 [] (by simp)
  go_loopw [3, 5] (fun v _ wr => ∃ (left : Lit → Bool) (cnt : Nat) (acc : List Int), wr.ranges Tryz.prog 134 (plainElem Tryz.prog 22) mb w.heap.size nb (.map es) left cnt ∧ Hid (acc.Perm (gone es left)) ∧ OwnU wr (w.heap.size + 1) v acc ∧ w.heap.size + 1 ≤ wr.heap.size ∧ Keeps [] w wr ∧ Hid (acc = [] → v = .slice none 0 0)) (fun _ _ wr => wr.rangeLeft mb w.heap.size)
  case atStart => exact ⟨_, _, [], hrg0, Lib.hid (by rw [gone_none (fun p hp => by rw [has_eq, List.any_eq_true]; exact ⟨p, hp, WideAt.sameKey_self (hkL p hp)⟩)]), World.ownsRow_nil _ _ _ _, by omega, k0, Lib.hid (fun _ => rfl)⟩
  case round =>
    obtain ⟨left, cnt, acc, hrg, hperm, ho, hsw, hkp, hnil⟩ := hrel
    have hal : acc.length ≤ 25 := by have := hperm.out.length_eq; have := gone_len es left; omega
    go_wp2_with (at_next; refine wpList_next_ranges _ rfl _ rfl 134 lawK (plainElem Tryz.prog 22) (fun x => x) (Value.int .u64) (fun key _ _ => ⟨key, rfl⟩) (fun v y hv => by obtain ⟨c, rfl, _⟩ := plainElem_int_inv Tryz.underlying22 hv; exact ⟨c, rfl⟩) mb w.heap.size nb _ left cnt rfl hrg ?_ ?_)
    · intro hc0 hl0
      have hall := hperm.out
      rw [gone_all hl0] at hall
      have HE := Lib.hid (isort_of_perm hall)
      by_cases hz : acc = []
      · obtain rfl := hnil.out hz
        subst hz
        clear hall
        go_wp2_with fail
        refine (sort_nil _).mono ?_
        rintro e w5 ⟨rfl, k5⟩
        go_wp2_with fail
        go_ret
        exact ⟨_, rfl, .inl ⟨by rw [snaps, ← HE.out]; rfl, rfl⟩, hkp.trans k5 (by simp)⟩
      · have hpos : 0 < acc.length := List.length_pos_iff.2 hz
        obtain ⟨g, cap', rest', rfl, hg, hgb⟩ := own_blk' ho hpos
        clear hall
        go_wp2_with fail
        refine (sort25_any acc g cap' rest' _ hgb hal).mono ?_
        rintro e w5 ⟨rfl, h5, k5⟩
        go_wp2_with fail
        go_ret
        refine ⟨.slice (some ⟨g, 0, none⟩) acc.length cap', rfl, .inr ⟨g, cap', rest', ?_, ?_⟩, hkp.trans k5 (by intro j hj; simp at hj; omega)⟩
        · rw [snaps, ← HE.out, isort_length]
        · rw [snaps, ← HE.out]; exact h5
    · intro x c kl y yp w1 cnt1 hkey hlk hv hat hrg1 hlt hg1 hs1 hen
      obtain ⟨c', hc1, hc2, _⟩ := plainElem_int_inv Tryz.underlying22 hv
      have hcc : c' = c := by simpa using hc1.symm
      subst hcc
      have hy : y = DataW.lit (.int .u64 c') := congrArg Prod.fst hc2
      obtain ⟨p, hp, hpk, hpv⟩ : ∃ p ∈ es, p.1 = kl ∧ vl p = c' := by
        have hh := has_true_of_atKey hat
        have hf := hat (.lit (.bool false))
        rw [has_eq, List.any_eq_true] at hh
        obtain ⟨p0, hp0, hs0'⟩ := hh
        have hfs : (es.find? (fun p => p.1.sameKey kl)).isSome = true := List.find?_isSome.2 ⟨p0, hp0, hs0'⟩
        obtain ⟨p, hpf⟩ := Option.isSome_iff_exists.1 hfs
        have h1 := List.find?_some hpf
        unfold DataW.atKey at hf
        simp only [hpf] at hf
        refine ⟨p, List.mem_of_find?_eq_some hpf, WideAt.sameKey_eq h1, ?_⟩
        unfold vl
        rw [hf, hy]
      have hself : kl.sameKey kl = true := by rw [← hpk]; exact WideAt.sameKey_self (hkL p hp)
      have hst := gone_step hlk hself hpw hp hpk
      rw [hpv] at hst
      have HP := Lib.hid ((hperm.out.append_right [c']).trans hst.symm)
      have ho1 : OwnU w1 (w.heap.size + 1) u3 acc := World.ownsRow.kept ho hg1 (by
        rcases hb : u3.ownBlock with _ | g
        · exact .inl rfl
        · right; intro e
          have := (World.ownsRow.lt ho g hb).1
          simp at e; omega)
      have hk1 : Keeps [] w w1 := hkp.trans (Keeps.of_grownBy hg1 [w.heap.size] (by simp)) (by simp)
      obtain ⟨v', w5, hr, ho5, k5, row, hgr, hrow⟩ := appendU (wb := w) ho1 (by omega) c' hk1 (by omega) (by omega)
      have hrg5 := hrg1.kept hgr (fun e => by have := hrow mb e.symm; omega) (fun e => by have := hrow _ e.symm; omega)
      have hs5 := hgr.size
      have hrl : w5.rangeLeft mb w.heap.size = cnt1 := hrg5.left_eq
      have hrl0 : wr.rangeLeft mb w.heap.size = cnt := hrg.left_eq
      have hs15 : w.heap.size + 1 ≤ w5.heap.size := by omega
      clear hst hperm hnil hat hv hkey hlk hpk hpv hp hy hc1 hc2 hself hs1 hg1 hrg1 hrg hgr hs5 ho ho1 hk1
      go_wp2_with (first
        | (at_builtin; refine list_append_eq rfl _ _ 130 130 rfl _ _ rfl rfl hr ?_)
        | go_in)
      exact ⟨⟨_, _, acc ++ [c'], hrg5, HP, ho5, hs15, k5, Lib.hid (by simp)⟩, by omega⟩
def wmk (St : List (List Ent)) (D : DataW Unit) : Int := match snaps D with | x :: _ => x | [] => ((St.length - 1 : Nat) : Int)
theorem mwm_any (h : MO w base Q m sb cap mb nb sv rest St F D) (hn : St.length ≤ 4096) (hsz : Maps.size D ≤ 25) :
    Calls Tryz.prog 61 #[.pointer (some ⟨m, 0, none⟩)] w fun e w' => e = .returned (.int .u64 (wmk St D)) ∧ Keeps [] w w' := by
  have hsn := msnap_any h hsz
  have ht := fun w' (k : Keeps [] w w') => time_any (h.keeps k) hn
  unfold wmk
  cases hs : snaps D with
  | nil =>
    rw [hs] at hsn
    clear h
    go_enter Tryz.func61, Tryz.ntmps61
    go_wp2_with fail
    refine hsn.mono ?_
    rintro e w1 ⟨v, rfl, hr, k1⟩
    rcases hr with ⟨_, rfl⟩ | ⟨b, c, r, rfl, _⟩
    · go_wp2_with fail
      refine (ht w1 k1).mono ?_
      rintro e w2 ⟨rfl, rfl⟩
      go_wp2_with fail
      go_ret
      exact ⟨rfl, k1⟩
    · go_wp2_with fail
      refine (ht w1 k1).mono ?_
      rintro e w2 ⟨rfl, rfl⟩
      go_wp2_with fail
      go_ret
      exact ⟨rfl, k1⟩
  | cons x xs =>
    rw [hs] at hsn
    clear h ht
    go_enter Tryz.func61, Tryz.ntmps61
    go_wp2_with fail
    refine hsn.mono ?_
    rintro e w1 ⟨v, rfl, hr, k1⟩
    rcases hr with ⟨h0, _⟩ | ⟨b, c, r, rfl, hb⟩
    · exact absurd h0 (by simp)
    · have c0 := hb.cell 0
      simp [uV] at c0
      have bl := hb.lt
      have hl : (0 : Int) < ((xs.length + 1 : Nat) : Int) := by omega
      have hl2 : (0 : Int) < (xs.length : Int) + 1 := by omega
      go_wp2_with fail
      go_ret
      exact ⟨rfl, k1⟩
theorem MO.setFloor (h : MO w base Q m sb cap mb nb sv rest St F D) (F' : Nat) : MO (w.setCell ⟨m, 1, none⟩ (.int .u64 (F' : Int))) base Q m sb cap mb nb sv rest St F' D :=
  have k : Keeps [m] w (w.setCell ⟨m, 1, none⟩ (.int .u64 (F' : Int))) := (Keeps.refl [m] w).setCell _ _ (.inl (by simp))
  ⟨h.hm.set 1 _, h.hs.other _ _ (fun e => h.hne e.symm), h.hl, h.hp, h.hcap, h.hcl, h.hcm, h.hne, fun i v l h1 h2 => ⟨(h.he i v l h1 h2).1.keeps k (fun g hg => by simpa using ((h.he i v l h1 h2).2 g hg).1), (h.he i v l h1 h2).2⟩, ownsMap_keepsU h.hmap k (by simpa using (h.ne_map h.hm).symm), h.hb, fun q hq => ⟨(h.hq q hq).1, (h.hq q hq).2.1, (h.hq q hq).2.2.1, Nat.lt_of_lt_of_le (h.hq q hq).2.2.2 k.size⟩, h.hd⟩
theorem MO.kpFloor (h : MO w base Q m sb cap mb nb sv rest St F D) (v : Value) : Kp base Q w (w.setCell ⟨m, 1, none⟩ v) :=
  ⟨[m], fun j hj => by
    simp only [List.mem_cons, List.mem_nil_iff, or_false] at hj
    subst hj
    exact ⟨h.hb.1, fun hq => (h.hq _ hq).1 rfl⟩, (Keeps.refl [m] w).setCell _ _ (.inl (by simp))⟩
set_option maxHeartbeats 600000 in
theorem mraise_any (h : MO w base Q m sb cap mb nb sv rest St F D) (hn : St.length ≤ 4096) (hsz : Maps.size D ≤ 25) (T : Nat) :
    Calls Tryz.prog 48 #[.pointer (some ⟨m, 0, none⟩), .int .u64 (T : Int)] w fun e w' => e = .returned (.bool (decide ((T : Int) ≤ wmk St D))) ∧ MOx w' base Q m nb St (if (T : Int) ≤ wmk St D then max F T else F) D ∧ Kp base Q w w' := by
  have hw := mwm_any h hn hsz
  obtain ⟨W, hW⟩ : ∃ W, wmk St D = W := ⟨_, rfl⟩
  rw [hW] at hw ⊢
  have H := Lib.hid h
  clear h hsz
  by_cases hT : (T : Int) ≤ W
  · go_enter Tryz.func48, Tryz.ntmps48
    go_wp2_with fail
    refine hw.mono ?_
    rintro e w1 ⟨rfl, k1⟩
    have h1 := H.out.keeps k1
    obtain ⟨d0, d1, d2, d3, d4⟩ := h1.hm.o3
    have hT2 : ¬ W < (T : Int) := by omega
    have hmx : max (F : Int) (T : Int) = ((max F T : Nat) : Int) := by omega
    go_wp2_with fail
    go_ret
    exact ⟨rfl, ⟨_, _, _, _, _, _, Nat.le_refl _, h1.setFloor (max F T)⟩, (Kp.of k1).trans (h1.kpFloor _)⟩
  · have hT2 : W < (T : Int) := by omega
    go_enter Tryz.func48, Tryz.ntmps48
    go_wp2_with fail
    refine hw.mono ?_
    rintro e w1 ⟨rfl, k1⟩
    go_wp2_with fail
    go_ret
    exact ⟨rfl, ⟨_, _, _, _, _, _, Nat.le_refl _, H.out.keeps k1⟩, Kp.of k1⟩
end Go.Proofs.YtbcgpjfejpcgnaaGreat
end
