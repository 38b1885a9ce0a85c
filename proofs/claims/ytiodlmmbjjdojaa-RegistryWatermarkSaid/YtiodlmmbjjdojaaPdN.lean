/- slices.pdqsortOrdered at uint64, for at most 25 elements. -/
import Derived.Test.YtiodlmmbjjdojaaPdM
import Derived.Test.YtiodlmmbjjdojaaPdC
import Derived.Test.YtiodlmmbjjdojaaPdE
import Derived.Test.YtiodlmmbjjdojaaPdG
import Derived.Test.YtiodlmmbjjdojaaPdH
import Derived.Test.YtiodlmmbjjdojaaPdI
import Derived.Test.YtiodlmmbjjdojaaPdK
import Derived.Test.YtiodlmmbjjdojaaPdL
namespace Go.Proofs.Ytiodlmmbjjdojaa
open Go.RowKit
set_option linter.unusedVariables false
set_option linter.unusedSimpArgs false
set_option maxRecDepth 100000
set_option maxHeartbeats 4000000
def PdqQ (w : World) (b : Nat) (rest : List Value) (n : Nat) (R : Array Int) (q : Ending) (w' : World) : Prop := q = .returned (.tuple #[]) ∧ Rw w' b rest R ∧ R.size = n ∧ Keeps [b] w w'
theorem pdq_run (b cap n lim : Nat) (rest : List Value) (hn : n ≤ 25) : ∀ (N a e : Nat) (d : Array Int) (w : World) (l0 : Nat), e - a ≤ N → Rw w b rest d → d.size = n → a ≤ e → e ≤ n → l0 ≤ 64 →
    Calls Try.prog 62 #[.slice (some ⟨b, 0, none⟩) n cap, .int .i64 a, .int .i64 e, .int .i64 l0] w (PdqQ w b rest n (Go.Sort.pdq Go.Sort.ltInt d a e l0 true true)) := by
  intro N
  induction N using Nat.strongRecOn with
  | ind N ih =>
  intro a e d w l0 hN hb hd hae hen hl0
  obtain ⟨R, hR⟩ : ∃ R, Go.Sort.pdq Go.Sort.ltInt d a e l0 true true = R := ⟨_, rfl⟩
  rw [hR]
  have Hih := Lib.hid ih
  have H0 := Lib.hid (And.intro hR (And.intro hd (And.intro hae (And.intro hen (And.intro hl0 hN)))))
  clear hR hd hae hen hl0 hN ih
  go_enter Try.func62, Try.ntmps62
  go_wp2_with fail
  go_loopw [1, 2, 3, 8, 9] (fun s1 s2 s3 s8 s9 wr => ∃ (a' e' l : Nat) (wb wp : Bool) (d' : Array Int), s1 = .int .i64 a' ∧ s2 = .int .i64 e' ∧ s3 = .int .i64 l ∧ s8 = .bool wb ∧ s9 = .bool wp ∧ Hid (a' ≤ e' ∧ e' ≤ n ∧ e' - a' ≤ N ∧ l ≤ 64 ∧ d'.size = n ∧ Go.Sort.pdq Go.Sort.ltInt d' a' e' l wb wp = R) ∧ Rw wr b rest d' ∧ Keeps [b] w wr) (fun s1 s2 _ _ _ _ => (intOf s2 - intOf s1).toNat)
  case atStart => exact ⟨a, e, l0, true, true, d, rfl, rfl, rfl, rfl, rfl, Lib.hid ⟨H0.out.2.2.1, H0.out.2.2.2.1, H0.out.2.2.2.2.2, H0.out.2.2.2.2.1, H0.out.2.1, H0.out.1⟩, hb, Keeps.refl _ _⟩
  case round =>
    obtain ⟨a', e', l, wb, wp, d', rfl, rfl, rfl, rfl, rfl, hI, hbr, hkr⟩ := hrel
    obtain ⟨i1, i2, i3, i4, i5, i6⟩ := hI.out
    obtain ⟨L, hL⟩ : ∃ L, e' - a' = L := ⟨_, rfl⟩
    have hwL : IntKind.i64.wrap ((e' : Int) - (a' : Int)) = (L : Int) := by rw [i64w _ (by omega) (by omega)]; omega
    by_cases h12 : L ≤ 12
    · have hc : (L : Int) ≤ 12 := by omega
      have hq := insp_any b cap n a' e' rest d' wr hbr i5 (by omega) ⟨i1, i2⟩
      have hs := ins_size d' a' e' i1 (by omega)
      have hre : Go.Sort.insertionSort Go.Sort.ltInt d' a' e' = R := by rw [← i6]; exact (pdq_small (by omega)).symm
      rw [hre] at hq hs
      have Hs : Hid (R.size = n) := Lib.hid (hs.trans i5)
      clear i1 i2 i3 i4 i5 i6 hL hre hs h12
      go_wp2_with fail
      refine hq.mono ?_
      rintro q w1 ⟨rfl, h1, k1⟩
      go_wp2_with fail
      refine bodyPost_ret (results_none rfl _ _ _) rfl ?_
      exact ⟨rfl, h1, Hs.out, hkr.trans k1 (fun j hj => .inl hj)⟩
    · have hc : ¬ (L : Int) ≤ 12 := by omega
      by_cases hl : l = 0
      · subst hl
        have hq := heap_any b cap n a' e' rest d' wr hbr i5 (by omega) ⟨by omega, i2⟩
        have hs := heap_size d' a' e' i1 (by omega)
        have hre : Go.Sort.heapSort Go.Sort.ltInt d' a' e' = R := by rw [← i6]; exact (pdq_heap (by omega)).symm
        rw [hre] at hq hs
        have Hs : Hid (R.size = n) := Lib.hid (hs.trans i5)
        clear i1 i2 i3 i4 i5 i6 hL hre hs h12
        go_wp2_with fail
        refine hq.mono ?_
        rintro q w1 ⟨rfl, h1, k1⟩
        go_wp2_with fail
        refine bodyPost_ret (results_none rfl _ _ _) rfl ?_
        exact ⟨rfl, h1, Hs.out, hkr.trans k1 (fun j hj => .inl hj)⟩
      · have hlc : ((l : Int) == 0) = false := by simp; omega
        have hlc2 : ¬ (l : Int) = 0 := by omega
        have HB : Hid (a' ≤ e' ∧ e' ≤ n ∧ e' - a' ≤ N ∧ l ≤ 64 ∧ d'.size = n ∧ Go.Sort.pdq Go.Sort.ltInt d' a' e' l wb wp = R ∧ e' - a' = L ∧ 12 < L ∧ l ≠ 0) := Lib.hid ⟨i1, i2, i3, i4, i5, i6, hL, by omega, hl⟩
        obtain ⟨d1, hd1⟩ : ∃ d1, (if (!wb) = true then Go.Sort.breakPatterns d' a' e' else d') = d1 := ⟨_, rfl⟩
        obtain ⟨l1, hl1⟩ : ∃ l1, (if (!wb) = true then l - 1 else l) = l1 := ⟨_, rfl⟩
        have hbp := bp_any b cap n a' e' rest d' wr hbr i5 (by omega) ⟨by omega, i2, by omega, by omega⟩
        have HD1 : Hid (d1.size = n ∧ l1 ≤ 64) := Lib.hid ⟨by rw [← hd1]; split; exact (bp_size d' a' e' i1 (by omega)).trans i5; exact i5, by rw [← hl1]; split <;> omega⟩
        have hwl : IntKind.i64.wrap ((l : Int) - 1) = (l : Int) - 1 := i64w _ (by omega) (by omega)
        have Hd1 := Lib.hid hd1
        have Hl1 := Lib.hid hl1
        clear i1 i2 i3 i4 i5 i6 hL h12 hl hd1 hl1 hI
        go_upto_if 35 with fail
        go_cut [3] from 36 to 41 (fun s3 wx => s3 = .int .i64 (l1 : Nat) ∧ Rw wx b rest d1 ∧ Keeps [b] w wx)
        case first =>
          cases wb with
          | false =>
            go_wp2_with fail
            refine hbp.mono ?_
            rintro q w1 ⟨rfl, h1, k1⟩
            go_wp2_with fail
            go_meet
            refine ⟨?_, ?_, hkr.trans k1 (fun j hj => .inl hj)⟩
            · have h1 : l - 1 = l1 := Hl1.out
              have h2 := HB.out.2.2.2.2.2.2.2.2
              rw [← h1]
              congr 1
              omega
            · rw [← Hd1.out]; exact h1
          | true =>
            go_wp2_with fail
            go_meet
            exact ⟨by rw [← Hl1.out]; rfl, by rw [← Hd1.out]; exact hbr, hkr⟩
        case rest =>
        obtain ⟨rfl, hb1, hk1⟩ := hcut
        have hpv := piv_any b cap n a' e' rest d1 wc hb1 HD1.out.1 (by omega) (by have := HB.out; omega)
        have hpe := piv_eq d1 a' e' (by have := HB.out; omega) (by have := HB.out; omega)
        have hpr := Go.Sort.choosePivot_holds Go.Sort.ltInt d1 a' e' (by have := HB.out; omega)
        obtain ⟨⟨p, hv⟩, hcp⟩ : ∃ r, Go.Sort.choosePivot Go.Sort.ltInt d1 a' e' = r := ⟨_, rfl⟩
        rw [hcp] at hpv hpe hpr
        simp only at hpv hpr
        have hvv : hv = .increasing ∨ hv = .unknown := by
          have h2 := congrArg Prod.snd hpe
          simp only at h2
          rw [h2]
          split
          · exact .inl rfl
          · exact .inr rfl
        obtain ⟨c, hcc⟩ : ∃ c, (wb && wp && decide (hv = .increasing)) = c := ⟨_, rfl⟩
        obtain ⟨r, hrr⟩ : ∃ r, (c && decide (Go.Sort.scanSorted Go.Sort.ltInt d1 e' (a' + 1) = e')) = r := ⟨_, rfl⟩
        have hpi : (if (wb && wp && decide (hv = .increasing)) = true then Go.Sort.partialInsertionSort Go.Sort.ltInt d1 a' e' else (d1, false)) = (d1, r) := by
          rw [hcc, ← hrr]
          cases c
          · rfl
          · rw [if_pos rfl, pins_eq d1 a' e' (by have := HB.out; omega)]; rfl
        have hpq := parEq_range d1 a' e' p (by have := HB.out; have := HD1.out; omega) hpr
        have hpt := par_range d1 a' e' p (by have := HB.out; have := HD1.out; omega) hpr
        have hgo := pdq_go (d := d') (a := a') (e := e') (l := l) (wb := wb) (wp := wp) d1 l1 (by have := HB.out; omega) HB.out.2.2.2.2.2.2.2.2 Hd1.out Hl1.out p hv hcp (by rcases hvv with rfl | rfl <;> simp) r hpi hpq.1 hpt.1
        rw [HB.out.2.2.2.2.2.1] at hgo
        have Hgo := Lib.hid hgo
        have Hpq := Lib.hid hpq
        have Hpt := Lib.hid hpt
        have Hpr := Lib.hid hpr
        obtain ⟨h, hh⟩ : ∃ h, hintV hv = h := ⟨_, rfl⟩
        rw [hh] at hpv
        have hne2 : ¬ h = 2 := by rw [← hh]; rcases hvv with rfl | rfl <;> simp [hintV]
        have hne2b : (h == 2) = false := by simp [hne2]
        have hh1 : decide (hv = .increasing) = decide (h = 1) := by rw [← hh]; rcases hvv with rfl | rfl <;> simp [hintV]
        rw [hh1] at hcc
        have Hc := Lib.hid hcc
        have Hr := Lib.hid hrr
        clear hpe hpr hcp hvv hpi hpq hpt hgo hh hh1 hcc hrr hbr hkr hbp hwl
        go_wp2_with fail
        refine hpv.mono ?_
        rintro q w2 ⟨rfl, k2⟩
        have hb2 := hb1.keeps k2 (by simp)
        have hk2 : Keeps [b] w w2 := hk1.trans k2 (by simp)
        clear hpv hb1 hk1 k2
        go_upto_region 15 with fail
        go_cut [68] from 61 to 67 (fun s68 wx => s68 = .bool c ∧ wx = w2)
        case first =>
          have hc1 := Hc.out
          by_cases h1 : h = 1
          · subst h1
            cases wb <;> cases wp
            all_goals go_wp2_with fail
            all_goals go_meet
            all_goals exact ⟨by rw [← hc1]; rfl, rfl⟩
          · have h1b : (h == 1) = false := by simp [h1]
            cases wb <;> cases wp
            all_goals go_wp2_with fail
            all_goals go_meet
            all_goals exact ⟨by rw [← hc1, decide_eq_false h1]; rfl, rfl⟩
        case rest =>
        obtain ⟨rfl, rfl⟩ := hcut
        go_upto_if 68 with fail
        go_cut [3] from 69 to 72 (fun s3 wx => s3 = .int .i64 (l1 : Nat) ∧ Hid (r = false) ∧ Rw wx b rest d1 ∧ Keeps [b] w wx)
        case first =>
          cases hc : c with
          | false =>
            have hr : r = false := by rw [← Hr.out, hc]; rfl
            subst hc
            go_wp2_with fail
            go_meet
            exact ⟨rfl, Lib.hid hr, hb2, hk2⟩
          | true =>
            have hq := pins_any b cap n a' e' rest d1 wc hb2 HD1.out.1 (by omega) (by have := HB.out; omega)
            have hr : decide (Go.Sort.scanSorted Go.Sort.ltInt d1 e' (a' + 1) = e') = r := by rw [← Hr.out, hc]; rfl
            rw [pins_eq d1 a' e' (by have := HB.out; omega), hr] at hq
            simp only at hq
            have Hr2 := Lib.hid hr
            subst hc
            clear hr
            cases hrv : r with
            | false =>
              rw [hrv] at hq
              have HF := Lib.hid hrv
              clear hrv
              go_wp2_with fail
              refine hq.mono ?_
              rintro q w3 ⟨rfl, h3, k3⟩
              go_wp2_with fail
              go_meet
              exact ⟨rfl, HF, h3, hk2.trans k3 (fun j hj => .inl hj)⟩
            | true =>
              rw [hrv] at hq
              have hRd : R = d1 := by rw [Hgo.out, hrv, if_pos rfl]
              have HF := Lib.hid hRd
              clear hrv hRd
              go_wp2_with fail
              refine hq.mono ?_
              rintro q w3 ⟨rfl, h3, k3⟩
              go_wp2_with fail
              refine bodyPost_ret (results_none rfl _ _ _) rfl ?_
              exact ⟨rfl, by rw [HF.out]; exact h3, by rw [HF.out]; exact HD1.out.1, hk2.trans k3 (fun j hj => .inl hj)⟩
        case rest =>
        obtain ⟨rfl, Hrf, hb3, hk3⟩ := hcut
        obtain ⟨c2, hc2⟩ : ∃ c2, (decide (a' > 0) && !Go.Sort.ltInt d1[a' - 1]! d1[p]!) = c2 := ⟨_, rfl⟩
        have Hc2 := Lib.hid hc2
        clear hc2 Hr Hc hne2 hne2b
        go_upto_region 17 with fail
        go_cut [87] from 73 to 86 (fun s87 wx => s87 = .bool c2 ∧ Rw wx b rest d1 ∧ Keeps [b] w wx)
        case first =>
          have hpn := Hpr.out
          have hBB := HB.out
          have hsz := HD1.out.1
          have xp := hb3.cell p (by omega)
          have xf := hb3.frozen
          have xl := hb3.lt
          have p1 : (0 : Int) ≤ (p : Int) := by omega
          have p2 : (p : Int) < n := by omega
          have hc3 := Hc2.out
          by_cases ha0 : a' = 0
          · have hc4 : c2 = false := by rw [← hc3, ha0]; rfl
            have HC4 := Lib.hid hc4
            subst ha0
            clear hpn hBB hsz hc3 hc4
            go_wp2_with fail
            go_quiet (fail)
            go_wp2_with fail
            go_meet
            exact ⟨by rw [HC4.out], hb3.drewN _, hk3.drewN _⟩
          · obtain ⟨a2, rfl⟩ : ∃ a2, a' = a2 + 1 := ⟨a' - 1, by omega⟩
            have xa := hb3.cell a2 (by omega)
            have q1 : (0 : Int) ≤ (a2 : Int) := by omega
            have q2 : (a2 : Int) < n := by omega
            have hwq : IntKind.i64.wrap (a2 : Int) = (a2 : Int) := i64w _ (by omega) (by omega)
            have hgt : decide ((a2 : Int) + 1 > 0) = true := decide_eq_true (by omega)
            have hc4 : c2 = !decide (d1[a2]! < d1[p]!) := by rw [← hc3]; simp [Go.Sort.ltInt]
            have HC4 := Lib.hid hc4
            rw [show ((a2 + 1 : Nat) : Int) = (a2 : Int) + 1 from rfl]
            clear hpn hBB hsz hc3 hc4 ha0
            by_cases hl : d1[a2]! < d1[p]!
            · have hd4 : decide (d1[a2]! < d1[p]!) = true := by simp [hl]
              go_wp2_with fail
              go_region_held3 (fun w' => w'.cell? ⟨b, a2, none⟩ = some (.int .u64 d1[a2]!) ∧ w'.cell? ⟨b, p, none⟩ = some (.int .u64 d1[p]!)) (go_keep)
                ((go_at_call 77; refine (less_any _ _ _).mono ?_; rintro e w' ⟨rfl, rfl⟩))
              go_wp2_with fail
              go_meet
              exact ⟨by rw [HC4.out, decide_eq_true hl]; rfl, hb3.drew, hk3.drew⟩
            · have hd4 : decide (d1[a2]! < d1[p]!) = false := by simp; omega
              go_wp2_with fail
              go_region_held3 (fun w' => w'.cell? ⟨b, a2, none⟩ = some (.int .u64 d1[a2]!) ∧ w'.cell? ⟨b, p, none⟩ = some (.int .u64 d1[p]!)) (go_keep)
                ((go_at_call 77; refine (less_any _ _ _).mono ?_; rintro e w' ⟨rfl, rfl⟩))
              go_wp2_with fail
              go_meet
              exact ⟨by rw [HC4.out, decide_eq_false (by omega)]; rfl, hb3.drew, hk3.drew⟩
        case rest =>
        obtain ⟨rfl, hb4, hk4⟩ := hcut
        have hG := Hgo.out
        rw [Hrf.out, if_neg (by simp), Hc2.out] at hG
        have hPq := Hpq.out
        have hPt := Hpt.out
        cases hcv : c2 with
        | true =>
          rw [hcv, if_pos rfl] at hG
          have hq := parEq_any b cap n a' e' p rest d1 wc hb4 HD1.out.1 (by omega) (by have := HB.out; omega) Hpr.out
          obtain ⟨⟨mid, d4⟩, hm⟩ : ∃ r, Go.Sort.partitionEqual Go.Sort.ltInt d1 a' e' p = r := ⟨_, rfl⟩
          rw [hm] at hq hG hPq
          simp only at hq hG hPq
          have hI2 : Hid (mid ≤ e' ∧ e' ≤ n ∧ e' - mid ≤ N ∧ l1 ≤ 64 ∧ d4.size = n ∧ Go.Sort.pdq Go.Sort.ltInt d4 mid e' l1 wb wp = R) := Lib.hid ⟨hPq.1.2, HB.out.2.1, by have := HB.out; omega, HD1.out.2, hPq.2.trans HD1.out.1, hG.symm⟩
          have Hms : Hid (a' < mid ∧ mid ≤ e') := Lib.hid hPq.1
          subst hcv
          clear hG hPq hPt hm
          go_wp2_with fail
          refine hq.mono ?_
          rintro q w5 ⟨rfl, h5, k5⟩
          go_wp2_with fail
          exact ⟨⟨mid, e', l1, wb, wp, d4, rfl, rfl, rfl, rfl, rfl, hI2, h5, hk4.trans k5 (fun j hj => .inl hj)⟩, by have := Hms.out; simp [intOf]; omega⟩
        | false =>
          rw [hcv, if_neg (by simp)] at hG
          have hq := par_any b cap n a' e' p rest d1 wc hb4 HD1.out.1 (by omega) (by have := HB.out; omega) Hpr.out
          obtain ⟨⟨mid, ap, d4⟩, hm⟩ : ∃ r, Go.Sort.partition Go.Sort.ltInt d1 a' e' p = r := ⟨_, rfl⟩
          rw [hm] at hq hG hPt
          simp only at hq hG hPt
          have hB2 := HB.out
          obtain ⟨L1, hL1⟩ : ∃ L1, L1 = mid - a' := ⟨_, rfl⟩
          obtain ⟨L2, hL2⟩ : ∃ L2, L2 = e' - mid := ⟨_, rfl⟩
          obtain ⟨T, hT⟩ : ∃ T, T = L / 8 := ⟨_, rfl⟩
          have hw1 : IntKind.i64.wrap ((mid : Int) - (a' : Int)) = (L1 : Int) := by rw [i64w _ (by omega) (by omega)]; omega
          have hw2 : IntKind.i64.wrap ((e' : Int) - (mid : Int)) = (L2 : Int) := by rw [i64w _ (by omega) (by omega)]; omega
          have hw3 : ((L : Int)).tdiv 8 = (T : Int) := by rw [Int.tdiv_eq_ediv_of_nonneg (by omega)]; omega
          have hw4 : IntKind.i64.wrap (T : Int) = (T : Int) := i64w _ (by omega) (by omega)
          have hw5 : IntKind.i64.wrap ((mid : Int) + 1) = (mid : Int) + 1 := i64w _ (by omega) (by omega)
          rw [← hL1, ← hL2, hB2.2.2.2.2.2.2.1, ← hT] at hG
          have hsz4 : d4.size = n := hPt.2.trans HD1.out.1
          have hl1 := HD1.out.2
          by_cases hlt : L1 < L2
          · rw [if_pos hlt] at hG
            have hltI : (L1 : Int) < (L2 : Int) := by omega
            obtain ⟨B, hB⟩ : ∃ B, decide (L1 ≥ T) = B := ⟨_, rfl⟩
            have hB3 : decide ((L1 : Int) ≥ (T : Int)) = B := by rw [← hB]; simp
            have hB4 : decide ((T : Int) ≤ (L1 : Int)) = B := by rw [← hB]; simp
            rw [hB] at hG
            have HBv := Lib.hid hB
            have hrec := fun w6 h6 => Hih.out (mid - a') (by omega) a' mid d4 w6 l1 (Nat.le_refl _) h6 hsz4 (by omega) (by omega) hl1
            obtain ⟨d5, hd5⟩ : ∃ d5, Go.Sort.pdq Go.Sort.ltInt d4 a' mid l1 true true = d5 := ⟨_, rfl⟩
            rw [hd5] at hrec hG
            have hI2 : Hid (mid + 1 ≤ e' ∧ e' ≤ n ∧ e' - (mid + 1) ≤ N ∧ l1 ≤ 64 ∧ Go.Sort.pdq Go.Sort.ltInt d5 (mid + 1) e' l1 B ap = R) := Lib.hid ⟨by omega, by omega, by omega, hl1, hG.symm⟩
            have Hms : Hid (a' ≤ mid ∧ mid < e') := Lib.hid hPt.1
            subst hcv
            clear hG hPq hPt hm hL1 hL2 hT hB2 hsz4 hl1 hlt hB hd5
            go_wp2_with fail
            refine hq.mono ?_
            rintro q w5 ⟨rfl, h5, k5⟩
            go_wp2_with fail
            refine (hrec _ h5).mono ?_
            rintro q w6 ⟨rfl, h6, hs6, k6⟩
            go_wp2_with fail
            exact ⟨⟨mid + 1, e', l1, B, ap, d5, by go_num, rfl, rfl, by first | rfl | exact congrArg Value.bool HBv.out, rfl, Lib.hid ⟨hI2.out.1, hI2.out.2.1, hI2.out.2.2.1, hI2.out.2.2.2.1, hs6, hI2.out.2.2.2.2⟩, h6, (hk4.trans k5 (fun j hj => .inl hj)).trans k6 (fun j hj => .inl hj)⟩, by have := Hms.out; simp [intOf]; omega⟩
          · rw [if_neg hlt] at hG
            have hltI : ¬ (L1 : Int) < (L2 : Int) := by omega
            obtain ⟨B, hB⟩ : ∃ B, decide (L2 ≥ T) = B := ⟨_, rfl⟩
            have hB3 : decide ((L2 : Int) ≥ (T : Int)) = B := by rw [← hB]; simp
            have hB4 : decide ((T : Int) ≤ (L2 : Int)) = B := by rw [← hB]; simp
            rw [hB] at hG
            have HBv := Lib.hid hB
            have hrec := fun w6 h6 => Hih.out (e' - (mid + 1)) (by omega) (mid + 1) e' d4 w6 l1 (Nat.le_refl _) h6 hsz4 (by omega) (by omega) hl1
            rw [show ((mid + 1 : Nat) : Int) = (mid : Int) + 1 from rfl] at hrec
            obtain ⟨d5, hd5⟩ : ∃ d5, Go.Sort.pdq Go.Sort.ltInt d4 (mid + 1) e' l1 true true = d5 := ⟨_, rfl⟩
            rw [hd5] at hrec hG
            have hI2 : Hid (a' ≤ mid ∧ mid ≤ n ∧ mid - a' ≤ N ∧ l1 ≤ 64 ∧ Go.Sort.pdq Go.Sort.ltInt d5 a' mid l1 B ap = R) := Lib.hid ⟨by omega, by omega, by omega, hl1, hG.symm⟩
            have Hms : Hid (a' ≤ mid ∧ mid < e') := Lib.hid hPt.1
            subst hcv
            clear hG hPq hPt hm hL1 hL2 hT hB2 hsz4 hl1 hlt hB hd5
            go_wp2_with fail
            refine hq.mono ?_
            rintro q w5 ⟨rfl, h5, k5⟩
            go_wp2_with fail
            refine (hrec _ h5).mono ?_
            rintro q w6 ⟨rfl, h6, hs6, k6⟩
            go_wp2_with fail
            exact ⟨⟨a', mid, l1, B, ap, d5, rfl, rfl, rfl, by first | rfl | exact congrArg Value.bool HBv.out, rfl, Lib.hid ⟨hI2.out.1, hI2.out.2.1, hI2.out.2.2.1, hI2.out.2.2.2.1, hs6, hI2.out.2.2.2.2⟩, h6, (hk4.trans k5 (fun j hj => .inl hj)).trans k6 (fun j hj => .inl hj)⟩, by have := Hms.out; simp [intOf]; omega⟩
end Go.Proofs.Ytiodlmmbjjdojaa
