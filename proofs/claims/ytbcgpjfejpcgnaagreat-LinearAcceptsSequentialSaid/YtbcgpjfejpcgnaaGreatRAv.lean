/- Lemmas on the way to LinearAcceptsSequential. No condition. -/
import Derived.Test.YtbcgpjfejpcgnaaGreatRAu
set_option linter.unusedSimpArgs false
set_option linter.unusedVariables false
set_option linter.unusedSectionVars false
section
namespace Go.Proofs.YtbcgpjfejpcgnaaGreat
open Go.RowKit
set_option linter.unusedVariables false
set_option linter.unusedSimpArgs false
set_option maxRecDepth 100000
set_option maxHeartbeats 4000000
theorem siftDown_any (b cap n lo hi first : Nat) (rest : List Value) (d : Array Int) (w : World) (hb : Rw w b rest d) (hd : d.size = n) (hn : n ≤ 4096) (hs : first + hi ≤ n) (hlo : lo ≤ n) :
    Calls Tryz.prog 113 #[.slice (some ⟨b, 0, none⟩) n cap, .int .i64 lo, .int .i64 hi, .int .i64 first] w fun q w' => q = .returned (.tuple #[]) ∧ Rw w' b rest (Go.Sort.siftDown Go.Sort.ltInt hi first lo d) ∧ Keeps [b] w w' := by
  have Hd := Lib.hid hd
  clear hd
  go_enter Tryz.func113, Tryz.ntmps113
  go_wp2_with fail
  go_loopw [8] (fun r wr => ∃ (root : Nat) (d' : Array Int), r = .int .i64 root ∧ root ≤ n ∧ Hid (d'.size = n ∧ Go.Sort.siftDown Go.Sort.ltInt hi first root d' = Go.Sort.siftDown Go.Sort.ltInt hi first lo d) ∧ Rw wr b rest d' ∧ Keeps [b] w wr) (fun r _ => n - (intOf r).toNat)
  case atStart => exact ⟨lo, d, rfl, hlo, Lib.hid ⟨Hd.out, rfl⟩, hb, Keeps.refl _ _⟩
  case round =>
    obtain ⟨root, d', rfl, hr, hR, hbr, hkr⟩ := hrel
    obtain ⟨c, hc⟩ : ∃ c, c = 2 * root + 1 := ⟨_, rfl⟩
    have hw0 : IntKind.i64.wrap (2 * (root : Int)) = 2 * (root : Int) := i64w _ (by omega) (by omega)
    have hw1 : IntKind.i64.wrap (2 * (root : Int) + 1) = (c : Int) := by rw [i64w _ (by omega) (by omega)]; omega
    by_cases h1 : hi ≤ c
    · have hge : (hi : Int) ≤ (c : Int) := by omega
      go_wp2_with fail
      go_end0
      refine ⟨rfl, ?_, hkr⟩
      have := hR.out.2
      rw [sift_stop (by omega)] at this
      rw [← this]; exact hbr
    · have hge : ¬ (hi : Int) ≤ (c : Int) := by omega
      have hw2 : IntKind.i64.wrap ((c : Int) + 1) = (c : Int) + 1 := i64w _ (by omega) (by omega)
      obtain ⟨p1, hp1⟩ : ∃ p1, p1 = first + c := ⟨_, rfl⟩
      have hw3 : IntKind.i64.wrap ((first : Int) + (c : Int)) = (p1 : Int) := by rw [i64w _ (by omega) (by omega)]; omega
      have hw4 : IntKind.i64.wrap ((p1 : Int) + 1) = (p1 : Int) + 1 := i64w _ (by omega) (by omega)
      have xf := hbr.frozen
      have xl := hbr.lt
      obtain ⟨pr, hpr⟩ : ∃ pr, pr = first + root := ⟨_, rfl⟩
      have hw5 : IntKind.i64.wrap ((first : Int) + (root : Int)) = (pr : Int) := by rw [i64w _ (by omega) (by omega)]; omega
      have x1 := hbr.cell p1 (by rw [hR.out.1]; omega)
      have xr := hbr.cell pr (by rw [hR.out.1]; omega)
      have b1 : (0 : Int) ≤ (p1 : Int) := by omega
      have b2 : (p1 : Int) < n := by omega
      have b3 : (0 : Int) ≤ (pr : Int) := by omega
      have b4 : (pr : Int) < n := by omega
      have E := Lib.hid (And.intro hc (And.intro hp1 hpr))
      clear hc hp1 hpr
      by_cases h2 : c + 1 < hi
      · have h3 : (c : Int) + 1 < (hi : Int) := by omega
        have x2 := hbr.cell (p1 + 1) (by rw [hR.out.1]; have := E.out; omega)
        have b7 : (0 : Int) ≤ (p1 : Int) + 1 := by omega
        have b8 : (p1 : Int) + 1 < n := by have := E.out; omega
        by_cases h5 : d'[p1]! < d'[p1 + 1]!
        · have hd5 : decide (d'[p1]! < d'[p1 + 1]!) = true := by simp [h5]
          go_wp2_with fail
          go_region_held3 (fun w' => w'.cell? ⟨b, p1, none⟩ = some (.int .u64 d'[p1]!) ∧ w'.cell? ⟨b, p1 + 1, none⟩ = some (.int .u64 d'[p1 + 1]!)) (go_keep)
            ((go_at_call 106; refine (less_any _ _ _).mono ?_; rintro e w' ⟨rfl, rfl⟩))
          obtain ⟨wq, hwq⟩ : ∃ wq, wr.drew = wq := ⟨_, rfl⟩
          rw [hwq]
          have hbq : Rw wq b rest d' := by rw [← hwq]; exact hbr.drew
          have hkq : Keeps [b] w wq := by rw [← hwq]; exact hkr.drew
          clear hwq x1 xr x2 hbr hkr xf xl
          obtain ⟨pc, hpc⟩ : ∃ pc, pc = p1 + 1 := ⟨_, rfl⟩
          have hE := E.out
          have hwc : IntKind.i64.wrap ((first : Int) + ((c : Int) + 1)) = (pc : Int) := by rw [i64w _ (by omega) (by omega)]; omega
          have xc := hbq.cell pc (by rw [hR.out.1]; omega)
          have xr := hbq.cell pr (by rw [hR.out.1]; omega)
          have xf := hbq.frozen
          have xl := hbq.lt
          have b5 : (0 : Int) ≤ (pc : Int) := by omega
          have b6 : (pc : Int) < n := by omega
          have E2 := Lib.hid hpc
          have hn1 : pr ≠ pc := by omega
          have hn2 : pc ≠ pr := by omega
          clear hpc hE
          by_cases h4 : d'[pr]! < d'[pc]!
          · have hd4 : decide (d'[pr]! < d'[pc]!) = true := by simp [h4]
            go_wp2_with fail
            go_region_held3 (fun w' => w'.cell? ⟨b, pr, none⟩ = some (.int .u64 d'[pr]!) ∧ w'.cell? ⟨b, pc, none⟩ = some (.int .u64 d'[pc]!)) (go_keep)
              ((go_at_call 106; refine (less_any _ _ _).mono ?_; rintro e w' ⟨rfl, rfl⟩))
            have hz := hbq.swp pr pc (by rw [hR.out.1]; have := E.out; omega) (by rw [hR.out.1]; have := E2.out; have := E.out; omega)
            have hk := keeps_swp (b := b) (by simp) w hkq pr pc (.int .u64 d'[pc]!) (.int .u64 d'[pr]!)
            have hR2 : Hid ((Go.Sort.swp d' pr pc).size = n ∧ Go.Sort.siftDown Go.Sort.ltInt hi first (c + 1) (Go.Sort.swp d' pr pc) = Go.Sort.siftDown Go.Sort.ltInt hi first lo d) := Lib.hid ⟨by rw [Go.Sort.size_swp]; exact hR.out.1, by
              obtain ⟨e1, e2, e3⟩ := E.out
              have e4 := E2.out
              rw [← hR.out.2, sift_two (hi := hi) (first := first) (root := root) (d := d') (by omega) (by rw [← e1, ← e2]; exact h5)]
              subst e1 e2 e3 e4
              rw [if_pos h4]⟩
            go_wp2_with fail
            go_region
            all_goals go_wp2_with fail
            all_goals exact ⟨⟨(c + 1), _, by go_num, by have := E.out; omega, hR2, by first | exact hz.drew | exact hz.drew.drew | exact hz.drew.drew.drew | exact hz.drew.drew.drew.drew, by first | exact hk.drew | exact hk.drew.drew | exact hk.drew.drew.drew | exact hk.drew.drew.drew.drew⟩, by have := E.out; simp [intOf]; omega⟩
          · have hd4 : decide (d'[pr]! < d'[pc]!) = false := by simp; omega
            go_wp2_with fail
            go_region_held3 (fun w' => w'.cell? ⟨b, pr, none⟩ = some (.int .u64 d'[pr]!) ∧ w'.cell? ⟨b, pc, none⟩ = some (.int .u64 d'[pc]!)) (go_keep)
              ((go_at_call 106; refine (less_any _ _ _).mono ?_; rintro e w' ⟨rfl, rfl⟩))
            go_wp2_with fail
            refine bodyPost_ret (results_none rfl _ _ _) rfl ?_
            refine ⟨rfl, ?_, by first | exact hkq.drew | exact hkq.drew.drew | exact hkq.drew.drew.drew⟩
            have hx : d' = Go.Sort.siftDown Go.Sort.ltInt hi first lo d := by
              obtain ⟨e1, e2, e3⟩ := E.out
              have e4 := E2.out
              rw [← hR.out.2, sift_two (hi := hi) (first := first) (root := root) (d := d') (by omega) (by rw [← e1, ← e2]; exact h5)]
              subst e1 e2 e3 e4
              rw [if_neg (by omega)]
            rw [← hx]
            first | exact hbq.drew | exact hbq.drew.drew | exact hbq.drew.drew.drew
        · have hd5 : decide (d'[p1]! < d'[p1 + 1]!) = false := by simp; omega
          go_wp2_with fail
          go_region_held3 (fun w' => w'.cell? ⟨b, p1, none⟩ = some (.int .u64 d'[p1]!) ∧ w'.cell? ⟨b, p1 + 1, none⟩ = some (.int .u64 d'[p1 + 1]!)) (go_keep)
            ((go_at_call 106; refine (less_any _ _ _).mono ?_; rintro e w' ⟨rfl, rfl⟩))
          obtain ⟨wq, hwq⟩ : ∃ wq, wr.drew = wq := ⟨_, rfl⟩
          rw [hwq]
          have hbq : Rw wq b rest d' := by rw [← hwq]; exact hbr.drew
          have hkq : Keeps [b] w wq := by rw [← hwq]; exact hkr.drew
          clear hwq x1 xr x2 hbr hkr xf xl
          obtain ⟨pc, hpc⟩ : ∃ pc, pc = p1 := ⟨_, rfl⟩
          have hE := E.out
          have hwc : IntKind.i64.wrap ((first : Int) + (c : Int)) = (pc : Int) := by rw [i64w _ (by omega) (by omega)]; omega
          have xc := hbq.cell pc (by rw [hR.out.1]; omega)
          have xr := hbq.cell pr (by rw [hR.out.1]; omega)
          have xf := hbq.frozen
          have xl := hbq.lt
          have b5 : (0 : Int) ≤ (pc : Int) := by omega
          have b6 : (pc : Int) < n := by omega
          have E2 := Lib.hid hpc
          have hn1 : pr ≠ pc := by omega
          have hn2 : pc ≠ pr := by omega
          clear hpc hE hw3 hw4
          by_cases h4 : d'[pr]! < d'[pc]!
          · have hd4 : decide (d'[pr]! < d'[pc]!) = true := by simp [h4]
            go_wp2_with fail
            go_region_held3 (fun w' => w'.cell? ⟨b, pr, none⟩ = some (.int .u64 d'[pr]!) ∧ w'.cell? ⟨b, pc, none⟩ = some (.int .u64 d'[pc]!)) (go_keep)
              ((go_at_call 106; refine (less_any _ _ _).mono ?_; rintro e w' ⟨rfl, rfl⟩))
            have hz := hbq.swp pr pc (by rw [hR.out.1]; have := E.out; omega) (by rw [hR.out.1]; have := E2.out; have := E.out; omega)
            have hk := keeps_swp (b := b) (by simp) w hkq pr pc (.int .u64 d'[pc]!) (.int .u64 d'[pr]!)
            have hR2 : Hid ((Go.Sort.swp d' pr pc).size = n ∧ Go.Sort.siftDown Go.Sort.ltInt hi first c (Go.Sort.swp d' pr pc) = Go.Sort.siftDown Go.Sort.ltInt hi first lo d) := Lib.hid ⟨by rw [Go.Sort.size_swp]; exact hR.out.1, by
              obtain ⟨e1, e2, e3⟩ := E.out
              have e4 := E2.out
              rw [← hR.out.2, sift_one (hi := hi) (first := first) (root := root) (d := d') (by omega) (by rw [← e1, ← e2]; omega)]
              subst e1 e2 e3 e4
              rw [if_pos h4]⟩
            go_wp2_with fail
            go_region
            all_goals go_wp2_with fail
            all_goals exact ⟨⟨c, _, by go_num, by have := E.out; omega, hR2, by first | exact hz.drew | exact hz.drew.drew | exact hz.drew.drew.drew | exact hz.drew.drew.drew.drew, by first | exact hk.drew | exact hk.drew.drew | exact hk.drew.drew.drew | exact hk.drew.drew.drew.drew⟩, by have := E.out; simp [intOf]; omega⟩
          · have hd4 : decide (d'[pr]! < d'[pc]!) = false := by simp; omega
            go_wp2_with fail
            go_region_held3 (fun w' => w'.cell? ⟨b, pr, none⟩ = some (.int .u64 d'[pr]!) ∧ w'.cell? ⟨b, pc, none⟩ = some (.int .u64 d'[pc]!)) (go_keep)
              ((go_at_call 106; refine (less_any _ _ _).mono ?_; rintro e w' ⟨rfl, rfl⟩))
            go_wp2_with fail
            refine bodyPost_ret (results_none rfl _ _ _) rfl ?_
            refine ⟨rfl, ?_, by first | exact hkq.drew | exact hkq.drew.drew | exact hkq.drew.drew.drew⟩
            have hx : d' = Go.Sort.siftDown Go.Sort.ltInt hi first lo d := by
              obtain ⟨e1, e2, e3⟩ := E.out
              have e4 := E2.out
              rw [← hR.out.2, sift_one (hi := hi) (first := first) (root := root) (d := d') (by omega) (by rw [← e1, ← e2]; omega)]
              subst e1 e2 e3 e4
              rw [if_neg (by omega)]
            rw [← hx]
            first | exact hbq.drew | exact hbq.drew.drew | exact hbq.drew.drew.drew
      · have h3 : ¬ (c : Int) + 1 < (hi : Int) := by omega
        have hd3 : decide ((c : Int) + 1 < (hi : Int)) = false := decide_eq_false h3
        go_wp2_with fail
        go_quiet (fail)
        obtain ⟨wq, hwq⟩ : ∃ wq, wr.drewN nq = wq := ⟨_, rfl⟩
        rw [hwq]
        have hbq : Rw wq b rest d' := by rw [← hwq]; exact hbr.drewN nq
        have hkq : Keeps [b] w wq := by rw [← hwq]; exact hkr.drewN nq
        clear hwq x1 xr hbr hkr xf xl
        obtain ⟨pc, hpc⟩ : ∃ pc, pc = p1 := ⟨_, rfl⟩
        have hE := E.out
        have hwc : IntKind.i64.wrap ((first : Int) + (c : Int)) = (pc : Int) := by rw [i64w _ (by omega) (by omega)]; omega
        have xc := hbq.cell pc (by rw [hR.out.1]; omega)
        have xr := hbq.cell pr (by rw [hR.out.1]; omega)
        have xf := hbq.frozen
        have xl := hbq.lt
        have b5 : (0 : Int) ≤ (pc : Int) := by omega
        have b6 : (pc : Int) < n := by omega
        have E2 := Lib.hid hpc
        have hn1 : pr ≠ pc := by omega
        have hn2 : pc ≠ pr := by omega
        clear hpc hE hw3 hw4
        by_cases h4 : d'[pr]! < d'[pc]!
        · have hd4 : decide (d'[pr]! < d'[pc]!) = true := by simp [h4]
          go_wp2_with fail
          go_region_held3 (fun w' => w'.cell? ⟨b, pr, none⟩ = some (.int .u64 d'[pr]!) ∧ w'.cell? ⟨b, pc, none⟩ = some (.int .u64 d'[pc]!)) (go_keep)
            ((go_at_call 106; refine (less_any _ _ _).mono ?_; rintro e w' ⟨rfl, rfl⟩))
          have hz := hbq.swp pr pc (by rw [hR.out.1]; have := E.out; omega) (by rw [hR.out.1]; have := E2.out; have := E.out; omega)
          have hk := keeps_swp (b := b) (by simp) w hkq pr pc (.int .u64 d'[pc]!) (.int .u64 d'[pr]!)
          have hR2 : Hid ((Go.Sort.swp d' pr pc).size = n ∧ Go.Sort.siftDown Go.Sort.ltInt hi first c (Go.Sort.swp d' pr pc) = Go.Sort.siftDown Go.Sort.ltInt hi first lo d) := Lib.hid ⟨by rw [Go.Sort.size_swp]; exact hR.out.1, by
            obtain ⟨e1, e2, e3⟩ := E.out
            have e4 := E2.out
            rw [← hR.out.2, sift_one (hi := hi) (first := first) (root := root) (d := d') (by omega) (by omega)]
            subst e1 e2 e3 e4
            rw [if_pos h4]⟩
          go_wp2_with fail
          go_region
          all_goals go_wp2_with fail
          all_goals exact ⟨⟨c, _, by go_num, by have := E.out; omega, hR2, by first | exact hz.drew | exact hz.drew.drew | exact hz.drew.drew.drew | exact hz.drew.drew.drew.drew, by first | exact hk.drew | exact hk.drew.drew | exact hk.drew.drew.drew | exact hk.drew.drew.drew.drew⟩, by have := E.out; simp [intOf]; omega⟩
        · have hd4 : decide (d'[pr]! < d'[pc]!) = false := by simp; omega
          go_wp2_with fail
          go_region_held3 (fun w' => w'.cell? ⟨b, pr, none⟩ = some (.int .u64 d'[pr]!) ∧ w'.cell? ⟨b, pc, none⟩ = some (.int .u64 d'[pc]!)) (go_keep)
            ((go_at_call 106; refine (less_any _ _ _).mono ?_; rintro e w' ⟨rfl, rfl⟩))
          go_wp2_with fail
          refine bodyPost_ret (results_none rfl _ _ _) rfl ?_
          refine ⟨rfl, ?_, by first | exact hkq.drew | exact hkq.drew.drew | exact hkq.drew.drew.drew⟩
          have hx : d' = Go.Sort.siftDown Go.Sort.ltInt hi first lo d := by
            obtain ⟨e1, e2, e3⟩ := E.out
            have e4 := E2.out
            rw [← hR.out.2, sift_one (hi := hi) (first := first) (root := root) (d := d') (by omega) (by omega)]
            subst e1 e2 e3 e4
            rw [if_neg (by omega)]
          rw [← hx]
          first | exact hbq.drew | exact hbq.drew.drew | exact hbq.drew.drew.drew
end Go.Proofs.YtbcgpjfejpcgnaaGreat
end
section
namespace Go.Proofs.YtbcgpjfejpcgnaaGreat
open Go.RowKit
set_option linter.unusedVariables false
set_option linter.unusedSimpArgs false
set_option maxRecDepth 100000
set_option maxHeartbeats 4000000
theorem siftDown_size (hi first : Nat) : ∀ (k root : Nat) (d : Array Int), hi - root ≤ k → (Go.Sort.siftDown Go.Sort.ltInt hi first root d).size = d.size := by
  intro k
  induction k with
  | zero => intro root d h; rw [sift_stop (by omega)]
  | succ k ih =>
    intro root d h
    by_cases h1 : hi ≤ 2 * root + 1
    · rw [sift_stop h1]
    · by_cases h2 : 2 * root + 2 < hi ∧ d[first + (2 * root + 1)]! < d[first + (2 * root + 1) + 1]!
      · rw [sift_two h2.1 h2.2]
        split
        · rw [ih _ _ (by omega), Go.Sort.size_swp]
        · rfl
      · rw [sift_one (by omega) h2]
        split
        · rw [ih _ _ (by omega), Go.Sort.size_swp]
        · rfl
theorem heap_any (b cap n a e : Nat) (rest : List Value) (d : Array Int) (w : World) (hb : Rw w b rest d) (hd : d.size = n) (hn : n ≤ 4096) (hae : a < e ∧ e ≤ n) :
    Calls Tryz.prog 101 #[.slice (some ⟨b, 0, none⟩) n cap, .int .i64 a, .int .i64 e] w fun q w' => q = .returned (.tuple #[]) ∧ Rw w' b rest (Go.Sort.heapSort Go.Sort.ltInt d a e) ∧ Keeps [b] w w' := by
  have Hd := Lib.hid hd
  clear hd
  obtain ⟨hi, hhi⟩ : ∃ hi, hi = e - a := ⟨_, rfl⟩
  have H := Lib.hid hhi
  have hw0 : IntKind.i64.wrap ((e : Int) - (a : Int)) = (hi : Int) := by rw [i64w _ (by omega) (by omega)]; omega
  have hw1 : IntKind.i64.wrap ((hi : Int) - 1) = (hi : Int) - 1 := i64w _ (by omega) (by omega)
  obtain ⟨m, hm⟩ : ∃ m, m = (hi - 1) / 2 := ⟨_, rfl⟩
  have hw2 : ((hi : Int) - 1).tdiv 2 = (m : Int) := by
    rw [Int.tdiv_eq_ediv_of_nonneg (by omega)]
    omega
  have hw3 : IntKind.i64.wrap (m : Int) = (m : Int) := i64w _ (by omega) (by omega)
  have HM := Lib.hid hm
  clear hhi hm
  go_enter Tryz.func101, Tryz.ntmps101
  go_wp2_with fail
  have Hlim : Hid (hi + a = e ∧ 0 < hi ∧ m < hi) := Lib.hid (by have := H.out; have := HM.out; omega)
  have hwa : ((m + 1 : Nat) : Int) - 1 = (m : Int) := by omega
  go_loopw [9] (fun i wr => ∃ (k : Nat) (d' : Array Int), i = .int .i64 ((k : Int) - 1) ∧ k ≤ m + 1 ∧ Hid (d'.size = n ∧ Go.Sort.heapBuild Go.Sort.ltInt hi a k d' = Go.Sort.heapBuild Go.Sort.ltInt hi a (m + 1) d) ∧ Rw wr b rest d' ∧ Keeps [b] w wr) (fun i _ => (intOf i + 1).toNat)
  case atStart => exact ⟨m + 1, d, by rw [hwa], Nat.le_refl _, Lib.hid ⟨Hd.out, rfl⟩, hb, Keeps.refl _ _⟩
  case round =>
    obtain ⟨k, d', rfl, hk, hR, hbr, hkr⟩ := hrel
    by_cases h0 : k = 0
    · subst h0
      rw [show ((0 : Nat) : Int) - 1 = -1 from rfl]
      go_wp2_with fail
      have Hsz : Hid (d'.size = n) := Lib.hid hR.out.1
      have hD : Go.Sort.heapBuild Go.Sort.ltInt hi a (m + 1) d = d' := hR.out.2.symm
      have HD := Lib.hid hD
      clear hD hR hk
      have hwh : IntKind.i64.wrap ((hi : Int) - 1) = (hi : Int) - 1 := hw1
      go_loopw [10] (fun i wr2 => ∃ (k : Nat) (d2 : Array Int), i = .int .i64 ((k : Int) - 1) ∧ k ≤ hi ∧ Hid (d2.size = n ∧ Go.Sort.heapPop Go.Sort.ltInt a k d2 = Go.Sort.heapPop Go.Sort.ltInt a hi d') ∧ Rw wr2 b rest d2 ∧ Keeps [b] w wr2) (fun i _ => (intOf i + 1).toNat)
      case atStart => exact ⟨hi, d', rfl, Nat.le_refl _, Lib.hid ⟨Hsz.out, rfl⟩, hbr, hkr⟩
      case round =>
        obtain ⟨k, d2, rfl, hk, hR, hb2, hk2⟩ := hrel
        by_cases h0 : k = 0
        · subst h0
          go_wp2_with fail
          go_end0
          refine ⟨rfl, ?_, hk2⟩
          have e1 : Go.Sort.heapSort Go.Sort.ltInt d a e = d2 := by
            unfold Go.Sort.heapSort
            rw [← H.out, ← HM.out, HD.out, ← hR.out.2]
            rfl
          rw [e1]; exact hb2
        · obtain ⟨k', rfl⟩ : ∃ k', k = k' + 1 := ⟨k - 1, by omega⟩
          rw [show ((k' + 1 : Nat) : Int) - 1 = (k' : Int) by omega]
          have hge : decide ((k' : Int) ≥ 0) = true := by simp
          have hs := Hlim.out
          have hsz := hR.out.1
          obtain ⟨pk, hpk⟩ : ∃ pk, pk = a + k' := ⟨_, rfl⟩
          have hwk : IntKind.i64.wrap ((a : Int) + (k' : Int)) = (pk : Int) := by rw [i64w _ (by omega) (by omega)]; omega
          have x1 := hb2.cell a (by omega)
          have x2 := hb2.cell pk (by omega)
          have xf := hb2.frozen
          have xl := hb2.lt
          have b1 : (0 : Int) ≤ (a : Int) := by omega
          have b2 : (a : Int) < n := by omega
          have b3 : (0 : Int) ≤ (pk : Int) := by omega
          have b4 : (pk : Int) < n := by omega
          have hz := (hb2.swp a pk (by omega) (by omega)).drew
          have hkz := (keeps_swp (b := b) (by simp) w hk2 a pk (.int .u64 d2[pk]!) (.int .u64 d2[a]!)).drew
          have hzs : (Go.Sort.swp d2 a pk).size = n := by rw [Go.Sort.size_swp]; exact hsz
          have hsd := fun w' h => siftDown_any b cap n 0 k' a rest (Go.Sort.swp d2 a pk) w' h hzs hn (by omega) (by omega)
          have hwm : IntKind.i64.wrap ((k' : Int) - 1) = (k' : Int) - 1 := i64w _ (by omega) (by omega)
          have hR2 : Hid ((Go.Sort.siftDown Go.Sort.ltInt k' a 0 (Go.Sort.swp d2 a pk)).size = n ∧ Go.Sort.heapPop Go.Sort.ltInt a k' (Go.Sort.siftDown Go.Sort.ltInt k' a 0 (Go.Sort.swp d2 a pk)) = Go.Sort.heapPop Go.Sort.ltInt a hi d') := Lib.hid ⟨by rw [siftDown_size _ _ _ _ _ (Nat.le_refl _)]; exact hzs, by
            rw [← hR.out.2, hpk]; rfl⟩
          have Hpk := Lib.hid hpk
          clear hs hsz hpk hzs hR
          by_cases hk0 : k' = 0
          · have hap : pk = a := by have := Hpk.out; omega
            subst hap
            have hwk2 : IntKind.i64.wrap ((pk : Int) + 0) = (pk : Int) := i64w _ (by omega) (by omega)
            subst hk0
            go_wp2_with fail
            go_region
            all_goals go_wp2_with fail
            all_goals refine (hsd _ hz).mono ?_
            all_goals rintro q w5 ⟨rfl, hb5, k5⟩
            all_goals go_wp2_with fail
            all_goals exact ⟨⟨0, _, by go_num, by omega, hR2, hb5, hkz.trans k5 (fun j hj => .inl hj)⟩, by simp [intOf]⟩
          · have hn1 : a ≠ pk := by have := Hpk.out; omega
            have hn2 : pk ≠ a := Ne.symm hn1
            go_wp2_with fail
            go_region
            all_goals go_wp2_with fail
            all_goals refine (hsd _ hz).mono ?_
            all_goals rintro q w5 ⟨rfl, hb5, k5⟩
            all_goals go_wp2_with fail
            all_goals exact ⟨⟨k', _, by go_num, by omega, hR2, hb5, hkz.trans k5 (fun j hj => .inl hj)⟩, by simp [intOf]⟩
    · obtain ⟨k', rfl⟩ : ∃ k', k = k' + 1 := ⟨k - 1, by omega⟩
      rw [show ((k' + 1 : Nat) : Int) - 1 = (k' : Int) by omega]
      have hge : decide ((k' : Int) ≥ 0) = true := by simp
      have hsz := hR.out.1
      have hs := Hlim.out
      have hsd := siftDown_any b cap n k' hi a rest d' wr hbr hsz hn (by omega) (by omega)
      have hwm : IntKind.i64.wrap ((k' : Int) - 1) = (k' : Int) - 1 := i64w _ (by omega) (by omega)
      clear hs hsz
      go_wp2_with fail
      refine hsd.mono ?_
      rintro q w5 ⟨rfl, hb5, k5⟩
      go_wp2_with fail
      exact ⟨⟨k', _, by go_num, by omega, Lib.hid ⟨by rw [siftDown_size _ _ _ _ _ (Nat.le_refl _)]; exact hR.out.1, by rw [← hR.out.2]; rfl⟩, hb5, hkr.trans k5 (fun j hj => .inl hj)⟩, by simp [intOf]⟩
end Go.Proofs.YtbcgpjfejpcgnaaGreat
end
section
namespace Go.Proofs.YtbcgpjfejpcgnaaGreat
open Go.RowKit
set_option linter.unusedVariables false
set_option linter.unusedSimpArgs false
set_option maxRecDepth 100000
set_option maxHeartbeats 4000000
theorem ord2_any (b cap n i j s g : Nat) (rest : List Value) (d : Array Int) (w : World) (hb : Rw w b rest d) (hd : d.size = n) (hn : n ≤ 4096) (hi : i < n) (hj : j < n) (hg : Blk w g [.int .i64 s]) (hs : s ≤ 100) (hgb : b ≠ g) :
    Calls Tryz.prog 120 #[.slice (some ⟨b, 0, none⟩) n cap, .int .i64 i, .int .i64 j, .pointer (some ⟨g, 0, none⟩)] w fun q w' => q = .returned (.tuple #[.int .i64 (Go.Sort.order2 Go.Sort.ltInt d i j s).1, .int .i64 (Go.Sort.order2 Go.Sort.ltInt d i j s).2.1]) ∧ Blk w' g [.int .i64 (Go.Sort.order2 Go.Sort.ltInt d i j s).2.2] ∧ Keeps [g] w w' := by
  have x1 := hb.cell i (by omega)
  have x2 := hb.cell j (by omega)
  have xf := hb.frozen
  have xl := hb.lt
  obtain ⟨g0, gf, gl⟩ := hg.o1
  have b1 : (0 : Int) ≤ (i : Int) := by omega
  have b2 : (i : Int) < n := by omega
  have b3 : (0 : Int) ≤ (j : Int) := by omega
  have b4 : (j : Int) < n := by omega
  have hws : IntKind.i64.wrap ((s : Int) + 1) = (s : Int) + 1 := i64w _ (by omega) (by omega)
  have hws2 : wrap64 ((s : Int) + 1) = (s : Int) + 1 := w64w _ (by omega) (by omega)
  clear hd
  unfold Go.Sort.order2
  by_cases h : d[j]! < d[i]!
  · have hd4 : decide (d[j]! < d[i]!) = true := by simp [h]
    rw [if_pos (by simp [Go.Sort.ltInt, h])]
    go_enter Tryz.func120, Tryz.ntmps120
    go_wp2_with fail
    go_region_held3 (fun w' => w'.cell? ⟨b, i, none⟩ = some (.int .u64 d[i]!) ∧ w'.cell? ⟨b, j, none⟩ = some (.int .u64 d[j]!) ∧ w'.cell? ⟨g, 0, none⟩ = some (.int .i64 s)) (go_keep)
      ((go_at_call 106; refine (less_any _ _ _).mono ?_; rintro e w' ⟨rfl, rfl⟩))
    go_wp2_with fail
    go_ret2
    exact ⟨rfl, (hg.drew.set 0 _), ((Keeps.refl [g] w).drew).setCell _ _ (.inl (by simp))⟩
  · have hd4 : decide (d[j]! < d[i]!) = false := by simp; omega
    rw [if_neg (by simpa [Go.Sort.ltInt] using h)]
    go_enter Tryz.func120, Tryz.ntmps120
    go_wp2_with fail
    go_region_held3 (fun w' => w'.cell? ⟨b, i, none⟩ = some (.int .u64 d[i]!) ∧ w'.cell? ⟨b, j, none⟩ = some (.int .u64 d[j]!) ∧ w'.cell? ⟨g, 0, none⟩ = some (.int .i64 s)) (go_keep)
      ((go_at_call 106; refine (less_any _ _ _).mono ?_; rintro e w' ⟨rfl, rfl⟩))
    go_wp2_with fail
    go_ret2
    exact ⟨rfl, hg.drew, (Keeps.refl [g] w).drew⟩
theorem ord2_le (d : Array Int) (i j s : Nat) : (Go.Sort.order2 Go.Sort.ltInt d i j s).2.2 ≤ s + 1 := by
  unfold Go.Sort.order2; split <;> simp
theorem ord2_lt (d : Array Int) (i j s n : Nat) (hi : i < n) (hj : j < n) : (Go.Sort.order2 Go.Sort.ltInt d i j s).1 < n ∧ (Go.Sort.order2 Go.Sort.ltInt d i j s).2.1 < n := by
  unfold Go.Sort.order2; split <;> exact ⟨by assumption, by assumption⟩
theorem med_any (b cap n i j k s g : Nat) (rest : List Value) (d : Array Int) (w : World) (hb : Rw w b rest d) (hd : d.size = n) (hn : n ≤ 4096) (hi : i < n) (hj : j < n) (hk : k < n) (hg : Blk w g [.int .i64 s]) (hs : s ≤ 90) (hgb : b ≠ g) :
    Calls Tryz.prog 117 #[.slice (some ⟨b, 0, none⟩) n cap, .int .i64 i, .int .i64 j, .int .i64 k, .pointer (some ⟨g, 0, none⟩)] w fun q w' => q = .returned (.int .i64 (Go.Sort.median Go.Sort.ltInt d i j k s).1) ∧ Blk w' g [.int .i64 (Go.Sort.median Go.Sort.ltInt d i j k s).2] ∧ Keeps [g] w w' := by
  unfold Go.Sort.median
  have q1 := ord2_lt d i j s n hi hj
  have q1s := ord2_le d i j s
  have h1 := ord2_any b cap n i j s g rest d w hb hd hn hi hj hg (by omega) hgb
  obtain ⟨⟨i1, j1, s1⟩, e1⟩ : ∃ r, Go.Sort.order2 Go.Sort.ltInt d i j s = r := ⟨_, rfl⟩
  rw [e1] at q1 q1s h1 ⊢
  simp only at q1 q1s h1 ⊢
  have q2 := ord2_lt d j1 k s1 n q1.2 hk
  have q2s := ord2_le d j1 k s1
  have h2 := fun w' hb' hg' => ord2_any b cap n j1 k s1 g rest d w' hb' hd hn q1.2 hk hg' (by omega) hgb
  obtain ⟨⟨j2, k2, s2⟩, e2⟩ : ∃ r, Go.Sort.order2 Go.Sort.ltInt d j1 k s1 = r := ⟨_, rfl⟩
  rw [e2] at q2 q2s h2 ⊢
  simp only at q2 q2s h2 ⊢
  have h3 := fun w' hb' hg' => ord2_any b cap n i1 j2 s2 g rest d w' hb' hd hn q1.1 q2.1 hg' (by omega) hgb
  obtain ⟨⟨i3, j3, s3⟩, e3⟩ : ∃ r, Go.Sort.order2 Go.Sort.ltInt d i1 j2 s2 = r := ⟨_, rfl⟩
  rw [e3] at h3 ⊢
  simp only at h3 ⊢
  clear e1 e2 e3 q1 q1s q2 q2s hd
  have hbg : b ∉ [g] := by simp [hgb]
  go_enter Tryz.func117, Tryz.ntmps117
  go_wp2_with fail
  refine h1.mono ?_
  rintro q w1 ⟨rfl, g1, k1⟩
  go_wp2_with fail
  refine (h2 w1 (hb.keeps k1 hbg) g1).mono ?_
  rintro q w2 ⟨rfl, g2, k2'⟩
  have k12 := k1.trans k2' (fun j hj => .inl hj)
  go_wp2_with fail
  refine (h3 w2 (hb.keeps k12 hbg) g2).mono ?_
  rintro q w3 ⟨rfl, g3, k3'⟩
  go_wp2_with fail
  go_ret
  exact ⟨rfl, g3, k12.trans k3' (fun j hj => .inl hj)⟩
end Go.Proofs.YtbcgpjfejpcgnaaGreat
end
section
namespace Go.Proofs.YtbcgpjfejpcgnaaGreat
open Go.RowKit
set_option linter.unusedVariables false
set_option linter.unusedSimpArgs false
set_option maxRecDepth 100000
set_option maxHeartbeats 4000000
def hintV : Go.Sort.Hint → Int
  | .unknown => 0
  | .increasing => 1
  | .decreasing => 2
theorem med_le (d : Array Int) (i j k s : Nat) : (Go.Sort.median Go.Sort.ltInt d i j k s).2 ≤ s + 3 := by
  unfold Go.Sort.median
  have h1 := ord2_le d i j s
  have h2 := ord2_le d (Go.Sort.order2 Go.Sort.ltInt d i j s).2.1 k (Go.Sort.order2 Go.Sort.ltInt d i j s).2.2
  have h3 := ord2_le d (Go.Sort.order2 Go.Sort.ltInt d i j s).1 (Go.Sort.order2 Go.Sort.ltInt d (Go.Sort.order2 Go.Sort.ltInt d i j s).2.1 k (Go.Sort.order2 Go.Sort.ltInt d i j s).2.2).1 (Go.Sort.order2 Go.Sort.ltInt d (Go.Sort.order2 Go.Sort.ltInt d i j s).2.1 k (Go.Sort.order2 Go.Sort.ltInt d i j s).2.2).2.2
  simp only
  omega
theorem piv_eq (d : Array Int) (a e : Nat) (h : 8 ≤ e - a) (h2 : e - a < 50) : Go.Sort.choosePivot Go.Sort.ltInt d a e =
    ((Go.Sort.median Go.Sort.ltInt d (a + (e - a) / 4 * 1) (a + (e - a) / 4 * 2) (a + (e - a) / 4 * 3) 0).1, if (Go.Sort.median Go.Sort.ltInt d (a + (e - a) / 4 * 1) (a + (e - a) / 4 * 2) (a + (e - a) / 4 * 3) 0).2 = 0 then .increasing else .unknown) := by
  have hm := med_le d (a + (e - a) / 4 * 1) (a + (e - a) / 4 * 2) (a + (e - a) / 4 * 3) 0
  unfold Go.Sort.choosePivot
  simp only [if_pos h, if_neg (show ¬ e - a ≥ 50 by omega)]
  congr 1
  by_cases h0 : (Go.Sort.median Go.Sort.ltInt d (a + (e - a) / 4 * 1) (a + (e - a) / 4 * 2) (a + (e - a) / 4 * 3) 0).2 = 0
  · rw [if_pos h0, if_pos h0]
  · rw [if_neg h0, if_neg h0, if_neg (by omega)]
theorem piv_any (b cap n a e : Nat) (rest : List Value) (d : Array Int) (w : World) (hb : Rw w b rest d) (hd : d.size = n) (hn : n ≤ 4096) (hae : a + 8 ≤ e ∧ e ≤ n ∧ e - a < 50) :
    Calls Tryz.prog 103 #[.slice (some ⟨b, 0, none⟩) n cap, .int .i64 a, .int .i64 e] w fun q w' => q = .returned (.tuple #[.int .i64 (Go.Sort.choosePivot Go.Sort.ltInt d a e).1, .int .i64 (hintV (Go.Sort.choosePivot Go.Sort.ltInt d a e).2)]) ∧ Keeps [] w w' := by
  rw [piv_eq d a e (by omega) (by omega)]
  obtain ⟨l, hl⟩ : ∃ l, l = e - a := ⟨_, rfl⟩
  rw [← hl]
  obtain ⟨i, hi⟩ : ∃ i, i = a + l / 4 * 1 := ⟨_, rfl⟩
  obtain ⟨j, hj⟩ : ∃ j, j = a + l / 4 * 2 := ⟨_, rfl⟩
  obtain ⟨k, hk⟩ : ∃ k, k = a + l / 4 * 3 := ⟨_, rfl⟩
  obtain ⟨t, ht⟩ : ∃ t, t = l / 4 := ⟨_, rfl⟩
  rw [← hi, ← hj, ← hk]
  have hw0 : IntKind.i64.wrap ((e : Int) - (a : Int)) = (l : Int) := by rw [i64w _ (by omega) (by omega)]; omega
  have hq : ((l : Int)).tdiv 4 = (t : Int) := by rw [Int.tdiv_eq_ediv_of_nonneg (by omega)]; omega
  have hwt : IntKind.i64.wrap (t : Int) = (t : Int) := i64w _ (by omega) (by omega)
  have hw2 : IntKind.i64.wrap ((t : Int) * 2) = (t : Int) * 2 := i64w _ (by omega) (by omega)
  have hw3 : IntKind.i64.wrap ((t : Int) * 3) = (t : Int) * 3 := i64w _ (by omega) (by omega)
  have hwi : IntKind.i64.wrap ((a : Int) + (t : Int)) = (i : Int) := by rw [i64w _ (by omega) (by omega)]; omega
  have hwj : IntKind.i64.wrap ((a : Int) + (t : Int) * 2) = (j : Int) := by rw [i64w _ (by omega) (by omega)]; omega
  have hwk : IntKind.i64.wrap ((a : Int) + (t : Int) * 3) = (k : Int) := by rw [i64w _ (by omega) (by omega)]; omega
  have hc1 : decide ((l : Int) ≥ 8) = true := by simp; omega
  have hc2 : decide ((l : Int) ≥ 50) = false := by simp; omega
  have hg := Blk.new w [.int .i64 ((0 : Nat) : Int)] 3
  have kg := (Keeps.refl [] w).alloc (.cells #[.int .i64 ((0 : Nat) : Int)] 3)
  have hm := med_any b cap n i j k 0 w.heap.size rest d (w.alloc (.cells #[.int .i64 ((0 : Nat) : Int)] 3)) (hb.keeps kg (by simp)) hd hn (by omega) (by omega) (by omega) hg (by omega) (by have := hb.lt; omega)
  have hms := med_le d i j k 0
  obtain ⟨⟨pv, sw⟩, hpv⟩ : ∃ r, Go.Sort.median Go.Sort.ltInt d i j k 0 = r := ⟨_, rfl⟩
  rw [hpv] at hm hms ⊢
  simp only at hm hms ⊢
  have hh1 : sw = 0 → hintV (if sw = 0 then .increasing else .unknown) = 1 := fun h => by rw [if_pos h]; rfl
  have hh0 : sw ≠ 0 → hintV (if sw = 0 then .increasing else .unknown) = 0 := fun h => by rw [if_neg h]; rfl
  obtain ⟨hv, hhv⟩ : ∃ hv, hintV (if sw = 0 then .increasing else .unknown) = hv := ⟨_, rfl⟩
  rw [hhv] at hh1 hh0 ⊢
  have Hh := Lib.hid (And.intro hh1 hh0)
  clear hl hi hj hk ht hpv hd hb hg hhv hh1 hh0
  go_enter Tryz.func103, Tryz.ntmps103
  go_wp2_with fail
  refine hm.mono ?_
  rintro q w1 ⟨rfl, g1, k1⟩
  have K1 : Keeps [] w w1 := kg.trans k1 (by simp)
  obtain ⟨x0, xf, xl⟩ := g1.o1
  by_cases h0 : sw = 0
  · have hv1 := Hh.out.1 h0
    subst h0 hv1
    go_wp2_with fail
    go_ret2
    exact ⟨rfl, K1⟩
  · have hs0 : ((sw : Int) == 0) = false := by simp; omega
    have hs2 : ((sw : Int) == 12) = false := by simp; omega
    have hs1 : ¬ (sw : Int) = 12 := by omega
    have hv0 := Hh.out.2 h0
    subst hv0
    go_wp2_with fail
    go_ret2
    exact ⟨rfl, K1⟩
end Go.Proofs.YtbcgpjfejpcgnaaGreat
end
