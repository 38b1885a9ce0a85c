/- slices.siftDownOrdered at uint64. -/
import Derived.Test.YtiodlmmbjjdojaaPdP
namespace Go.Proofs.Ytiodlmmbjjdojaa
open Go.RowKit
set_option linter.unusedVariables false
set_option linter.unusedSimpArgs false
set_option maxRecDepth 100000
set_option maxHeartbeats 4000000
theorem siftDown_any (b cap n lo hi first : Nat) (rest : List Value) (d : Array Int) (w : World) (hb : Rw w b rest d) (hd : d.size = n) (hn : n ≤ 4096) (hs : first + hi ≤ n) (hlo : lo ≤ n) :
    Calls Try.prog 84 #[.slice (some ⟨b, 0, none⟩) n cap, .int .i64 lo, .int .i64 hi, .int .i64 first] w fun q w' => q = .returned (.tuple #[]) ∧ Rw w' b rest (Go.Sort.siftDown Go.Sort.ltInt hi first lo d) ∧ Keeps [b] w w' := by
  have Hd := Lib.hid hd
  clear hd
  go_enter Try.func84, Try.ntmps84
  go_wp2_with fail
  go_loopw [8] (fun r wr => ∃ (root : Nat) (d' : Array Int), r = .int .i64 root ∧ root ≤ n ∧ Hid (d'.size = n ∧ Go.Sort.siftDown Go.Sort.ltInt hi first root d' = Go.Sort.siftDown Go.Sort.ltInt hi first lo d) ∧ Rw wr b rest d' ∧ Keeps [b] w wr) (fun r _ => n - (intOf r).toNat)
  case atStart => exact ⟨lo, d, rfl, hlo, Lib.hid ⟨Hd.out, rfl⟩, hb, Keeps.refl _ _⟩
  case round =>
    obtain ⟨root, d', rfl, hr, hR, hbr, hkr⟩ := hrel
    obtain ⟨c, hc⟩ : ∃ c, c = 2 * root + 1 := ⟨_, rfl⟩
    have hw0 : IntKind.i64.wrap (2 * (root : Int)) = 2 * (root : Int) := i64w _ (by omega) (by omega)
    have hw1 : IntKind.i64.wrap (2 * (root : Int) + 1) = (c : Int) := by rw [i64w _ (by omega) (by omega)]; omega
    by_cases h1 : hi ≤ c
    · have hge : (hi : Int) ≤ (c : Int) := by omega
      go_wp2_with fail
      go_end0
      refine ⟨rfl, ?_, hkr⟩
      have := hR.out.2
      rw [sift_stop (by omega)] at this
      rw [← this]; exact hbr
    · have hge : ¬ (hi : Int) ≤ (c : Int) := by omega
      have hw2 : IntKind.i64.wrap ((c : Int) + 1) = (c : Int) + 1 := i64w _ (by omega) (by omega)
      obtain ⟨p1, hp1⟩ : ∃ p1, p1 = first + c := ⟨_, rfl⟩
      have hw3 : IntKind.i64.wrap ((first : Int) + (c : Int)) = (p1 : Int) := by rw [i64w _ (by omega) (by omega)]; omega
      have hw4 : IntKind.i64.wrap ((p1 : Int) + 1) = (p1 : Int) + 1 := i64w _ (by omega) (by omega)
      have xf := hbr.frozen
      have xl := hbr.lt
      obtain ⟨pr, hpr⟩ : ∃ pr, pr = first + root := ⟨_, rfl⟩
      have hw5 : IntKind.i64.wrap ((first : Int) + (root : Int)) = (pr : Int) := by rw [i64w _ (by omega) (by omega)]; omega
      have x1 := hbr.cell p1 (by rw [hR.out.1]; omega)
      have xr := hbr.cell pr (by rw [hR.out.1]; omega)
      have b1 : (0 : Int) ≤ (p1 : Int) := by omega
      have b2 : (p1 : Int) < n := by omega
      have b3 : (0 : Int) ≤ (pr : Int) := by omega
      have b4 : (pr : Int) < n := by omega
      have E := Lib.hid (And.intro hc (And.intro hp1 hpr))
      clear hc hp1 hpr
      by_cases h2 : c + 1 < hi
      · have h3 : (c : Int) + 1 < (hi : Int) := by omega
        have x2 := hbr.cell (p1 + 1) (by rw [hR.out.1]; have := E.out; omega)
        have b7 : (0 : Int) ≤ (p1 : Int) + 1 := by omega
        have b8 : (p1 : Int) + 1 < n := by have := E.out; omega
        by_cases h5 : d'[p1]! < d'[p1 + 1]!
        · have hd5 : decide (d'[p1]! < d'[p1 + 1]!) = true := by simp [h5]
          go_wp2_with fail
          go_region_held3 (fun w' => w'.cell? ⟨b, p1, none⟩ = some (.int .u64 d'[p1]!) ∧ w'.cell? ⟨b, p1 + 1, none⟩ = some (.int .u64 d'[p1 + 1]!)) (go_keep)
            ((go_at_call 77; refine (less_any _ _ _).mono ?_; rintro e w' ⟨rfl, rfl⟩))
          obtain ⟨wq, hwq⟩ : ∃ wq, wr.drew = wq := ⟨_, rfl⟩
          rw [hwq]
          have hbq : Rw wq b rest d' := by rw [← hwq]; exact hbr.drew
          have hkq : Keeps [b] w wq := by rw [← hwq]; exact hkr.drew
          clear hwq x1 xr x2 hbr hkr xf xl
          obtain ⟨pc, hpc⟩ : ∃ pc, pc = p1 + 1 := ⟨_, rfl⟩
          have hE := E.out
          have hwc : IntKind.i64.wrap ((first : Int) + ((c : Int) + 1)) = (pc : Int) := by rw [i64w _ (by omega) (by omega)]; omega
          have xc := hbq.cell pc (by rw [hR.out.1]; omega)
          have xr := hbq.cell pr (by rw [hR.out.1]; omega)
          have xf := hbq.frozen
          have xl := hbq.lt
          have b5 : (0 : Int) ≤ (pc : Int) := by omega
          have b6 : (pc : Int) < n := by omega
          have E2 := Lib.hid hpc
          have hn1 : pr ≠ pc := by omega
          have hn2 : pc ≠ pr := by omega
          clear hpc hE
          by_cases h4 : d'[pr]! < d'[pc]!
          · have hd4 : decide (d'[pr]! < d'[pc]!) = true := by simp [h4]
            go_wp2_with fail
            go_region_held3 (fun w' => w'.cell? ⟨b, pr, none⟩ = some (.int .u64 d'[pr]!) ∧ w'.cell? ⟨b, pc, none⟩ = some (.int .u64 d'[pc]!)) (go_keep)
              ((go_at_call 77; refine (less_any _ _ _).mono ?_; rintro e w' ⟨rfl, rfl⟩))
            have hz := hbq.swp pr pc (by rw [hR.out.1]; have := E.out; omega) (by rw [hR.out.1]; have := E2.out; have := E.out; omega)
            have hk := keeps_swp (b := b) (by simp) w hkq pr pc (.int .u64 d'[pc]!) (.int .u64 d'[pr]!)
            have hR2 : Hid ((Go.Sort.swp d' pr pc).size = n ∧ Go.Sort.siftDown Go.Sort.ltInt hi first (c + 1) (Go.Sort.swp d' pr pc) = Go.Sort.siftDown Go.Sort.ltInt hi first lo d) := Lib.hid ⟨by rw [Go.Sort.size_swp]; exact hR.out.1, by
              obtain ⟨e1, e2, e3⟩ := E.out
              have e4 := E2.out
              rw [← hR.out.2, sift_two (hi := hi) (first := first) (root := root) (d := d') (by omega) (by rw [← e1, ← e2]; exact h5)]
              subst e1 e2 e3 e4
              rw [if_pos h4]⟩
            go_wp2_with fail
            go_region
            all_goals go_wp2_with fail
            all_goals exact ⟨⟨(c + 1), _, by go_num, by have := E.out; omega, hR2, by first | exact hz.drew | exact hz.drew.drew | exact hz.drew.drew.drew | exact hz.drew.drew.drew.drew, by first | exact hk.drew | exact hk.drew.drew | exact hk.drew.drew.drew | exact hk.drew.drew.drew.drew⟩, by have := E.out; simp [intOf]; omega⟩
          · have hd4 : decide (d'[pr]! < d'[pc]!) = false := by simp; omega
            go_wp2_with fail
            go_region_held3 (fun w' => w'.cell? ⟨b, pr, none⟩ = some (.int .u64 d'[pr]!) ∧ w'.cell? ⟨b, pc, none⟩ = some (.int .u64 d'[pc]!)) (go_keep)
              ((go_at_call 77; refine (less_any _ _ _).mono ?_; rintro e w' ⟨rfl, rfl⟩))
            go_wp2_with fail
            refine bodyPost_ret (results_none rfl _ _ _) rfl ?_
            refine ⟨rfl, ?_, by first | exact hkq.drew | exact hkq.drew.drew | exact hkq.drew.drew.drew⟩
            have hx : d' = Go.Sort.siftDown Go.Sort.ltInt hi first lo d := by
              obtain ⟨e1, e2, e3⟩ := E.out
              have e4 := E2.out
              rw [← hR.out.2, sift_two (hi := hi) (first := first) (root := root) (d := d') (by omega) (by rw [← e1, ← e2]; exact h5)]
              subst e1 e2 e3 e4
              rw [if_neg (by omega)]
            rw [← hx]
            first | exact hbq.drew | exact hbq.drew.drew | exact hbq.drew.drew.drew
        · have hd5 : decide (d'[p1]! < d'[p1 + 1]!) = false := by simp; omega
          go_wp2_with fail
          go_region_held3 (fun w' => w'.cell? ⟨b, p1, none⟩ = some (.int .u64 d'[p1]!) ∧ w'.cell? ⟨b, p1 + 1, none⟩ = some (.int .u64 d'[p1 + 1]!)) (go_keep)
            ((go_at_call 77; refine (less_any _ _ _).mono ?_; rintro e w' ⟨rfl, rfl⟩))
          obtain ⟨wq, hwq⟩ : ∃ wq, wr.drew = wq := ⟨_, rfl⟩
          rw [hwq]
          have hbq : Rw wq b rest d' := by rw [← hwq]; exact hbr.drew
          have hkq : Keeps [b] w wq := by rw [← hwq]; exact hkr.drew
          clear hwq x1 xr x2 hbr hkr xf xl
          obtain ⟨pc, hpc⟩ : ∃ pc, pc = p1 := ⟨_, rfl⟩
          have hE := E.out
          have hwc : IntKind.i64.wrap ((first : Int) + (c : Int)) = (pc : Int) := by rw [i64w _ (by omega) (by omega)]; omega
          have xc := hbq.cell pc (by rw [hR.out.1]; omega)
          have xr := hbq.cell pr (by rw [hR.out.1]; omega)
          have xf := hbq.frozen
          have xl := hbq.lt
          have b5 : (0 : Int) ≤ (pc : Int) := by omega
          have b6 : (pc : Int) < n := by omega
          have E2 := Lib.hid hpc
          have hn1 : pr ≠ pc := by omega
          have hn2 : pc ≠ pr := by omega
          clear hpc hE hw3 hw4
          by_cases h4 : d'[pr]! < d'[pc]!
          · have hd4 : decide (d'[pr]! < d'[pc]!) = true := by simp [h4]
            go_wp2_with fail
            go_region_held3 (fun w' => w'.cell? ⟨b, pr, none⟩ = some (.int .u64 d'[pr]!) ∧ w'.cell? ⟨b, pc, none⟩ = some (.int .u64 d'[pc]!)) (go_keep)
              ((go_at_call 77; refine (less_any _ _ _).mono ?_; rintro e w' ⟨rfl, rfl⟩))
            have hz := hbq.swp pr pc (by rw [hR.out.1]; have := E.out; omega) (by rw [hR.out.1]; have := E2.out; have := E.out; omega)
            have hk := keeps_swp (b := b) (by simp) w hkq pr pc (.int .u64 d'[pc]!) (.int .u64 d'[pr]!)
            have hR2 : Hid ((Go.Sort.swp d' pr pc).size = n ∧ Go.Sort.siftDown Go.Sort.ltInt hi first c (Go.Sort.swp d' pr pc) = Go.Sort.siftDown Go.Sort.ltInt hi first lo d) := Lib.hid ⟨by rw [Go.Sort.size_swp]; exact hR.out.1, by
              obtain ⟨e1, e2, e3⟩ := E.out
              have e4 := E2.out
              rw [← hR.out.2, sift_one (hi := hi) (first := first) (root := root) (d := d') (by omega) (by rw [← e1, ← e2]; omega)]
              subst e1 e2 e3 e4
              rw [if_pos h4]⟩
            go_wp2_with fail
            go_region
            all_goals go_wp2_with fail
            all_goals exact ⟨⟨c, _, by go_num, by have := E.out; omega, hR2, by first | exact hz.drew | exact hz.drew.drew | exact hz.drew.drew.drew | exact hz.drew.drew.drew.drew, by first | exact hk.drew | exact hk.drew.drew | exact hk.drew.drew.drew | exact hk.drew.drew.drew.drew⟩, by have := E.out; simp [intOf]; omega⟩
          · have hd4 : decide (d'[pr]! < d'[pc]!) = false := by simp; omega
            go_wp2_with fail
            go_region_held3 (fun w' => w'.cell? ⟨b, pr, none⟩ = some (.int .u64 d'[pr]!) ∧ w'.cell? ⟨b, pc, none⟩ = some (.int .u64 d'[pc]!)) (go_keep)
              ((go_at_call 77; refine (less_any _ _ _).mono ?_; rintro e w' ⟨rfl, rfl⟩))
            go_wp2_with fail
            refine bodyPost_ret (results_none rfl _ _ _) rfl ?_
            refine ⟨rfl, ?_, by first | exact hkq.drew | exact hkq.drew.drew | exact hkq.drew.drew.drew⟩
            have hx : d' = Go.Sort.siftDown Go.Sort.ltInt hi first lo d := by
              obtain ⟨e1, e2, e3⟩ := E.out
              have e4 := E2.out
              rw [← hR.out.2, sift_one (hi := hi) (first := first) (root := root) (d := d') (by omega) (by rw [← e1, ← e2]; omega)]
              subst e1 e2 e3 e4
              rw [if_neg (by omega)]
            rw [← hx]
            first | exact hbq.drew | exact hbq.drew.drew | exact hbq.drew.drew.drew
      · have h3 : ¬ (c : Int) + 1 < (hi : Int) := by omega
        have hd3 : decide ((c : Int) + 1 < (hi : Int)) = false := decide_eq_false h3
        go_wp2_with fail
        go_quiet (fail)
        obtain ⟨wq, hwq⟩ : ∃ wq, wr.drewN nq = wq := ⟨_, rfl⟩
        rw [hwq]
        have hbq : Rw wq b rest d' := by rw [← hwq]; exact hbr.drewN nq
        have hkq : Keeps [b] w wq := by rw [← hwq]; exact hkr.drewN nq
        clear hwq x1 xr hbr hkr xf xl
        obtain ⟨pc, hpc⟩ : ∃ pc, pc = p1 := ⟨_, rfl⟩
        have hE := E.out
        have hwc : IntKind.i64.wrap ((first : Int) + (c : Int)) = (pc : Int) := by rw [i64w _ (by omega) (by omega)]; omega
        have xc := hbq.cell pc (by rw [hR.out.1]; omega)
        have xr := hbq.cell pr (by rw [hR.out.1]; omega)
        have xf := hbq.frozen
        have xl := hbq.lt
        have b5 : (0 : Int) ≤ (pc : Int) := by omega
        have b6 : (pc : Int) < n := by omega
        have E2 := Lib.hid hpc
        have hn1 : pr ≠ pc := by omega
        have hn2 : pc ≠ pr := by omega
        clear hpc hE hw3 hw4
        by_cases h4 : d'[pr]! < d'[pc]!
        · have hd4 : decide (d'[pr]! < d'[pc]!) = true := by simp [h4]
          go_wp2_with fail
          go_region_held3 (fun w' => w'.cell? ⟨b, pr, none⟩ = some (.int .u64 d'[pr]!) ∧ w'.cell? ⟨b, pc, none⟩ = some (.int .u64 d'[pc]!)) (go_keep)
            ((go_at_call 77; refine (less_any _ _ _).mono ?_; rintro e w' ⟨rfl, rfl⟩))
          have hz := hbq.swp pr pc (by rw [hR.out.1]; have := E.out; omega) (by rw [hR.out.1]; have := E2.out; have := E.out; omega)
          have hk := keeps_swp (b := b) (by simp) w hkq pr pc (.int .u64 d'[pc]!) (.int .u64 d'[pr]!)
          have hR2 : Hid ((Go.Sort.swp d' pr pc).size = n ∧ Go.Sort.siftDown Go.Sort.ltInt hi first c (Go.Sort.swp d' pr pc) = Go.Sort.siftDown Go.Sort.ltInt hi first lo d) := Lib.hid ⟨by rw [Go.Sort.size_swp]; exact hR.out.1, by
            obtain ⟨e1, e2, e3⟩ := E.out
            have e4 := E2.out
            rw [← hR.out.2, sift_one (hi := hi) (first := first) (root := root) (d := d') (by omega) (by omega)]
            subst e1 e2 e3 e4
            rw [if_pos h4]⟩
          go_wp2_with fail
          go_region
          all_goals go_wp2_with fail
          all_goals exact ⟨⟨c, _, by go_num, by have := E.out; omega, hR2, by first | exact hz.drew | exact hz.drew.drew | exact hz.drew.drew.drew | exact hz.drew.drew.drew.drew, by first | exact hk.drew | exact hk.drew.drew | exact hk.drew.drew.drew | exact hk.drew.drew.drew.drew⟩, by have := E.out; simp [intOf]; omega⟩
        · have hd4 : decide (d'[pr]! < d'[pc]!) = false := by simp; omega
          go_wp2_with fail
          go_region_held3 (fun w' => w'.cell? ⟨b, pr, none⟩ = some (.int .u64 d'[pr]!) ∧ w'.cell? ⟨b, pc, none⟩ = some (.int .u64 d'[pc]!)) (go_keep)
            ((go_at_call 77; refine (less_any _ _ _).mono ?_; rintro e w' ⟨rfl, rfl⟩))
          go_wp2_with fail
          refine bodyPost_ret (results_none rfl _ _ _) rfl ?_
          refine ⟨rfl, ?_, by first | exact hkq.drew | exact hkq.drew.drew | exact hkq.drew.drew.drew⟩
          have hx : d' = Go.Sort.siftDown Go.Sort.ltInt hi first lo d := by
            obtain ⟨e1, e2, e3⟩ := E.out
            have e4 := E2.out
            rw [← hR.out.2, sift_one (hi := hi) (first := first) (root := root) (d := d') (by omega) (by omega)]
            subst e1 e2 e3 e4
            rw [if_neg (by omega)]
          rw [← hx]
          first | exact hbq.drew | exact hbq.drew.drew | exact hbq.drew.drew.drew
end Go.Proofs.Ytiodlmmbjjdojaa
