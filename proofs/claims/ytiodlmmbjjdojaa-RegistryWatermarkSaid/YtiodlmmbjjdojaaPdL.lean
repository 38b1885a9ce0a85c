/- slices.insertionSortOrdered at uint64, on a part of a row. -/
import Derived.Test.YtiodlmmbjjdojaaPdP
namespace Go.Proofs.Ytiodlmmbjjdojaa
open Go.RowKit
set_option linter.unusedVariables false
set_option linter.unusedSimpArgs false
set_option maxRecDepth 100000
set_option maxHeartbeats 4000000
theorem insI_stop {a m : Nat} {d : Array Int} (h : a < m → ¬ d[m]! < d[m - 1]!) : Go.Sort.insInner Go.Sort.ltInt a m d = d := by
  cases m with
  | zero => rfl
  | succ m =>
    rw [Go.Sort.insInner, if_neg]
    intro hc
    simp only [Bool.and_eq_true, decide_eq_true_eq, Go.Sort.ltInt] at hc
    exact h hc.1 hc.2
theorem insI_step {a m : Nat} {d : Array Int} (h : a < m + 1) (hl : d[m + 1]! < d[m]!) : Go.Sort.insInner Go.Sort.ltInt a (m + 1) d = Go.Sort.insInner Go.Sort.ltInt a m (Go.Sort.swp d (m + 1) m) := by
  rw [Go.Sort.insInner, if_pos (by simp [h, hl, Go.Sort.ltInt])]
theorem insp_any (b cap n a e : Nat) (rest : List Value) (d : Array Int) (w : World) (hb : Rw w b rest d) (hd : d.size = n) (hn : n ≤ 4096) (hae : a ≤ e ∧ e ≤ n) :
    Calls Try.prog 71 #[.slice (some ⟨b, 0, none⟩) n cap, .int .i64 a, .int .i64 e] w fun q w' => q = .returned (.tuple #[]) ∧ Rw w' b rest (Go.Sort.insertionSort Go.Sort.ltInt d a e) ∧ Keeps [b] w w' := by
  obtain ⟨R, hR⟩ : ∃ R, Go.Sort.insertionSort Go.Sort.ltInt d a e = R := ⟨_, rfl⟩
  rw [hR]
  unfold Go.Sort.insertionSort at hR
  have HR := Lib.hid hR
  have Hd := Lib.hid hd
  have Ha := Lib.hid hae
  have hwa : IntKind.i64.wrap ((a : Int) + 1) = (a : Int) + 1 := i64w _ (by omega) (by omega)
  clear hd hR hae
  go_enter Try.func71, Try.ntmps71
  go_wp2_with fail
  go_loopw [6] (fun i wr => ∃ (k : Nat) (d' : Array Int), i = .int .i64 k ∧ Hid (a < k ∧ k ≤ n + 1 ∧ d'.size = n ∧ Go.Sort.insOuter Go.Sort.ltInt a e k d' = R) ∧ Rw wr b rest d' ∧ Keeps [b] w wr) (fun i _ => e - (intOf i).toNat)
  case atStart => exact ⟨a + 1, d, by go_num, Lib.hid ⟨by omega, by have := Ha.out; omega, Hd.out, HR.out⟩, hb, Keeps.refl _ _⟩
  case round =>
    obtain ⟨k, d', rfl, hk, hbk, hkp⟩ := hrel
    by_cases hlt : k < e
    · have hc : (k : Int) < (e : Int) := by omega
      have Hke := Lib.hid hlt
      have hst : Go.Sort.insOuter Go.Sort.ltInt a e (k + 1) (Go.Sort.insInner Go.Sort.ltInt a k d') = R := by
        rw [← hk.out.2.2.2]
        conv => rhs; rw [Go.Sort.insOuter, if_pos hlt]
      have Hst := Lib.hid hst
      have hwk : IntKind.i64.wrap ((k : Int) + 1) = (k : Int) + 1 := i64w _ (by omega) (by have := hk.out; omega)
      clear hlt hst
      obtain ⟨wo, rfl⟩ : ∃ wo : World, wo = wr := ⟨_, rfl⟩
      go_wp2_with fail
      go_loopw [7] (fun j wq => ∃ (m : Nat) (d2 : Array Int), j = .int .i64 m ∧ Hid (a ≤ m ∧ m ≤ k ∧ d2.size = n ∧ Go.Sort.insInner Go.Sort.ltInt a m d2 = Go.Sort.insInner Go.Sort.ltInt a k d') ∧ Rw wq b rest d2 ∧ Keeps [b] w wq) (fun j _ => (intOf j).toNat)
      case atStart => exact ⟨k, d', rfl, Lib.hid ⟨by have := hk.out; omega, Nat.le_refl _, hk.out.2.2.1, rfl⟩, hbk, hkp⟩
      case round =>
        obtain ⟨m, d2, rfl, hm, hb2, hk2⟩ := hrel
        obtain ⟨m1, m2, m3, m4⟩ := hm.out
        have hke := Hke.out
        have hen := Ha.out
        by_cases ham : a < m
        · obtain ⟨m', rfl⟩ : ∃ m', m = m' + 1 := ⟨m - 1, by omega⟩
          have x1 := hb2.cell m' (by omega)
          have x2 := hb2.cell (m' + 1) (by omega)
          have xf := hb2.frozen
          have xl := hb2.lt
          have hc1 : (a : Int) < (m' : Int) + 1 := by omega
          have c1 : (0 : Int) ≤ (m' : Int) + 1 := by omega
          have c2 : (m' : Int) + 1 < n := by omega
          have c3 : (0 : Int) ≤ (m' : Int) := by omega
          have c4 : (m' : Int) < n := by omega
          have hwm : IntKind.i64.wrap (m' : Int) = (m' : Int) := i64w _ (by omega) (by omega)
          have hz := (hb2.swp (m' + 1) m' (by omega) (by omega))
          have hkz := (keeps_swp (b := b) (by simp) w hk2 (m' + 1) m' (.int .u64 d2[m']!) (.int .u64 d2[m' + 1]!))
          have hsp := fun (h : d2[m' + 1]! < d2[m']!) => (insI_step (a := a) (m := m') (d := d2) (by omega) h).symm.trans m4
          have hss := fun (h : ¬ d2[m' + 1]! < d2[m']!) => (insI_stop (a := a) (m := m' + 1) (d := d2) (fun _ => h)).symm.trans m4
          have Hs := Lib.hid (And.intro hsp hss)
          have Hm := Lib.hid (And.intro m2 (And.intro m3 ham))
          rw [show ((m' + 1 : Nat) : Int) = (m' : Int) + 1 from rfl]
          clear m1 m2 m3 m4 hke hen ham hsp hss
          by_cases hl : d2[m' + 1]! < d2[m']!
          · have hd4 : decide (d2[m' + 1]! < d2[m']!) = true := by simp [hl]
            go_wp2_with fail
            go_region_held3 (fun w' => w'.cell? ⟨b, m', none⟩ = some (.int .u64 d2[m']!) ∧ w'.cell? ⟨b, m' + 1, none⟩ = some (.int .u64 d2[m' + 1]!)) (go_keep)
              ((go_at_call 77; refine (less_any _ _ _).mono ?_; rintro e w' ⟨rfl, rfl⟩))
            go_wp2_with fail
            go_region
            all_goals go_wp2_with fail
            all_goals exact ⟨⟨m', _, by go_num, Lib.hid ⟨by have := Hm.out; omega, by have := Hm.out; omega, by rw [Go.Sort.size_swp]; exact Hm.out.2.1, Hs.out.1 hl⟩, by first | exact hz.drew.drew | exact hz.drew, by first | exact hkz.drew.drew | exact hkz.drew⟩, by simp [intOf]⟩
          · have hd4 : decide (d2[m' + 1]! < d2[m']!) = false := by simp; omega
            go_wp2_with fail
            go_region_held3 (fun w' => w'.cell? ⟨b, m', none⟩ = some (.int .u64 d2[m']!) ∧ w'.cell? ⟨b, m' + 1, none⟩ = some (.int .u64 d2[m' + 1]!)) (go_keep)
              ((go_at_call 77; refine (less_any _ _ _).mono ?_; rintro e w' ⟨rfl, rfl⟩))
            go_wp2_with fail
            have e1 := Hs.out.2 hl
            exact ⟨⟨k + 1, d2, by go_num, Lib.hid ⟨by have := hk.out; omega, by have := Hke.out; have := Ha.out; omega, Hm.out.2.1, by rw [e1]; exact Hst.out⟩, hb2.drew, hk2.drew⟩, by have := Hke.out; simp [intOf]; omega⟩
        · have hma : a = m := by omega
          subst hma
          have e1 : d2 = Go.Sort.insInner Go.Sort.ltInt a k d' := by rw [← m4]; exact (insI_stop (fun h => absurd h ham)).symm
          have E1 := Lib.hid e1
          have Hm := Lib.hid m3
          clear m1 m2 m3 m4 hke hen ham e1
          go_wp2_with fail
          go_quiet (fail)
          go_wp2_with fail
          exact ⟨⟨k + 1, d2, by go_num, Lib.hid ⟨by have := hk.out; omega, by have := Hke.out; have := Ha.out; omega, Hm.out, by rw [E1.out]; exact Hst.out⟩, hb2.drewN _, hk2.drewN _⟩, by have := Hke.out; simp [intOf]; omega⟩
    · have hc : ¬ (k : Int) < (e : Int) := by omega
      have hre : R = d' := by
        rw [← hk.out.2.2.2, Go.Sort.insOuter, if_neg hlt]
      have Hre := Lib.hid hre
      clear hre hlt
      go_wp2_with fail
      go_end0
      exact ⟨rfl, by rw [Hre.out]; exact hbk, hkp⟩
end Go.Proofs.Ytiodlmmbjjdojaa
