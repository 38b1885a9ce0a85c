/- slices.choosePivotOrdered at uint64, for fewer than 50 elements. -/
import Derived.Test.YtiodlmmbjjdojaaPdD
namespace Go.Proofs.Ytiodlmmbjjdojaa
open Go.RowKit
set_option linter.unusedVariables false
set_option linter.unusedSimpArgs false
set_option maxRecDepth 100000
set_option maxHeartbeats 4000000
def hintV : Go.Sort.Hint → Int
  | .unknown => 0
  | .increasing => 1
  | .decreasing => 2
theorem med_le (d : Array Int) (i j k s : Nat) : (Go.Sort.median Go.Sort.ltInt d i j k s).2 ≤ s + 3 := by
  unfold Go.Sort.median
  have h1 := ord2_le d i j s
  have h2 := ord2_le d (Go.Sort.order2 Go.Sort.ltInt d i j s).2.1 k (Go.Sort.order2 Go.Sort.ltInt d i j s).2.2
  have h3 := ord2_le d (Go.Sort.order2 Go.Sort.ltInt d i j s).1 (Go.Sort.order2 Go.Sort.ltInt d (Go.Sort.order2 Go.Sort.ltInt d i j s).2.1 k (Go.Sort.order2 Go.Sort.ltInt d i j s).2.2).1 (Go.Sort.order2 Go.Sort.ltInt d (Go.Sort.order2 Go.Sort.ltInt d i j s).2.1 k (Go.Sort.order2 Go.Sort.ltInt d i j s).2.2).2.2
  simp only
  omega
theorem piv_eq (d : Array Int) (a e : Nat) (h : 8 ≤ e - a) (h2 : e - a < 50) : Go.Sort.choosePivot Go.Sort.ltInt d a e =
    ((Go.Sort.median Go.Sort.ltInt d (a + (e - a) / 4 * 1) (a + (e - a) / 4 * 2) (a + (e - a) / 4 * 3) 0).1, if (Go.Sort.median Go.Sort.ltInt d (a + (e - a) / 4 * 1) (a + (e - a) / 4 * 2) (a + (e - a) / 4 * 3) 0).2 = 0 then .increasing else .unknown) := by
  have hm := med_le d (a + (e - a) / 4 * 1) (a + (e - a) / 4 * 2) (a + (e - a) / 4 * 3) 0
  unfold Go.Sort.choosePivot
  simp only [if_pos h, if_neg (show ¬ e - a ≥ 50 by omega)]
  congr 1
  by_cases h0 : (Go.Sort.median Go.Sort.ltInt d (a + (e - a) / 4 * 1) (a + (e - a) / 4 * 2) (a + (e - a) / 4 * 3) 0).2 = 0
  · rw [if_pos h0, if_pos h0]
  · rw [if_neg h0, if_neg h0, if_neg (by omega)]
theorem piv_any (b cap n a e : Nat) (rest : List Value) (d : Array Int) (w : World) (hb : Rw w b rest d) (hd : d.size = n) (hn : n ≤ 4096) (hae : a + 8 ≤ e ∧ e ≤ n ∧ e - a < 50) :
    Calls Try.prog 74 #[.slice (some ⟨b, 0, none⟩) n cap, .int .i64 a, .int .i64 e] w fun q w' => q = .returned (.tuple #[.int .i64 (Go.Sort.choosePivot Go.Sort.ltInt d a e).1, .int .i64 (hintV (Go.Sort.choosePivot Go.Sort.ltInt d a e).2)]) ∧ Keeps [] w w' := by
  rw [piv_eq d a e (by omega) (by omega)]
  obtain ⟨l, hl⟩ : ∃ l, l = e - a := ⟨_, rfl⟩
  rw [← hl]
  obtain ⟨i, hi⟩ : ∃ i, i = a + l / 4 * 1 := ⟨_, rfl⟩
  obtain ⟨j, hj⟩ : ∃ j, j = a + l / 4 * 2 := ⟨_, rfl⟩
  obtain ⟨k, hk⟩ : ∃ k, k = a + l / 4 * 3 := ⟨_, rfl⟩
  obtain ⟨t, ht⟩ : ∃ t, t = l / 4 := ⟨_, rfl⟩
  rw [← hi, ← hj, ← hk]
  have hw0 : IntKind.i64.wrap ((e : Int) - (a : Int)) = (l : Int) := by rw [i64w _ (by omega) (by omega)]; omega
  have hq : ((l : Int)).tdiv 4 = (t : Int) := by rw [Int.tdiv_eq_ediv_of_nonneg (by omega)]; omega
  have hwt : IntKind.i64.wrap (t : Int) = (t : Int) := i64w _ (by omega) (by omega)
  have hw2 : IntKind.i64.wrap ((t : Int) * 2) = (t : Int) * 2 := i64w _ (by omega) (by omega)
  have hw3 : IntKind.i64.wrap ((t : Int) * 3) = (t : Int) * 3 := i64w _ (by omega) (by omega)
  have hwi : IntKind.i64.wrap ((a : Int) + (t : Int)) = (i : Int) := by rw [i64w _ (by omega) (by omega)]; omega
  have hwj : IntKind.i64.wrap ((a : Int) + (t : Int) * 2) = (j : Int) := by rw [i64w _ (by omega) (by omega)]; omega
  have hwk : IntKind.i64.wrap ((a : Int) + (t : Int) * 3) = (k : Int) := by rw [i64w _ (by omega) (by omega)]; omega
  have hc1 : decide ((l : Int) ≥ 8) = true := by simp; omega
  have hc2 : decide ((l : Int) ≥ 50) = false := by simp; omega
  have hg := Blk.new w [.int .i64 ((0 : Nat) : Int)] 3
  have kg := (Keeps.refl [] w).alloc (.cells #[.int .i64 ((0 : Nat) : Int)] 3)
  have hm := med_any b cap n i j k 0 w.heap.size rest d (w.alloc (.cells #[.int .i64 ((0 : Nat) : Int)] 3)) (hb.keeps kg (by simp)) hd hn (by omega) (by omega) (by omega) hg (by omega) (by have := hb.lt; omega)
  have hms := med_le d i j k 0
  obtain ⟨⟨pv, sw⟩, hpv⟩ : ∃ r, Go.Sort.median Go.Sort.ltInt d i j k 0 = r := ⟨_, rfl⟩
  rw [hpv] at hm hms ⊢
  simp only at hm hms ⊢
  have hh1 : sw = 0 → hintV (if sw = 0 then .increasing else .unknown) = 1 := fun h => by rw [if_pos h]; rfl
  have hh0 : sw ≠ 0 → hintV (if sw = 0 then .increasing else .unknown) = 0 := fun h => by rw [if_neg h]; rfl
  obtain ⟨hv, hhv⟩ : ∃ hv, hintV (if sw = 0 then .increasing else .unknown) = hv := ⟨_, rfl⟩
  rw [hhv] at hh1 hh0 ⊢
  have Hh := Lib.hid (And.intro hh1 hh0)
  clear hl hi hj hk ht hpv hd hb hg hhv hh1 hh0
  go_enter Try.func74, Try.ntmps74
  go_wp2_with fail
  refine hm.mono ?_
  rintro q w1 ⟨rfl, g1, k1⟩
  have K1 : Keeps [] w w1 := kg.trans k1 (by simp)
  obtain ⟨x0, xf, xl⟩ := g1.o1
  by_cases h0 : sw = 0
  · have hv1 := Hh.out.1 h0
    subst h0 hv1
    go_wp2_with fail
    go_ret2
    exact ⟨rfl, K1⟩
  · have hs0 : ((sw : Int) == 0) = false := by simp; omega
    have hs2 : ((sw : Int) == 12) = false := by simp; omega
    have hs1 : ¬ (sw : Int) = 12 := by omega
    have hv0 := Hh.out.2 h0
    subst hv0
    go_wp2_with fail
    go_ret2
    exact ⟨rfl, K1⟩
end Go.Proofs.Ytiodlmmbjjdojaa
