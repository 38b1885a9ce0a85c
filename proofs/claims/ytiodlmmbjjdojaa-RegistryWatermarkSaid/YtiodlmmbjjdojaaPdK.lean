/- slices.breakPatternsOrdered at uint64, for 13 to 25 elements. -/
import Derived.Test.YtiodlmmbjjdojaaPdJ
import Derived.Deep.CutBlock
namespace Go.Proofs.Ytiodlmmbjjdojaa
open Go.RowKit
set_option linter.unusedVariables false
set_option linter.unusedSimpArgs false
set_option maxRecDepth 100000
set_option maxHeartbeats 4000000
def bpR (a L M : Nat) : Nat → Nat → UInt64 × Array Int → Array Int
  | 0, _, st => st.2
  | k + 1, i, st => bpR a L M k (i + 1) (Go.Sort.breakStep a L M st i)
theorem bp_eq (d : Array Int) (a e L M : Nat) (hL : e - a = L) (h : 13 ≤ L ∧ L < 26) (hM : M = if L < 16 then 16 else 32) : Go.Sort.breakPatterns d a e = bpR a L M 3 (a + L / 4 * 2 - 1) (UInt64.ofNat L, d) := by
  have hm : 1 <<< Go.Sort.bitsLen L = M := by
    rw [bl_tab L (by omega), hM, Nat.one_shiftLeft]
    unfold bl
    rw [if_neg (by omega), if_neg (by omega), if_neg (by omega), if_neg (by omega)]
    by_cases h16 : L < 16
    · rw [if_pos h16, if_pos h16]
    · rw [if_neg h16, if_neg h16]
  unfold Go.Sort.breakPatterns
  simp only [hL]
  rw [if_pos (by omega), hm]
  rfl
theorem bp_any (b cap n a e : Nat) (rest : List Value) (d : Array Int) (w : World) (hb : Rw w b rest d) (hd : d.size = n) (hn : n ≤ 4096) (hae : a < e ∧ e ≤ n ∧ 13 ≤ e - a ∧ e - a < 26) :
    Calls Try.prog 73 #[.slice (some ⟨b, 0, none⟩) n cap, .int .i64 a, .int .i64 e] w fun q w' => q = .returned (.tuple #[]) ∧ Rw w' b rest (Go.Sort.breakPatterns d a e) ∧ Keeps [b] w w' := by
  obtain ⟨L, hL⟩ : ∃ L, e - a = L := ⟨_, rfl⟩
  obtain ⟨M, hM⟩ : ∃ M, M = if L < 16 then 16 else 32 := ⟨_, rfl⟩
  have hM2 : L < M ∧ M ≤ 2 * L ∧ M ≤ 32 := by rw [hM]; split <;> omega
  rw [bp_eq d a e L M hL (by omega) hM]
  have hnp := np2_any L (by omega)
  have hMI : (if L < 16 then (16 : Int) else 32) = (M : Int) := by rw [hM]; split <;> rfl
  rw [hMI] at hnp
  obtain ⟨t, ht⟩ : ∃ t, t = L / 4 := ⟨_, rfl⟩
  obtain ⟨i0, hi0⟩ : ∃ i0, i0 = a + L / 4 * 2 - 1 := ⟨_, rfl⟩
  obtain ⟨M1, hM1⟩ : ∃ M1, M1 = M - 1 := ⟨_, rfl⟩
  rw [← hi0]
  have hw0 : IntKind.i64.wrap ((e : Int) - (a : Int)) = (L : Int) := by rw [i64w _ (by omega) (by omega)]; omega
  have hc8 : decide ((L : Int) ≥ 8) = true := by simp; omega
  have hwL : IntKind.u64.wrap (L : Int) = (L : Int) := by rw [IntKind.wrap_u64]; omega
  have hq : ((L : Int)).tdiv 4 = (t : Int) := by rw [Int.tdiv_eq_ediv_of_nonneg (by omega)]; omega
  have hwt : IntKind.i64.wrap (t : Int) = (t : Int) := i64w _ (by omega) (by omega)
  have hw2 : IntKind.i64.wrap ((t : Int) * 2) = (t : Int) * 2 := i64w _ (by omega) (by omega)
  have hw3 : IntKind.i64.wrap ((a : Int) + (t : Int) * 2) = (a : Int) + (t : Int) * 2 := i64w _ (by omega) (by omega)
  have hw4 : IntKind.i64.wrap ((a : Int) + (t : Int) * 2 - 1) = (i0 : Int) := by rw [i64w _ (by omega) (by omega)]; omega
  have hw5 : IntKind.i64.wrap ((a : Int) + (t : Int) * 2 + 1) = (i0 : Int) + 2 := by rw [i64w _ (by omega) (by omega)]; omega
  have hwM : IntKind.u64.wrap ((M : Int) - 1) = (M1 : Int) := by rw [IntKind.wrap_u64]; omega
  have F := Lib.hid (And.intro hd (And.intro hae (And.intro hL (And.intro hM2 (And.intro ht (And.intro hi0 hM1))))))
  have hg := Blk.new w [.int .u64 (L : Int)] 115
  have kg := (Keeps.refl [] w).alloc (.cells #[.int .u64 (L : Int)] 115)
  have hbg := hb.keeps kg (by simp)
  have hbl := hb.lt
  clear hd hae hL hM hM2 ht hi0 hM1 hMI hb
  go_enter Try.func73, Try.ntmps73
  go_upto_region 3 with fail
  obtain ⟨W, hW⟩ : ∃ W, w.alloc (.cells #[.int .u64 (L : Int)] 115) = W := ⟨_, rfl⟩
  obtain ⟨g, hgg⟩ : ∃ g, w.heap.size = g := ⟨_, rfl⟩
  have hng : Hid (b ≠ g ∧ w.heap.size = g) := Lib.hid ⟨by omega, hgg⟩
  rw [hW] at hg kg hbg ⊢
  rw [hgg] at hg ⊢
  clear hW hgg hbl
  go_wp2_with fail
  refine (hnp _).mono ?_
  rintro q w1 ⟨rfl, rfl⟩
  go_wp2_with fail
  go_loopw [9] (fun i wr => ∃ (k p X : Nat) (d' : Array Int), i = .int .i64 p ∧ Hid (p + k = i0 + 3 ∧ k ≤ 3 ∧ d'.size = n ∧ X < 18446744073709551616 ∧ ∃ r : UInt64, r.toNat = X ∧ bpR a L M k p (r, d') = bpR a L M 3 i0 (UInt64.ofNat L, d)) ∧ Rw wr b rest d' ∧ Blk wr g [.int .u64 (X : Int)] ∧ Keeps [b] w wr) (fun i _ => i0 + 3 - (intOf i).toNat)
  case atStart => exact ⟨3, i0, L, d, rfl, Lib.hid ⟨rfl, Nat.le_refl _, F.out.1, by have := F.out; omega, UInt64.ofNat L, by rw [UInt64.toNat_ofNat_of_lt' (by have := F.out; show L < 18446744073709551616; omega)], rfl⟩, hbg, hg, kg.mono (by simp)⟩
  case round =>
    obtain ⟨k, p, X, d', rfl, hR, hbr, hgr, hkr⟩ := hrel
    obtain ⟨hR1, hR2, hR3, hR4, r, hr1, hr2⟩ := hR.out
    by_cases hk : k = 0
    · have hc : ¬ (p : Int) ≤ (i0 : Int) + 2 := by omega
      subst hk
      have hre : bpR a L M 3 i0 (UInt64.ofNat L, d) = d' := by rw [← hr2]; rfl
      have Hre := Lib.hid hre
      clear hR1 hR2 hR3 hR4 hr1 hr2 hre
      go_wp2_with fail
      go_end0
      exact ⟨rfl, by rw [Hre.out]; exact hbr, hkr⟩
    · obtain ⟨k', rfl⟩ : ∃ k', k = k' + 1 := ⟨k - 1, by omega⟩
      have hc : (p : Int) ≤ (i0 : Int) + 2 := by omega
      have hnx := next_any g X hR4 wr hgr
      have hX' := Go.Sort.xorNextN_lt X hR4
      obtain ⟨X', hXX⟩ : ∃ X', Go.Sort.xorNextN X = X' := ⟨_, rfl⟩
      rw [hXX] at hnx hX'
      obtain ⟨hd, hae, hL, hM2, ht, hi0, hM1⟩ := F.out
      obtain ⟨o, ho⟩ : ∃ o, X' &&& M1 = o := ⟨_, rfl⟩
      have hoM : o ≤ M1 := by rw [← ho]; exact Nat.and_le_right
      have hba : bits .and .u64 (X' : Int) (M1 : Int) = (o : Int) := by rw [bits_and_u64_nat _ _ hX' (by omega), ho]
      have hwo : IntKind.i64.wrap (o : Int) = (o : Int) := i64w _ (by omega) (by omega)
      have hwp : IntKind.i64.wrap ((p : Int) + 1) = (p : Int) + 1 := i64w _ (by omega) (by omega)
      obtain ⟨ot, hot⟩ : ∃ ot, ot = if o ≥ L then o - L else o := ⟨_, rfl⟩
      have hotL : ot < L := by rw [hot]; split <;> omega
      obtain ⟨pk, hpk⟩ : ∃ pk, pk = a + ot := ⟨_, rfl⟩
      have hwk : IntKind.i64.wrap ((a : Int) + (ot : Int)) = (pk : Int) := by rw [i64w _ (by omega) (by omega)]; omega
      have hstep : Go.Sort.breakStep a L M (r, d') p = (Go.Sort.xorNext r, Go.Sort.swp d' p pk) := by
        unfold Go.Sort.breakStep
        simp only
        rw [Go.Sort.xorNext_toNat, hr1, hXX, ← hM1, ho, hpk, hot]
      have c1 : (0 : Int) ≤ (p : Int) := by omega
      have c2 : (p : Int) < n := by omega
      have c3 : (0 : Int) ≤ (pk : Int) := by omega
      have c4 : (pk : Int) < n := by omega
      have hR5 : Hid (p + 1 + k' = i0 + 3 ∧ k' ≤ 3 ∧ (Go.Sort.swp d' p pk).size = n ∧ X' < 18446744073709551616 ∧ ∃ r : UInt64, r.toNat = X' ∧ bpR a L M k' (p + 1) (r, Go.Sort.swp d' p pk) = bpR a L M 3 i0 (UInt64.ofNat L, d)) := Lib.hid ⟨by omega, by omega, by rw [Go.Sort.size_swp]; exact hR3, hX', Go.Sort.xorNext r, by rw [Go.Sort.xorNext_toNat, hr1, hXX], by
        rw [← hr2]
        conv => rhs; rw [bpR, hstep]⟩
      have hpn : Hid (p < n ∧ pk < n ∧ d'.size = n ∧ p + k' + 1 = i0 + 3) := Lib.hid ⟨by omega, by omega, hR3, by omega⟩
      have Hot := Lib.hid (And.intro hot (And.intro hoM hotL))
      clear hR hR1 hR2 hR3 hR4 hr1 hr2 hX' hXX hd hae hL hM2 ht hi0 hM1 ho hoM hot hotL hpk hstep
      go_wp2_with fail
      refine hnx.mono ?_
      rintro q w2 ⟨rfl, hg2, k2⟩
      have hb2 := hbr.keeps k2 (by have := hng.out; simp; omega)
      have K2 : Keeps [b] w w2 := hkr.trans k2 (by have := hng.out; simp; omega)
      have x1 := hb2.cell p (by have := hpn.out; omega)
      have x2 := hb2.cell pk (by have := hpn.out; omega)
      have xf := hb2.frozen
      have xl := hb2.lt
      have hz := (hb2.swp p pk (by have := hpn.out; omega) (by have := hpn.out; omega)).drew
      have hkz := (keeps_swp (b := b) (by simp) w K2 p pk (.int .u64 d'[pk]!) (.int .u64 d'[p]!)).drew
      have hgz : Blk ((w2.setCell ⟨b, p, none⟩ (.int .u64 d'[pk]!)).setCell ⟨b, pk, none⟩ (.int .u64 d'[p]!)).drew g [.int .u64 (X' : Int)] := ((hg2.other _ _ (Ne.symm hng.out.1)).other _ _ (Ne.symm hng.out.1)).drew
      clear hnx hbr hgr hkr k2
      by_cases hoL : o ≥ L
      · have hcL : (L : Int) ≤ (o : Int) := by omega
        have hoe : ot = o - L := by rw [Hot.out.1, if_pos hoL]
        have hws : IntKind.i64.wrap ((o : Int) - (L : Int)) = (ot : Int) := by rw [i64w _ (by omega) (by have := Hot.out; have := F.out; omega)]; omega
        clear hoe
        by_cases hpp : p = pk
        · subst hpp
          go_wp2_with fail
          go_region
          all_goals go_wp2_with fail
          all_goals exact ⟨⟨k', p + 1, X', _, by go_num, hR5, hz, hgz, hkz⟩, by have := hpn.out; simp [intOf]; omega⟩
        · have hn1 : p ≠ pk := hpp
          have hn2 : pk ≠ p := Ne.symm hpp
          go_wp2_with fail
          go_region
          all_goals go_wp2_with fail
          all_goals exact ⟨⟨k', p + 1, X', _, by go_num, hR5, hz, hgz, hkz⟩, by have := hpn.out; simp [intOf]; omega⟩
      · have hcL : ¬ (L : Int) ≤ (o : Int) := by omega
        have hoe : ot = o := by rw [Hot.out.1, if_neg hoL]
        subst hoe
        by_cases hpp : p = pk
        · subst hpp
          go_wp2_with fail
          go_region
          all_goals go_wp2_with fail
          all_goals exact ⟨⟨k', p + 1, X', _, by go_num, hR5, hz, hgz, hkz⟩, by have := hpn.out; simp [intOf]; omega⟩
        · have hn1 : p ≠ pk := hpp
          have hn2 : pk ≠ p := Ne.symm hpp
          go_wp2_with fail
          go_region
          all_goals go_wp2_with fail
          all_goals exact ⟨⟨k', p + 1, X', _, by go_num, hR5, hz, hgz, hkz⟩, by have := hpn.out; simp [intOf]; omega⟩
end Go.Proofs.Ytiodlmmbjjdojaa
