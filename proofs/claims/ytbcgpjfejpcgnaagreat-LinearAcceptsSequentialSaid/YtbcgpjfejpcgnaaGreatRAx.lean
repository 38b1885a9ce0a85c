/- Lemmas on the way to LinearAcceptsSequential. No condition. -/
import Derived.Test.YtbcgpjfejpcgnaaGreatRAu
import Derived.Sort.LotD5
import Derived.Laws.Bits64
import Derived.Laws.Bits64b
import Derived.Deep.CutBlock
set_option linter.unusedSimpArgs false
set_option linter.unusedVariables false
set_option linter.unusedSectionVars false
section
namespace Go.Proofs.YtbcgpjfejpcgnaaGreat
open Go.RowKit
set_option linter.unusedVariables false
set_option linter.unusedSimpArgs false
set_option maxRecDepth 100000
set_option maxHeartbeats 4000000
theorem pins_eq (d : Array Int) (a e : Nat) (h : e - a < 50) : Go.Sort.partialInsertionSort Go.Sort.ltInt d a e = (d, decide (Go.Sort.scanSorted Go.Sort.ltInt d e (a + 1) = e)) := by
  unfold Go.Sort.partialInsertionSort Go.Sort.partialIns
  simp only
  by_cases h1 : Go.Sort.scanSorted Go.Sort.ltInt d e (a + 1) = e
  · rw [if_pos h1, decide_eq_true h1]
  · rw [if_neg h1, if_pos h, decide_eq_false h1]
theorem scanS_step {d : Array Int} {e i : Nat} (h : i < e) (hl : ¬ d[i]! < d[i - 1]!) : Go.Sort.scanSorted Go.Sort.ltInt d e i = Go.Sort.scanSorted Go.Sort.ltInt d e (i + 1) := by
  conv => lhs; rw [Go.Sort.scanSorted, if_pos (by simp [h, Go.Sort.ltInt]; omega)]
theorem scanS_stop {d : Array Int} {e i : Nat} (h : i < e → d[i]! < d[i - 1]!) : Go.Sort.scanSorted Go.Sort.ltInt d e i = i := by
  rw [Go.Sort.scanSorted, if_neg]
  intro hc
  simp only [Bool.and_eq_true, decide_eq_true_eq, Go.Sort.ltInt, Bool.not_eq_true', decide_eq_false_iff_not] at hc
  exact hc.2 (h hc.1)
theorem pins_any (b cap n a e : Nat) (rest : List Value) (d : Array Int) (w : World) (hb : Rw w b rest d) (hd : d.size = n) (hn : n ≤ 4096) (hae : a + 1 < e ∧ e ≤ n ∧ e - a < 50) :
    Calls Tryz.prog 105 #[.slice (some ⟨b, 0, none⟩) n cap, .int .i64 a, .int .i64 e] w fun q w' => q = .returned (.bool (Go.Sort.partialInsertionSort Go.Sort.ltInt d a e).2) ∧ Rw w' b rest (Go.Sort.partialInsertionSort Go.Sort.ltInt d a e).1 ∧ Keeps [b] w w' := by
  rw [pins_eq d a e hae.2.2]
  obtain ⟨r, hr⟩ : ∃ r, Go.Sort.scanSorted Go.Sort.ltInt d e (a + 1) = r := ⟨_, rfl⟩
  rw [hr]
  have Hr := Lib.hid hr
  have Hd := Lib.hid hd
  have Ha := Lib.hid hae
  have hwa : IntKind.i64.wrap ((a : Int) + 1) = (a : Int) + 1 := i64w _ (by omega) (by omega)
  have hwe : IntKind.i64.wrap ((e : Int) - (a : Int)) = (e : Int) - (a : Int) := i64w _ (by omega) (by omega)
  have hc5 : decide ((e : Int) - (a : Int) < 50) = true := by simp; omega
  clear hd hr hae
  go_enter Tryz.func105, Tryz.ntmps105
  go_wp2_with fail
  refine wp_loop_rounds 1 ?_
  rw [rounds_succ]
  go_wp2_with fail
  go_loopw [7] (fun i wr => ∃ k : Nat, i = .int .i64 k ∧ Hid (a + 1 ≤ k ∧ k ≤ e ∧ Go.Sort.scanSorted Go.Sort.ltInt d e k = r) ∧ Rw wr b rest d ∧ Keeps [b] w wr) (fun i _ => e - (intOf i).toNat)
  case atStart => exact ⟨a + 1, by go_num, Lib.hid ⟨Nat.le_refl _, by have := Ha.out; omega, Hr.out⟩, hb, Keeps.refl _ _⟩
  case round =>
    obtain ⟨k, rfl, hk, hb2, hk2⟩ := hrel
    have hsz := Hd.out
    have hae := Ha.out
    obtain ⟨k1, k2, k3⟩ := hk.out
    by_cases hlt : k < e
    · obtain ⟨k', rfl⟩ : ∃ k', k = k' + 1 := ⟨k - 1, by omega⟩
      have xa := hb2.cell k' (by omega)
      have xk := hb2.cell (k' + 1) (by omega)
      have xf := hb2.frozen
      have xl := hb2.lt
      have hc : (k' : Int) + 1 < (e : Int) := by omega
      have c1 : (0 : Int) ≤ (k' : Int) + 1 := by omega
      have c2 : (k' : Int) + 1 < n := by omega
      have c3 : (0 : Int) ≤ (k' : Int) := by omega
      have c4 : (k' : Int) < n := by omega
      have hwk : IntKind.i64.wrap (k' : Int) = (k' : Int) := i64w _ (by omega) (by omega)
      have hwk2 : IntKind.i64.wrap ((k' : Int) + 1 + 1) = (k' : Int) + 1 + 1 := i64w _ (by omega) (by omega)
      have hbe : (((k' : Int) + 1) == (e : Int)) = false := by simp; omega
      have hne : ¬ ((k' : Int) + 1) = (e : Int) := by omega
      have Hne : Hid (k' + 1 < e) := Lib.hid hlt
      have hst := fun (h : d[k' + 1]! < d[k']!) => (scanS_stop (d := d) (e := e) (i := k' + 1) (fun _ => h)).symm.trans k3
      have hsp := fun (h : ¬ d[k' + 1]! < d[k']!) => (scanS_step (d := d) (e := e) (i := k' + 1) hlt h).symm.trans k3
      have Hst := Lib.hid (And.intro hst hsp)
      rw [show ((k' + 1 : Nat) : Int) = (k' : Int) + 1 from rfl]
      clear hsz hae k1 k2 k3 hlt hst hsp
      by_cases hl : d[k' + 1]! < d[k']!
      · have hd4 : decide (d[k' + 1]! < d[k']!) = true := by simp [hl]
        go_wp2_with fail
        go_region_held3 (fun w' => w'.cell? ⟨b, k', none⟩ = some (.int .u64 d[k']!) ∧ w'.cell? ⟨b, k' + 1, none⟩ = some (.int .u64 d[k' + 1]!)) (go_keep)
          ((go_at_call 106; refine (less_any _ _ _).mono ?_; rintro e w' ⟨rfl, rfl⟩))
        go_wp2_with fail
        go_ret
        have := Hst.out.1 hl
        have := Hne.out
        exact ⟨by rw [decide_eq_false (by omega)]; rfl, hb2.drew, hk2.drew⟩
      · have hd4 : decide (d[k' + 1]! < d[k']!) = false := by simp; omega
        go_wp2_with fail
        go_region_held3 (fun w' => w'.cell? ⟨b, k', none⟩ = some (.int .u64 d[k']!) ∧ w'.cell? ⟨b, k' + 1, none⟩ = some (.int .u64 d[k' + 1]!)) (go_keep)
          ((go_at_call 106; refine (less_any _ _ _).mono ?_; rintro e w' ⟨rfl, rfl⟩))
        go_wp2_with fail
        exact ⟨⟨k' + 1 + 1, by go_num, Lib.hid ⟨by have := hk.out; omega, by have := Hne.out; omega, Hst.out.2 hl⟩, hb2.drew, hk2.drew⟩, by have := Hne.out; simp [intOf]; omega⟩
    · obtain rfl : k = e := by omega
      have hre : r = k := by rw [← k3]; exact scanS_stop (fun h => absurd h hlt)
      have Hre := Lib.hid hre
      have hc : ¬ (k : Int) < (k : Int) := by omega
      clear hsz hae k1 k2 k3 hre hlt
      go_wp2_with fail
      go_quiet (fail)
      go_wp2_with fail
      go_ret
      exact ⟨by rw [Hre.out, decide_eq_true rfl]; rfl, hb2.drewN _, hk2.drewN _⟩
end Go.Proofs.YtbcgpjfejpcgnaaGreat
end
section
namespace Go.Proofs.YtbcgpjfejpcgnaaGreat
open Go.RowKit
set_option linter.unusedVariables false
set_option linter.unusedSimpArgs false
set_option maxRecDepth 100000
set_option maxHeartbeats 4000000
theorem next_any (g X : Nat) (hX : X < 18446744073709551616) (w : World) (hb : Blk w g [.int .u64 X]) :
    Calls Tryz.prog 115 #[.pointer (some ⟨g, 0, none⟩)] w fun q w' => q = .returned (.int .u64 (Go.Sort.xorNextN X : Nat)) ∧ Blk w' g [.int .u64 (Go.Sort.xorNextN X : Nat)] ∧ Keeps [g] w w' := by
  obtain ⟨A, hA⟩ : ∃ A : Nat, A = X ^^^ (X * 8192 % 18446744073709551616) := ⟨_, rfl⟩
  obtain ⟨B, hB⟩ : ∃ B : Nat, B = A ^^^ (A / 128) := ⟨_, rfl⟩
  obtain ⟨C, hC⟩ : ∃ C : Nat, C = B ^^^ (B * 131072 % 18446744073709551616) := ⟨_, rfl⟩
  have lA : A < 18446744073709551616 := by rw [hA]; exact Nat.xor_lt_two_pow (n := 64) (by omega) (by omega)
  have lB : B < 18446744073709551616 := by rw [hB]; exact Nat.xor_lt_two_pow (n := 64) (by omega) (by omega)
  have e1 : bits .xor .u64 (X : Int) (IntKind.u64.wrap ((X : Int) * 8192)) = (A : Int) := by
    rw [IntKind.wrap_u64, show ((X : Int) * 8192 % 18446744073709551616) = ((X * 8192 % 18446744073709551616 : Nat) : Int) by omega, bits_xor_u64_nat _ _ hX (by omega), hA]
  have e2 : bits .xor .u64 (A : Int) ((A : Int) / 128) = (B : Int) := by
    rw [show ((A : Int) / 128) = ((A / 128 : Nat) : Int) by omega, bits_xor_u64_nat _ _ lA (by omega), hB]
  have e3 : bits .xor .u64 (B : Int) (IntKind.u64.wrap ((B : Int) * 131072)) = (C : Int) := by
    rw [IntKind.wrap_u64, show ((B : Int) * 131072 % 18446744073709551616) = ((B * 131072 % 18446744073709551616 : Nat) : Int) by omega, bits_xor_u64_nat _ _ lB (by omega), hC]
  have hv : Go.Sort.xorNextN X = C := by unfold Go.Sort.xorNextN; simp only []; rw [← hA, ← hB, ← hC]
  rw [hv]
  clear hA hB hC hv
  obtain ⟨x0, xf, xl⟩ := hb.o1
  go_enter Tryz.func115, Tryz.ntmps115
  go_wp2_with fail
  go_region
  all_goals go_wp2_with fail
  all_goals obtain ⟨w1, hw1⟩ : ∃ w1, (w.setCell ⟨g, 0, none⟩ (.int .u64 A)).drew = w1 := ⟨_, rfl⟩
  all_goals rw [hw1]
  all_goals have b1 : Blk w1 g [.int .u64 A] := by rw [← hw1]; exact (hb.set 0 _).drew
  all_goals have k1 : Keeps [g] w w1 := by rw [← hw1]; exact ((Keeps.refl [g] w).setCell _ _ (.inl (by simp))).drew
  all_goals clear hw1 x0 xf xl hb
  all_goals obtain ⟨x0, xf, xl⟩ := b1.o1
  all_goals go_region
  all_goals go_wp2_with fail
  all_goals obtain ⟨w2, hw2⟩ : ∃ w2, (w1.setCell ⟨g, 0, none⟩ (.int .u64 B)).drew = w2 := ⟨_, rfl⟩
  all_goals rw [hw2]
  all_goals have b2 : Blk w2 g [.int .u64 B] := by rw [← hw2]; exact (b1.set 0 _).drew
  all_goals have k2 : Keeps [g] w w2 := by rw [← hw2]; exact (k1.setCell _ _ (.inl (by simp))).drew
  all_goals clear hw2 x0 xf xl b1 k1
  all_goals obtain ⟨x0, xf, xl⟩ := b2.o1
  all_goals go_region
  all_goals go_wp2_with fail
  all_goals go_ret
  all_goals exact ⟨rfl, (b2.set 0 _).drew, (k2.setCell _ _ (.inl (by simp))).drew⟩
end Go.Proofs.YtbcgpjfejpcgnaaGreat
end
section
namespace Go.Proofs.YtbcgpjfejpcgnaaGreat
open Go.RowKit
set_option linter.unusedVariables false
set_option linter.unusedSimpArgs false
set_option maxRecDepth 100000
set_option maxHeartbeats 4000000
def bl (x : Nat) : Nat := if x = 0 then 0 else if x < 2 then 1 else if x < 4 then 2 else if x < 8 then 3 else if x < 16 then 4 else 5
theorem bl_tab : ∀ x, x < 32 → Go.Sort.bitsLen x = bl x := by decide +kernel
theorem len64_ex (x : Nat) (hx : x < 26) (w : World) : Calls Tryz.prog 110 #[.int .u64 x] w fun e w' => e = .returned (.int .i64 (bl x : Nat)) ∧ w = w' := by
  have h : x = 0 ∨ x = 1 ∨ x = 2 ∨ x = 3 ∨ x = 4 ∨ x = 5 ∨ x = 6 ∨ x = 7 ∨ x = 8 ∨ x = 9 ∨ x = 10 ∨ x = 11 ∨ x = 12 ∨ x = 13 ∨ x = 14 ∨ x = 15 ∨ x = 16 ∨ x = 17 ∨ x = 18 ∨ x = 19 ∨ x = 20 ∨ x = 21 ∨ x = 22 ∨ x = 23 ∨ x = 24 ∨ x = 25 := by omega
  rcases h with rfl | rfl | rfl | rfl | rfl | rfl | rfl | rfl | rfl | rfl | rfl | rfl | rfl | rfl | rfl | rfl | rfl | rfl | rfl | rfl | rfl | rfl | rfl | rfl | rfl | rfl
  all_goals
    go_enter Tryz.func110, Tryz.ntmps110
    go_wp2_with fail
    go_ret
    exact ⟨by kernel_rfl, rfl⟩
theorem len_ex (x : Nat) (hx : x < 26) (w : World) : Calls Tryz.prog 96 #[.int .u64 x] w fun e w' => e = .returned (.int .i64 (bl x : Nat)) ∧ w = w' := by
  have h := len64_ex x hx
  go_enter Tryz.func96, Tryz.ntmps96
  go_wp2_with fail
  refine (h _).mono ?_
  rintro e w' ⟨rfl, rfl⟩
  go_wp2_with fail
  go_ret
  exact ⟨rfl, rfl⟩
theorem np2_any (x : Nat) (hx : 13 ≤ x ∧ x < 26) (w : World) : Calls Tryz.prog 114 #[.int .i64 x] w fun e w' => e = .returned (.int .u64 (if x < 16 then 16 else 32)) ∧ w = w' := by
  have h := len_ex x hx.2
  have hwx : IntKind.u64.wrap (x : Int) = (x : Int) := by rw [IntKind.wrap_u64]; omega
  rcases (by unfold bl; split <;> (try omega) ; split <;> (try omega); split <;> (try omega); split <;> (try omega); split <;> simp_all : (bl x = 4 ∧ x < 16) ∨ (bl x = 5 ∧ ¬ x < 16)) with ⟨h1, h2⟩ | ⟨h1, h2⟩
  all_goals
    rw [h1] at h
    first | rw [if_pos h2] | rw [if_neg h2]
    clear h2 hx
    go_enter Tryz.func114, Tryz.ntmps114
    go_wp2_with fail
    refine (h _).mono ?_
    rintro e w' ⟨rfl, rfl⟩
    go_wp2_with fail
    go_ret
    exact ⟨rfl, rfl⟩
end Go.Proofs.YtbcgpjfejpcgnaaGreat
end
section
namespace Go.Proofs.YtbcgpjfejpcgnaaGreat
open Go.RowKit
set_option linter.unusedVariables false
set_option linter.unusedSimpArgs false
set_option maxRecDepth 100000
set_option maxHeartbeats 4000000
def bpR (a L M : Nat) : Nat → Nat → UInt64 × Array Int → Array Int
  | 0, _, st => st.2
  | k + 1, i, st => bpR a L M k (i + 1) (Go.Sort.breakStep a L M st i)
theorem bp_eq (d : Array Int) (a e L M : Nat) (hL : e - a = L) (h : 13 ≤ L ∧ L < 26) (hM : M = if L < 16 then 16 else 32) : Go.Sort.breakPatterns d a e = bpR a L M 3 (a + L / 4 * 2 - 1) (UInt64.ofNat L, d) := by
  have hm : 1 <<< Go.Sort.bitsLen L = M := by
    rw [bl_tab L (by omega), hM, Nat.one_shiftLeft]
    unfold bl
    rw [if_neg (by omega), if_neg (by omega), if_neg (by omega), if_neg (by omega)]
    by_cases h16 : L < 16
    · rw [if_pos h16, if_pos h16]
    · rw [if_neg h16, if_neg h16]
  unfold Go.Sort.breakPatterns
  simp only [hL]
  rw [if_pos (by omega), hm]
  rfl
theorem bp_any (b cap n a e : Nat) (rest : List Value) (d : Array Int) (w : World) (hb : Rw w b rest d) (hd : d.size = n) (hn : n ≤ 4096) (hae : a < e ∧ e ≤ n ∧ 13 ≤ e - a ∧ e - a < 26) :
    Calls Tryz.prog 102 #[.slice (some ⟨b, 0, none⟩) n cap, .int .i64 a, .int .i64 e] w fun q w' => q = .returned (.tuple #[]) ∧ Rw w' b rest (Go.Sort.breakPatterns d a e) ∧ Keeps [b] w w' := by
  obtain ⟨L, hL⟩ : ∃ L, e - a = L := ⟨_, rfl⟩
  obtain ⟨M, hM⟩ : ∃ M, M = if L < 16 then 16 else 32 := ⟨_, rfl⟩
  have hM2 : L < M ∧ M ≤ 2 * L ∧ M ≤ 32 := by rw [hM]; split <;> omega
  rw [bp_eq d a e L M hL (by omega) hM]
  have hnp := np2_any L (by omega)
  have hMI : (if L < 16 then (16 : Int) else 32) = (M : Int) := by rw [hM]; split <;> rfl
  rw [hMI] at hnp
  obtain ⟨t, ht⟩ : ∃ t, t = L / 4 := ⟨_, rfl⟩
  obtain ⟨i0, hi0⟩ : ∃ i0, i0 = a + L / 4 * 2 - 1 := ⟨_, rfl⟩
  obtain ⟨M1, hM1⟩ : ∃ M1, M1 = M - 1 := ⟨_, rfl⟩
  rw [← hi0]
  have hw0 : IntKind.i64.wrap ((e : Int) - (a : Int)) = (L : Int) := by rw [i64w _ (by omega) (by omega)]; omega
  have hc8 : decide ((L : Int) ≥ 8) = true := by simp; omega
  have hwL : IntKind.u64.wrap (L : Int) = (L : Int) := by rw [IntKind.wrap_u64]; omega
  have hq : ((L : Int)).tdiv 4 = (t : Int) := by rw [Int.tdiv_eq_ediv_of_nonneg (by omega)]; omega
  have hwt : IntKind.i64.wrap (t : Int) = (t : Int) := i64w _ (by omega) (by omega)
  have hw2 : IntKind.i64.wrap ((t : Int) * 2) = (t : Int) * 2 := i64w _ (by omega) (by omega)
  have hw3 : IntKind.i64.wrap ((a : Int) + (t : Int) * 2) = (a : Int) + (t : Int) * 2 := i64w _ (by omega) (by omega)
  have hw4 : IntKind.i64.wrap ((a : Int) + (t : Int) * 2 - 1) = (i0 : Int) := by rw [i64w _ (by omega) (by omega)]; omega
  have hw5 : IntKind.i64.wrap ((a : Int) + (t : Int) * 2 + 1) = (i0 : Int) + 2 := by rw [i64w _ (by omega) (by omega)]; omega
  have hwM : IntKind.u64.wrap ((M : Int) - 1) = (M1 : Int) := by rw [IntKind.wrap_u64]; omega
  have F := Lib.hid (And.intro hd (And.intro hae (And.intro hL (And.intro hM2 (And.intro ht (And.intro hi0 hM1))))))
  have hg := Blk.new w [.int .u64 (L : Int)] 161
  have kg := (Keeps.refl [] w).alloc (.cells #[.int .u64 (L : Int)] 161)
  have hbg := hb.keeps kg (by simp)
  have hbl := hb.lt
  clear hd hae hL hM hM2 ht hi0 hM1 hMI hb
  go_enter Tryz.func102, Tryz.ntmps102
  go_upto_region 3 with fail
  obtain ⟨W, hW⟩ : ∃ W, w.alloc (.cells #[.int .u64 (L : Int)] 161) = W := ⟨_, rfl⟩
  obtain ⟨g, hgg⟩ : ∃ g, w.heap.size = g := ⟨_, rfl⟩
  have hng : Hid (b ≠ g ∧ w.heap.size = g) := Lib.hid ⟨by omega, hgg⟩
  rw [hW] at hg kg hbg ⊢
  rw [hgg] at hg ⊢
  clear hW hgg hbl
  go_wp2_with fail
  refine (hnp _).mono ?_
  rintro q w1 ⟨rfl, rfl⟩
  go_wp2_with fail
  go_loopw [9] (fun i wr => ∃ (k p X : Nat) (d' : Array Int), i = .int .i64 p ∧ Hid (p + k = i0 + 3 ∧ k ≤ 3 ∧ d'.size = n ∧ X < 18446744073709551616 ∧ ∃ r : UInt64, r.toNat = X ∧ bpR a L M k p (r, d') = bpR a L M 3 i0 (UInt64.ofNat L, d)) ∧ Rw wr b rest d' ∧ Blk wr g [.int .u64 (X : Int)] ∧ Keeps [b] w wr) (fun i _ => i0 + 3 - (intOf i).toNat)
  case atStart => exact ⟨3, i0, L, d, rfl, Lib.hid ⟨rfl, Nat.le_refl _, F.out.1, by have := F.out; omega, UInt64.ofNat L, by rw [UInt64.toNat_ofNat_of_lt' (by have := F.out; show L < 18446744073709551616; omega)], rfl⟩, hbg, hg, kg.mono (by simp)⟩
  case round =>
    obtain ⟨k, p, X, d', rfl, hR, hbr, hgr, hkr⟩ := hrel
    obtain ⟨hR1, hR2, hR3, hR4, r, hr1, hr2⟩ := hR.out
    by_cases hk : k = 0
    · have hc : ¬ (p : Int) ≤ (i0 : Int) + 2 := by omega
      subst hk
      have hre : bpR a L M 3 i0 (UInt64.ofNat L, d) = d' := by rw [← hr2]; rfl
      have Hre := Lib.hid hre
      clear hR1 hR2 hR3 hR4 hr1 hr2 hre
      go_wp2_with fail
      go_end0
      exact ⟨rfl, by rw [Hre.out]; exact hbr, hkr⟩
    · obtain ⟨k', rfl⟩ : ∃ k', k = k' + 1 := ⟨k - 1, by omega⟩
      have hc : (p : Int) ≤ (i0 : Int) + 2 := by omega
      have hnx := next_any g X hR4 wr hgr
      have hX' := Go.Sort.xorNextN_lt X hR4
      obtain ⟨X', hXX⟩ : ∃ X', Go.Sort.xorNextN X = X' := ⟨_, rfl⟩
      rw [hXX] at hnx hX'
      obtain ⟨hd, hae, hL, hM2, ht, hi0, hM1⟩ := F.out
      obtain ⟨o, ho⟩ : ∃ o, X' &&& M1 = o := ⟨_, rfl⟩
      have hoM : o ≤ M1 := by rw [← ho]; exact Nat.and_le_right
      have hba : bits .and .u64 (X' : Int) (M1 : Int) = (o : Int) := by rw [bits_and_u64_nat _ _ hX' (by omega), ho]
      have hwo : IntKind.i64.wrap (o : Int) = (o : Int) := i64w _ (by omega) (by omega)
      have hwp : IntKind.i64.wrap ((p : Int) + 1) = (p : Int) + 1 := i64w _ (by omega) (by omega)
      obtain ⟨ot, hot⟩ : ∃ ot, ot = if o ≥ L then o - L else o := ⟨_, rfl⟩
      have hotL : ot < L := by rw [hot]; split <;> omega
      obtain ⟨pk, hpk⟩ : ∃ pk, pk = a + ot := ⟨_, rfl⟩
      have hwk : IntKind.i64.wrap ((a : Int) + (ot : Int)) = (pk : Int) := by rw [i64w _ (by omega) (by omega)]; omega
      have hstep : Go.Sort.breakStep a L M (r, d') p = (Go.Sort.xorNext r, Go.Sort.swp d' p pk) := by
        unfold Go.Sort.breakStep
        simp only
        rw [Go.Sort.xorNext_toNat, hr1, hXX, ← hM1, ho, hpk, hot]
      have c1 : (0 : Int) ≤ (p : Int) := by omega
      have c2 : (p : Int) < n := by omega
      have c3 : (0 : Int) ≤ (pk : Int) := by omega
      have c4 : (pk : Int) < n := by omega
      have hR5 : Hid (p + 1 + k' = i0 + 3 ∧ k' ≤ 3 ∧ (Go.Sort.swp d' p pk).size = n ∧ X' < 18446744073709551616 ∧ ∃ r : UInt64, r.toNat = X' ∧ bpR a L M k' (p + 1) (r, Go.Sort.swp d' p pk) = bpR a L M 3 i0 (UInt64.ofNat L, d)) := Lib.hid ⟨by omega, by omega, by rw [Go.Sort.size_swp]; exact hR3, hX', Go.Sort.xorNext r, by rw [Go.Sort.xorNext_toNat, hr1, hXX], by
        rw [← hr2]
        conv => rhs; rw [bpR, hstep]⟩
      have hpn : Hid (p < n ∧ pk < n ∧ d'.size = n ∧ p + k' + 1 = i0 + 3) := Lib.hid ⟨by omega, by omega, hR3, by omega⟩
      have Hot := Lib.hid (And.intro hot (And.intro hoM hotL))
      clear hR hR1 hR2 hR3 hR4 hr1 hr2 hX' hXX hd hae hL hM2 ht hi0 hM1 ho hoM hot hotL hpk hstep
      go_wp2_with fail
      refine hnx.mono ?_
      rintro q w2 ⟨rfl, hg2, k2⟩
      have hb2 := hbr.keeps k2 (by have := hng.out; simp; omega)
      have K2 : Keeps [b] w w2 := hkr.trans k2 (by have := hng.out; simp; omega)
      have x1 := hb2.cell p (by have := hpn.out; omega)
      have x2 := hb2.cell pk (by have := hpn.out; omega)
      have xf := hb2.frozen
      have xl := hb2.lt
      have hz := (hb2.swp p pk (by have := hpn.out; omega) (by have := hpn.out; omega)).drew
      have hkz := (keeps_swp (b := b) (by simp) w K2 p pk (.int .u64 d'[pk]!) (.int .u64 d'[p]!)).drew
      have hgz : Blk ((w2.setCell ⟨b, p, none⟩ (.int .u64 d'[pk]!)).setCell ⟨b, pk, none⟩ (.int .u64 d'[p]!)).drew g [.int .u64 (X' : Int)] := ((hg2.other _ _ (Ne.symm hng.out.1)).other _ _ (Ne.symm hng.out.1)).drew
      clear hnx hbr hgr hkr k2
      by_cases hoL : o ≥ L
      · have hcL : (L : Int) ≤ (o : Int) := by omega
        have hoe : ot = o - L := by rw [Hot.out.1, if_pos hoL]
        have hws : IntKind.i64.wrap ((o : Int) - (L : Int)) = (ot : Int) := by rw [i64w _ (by omega) (by have := Hot.out; have := F.out; omega)]; omega
        clear hoe
        by_cases hpp : p = pk
        · subst hpp
          go_wp2_with fail
          go_region
          all_goals go_wp2_with fail
          all_goals exact ⟨⟨k', p + 1, X', _, by go_num, hR5, hz, hgz, hkz⟩, by have := hpn.out; simp [intOf]; omega⟩
        · have hn1 : p ≠ pk := hpp
          have hn2 : pk ≠ p := Ne.symm hpp
          go_wp2_with fail
          go_region
          all_goals go_wp2_with fail
          all_goals exact ⟨⟨k', p + 1, X', _, by go_num, hR5, hz, hgz, hkz⟩, by have := hpn.out; simp [intOf]; omega⟩
      · have hcL : ¬ (L : Int) ≤ (o : Int) := by omega
        have hoe : ot = o := by rw [Hot.out.1, if_neg hoL]
        subst hoe
        by_cases hpp : p = pk
        · subst hpp
          go_wp2_with fail
          go_region
          all_goals go_wp2_with fail
          all_goals exact ⟨⟨k', p + 1, X', _, by go_num, hR5, hz, hgz, hkz⟩, by have := hpn.out; simp [intOf]; omega⟩
        · have hn1 : p ≠ pk := hpp
          have hn2 : pk ≠ p := Ne.symm hpp
          go_wp2_with fail
          go_region
          all_goals go_wp2_with fail
          all_goals exact ⟨⟨k', p + 1, X', _, by go_num, hR5, hz, hgz, hkz⟩, by have := hpn.out; simp [intOf]; omega⟩
end Go.Proofs.YtbcgpjfejpcgnaaGreat
end
section
namespace Go.Proofs.YtbcgpjfejpcgnaaGreat
open Go.RowKit
set_option linter.unusedVariables false
set_option linter.unusedSimpArgs false
set_option maxRecDepth 100000
set_option maxHeartbeats 4000000
theorem insI_stop {a m : Nat} {d : Array Int} (h : a < m → ¬ d[m]! < d[m - 1]!) : Go.Sort.insInner Go.Sort.ltInt a m d = d := by
  cases m with
  | zero => rfl
  | succ m =>
    rw [Go.Sort.insInner, if_neg]
    intro hc
    simp only [Bool.and_eq_true, decide_eq_true_eq, Go.Sort.ltInt] at hc
    exact h hc.1 hc.2
theorem insI_step {a m : Nat} {d : Array Int} (h : a < m + 1) (hl : d[m + 1]! < d[m]!) : Go.Sort.insInner Go.Sort.ltInt a (m + 1) d = Go.Sort.insInner Go.Sort.ltInt a m (Go.Sort.swp d (m + 1) m) := by
  rw [Go.Sort.insInner, if_pos (by simp [h, hl, Go.Sort.ltInt])]
theorem insp_any (b cap n a e : Nat) (rest : List Value) (d : Array Int) (w : World) (hb : Rw w b rest d) (hd : d.size = n) (hn : n ≤ 4096) (hae : a ≤ e ∧ e ≤ n) :
    Calls Tryz.prog 100 #[.slice (some ⟨b, 0, none⟩) n cap, .int .i64 a, .int .i64 e] w fun q w' => q = .returned (.tuple #[]) ∧ Rw w' b rest (Go.Sort.insertionSort Go.Sort.ltInt d a e) ∧ Keeps [b] w w' := by
  obtain ⟨R, hR⟩ : ∃ R, Go.Sort.insertionSort Go.Sort.ltInt d a e = R := ⟨_, rfl⟩
  rw [hR]
  unfold Go.Sort.insertionSort at hR
  have HR := Lib.hid hR
  have Hd := Lib.hid hd
  have Ha := Lib.hid hae
  have hwa : IntKind.i64.wrap ((a : Int) + 1) = (a : Int) + 1 := i64w _ (by omega) (by omega)
  clear hd hR hae
  go_enter Tryz.func100, Tryz.ntmps100
  go_wp2_with fail
  go_loopw [6] (fun i wr => ∃ (k : Nat) (d' : Array Int), i = .int .i64 k ∧ Hid (a < k ∧ k ≤ n + 1 ∧ d'.size = n ∧ Go.Sort.insOuter Go.Sort.ltInt a e k d' = R) ∧ Rw wr b rest d' ∧ Keeps [b] w wr) (fun i _ => e - (intOf i).toNat)
  case atStart => exact ⟨a + 1, d, by go_num, Lib.hid ⟨by omega, by have := Ha.out; omega, Hd.out, HR.out⟩, hb, Keeps.refl _ _⟩
  case round =>
    obtain ⟨k, d', rfl, hk, hbk, hkp⟩ := hrel
    by_cases hlt : k < e
    · have hc : (k : Int) < (e : Int) := by omega
      have Hke := Lib.hid hlt
      have hst : Go.Sort.insOuter Go.Sort.ltInt a e (k + 1) (Go.Sort.insInner Go.Sort.ltInt a k d') = R := by
        rw [← hk.out.2.2.2]
        conv => rhs; rw [Go.Sort.insOuter, if_pos hlt]
      have Hst := Lib.hid hst
      have hwk : IntKind.i64.wrap ((k : Int) + 1) = (k : Int) + 1 := i64w _ (by omega) (by have := hk.out; omega)
      clear hlt hst
      obtain ⟨wo, rfl⟩ : ∃ wo : World, wo = wr := ⟨_, rfl⟩
      go_wp2_with fail
      go_loopw [7] (fun j wq => ∃ (m : Nat) (d2 : Array Int), j = .int .i64 m ∧ Hid (a ≤ m ∧ m ≤ k ∧ d2.size = n ∧ Go.Sort.insInner Go.Sort.ltInt a m d2 = Go.Sort.insInner Go.Sort.ltInt a k d') ∧ Rw wq b rest d2 ∧ Keeps [b] w wq) (fun j _ => (intOf j).toNat)
      case atStart => exact ⟨k, d', rfl, Lib.hid ⟨by have := hk.out; omega, Nat.le_refl _, hk.out.2.2.1, rfl⟩, hbk, hkp⟩
      case round =>
        obtain ⟨m, d2, rfl, hm, hb2, hk2⟩ := hrel
        obtain ⟨m1, m2, m3, m4⟩ := hm.out
        have hke := Hke.out
        have hen := Ha.out
        by_cases ham : a < m
        · obtain ⟨m', rfl⟩ : ∃ m', m = m' + 1 := ⟨m - 1, by omega⟩
          have x1 := hb2.cell m' (by omega)
          have x2 := hb2.cell (m' + 1) (by omega)
          have xf := hb2.frozen
          have xl := hb2.lt
          have hc1 : (a : Int) < (m' : Int) + 1 := by omega
          have c1 : (0 : Int) ≤ (m' : Int) + 1 := by omega
          have c2 : (m' : Int) + 1 < n := by omega
          have c3 : (0 : Int) ≤ (m' : Int) := by omega
          have c4 : (m' : Int) < n := by omega
          have hwm : IntKind.i64.wrap (m' : Int) = (m' : Int) := i64w _ (by omega) (by omega)
          have hz := (hb2.swp (m' + 1) m' (by omega) (by omega))
          have hkz := (keeps_swp (b := b) (by simp) w hk2 (m' + 1) m' (.int .u64 d2[m']!) (.int .u64 d2[m' + 1]!))
          have hsp := fun (h : d2[m' + 1]! < d2[m']!) => (insI_step (a := a) (m := m') (d := d2) (by omega) h).symm.trans m4
          have hss := fun (h : ¬ d2[m' + 1]! < d2[m']!) => (insI_stop (a := a) (m := m' + 1) (d := d2) (fun _ => h)).symm.trans m4
          have Hs := Lib.hid (And.intro hsp hss)
          have Hm := Lib.hid (And.intro m2 (And.intro m3 ham))
          rw [show ((m' + 1 : Nat) : Int) = (m' : Int) + 1 from rfl]
          clear m1 m2 m3 m4 hke hen ham hsp hss
          by_cases hl : d2[m' + 1]! < d2[m']!
          · have hd4 : decide (d2[m' + 1]! < d2[m']!) = true := by simp [hl]
            go_wp2_with fail
            go_region_held3 (fun w' => w'.cell? ⟨b, m', none⟩ = some (.int .u64 d2[m']!) ∧ w'.cell? ⟨b, m' + 1, none⟩ = some (.int .u64 d2[m' + 1]!)) (go_keep)
              ((go_at_call 106; refine (less_any _ _ _).mono ?_; rintro e w' ⟨rfl, rfl⟩))
            go_wp2_with fail
            go_region
            all_goals go_wp2_with fail
            all_goals exact ⟨⟨m', _, by go_num, Lib.hid ⟨by have := Hm.out; omega, by have := Hm.out; omega, by rw [Go.Sort.size_swp]; exact Hm.out.2.1, Hs.out.1 hl⟩, by first | exact hz.drew.drew | exact hz.drew, by first | exact hkz.drew.drew | exact hkz.drew⟩, by simp [intOf]⟩
          · have hd4 : decide (d2[m' + 1]! < d2[m']!) = false := by simp; omega
            go_wp2_with fail
            go_region_held3 (fun w' => w'.cell? ⟨b, m', none⟩ = some (.int .u64 d2[m']!) ∧ w'.cell? ⟨b, m' + 1, none⟩ = some (.int .u64 d2[m' + 1]!)) (go_keep)
              ((go_at_call 106; refine (less_any _ _ _).mono ?_; rintro e w' ⟨rfl, rfl⟩))
            go_wp2_with fail
            have e1 := Hs.out.2 hl
            exact ⟨⟨k + 1, d2, by go_num, Lib.hid ⟨by have := hk.out; omega, by have := Hke.out; have := Ha.out; omega, Hm.out.2.1, by rw [e1]; exact Hst.out⟩, hb2.drew, hk2.drew⟩, by have := Hke.out; simp [intOf]; omega⟩
        · have hma : a = m := by omega
          subst hma
          have e1 : d2 = Go.Sort.insInner Go.Sort.ltInt a k d' := by rw [← m4]; exact (insI_stop (fun h => absurd h ham)).symm
          have E1 := Lib.hid e1
          have Hm := Lib.hid m3
          clear m1 m2 m3 m4 hke hen ham e1
          go_wp2_with fail
          go_quiet (fail)
          go_wp2_with fail
          exact ⟨⟨k + 1, d2, by go_num, Lib.hid ⟨by have := hk.out; omega, by have := Hke.out; have := Ha.out; omega, Hm.out, by rw [E1.out]; exact Hst.out⟩, hb2.drewN _, hk2.drewN _⟩, by have := Hke.out; simp [intOf]; omega⟩
    · have hc : ¬ (k : Int) < (e : Int) := by omega
      have hre : R = d' := by
        rw [← hk.out.2.2.2, Go.Sort.insOuter, if_neg hlt]
      have Hre := Lib.hid hre
      clear hre hlt
      go_wp2_with fail
      go_end0
      exact ⟨rfl, by rw [Hre.out]; exact hbk, hkp⟩
end Go.Proofs.YtbcgpjfejpcgnaaGreat
end
