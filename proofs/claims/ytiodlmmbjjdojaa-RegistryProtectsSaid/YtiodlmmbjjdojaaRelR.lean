/- The walk of RegistryReleases. -/
import Derived.Test.YtiodlmmbjjdojaaIndepR
namespace Go.Proofs.Ytiodlmmbjjdojaa
open Go.RowKit
theorem wmin_mono {t t' x x' : Int} (h : t ≤ t') (hx : x' = x ∨ x' = 0) : wmin t x ≤ wmin t' x' := by
  unfold wmin
  rcases hx with rfl | rfl
  · split
    · exact h
    · split <;> split <;> omega
  · rw [if_pos rfl]
    split
    · exact h
    · split <;> omega
theorem least_mono {L L' : List C3} (h2 : (memAt L 2).N ≤ (memAt L' 2).N) : ∀ k : Nat, (∀ j : Nat, j < k → (memAt L' (8 + (j : Int))).N = (memAt L (8 + (j : Int))).N ∨ (memAt L' (8 + (j : Int))).N = 0) → leastOf L k ≤ leastOf L' k
  | 0, _ => h2
  | k + 1, h => wmin_mono (least_mono h2 k (fun j hj => h j (by omega))) (h k (by omega))
theorem least_le (L : List C3) : ∀ k : Nat, leastOf L k ≤ (memAt L 2).N
  | 0 => Int.le_refl _
  | k + 1 => by
    have := least_le L k
    unfold leastOf wmin
    split
    · exact this
    · split <;> omega
theorem least_zero (L : List C3) : ∀ k : Nat, (∀ j : Nat, j < k → (memAt L (8 + (j : Int))).N = 0) → leastOf L k = (memAt L 2).N
  | 0, _ => rfl
  | k + 1, h => by
    unfold leastOf wmin
    rw [if_pos (h k (by omega))]
    exact least_zero L k (fun j hj => h j (by omega))
theorem least_nonneg (L : List C3) (h2 : 0 ≤ (memAt L 2).N) : ∀ k : Nat, (∀ j : Nat, j < k → 0 ≤ (memAt L (8 + (j : Int))).N) → 0 ≤ leastOf L k
  | 0, _ => h2
  | k + 1, h => by
    have h1 := least_nonneg L h2 k (fun j hj => h j (by omega))
    have h3 := h k (by omega)
    unfold leastOf wmin
    split
    · exact h1
    · split <;> omega
/-- What the law holds of the memory. -/
structure RR (w : World) (m c : Nat) (n : Nat) (L : List C3) (q tm : Int) : Prop where
  mem : MemAt w m c L q
  len : L.length = 1508 + 2 * n
  cell : ∀ (j : Nat), j < 2 * n → 0 ≤ (memAt L (8 + (j : Int))).N ∧ (memAt L (8 + (j : Int))).N ≤ 1000
  pub : (memAt L 2).N = tm
theorem RR.keeps {w w' : World} {m c n : Nat} {L : List C3} {q tm : Int} (h : RR w m c n L q tm) {S : List Nat} (k : Keeps S w w') (h1 : m ∉ S) (h2 : c ∉ S) : RR w' m c n L q tm :=
  ⟨h.mem.keeps k h1 h2, h.len, h.cell, h.pub⟩
theorem RR.cells {w : World} {m c n : Nat} {L : List C3} {q tm : Int} (h : RR w m c n L q tm) : ∀ i : Nat, i < 2 * n → 0 ≤ (memAt L (8 + (i : Int))).N ∧ (memAt L (8 + (i : Int))).N ≤ 18446744073709551615 :=
  fun i hi => by have := h.cell i hi; omega
theorem RR.release {w w' : World} {m c n : Nat} {L : List C3} {q q' tm : Int} (h : RR w m c n L q tm) (i : Nat) (hi : i < 2 * n) {q2 : Int} (hm : MemAt w' m c (memSet L (8 + (i : Int)) ⟨0, ⟨#[]⟩, 0⟩) q2) (hq : q2 = q') : RR w' m c n (memSet L (8 + (i : Int)) ⟨0, ⟨#[]⟩, 0⟩) q' tm := by
  subst hq
  refine ⟨hm, by rw [memSet_length]; exact h.len, fun j hj => ?_, by rw [memAt_set_other _ _ _ _ (by omega)]; exact h.pub⟩
  by_cases e : i = j
  · subst e
    rw [memAt_set_same _ _ _ (by omega) (by have := h.len; omega)]
    exact ⟨by decide, by decide⟩
  · rw [memAt_set_other _ _ _ _ (by omega)]
    exact h.cell j hj
theorem le_release {w : World} {m c n : Nat} {L : List C3} {q tm ell : Int} (hl : leastOf L (2 * n) = ell) (h : RR w m c n L q tm) (i : Nat) : ell ≤ leastOf (memSet L (8 + (i : Int)) ⟨0, ⟨#[]⟩, 0⟩) (2 * n) := by
  rw [← hl]
  refine least_mono (by rw [memAt_set_other _ _ _ _ (by omega)]; exact Int.le_refl _) _ (fun j hj => ?_)
  by_cases e : i = j
  · subst e
    by_cases hin : 8 + (i : Int) < L.length
    · rw [memAt_set_same _ _ _ (by omega) hin]; exact .inr rfl
    · have := h.len
      omega
  · rw [memAt_set_other _ _ _ _ (by omega)]; exact .inl rfl
theorem released {n s i : Nat} {L : List C3} (h : ∀ j : Nat, j < 2 * n → (∃ s', 20 ≤ s' ∧ s' < s ∧ s' % (2 * n) = j) → (memAt L (8 + (j : Int))).N = 0) (hi : 20 ≤ s → i = s % (2 * n)) (hlen : L.length = 1508 + 2 * n) (hi2 : i < 2 * n) :
    ∀ j : Nat, j < 2 * n → (∃ s', 20 ≤ s' ∧ s' < s + 1 ∧ s' % (2 * n) = j) → (memAt (memSet L (8 + (i : Int)) ⟨0, ⟨#[]⟩, 0⟩) (8 + (j : Int))).N = 0 := by
  rintro j hj ⟨s', h1, h2, h3⟩
  by_cases e : i = j
  · subst e
    rw [memAt_set_same _ _ _ (by omega) (by omega)]
  · rw [memAt_set_other _ _ _ _ (by omega)]
    refine h j hj ⟨s', h1, ?_, h3⟩
    rcases Nat.lt_or_ge s' s with h4 | h4
    · exact h4
    · obtain rfl : s' = s := by omega
      exact absurd ((hi h1).trans h3) e
theorem finished {n s : Nat} {L : List C3} {ell tm : Int} (h : ∀ j : Nat, j < 2 * n → (∃ s', 20 ≤ s' ∧ s' < s ∧ s' % (2 * n) = j) → (memAt L (8 + (j : Int))).N = 0) (hl : leastOf L (2 * n) = ell) (hp : (memAt L 2).N = tm) (hs : s = 2 * n + 20) (hn : 1 ≤ n) : ell = tm := by
  rw [← hl, ← hp]
  refine least_zero L _ (fun j hj => h j hj ?_)
  subst hs
  have h0 := Nat.mod_lt 20 (show 2 * n > 0 by omega)
  by_cases hlt : j < 20 % (2 * n)
  · refine ⟨20 + (2 * n + j - 20 % (2 * n)), by omega, by omega, ?_⟩
    have h1 : 20 = 2 * n * (20 / (2 * n)) + 20 % (2 * n) := (Nat.div_add_mod 20 (2 * n)).symm
    have h2 : 20 + (2 * n + j - 20 % (2 * n)) = j + 2 * n * (20 / (2 * n) + 1) := by rw [Nat.mul_add, Nat.mul_one]; omega
    rw [h2, Nat.add_mul_mod_self_left, Nat.mod_eq_of_lt hj]
  · refine ⟨20 + (j - 20 % (2 * n)), by omega, by omega, ?_⟩
    have h1 : 20 = 2 * n * (20 / (2 * n)) + 20 % (2 * n) := (Nat.div_add_mod 20 (2 * n)).symm
    have h2 : 20 + (j - 20 % (2 * n)) = j + 2 * n * (20 / (2 * n)) := by omega
    rw [h2, Nat.add_mul_mod_self_left, Nat.mod_eq_of_lt hj]
set_option maxRecDepth 100000 in
set_option maxHeartbeats 4000000 in
theorem registryReleases_any (th tv : Int) (s0 : -9223372036854775808 ≤ th) (s1 : th ≤ 9223372036854775807) (t0 : 0 ≤ tv) (t1 : tv ≤ 18446744073709551615)
    (A A2 : Option Addr) (cap b o cap2 b2 o2 : Nat) (xs ys : List Nat) (w : World)
    (hA : 0 < xs.length → A = some ⟨b, o, none⟩) (hx : Arr w b o (xs.map vU8)) (hlen : xs.length ≤ 9223372036854775807) (hxs : ∀ x, x ∈ xs → x ≤ 255)
    (hA2 : 0 < ys.length → A2 = some ⟨b2, o2, none⟩) (hy : Arr w b2 o2 (ys.map vU8)) (hleny : ys.length ≤ 9223372036854775807) (hys : ∀ x, x ∈ ys → x ≤ 255) :
    Calls Try.prog 4 #[.int .i64 th, .int .u64 tv, .slice A xs.length cap, .slice A2 ys.length cap2] w fun e w' => e = .returned (.bool true) ∧ Keeps [] w w' := by
  have hm0 := Int.emod_nonneg th (show (4 : Int) ≠ 0 by omega)
  have hm1 := Int.emod_lt_of_pos th (show (0 : Int) < 4 by omega)
  obtain ⟨r, hr⟩ : ∃ r : Nat, th % 4 = r := ⟨(th % 4).toNat, by omega⟩
  rw [hr] at hm0 hm1
  have Hr := Lib.hid hr
  clear hr
  obtain ⟨n, hn, hn1, hn4⟩ : ∃ n : Nat, 1 + (r : Int) = n ∧ 1 ≤ n ∧ n ≤ 4 := ⟨1 + r, by omega, by omega, by omega⟩
  have hc := cfgN n hn1 (by omega)
  have HA := Lib.hid hA
  have HA2 := Lib.hid hA2
  clear hA hA2
  have Ht0 := Lib.hid t0
  have Ht1 := Lib.hid t1
  clear t1
  go_enter Try.func4, Try.ntmps4
  go_wp2_with fail
  refine (mod_any th 4 s0 s1 (by omega) (by omega) _).mono ?_
  rintro e w' ⟨rfl, rfl⟩
  rw [Hr.out]
  go_wp2_with fail
  have Hn := Lib.hid hn
  clear hn
  refine (config_kit n 0 (by omega) (by omega) _).mono ?_
  rintro e w1 ⟨rfl, k1⟩
  have hg1 := Blk.new w1 [.int .i64 n, .int .i64 2, .int .i64 100, .int .i64 100, .int .i64 200, .int .i64 4, .int .u64 1000] 25
  have K1 := k1.alloc (.cells #[.int .i64 n, .int .i64 2, .int .i64 100, .int .i64 100, .int .i64 200, .int .i64 4, .int .u64 1000] 25)
  go_wp2_with fail
  refine (kitMemory_yes n 2 100 100 200 4 1000 hc (1508 + 2 * n) (by omega) _).mono ?_
  rintro e w2 ⟨m, c, rfl, hm2, hm, hcc, k2⟩
  have hg2 := k2.blk hg1 (by simp)
  have K2 := K1.trans k2 (by simp)
  have s1' := k1.size
  simp at hm hcc
  have hl2 := Blk.new w2 [.int .i64 n, .int .i64 2, .int .i64 100, .int .i64 100, .int .i64 200, .int .i64 4, .int .u64 1000] 29
  have K3 := K2.alloc (.cells #[.int .i64 n, .int .i64 2, .int .i64 100, .int .i64 100, .int .i64 200, .int .i64 4, .int .u64 1000] 29)
  have hm3 := hm2.alloc (.cells #[.int .i64 n, .int .i64 2, .int .i64 100, .int .i64 100, .int .i64 200, .int .i64 4, .int .u64 1000] 29)
  have hg3 := hg2.alloc (.cells #[.int .i64 n, .int .i64 2, .int .i64 100, .int .i64 100, .int .i64 200, .int .i64 4, .int .u64 1000] 29)
  have hml := hm2.lt
  have hgl := hg2.lt
  go_wp2_with fail
  refine (awake18_any _).mono ?_
  rintro e w4 ⟨rfl, k4⟩
  have hl4 := k4.blk hl2 (by simp)
  have hg4 := k4.blk hg3 (by simp)
  have hm4 := hm3.keeps k4 (by simp) (by simp)
  have K4 := K3.trans k4 (by simp)
  have hx4 := hx.keeps K4 (by simp)
  have hy4 := hy.keeps K4 (by simp)
  clear hm2 hm3 hl2 K1 K2 K3 k1 k2 k4 hg1 hg2 hg3
  have hg4o := hg4.o7
  have hg4l := hg4.lt
  have hl4l := hl4.lt
  go_wp2_with fail
  obtain ⟨tm, htm, htm2⟩ : ∃ tm : Nat, tv % 300 = tm ∧ tm < 300 := ⟨(tv % 300).toNat, by have := Ht0.out; omega, by have := Ht0.out; omega⟩
  rw [htm]
  clear htm
  refine (poke_any _ m c _ 0 hm4 2 tm 0 ⟨#[]⟩).mono ?_
  rintro e w5 ⟨rfl, hm5, k5⟩
  have hr5 : RR w5 m c n (memSet (cells0 (1508 + 2 * n) (8 + (n : Int) * 2 + 2)) 2 ⟨tm, ⟨#[]⟩, 0⟩) 0 tm := by
    refine ⟨hm5, by rw [memSet_length, cells0_length], ?_, ?_⟩
    · intro j hj
      rw [memAt_set_other _ _ _ _ (by omega)]
      by_cases h : (8 + (j : Int)) = 8 + (n : Int) * 2 + 2
      · omega
      · rw [memAt_cells0 _ _ _ (by omega) (by omega) h]
        exact ⟨by decide, by decide⟩
    · rw [memAt_set_same _ _ _ (by omega) (by rw [cells0_length]; omega)]
  have K5 : Keeps [m, c] w4 w5 := k5.mono (by simp)
  clear hm5 hm4 k5
  have hn2 : ((2 * n : Nat) : Int) = (n : Int) * 2 := by omega
  have Hn2 := Lib.hid hn2
  clear hn2 hg4o
  go_upto_block 0 with fail
  go_cut [12] (fun _ wx => ∃ L : List C3, RR wx m c n L 0 tm ∧ Keeps [m, c] w4 wx)
  case first =>
    go_wp2_with fail
    go_loopw [12] (fun i wr => ∃ (k : Nat) (L : List C3), k ≤ 2 * n ∧ i = .int .i64 k ∧ RR wr m c n L 0 tm ∧ Keeps [m, c] w4 wr) (fun i _ => 2 * n - (intOf i).toNat)
    case atStart => exact ⟨0, _, by omega, rfl, hr5, K5⟩
    case round =>
      obtain ⟨k, L, hk, rfl, hr, hkr⟩ := hrel
      have hgr := hkr.blk hg4 (by simp; omega)
      have hgo := hgr.o7
      have hrm := hr.mem
      by_cases hkn : k < 2 * n
      · by_cases hlt : k < xs.length
        · obtain rfl := HA.out (by omega)
          have hbl : b < w.heap.size := hx.lt (by simp; omega)
          have hxk := (hx4.keeps hkr (by simp; omega)).cells k (by simpa using hlt)
          obtain ⟨p, hp⟩ : ∃ p, xs[k]? = some p := ⟨xs[k], by simp [hlt]⟩
          rw [List.getElem?_map, hp] at hxk
          simp only [Option.map_some, vU8] at hxk
          have hp255 := hxs p (List.mem_of_getElem? hp)
          clear hp
          go_wp2_with fail
          obtain ⟨z, hz, hz2⟩ : ∃ z : Nat, (p : Int) % ((tm : Int) + 2) = z ∧ z ≤ 1000 := ⟨p % (tm + 2), by simp, by have := Nat.mod_lt p (show tm + 2 > 0 by omega); omega⟩
          rw [hz]
          clear hz
          refine (poke_any _ m c L 0 hrm (8 + (k : Int)) z 0 ⟨#[]⟩).mono ?_
          rintro e w6 ⟨rfl, hm6, k6⟩
          go_wp2_with fail
          exact ⟨⟨k + 1, _, by omega, by go_num, ⟨hm6, by rw [memSet_length]; exact hr.len, fun j hj => by
            by_cases h : k = j
            · subst h
              rw [memAt_set_same _ _ _ (by omega) (by have := hr.len; omega)]
              exact ⟨by simp, by simp; omega⟩
            · rw [memAt_set_other _ _ _ _ (by omega)]
              exact hr.cell j hj, by rw [memAt_set_other _ _ _ _ (by omega)]; exact hr.pub⟩, hkr.trans k6 (by simp)⟩, by simp [intOf]; omega⟩
        · go_wp2_with fail
          go_meet
          exact ⟨L, hr, hkr⟩
      · go_wp2_with fail
        go_meet
        exact ⟨L, hr, hkr⟩
  case rest =>
    obtain ⟨L5, hr5', K5'⟩ := hcut
    clear hr5 K5
    go_wp2_with fail
    go_loopw [13, 14] (fun lv sv wr => ∃ (s q : Nat) (last : Int) (L : List C3), s ≤ 2 * n + 21 ∧ sv = .int .i64 s ∧ lv = .int .u64 last ∧ q ≤ 70 * s ∧ RR wr m c n L q tm ∧ 0 ≤ last ∧ last ≤ tm ∧ last ≤ leastOf L (2 * n) ∧
      Hid (∀ j : Nat, j < 2 * n → (∃ s', 20 ≤ s' ∧ s' < s ∧ s' % (2 * n) = j) → (memAt L (8 + (j : Int))).N = 0) ∧ Hid (s = 2 * n + 21 → last = tm) ∧ Keeps [m, c] w4 wr) (fun _ sv _ => 2 * n + 21 - (intOf sv).toNat)
    case atStart =>
      exact ⟨0, 0, 0, L5, by omega, rfl, rfl, by omega, hr5', by omega, by omega, least_nonneg _ (by rw [hr5'.pub]; omega) _ (fun j hj => (hr5'.cell j hj).1), Lib.hid (fun j hj h => by obtain ⟨s', h1, h2, _⟩ := h; omega), Lib.hid (fun h => by omega), K5'⟩
    case round =>
      obtain ⟨s, q, last, L, hs, rfl, rfl, hq, hr, hl0, hl1, hl2, hrel, hfin, hkr⟩ := hrel
      have hgr := hkr.blk hg4 (by simp; omega)
      have hgo := hgr.o7
      have hlr := hkr.blk hl4 (by simp; omega)
      have hlo := hlr.o7
      by_cases hlt : s < 2 * n + 21
      · obtain ⟨ell, hell⟩ : ∃ ell, leastOf L (2 * n) = ell := ⟨_, rfl⟩
        have he1 : ell ≤ tm := by rw [← hell, ← hr.pub]; exact least_le L _
        rw [hell] at hl2
        have Hell := Lib.hid hell
        clear hell
        go_wp2_with fail
        refine (wmAt_new n 2 100 100 200 4 1000 L (2 * n) _).mono ?_
        rintro e w6 ⟨wm, rfl, hw6, k6⟩
        have hm6 := hr.mem.keeps k6 (by simp) (by simp)
        have hml6 := hr.mem.lt
        have k6' := k6.mono (S' := [m]) (by simp)
        obtain ⟨wo, rfl⟩ : ∃ wo : World, wo = wr := ⟨_, rfl⟩
        go_wp2_with fail
        go_loopw [16] (fun i wq => ∃ k : Nat, k ≤ 2 * n ∧ i = .int .i64 k ∧ WmAt wq wm wo.heap.size n 2 100 100 200 4 1000 L (2 * n) k ∧ MemAt wq m c L ((q : Int) + k) ∧ Keeps [m] wo wq) (fun i _ => 60 - (intOf i).toNat)
        case atStart => exact ⟨0, by omega, rfl, hw6, by simpa using hm6, k6'⟩
        case round =>
          obtain ⟨k, hk, rfl, hwr, hmr, hkq⟩ := hrel
          have hk60 : (k : Int) < 60 := by omega
          by_cases hlast : k = 2 * n
          · have hd : decide (k = 2 * n) = true := by simp [hlast]
            go_wp2_with fail
            refine (wmAt_step wo wr wm m c n 2 100 100 200 4 1000 L (2 * n) k _ hc Hn2.out hwr hk hmr (by omega) (by omega) hml6.1 hml6.2 hkq hr.cells).mono ?_
            rintro e w8 ⟨rfl, hw8, hm8, k8⟩
            rw [hd]
            clear hd
            subst hlast
            have hw9 := hw8.done
            rw [Hell.out] at hw9
            have hgr8 := k8.blk hgr (by simp; omega)
            have hlr8 := k8.blk hlr (by simp; omega)
            have hgo8 := hgr8.o7
            have hlo8 := hlr8.o7
            clear hgo hlo
            have hb1 : decide (ell < last) = false := by simp; omega
            have hb2 : decide (ell > (tm : Int)) = false := by simp; omega
            go_wp2_with fail
            refine (wmTime_done w8 wm n 2 100 100 200 4 1000 ell hw9).mono ?_
            rintro e w' ⟨rfl, rfl⟩
            go_wp2_with fail
            refine (wmTime_done w8 wm n 2 100 100 200 4 1000 ell hw9).mono ?_
            rintro e w' ⟨rfl, rfl⟩
            go_wp2_with fail
            refine (wmTime_done w8 wm n 2 100 100 200 4 1000 ell hw9).mono ?_
            rintro e w' ⟨rfl, rfl⟩
            have htail : s < ys.length ∧ s < 20 ∨ s < ys.length ∧ ¬ s < 20 ∨ ¬ s < ys.length := by omega
            rcases htail with ⟨ht1, ht2⟩ | ⟨ht1, ht2⟩ | ht1
            · obtain rfl := HA2.out (by omega)
              have hbl : b2 < w.heap.size := hy.lt (by simp; omega)
              have hyk := ((hy4.keeps hkr (by simp; omega)).keeps k8 (by simp; omega)).cells s (by simpa using ht1)
              obtain ⟨p, hp⟩ : ∃ p, ys[s]? = some p := ⟨ys[s], by simp [ht1]⟩
              rw [List.getElem?_map, hp] at hyk
              simp only [Option.map_some, vU8] at hyk
              have hp255 := hys p (List.mem_of_getElem? hp)
              clear hp
              have hs0 : (0 : Int) ≤ s := by omega
              have hs1 : (s : Int) < ys.length := by omega
              obtain ⟨i, hi, hi2⟩ : ∃ i : Nat, (p : Int) % (2 * (n : Int)) = i ∧ i < 2 * n := ⟨p % (2 * n), by simp, Nat.mod_lt _ (by omega)⟩
              have hi3 : Hid (20 ≤ s → i = s % (2 * n)) := Lib.hid (fun h => by omega)
              have hz : ¬ (2 * (n : Int)) = 0 := by omega
              have hw2 : IntKind.i64.wrap (2 * (n : Int)) = 2 * (n : Int) := IntWalk.i64_in _ ⟨by omega, by omega⟩
              have htm : (p : Int).tmod (2 * (n : Int)) = i := by rw [Int.tmod_eq_emod_of_nonneg (by omega)]; exact hi
              have hwp : IntKind.i64.wrap (p : Int) = p := IntWalk.i64_in _ ⟨by omega, by omega⟩
              have g0 := hgo8.1
              clear hi
              go_wp2_with fail
              go_region_held3 (fun w' => w'.cell? ⟨b2, o2 + s, none⟩ = some (.int .u8 p) ∧ w'.cell? ⟨w1.heap.size, 0, none⟩ = some (.int .i64 n)) (go_keep) (fail)
              clear hz hw2 htm hwp
              have hm8' := hm8
              have hml8 := hm8.lt
              have hi4 : (i : Int) / 2 < n := by omega
              go_wp2_with fail
              refine (rl_new n 2 100 100 200 4 1000 ((i : Int) / 2) ((i : Int) % 2) _).mono ?_
              rintro e w10 ⟨rb, rfl, ho10, k10⟩
              have h10 := (hm8.drew).keeps k10 (by simp) (by simp)
              have X10 := k10.mono (S' := [m, c]) (by simp)
              go_wp2_with fail
              refine (rl_step (X := [m, c]) hc ho10 (by omega) hi4 (by omega) (by omega) h10 (by omega) (by omega) (by have := hml8; simp at *; omega) (by have := hml8; simp at *; omega) (by simp) X10).mono ?_
              rintro e w11 ⟨rfl, h11, X11⟩
              rw [show (8 : Int) + (i : Int) / 2 * 2 + (i : Int) % 2 = 8 + (i : Int) by omega] at h11
              have KE := ((hkr.trans k8 (by simp)).drew).trans X11 (by simp)
              go_wp2_with fail
              exact ⟨⟨s + 1, q + 2 * n + 2, ell, memSet L (8 + (i : Int)) ⟨0, ⟨#[]⟩, 0⟩, by omega, by go_num, rfl, by omega, RR.release hr i hi2 h11 (by omega), by have := Hell.out; omega, by omega, le_release Hell.out hr i, Lib.hid (released hrel.out hi3.out hr.len hi2), Lib.hid (fun hse => finished hrel.out Hell.out hr.pub (by omega) hn1), KE⟩, by simp [intOf]; omega⟩
            · obtain ⟨i, hi, hi2, hi3⟩ : ∃ i : Nat, (s : Int) % (2 * (n : Int)) = i ∧ i < 2 * n ∧ Hid (20 ≤ s → i = s % (2 * n)) := ⟨s % (2 * n), by simp, Nat.mod_lt _ (by omega), Lib.hid (fun _ => rfl)⟩
              go_upto_region 25 with fail
              rw [hi]
              clear hi
              have hm8' := hm8
              have hml8 := hm8.lt
              have hi4 : (i : Int) / 2 < n := by omega
              go_wp2_with fail
              refine (rl_new n 2 100 100 200 4 1000 ((i : Int) / 2) ((i : Int) % 2) _).mono ?_
              rintro e w10 ⟨rb, rfl, ho10, k10⟩
              have h10 := hm8.keeps k10 (by simp) (by simp)
              have X10 := k10.mono (S' := [m, c]) (by simp)
              go_wp2_with fail
              refine (rl_step (X := [m, c]) hc ho10 (by omega) hi4 (by omega) (by omega) h10 (by omega) (by omega) (by have := hml8; simp at *; omega) (by have := hml8; simp at *; omega) (by simp) X10).mono ?_
              rintro e w11 ⟨rfl, h11, X11⟩
              rw [show (8 : Int) + (i : Int) / 2 * 2 + (i : Int) % 2 = 8 + (i : Int) by omega] at h11
              have KE := (hkr.trans k8 (by simp)).trans X11 (by simp)
              go_wp2_with fail
              exact ⟨⟨s + 1, q + 2 * n + 2, ell, memSet L (8 + (i : Int)) ⟨0, ⟨#[]⟩, 0⟩, by omega, by go_num, rfl, by omega, RR.release hr i hi2 h11 (by omega), by have := Hell.out; omega, by omega, le_release Hell.out hr i, Lib.hid (released hrel.out hi3.out hr.len hi2), Lib.hid (fun hse => finished hrel.out Hell.out hr.pub (by omega) hn1), KE⟩, by simp [intOf]; omega⟩
            · obtain ⟨i, hi, hi2, hi3⟩ : ∃ i : Nat, (s : Int) % (2 * (n : Int)) = i ∧ i < 2 * n ∧ Hid (20 ≤ s → i = s % (2 * n)) := ⟨s % (2 * n), by simp, Nat.mod_lt _ (by omega), Lib.hid (fun _ => rfl)⟩
              go_upto_region 25 with fail
              rw [hi]
              clear hi
              have hm8' := hm8
              have hml8 := hm8.lt
              have hi4 : (i : Int) / 2 < n := by omega
              go_wp2_with fail
              refine (rl_new n 2 100 100 200 4 1000 ((i : Int) / 2) ((i : Int) % 2) _).mono ?_
              rintro e w10 ⟨rb, rfl, ho10, k10⟩
              have h10 := hm8.keeps k10 (by simp) (by simp)
              have X10 := k10.mono (S' := [m, c]) (by simp)
              go_wp2_with fail
              refine (rl_step (X := [m, c]) hc ho10 (by omega) hi4 (by omega) (by omega) h10 (by omega) (by omega) (by have := hml8; simp at *; omega) (by have := hml8; simp at *; omega) (by simp) X10).mono ?_
              rintro e w11 ⟨rfl, h11, X11⟩
              rw [show (8 : Int) + (i : Int) / 2 * 2 + (i : Int) % 2 = 8 + (i : Int) by omega] at h11
              have KE := (hkr.trans k8 (by simp)).trans X11 (by simp)
              go_wp2_with fail
              exact ⟨⟨s + 1, q + 2 * n + 2, ell, memSet L (8 + (i : Int)) ⟨0, ⟨#[]⟩, 0⟩, by omega, by go_num, rfl, by omega, RR.release hr i hi2 h11 (by omega), by have := Hell.out; omega, by omega, le_release Hell.out hr i, Lib.hid (released hrel.out hi3.out hr.len hi2), Lib.hid (fun hse => finished hrel.out Hell.out hr.pub (by omega) hn1), KE⟩, by simp [intOf]; omega⟩
          · have hd : decide (k = 2 * n) = false := by simp [hlast]
            go_wp2_with fail
            refine (wmAt_step wo wr wm m c n 2 100 100 200 4 1000 L (2 * n) k _ hc Hn2.out hwr hk hmr (by omega) (by omega) hml6.1 hml6.2 hkq hr.cells).mono ?_
            rintro e w8 ⟨rfl, hw8, hm8, k8⟩
            rw [hd]
            go_wp2_with fail
            exact ⟨⟨k + 1, by omega, by go_num, hw8, by simpa [Int.add_assoc] using hm8, k8⟩, by simp [intOf]; omega⟩
      · obtain rfl : s = 2 * n + 21 := by omega
        have hlt2 := hfin.out rfl
        subst hlt2
        have hbb : ((tm : Int) == (tm : Int)) = true := by simp
        go_wp2_with fail
        go_ret
        exact ⟨rfl, K4.trans hkr (by intro j hj; right; simp at hj; omega)⟩
end Go.Proofs.Ytiodlmmbjjdojaa
