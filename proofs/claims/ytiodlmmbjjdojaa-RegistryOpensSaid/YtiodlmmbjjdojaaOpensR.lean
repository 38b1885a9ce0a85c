/- The walk of RegistryOpens. -/
import Derived.Test.YtiodlmmbjjdojaaSnapRef
namespace Go.Proofs.Ytiodlmmbjjdojaa
open Go.RowKit
theorem Op0.keeps {w w' : World} {ob lo : Nat} {T S N C R F K : Int} {i : Int} (h : Op0 w ob lo T S N C R F K i) {X : List Nat} (k : Keeps X w w') (hX : ∀ s, s ∈ X → s < lo) : Op0 w' ob lo T S N C R F K i := by
  obtain ⟨nb, lb, pb, h1, h2, ⟨a1, a2, a3, a4⟩, d⟩ := h
  have g : ∀ b, lo ≤ b → b ∉ X := fun b hb hm => by have := hX b hm; omega
  exact ⟨nb, lb, pb, k.blk h1 (g _ a1), h2.keeps k (g _ a2) (g _ a3) (g _ a4), ⟨a1, a2, a3, a4⟩, d⟩
theorem Op1.keeps {w w' : World} {ob lo : Nat} {T S N C R F K : Int} {i : Int} (h : Op1 w ob lo T S N C R F K i) {X : List Nat} (k : Keeps X w w') (hX : ∀ s, s ∈ X → s < lo) : Op1 w' ob lo T S N C R F K i := by
  obtain ⟨nb, lb, pb, xb, tb, sb, hb, ⟨h1, h2, h3, h4, h5, h6⟩, ⟨a1, a2, a3, a4, a5, a6, a7, a8⟩, d⟩ := h
  have g : ∀ b, lo ≤ b → b ∉ X := fun b hb hm => by have := hX b hm; omega
  exact ⟨nb, lb, pb, xb, tb, sb, hb, ⟨k.blk h1 (g _ a1), k.blk h2 (g _ a5), k.blk h3 (g _ a6), k.blk h4 (g _ a7), k.blk h5 (g _ a8), h6.keeps k (g _ a2) (g _ a3) (g _ a4)⟩, ⟨a1, a2, a3, a4, a5, a6, a7, a8⟩, d⟩
theorem OpenC.keeps {w w' : World} {ob nb lo : Nat} {nx : Value} {i t : Int} (h : OpenC w ob nb nx i t) (a1 : lo ≤ ob) (a2 : lo ≤ nb) {X : List Nat} (k : Keeps X w w') (hX : ∀ s, s ∈ X → s < lo) : OpenC w' ob nb nx i t := by
  have g : ∀ b, lo ≤ b → b ∉ X := fun b hb hm => by have := hX b hm; omega
  exact ⟨k.blk h.self (g _ a1), k.blk h.now (g _ a2)⟩
theorem Op2.keeps {w w' : World} {ob lo : Nat} {i t : Int} (h : Op2 w ob lo i t) {X : List Nat} (k : Keeps X w w') (hX : ∀ s, s ∈ X → s < lo) : Op2 w' ob lo i t := by
  obtain ⟨nb, h1, a1, a2, d⟩ := h
  exact ⟨nb, h1.keeps a1 a2 k hX, a1, a2, d⟩
theorem Op3.keeps {w w' : World} {ob lo : Nat} {i t : Int} (h : Op3 w ob lo i t) {X : List Nat} (k : Keeps X w w') (hX : ∀ s, s ∈ X → s < lo) : Op3 w' ob lo i t := by
  obtain ⟨nb, h1, a1, a2, d⟩ := h
  exact ⟨nb, h1.keeps a1 a2 k hX, a1, a2, d⟩
theorem flat_setN (N : Int) : ∀ (L : List C3) (i : Nat) (x : C3), L[i]? = some x → (flat L).set (i * 3) (.int .u64 N) = flat (L.set i ⟨N, x.K, x.M⟩)
  | [], i, x, h => by simp at h
  | y :: l, 0, x, h => by
    simp at h
    subst h
    simp [flat]
  | y :: l, i + 1, x, h => by
    have ih := flat_setN N l i x (by simpa using h)
    have e : (i + 1) * 3 = i * 3 + 1 + 1 + 1 := by omega
    rw [e]
    simp only [flat, List.set_cons_succ, ih]
theorem liveIn_one (L : List C3) (p : Nat) (x : Int) (h1 : (memAt L (8 + (p : Int))).N = x) (hx : x ≠ 0) : ∀ E : Nat, (∀ j : Nat, j < E → j ≠ p → (memAt L (8 + (j : Int))).N = 0) → liveIn L E = if p < E then [x - 1] else []
  | 0, _ => by simp [liveIn]
  | E + 1, h0 => by
    rw [liveIn_succ, liveIn_one L p x h1 hx E (fun j hj => h0 j (by omega))]
    by_cases e : E = p
    · subst e
      rw [if_neg (by omega), h1, if_neg hx, if_pos (by omega)]
      rfl
    · rw [h0 E (by omega) e, if_pos rfl, List.append_nil]
      by_cases hl : p < E
      · rw [if_pos hl, if_pos (by omega)]
      · rw [if_neg hl, if_neg (by omega)]
theorem liveIn_none (L : List C3) : ∀ E : Nat, (∀ j : Nat, j < E → (memAt L (8 + (j : Int))).N = 0) → liveIn L E = []
  | 0, _ => by simp [liveIn]
  | E + 1, h0 => by
    rw [liveIn_succ, liveIn_none L E (fun j hj => h0 j (by omega)), h0 E (by omega), if_pos rfl]
    rfl
theorem cells_ext (X L : List C3) (h : X.length = L.length) (hj : ∀ j : Nat, j < L.length → memAt X (j : Int) = memAt L (j : Int)) : X = L := by
  apply List.ext_getElem?
  intro j
  by_cases hl : j < L.length
  · rw [memAt_nat X j (by omega), memAt_nat L j hl, hj j hl]
  · rw [List.getElem?_eq_none (by omega), List.getElem?_eq_none (by omega)]
theorem cfgTS (T S : Nat) (h1 : 1 ≤ T) (h2 : T ≤ 64) (h3 : 1 ≤ S) (h4 : S ≤ 8) : CfgOK (T : Int) S 100 100 200 4 1000 := ⟨by omega, by omega, by omega, by omega, by omega, by omega, by omega, by omega, by omega, by omega, by omega, by omega, by omega, by omega⟩
set_option maxRecDepth 100000 in
set_option maxHeartbeats 4000000 in
theorem registryOpens_any (th sn td jj tv : Int) (a0 : -9223372036854775808 ≤ th) (a1 : th ≤ 9223372036854775807) (b0 : -9223372036854775808 ≤ sn) (b1 : sn ≤ 9223372036854775807)
    (c0 : -9223372036854775808 ≤ td) (c1 : td ≤ 9223372036854775807) (d0 : -9223372036854775808 ≤ jj) (d1 : jj ≤ 9223372036854775807) (t0 : 0 ≤ tv) (t1 : tv ≤ 18446744073709551615)
    (x0 x1 x2 : Nat) (hx0 : x0 ≤ 255) (hx1 : x1 ≤ 255) (hx2 : x2 ≤ 255) (w : World) :
    Calls Try.prog 7 #[.int .i64 th, .int .i64 sn, .int .i64 td, .int .i64 jj, .int .u64 tv, .agg #[.int .u8 x0, .int .u8 x1, .int .u8 x2]] w fun e w' => e = .returned (.bool true) ∧ Keeps [] w w' := by
  obtain ⟨T, hT, hT1, hT5⟩ : ∃ T : Nat, 1 + th % 5 = T ∧ 1 ≤ T ∧ T ≤ 5 := ⟨1 + (th % 5).toNat, by omega, by omega, by omega⟩
  obtain ⟨S, hS, hS1, hS5⟩ : ∃ S : Nat, 1 + sn % 5 = S ∧ 1 ≤ S ∧ S ≤ 5 := ⟨1 + (sn % 5).toNat, by omega, by omega, by omega⟩
  obtain ⟨tm, htm, htm2⟩ : ∃ tm : Nat, tv % 1099511627776 = tm ∧ tm < 1099511627776 := ⟨(tv % 1099511627776).toNat, by omega, by omega⟩
  have hc := cfgTS T S hT1 (by omega) hS1 (by omega)
  have HT := Lib.hid hT
  have HS := Lib.hid hS
  have Htm := Lib.hid htm
  have Ht1 := Lib.hid t1
  have hm0 := Int.emod_nonneg th (show (5 : Int) ≠ 0 by omega)
  have hm1 := Int.emod_lt_of_pos th (show (0 : Int) < 5 by omega)
  have hm2 := Int.emod_nonneg sn (show (5 : Int) ≠ 0 by omega)
  have hm3 := Int.emod_lt_of_pos sn (show (0 : Int) < 5 by omega)
  clear hT hS htm t1
  go_enter Try.func7, Try.ntmps7
  go_wp2_with fail
  refine (mod_any th 5 a0 a1 (by omega) (by omega) _).mono ?_
  rintro e w' ⟨rfl, rfl⟩
  go_wp2_with fail
  rw [HT.out]
  refine (config_kit T 0 (by omega) (by omega) _).mono ?_
  rintro e w1 ⟨rfl, k1⟩
  have hx1b := k1.blk (Blk.new w [.int .u8 x0, .int .u8 x1, .int .u8 x2] 59) (by simp)
  have K1 := ((Keeps.refl [] w).alloc (.cells #[.int .u8 x0, .int .u8 x1, .int .u8 x2] 59)).trans k1 (by simp)
  clear k1
  have hxl := hx1b.lt
  go_wp2_with fail
  refine (mod_any sn 5 b0 b1 (by omega) (by omega) _).mono ?_
  rintro e w' ⟨rfl, rfl⟩
  go_wp2_with fail
  rw [HS.out]
  have hg1 := Blk.new w1 [.int .i64 T, .int .i64 S, .int .i64 100, .int .i64 100, .int .i64 200, .int .i64 4, .int .u64 1000] 25
  have K2 := K1.alloc (.cells #[.int .i64 T, .int .i64 S, .int .i64 100, .int .i64 100, .int .i64 200, .int .i64 4, .int .u64 1000] 25)
  have hx2b := hx1b.alloc (.cells #[.int .i64 T, .int .i64 S, .int .i64 100, .int .i64 100, .int .i64 200, .int .i64 4, .int .u64 1000] 25)
  obtain ⟨n, hn⟩ : ∃ n : Nat, n = 1508 + T * S := ⟨_, rfl⟩
  have hprod : ((T * S : Nat) : Int) = (T : Int) * S := Int.natCast_mul T S
  have hTS : T * S ≤ 25 := Nat.le_trans (Nat.mul_le_mul hT5 hS5) (by omega)
  refine (kitMemory_yes T S 100 100 200 4 1000 hc n (by omega) _).mono ?_
  rintro e w2 ⟨m, c, rfl, hm2, hm, hcc, k2⟩
  have Hprod := Lib.hid hprod
  have HTS := Lib.hid hTS
  have Hnn := Lib.hid hn
  clear hprod hTS hn
  replace hg1 := k2.blk hg1 (by simp)
  replace hx2b := k2.blk hx2b (by simp)
  replace K2 := K2.trans k2 (by simp)
  simp at hm hcc
  have hl2 := (Blk.new w2 [.int .i64 T, .int .i64 S, .int .i64 100, .int .i64 100, .int .i64 200, .int .i64 4, .int .u64 1000] 29)
  have K3 := K2.alloc (.cells #[.int .i64 T, .int .i64 S, .int .i64 100, .int .i64 100, .int .i64 200, .int .i64 4, .int .u64 1000] 29)
  have hm3 := hm2.alloc (.cells #[.int .i64 T, .int .i64 S, .int .i64 100, .int .i64 100, .int .i64 200, .int .i64 4, .int .u64 1000] 29)
  have hg3 := hg1.alloc (.cells #[.int .i64 T, .int .i64 S, .int .i64 100, .int .i64 100, .int .i64 200, .int .i64 4, .int .u64 1000] 29)
  have hx3 := hx2b.alloc (.cells #[.int .i64 T, .int .i64 S, .int .i64 100, .int .i64 100, .int .i64 200, .int .i64 4, .int .u64 1000] 29)
  have hml := hm2.lt
  have hgl := hg1.lt
  have hxl2 := hx2b.lt
  clear hm2 hg1 hx2b K2 k2 K1 hx1b
  go_wp2_with fail
  refine (awake18_any _).mono ?_
  rintro e w4 ⟨rfl, k4⟩
  replace hl2 := k4.blk hl2 (by simp)
  replace hm3 := hm3.keeps k4 (by simp) (by simp)
  replace hg3 := k4.blk hg3 (by simp)
  replace hx3 := k4.blk hx3 (by simp)
  replace K3 := K3.trans k4 (by simp)
  clear k4
  have hg3o := hg3.o7
  have hll := hl2.lt
  have c1' := hg3o.1
  have c2' := hg3o.2.1
  obtain ⟨tt, htt, htt2⟩ : ∃ tt : Nat, td % (T : Int) = tt ∧ tt < T := ⟨(td % (T : Int)).toNat, by have := Int.emod_nonneg td (show (T : Int) ≠ 0 by omega); omega, by have := Int.emod_nonneg td (show (T : Int) ≠ 0 by omega); have := Int.emod_lt_of_pos td (show (0 : Int) < T by omega); omega⟩
  obtain ⟨kk, hkk, hkk2⟩ : ∃ kk : Nat, jj % (S : Int) = kk ∧ kk < S := ⟨(jj % (S : Int)).toNat, by have := Int.emod_nonneg jj (show (S : Int) ≠ 0 by omega); omega, by have := Int.emod_nonneg jj (show (S : Int) ≠ 0 by omega); have := Int.emod_lt_of_pos jj (show (0 : Int) < S by omega); omega⟩
  have Htt := Lib.hid htt
  have Hkk := Lib.hid hkk
  clear htt hkk
  go_wp2_with fail
  go_region_held3 (fun w' => w'.cell? ⟨w1.heap.size, 0, none⟩ = some (.int .i64 T) ∧ w'.cell? ⟨w1.heap.size, 1, none⟩ = some (.int .i64 S)) (go_keep)
    ((go_at_call 9; refine (mod_any _ _ (by omega) (by omega) (by omega) (by omega) _).mono ?_; rintro e w' ⟨rfl, rfl⟩))
  rw [Htt.out, Hkk.out]
  have hm5 := hm3.drew
  have hl5 := hl2.drew
  have hg5 := hg3.drew
  have hx5 := hx3.drew
  have K5 := K3.drew
  obtain ⟨w5, hw5⟩ : ∃ w5, w5 = w4.drew := ⟨_, rfl⟩
  rw [← hw5] at hm5 hl5 hg5 hx5 K5 ⊢
  have hsz5 : w4.heap.size = w5.heap.size := by rw [hw5]; rfl
  clear hw5 hm3 hl2 hg3 hx3 K3 hg3o c1' c2'
  have hg5o := hg5.o7
  have hi1 : (tt : Int) < T := by omega
  have hi2 : (kk : Int) < S := by omega
  go_wp2_with fail
  refine (refSnapshot_any T S 100 100 200 4 1000 hc tt kk (by omega) hi1 (by omega) hi2 _).mono ?_
  rintro e w6 ⟨rfl, k6⟩
  replace hm5 := hm5.keeps k6 (by simp) (by simp)
  replace hl5 := k6.blk hl5 (by simp)
  replace hx5 := k6.blk hx5 (by simp)
  replace K5 := K5.trans k6 (by simp)
  have s6 := k6.size
  clear k6 hg5o hg5
  go_wp2_with fail
  rw [Htm.out]
  obtain ⟨p, hp, hp2⟩ : ∃ p : Nat, (8 : Int) + tt * S + kk = 8 + (p : Int) ∧ p < T * S := ⟨tt * S + kk, by rw [Int.natCast_add, Int.natCast_mul]; omega, by
    have h1 : tt * S + kk < (tt + 1) * S := by rw [Nat.add_mul]; omega
    exact Nat.lt_of_lt_of_le h1 (Nat.mul_le_mul_right S (by omega))⟩
  rw [hp]
  have Hp := Lib.hid hp
  have Hp2 := Lib.hid hp2
  have hTSn := HTS.out
  have hp25 : p < 25 := by omega
  clear hp hp2 hTSn
  obtain ⟨L0, hL0⟩ : ∃ L0, cells0 n (8 + (T : Int) * S + 2) = L0 := ⟨_, rfl⟩
  rw [hL0] at hm5
  have hlen0 : L0.length = n := by rw [← hL0, cells0_length]
  have hn0 := Hnn.out
  have hz0 : memAt L0 (8 + (p : Int)) = C3.zero := by
    rw [← hL0]
    have h1 := Hprod.out
    have h2 := Hp2.out
    exact memAt_cells0 _ _ _ (by omega) (by omega) (by omega)
  have hlive0 : ∀ j : Nat, j < T * S → (memAt L0 (8 + (j : Int))).N = 0 := by
    intro j hj
    rw [← hL0]
    have h1 := Hprod.out
    rw [memAt_cells0 _ _ _ (by omega) (by omega) (by omega)]
    rfl
  have Hlive0 := Lib.hid hlive0
  have HL0 := Lib.hid hL0
  have Hz0 := Lib.hid hz0
  have hn33 : 1508 ≤ L0.length := by omega
  clear hL0 hlive0 hn0 hz0
  refine (kitCells_any _ m c L0 0 hm5).mono ?_
  rintro e w7 ⟨wb, rfl, hwb, hwbs, k7⟩
  replace hm5 := hm5.keeps k7 (by simp) (by simp)
  replace hl5 := k7.blk hl5 (by simp)
  replace hx5 := k7.blk hx5 (by simp)
  replace K5 := K5.trans k7 (by simp)
  have s7 := k7.size
  have hl5o := hl5.o7
  clear k7
  go_wp2_with fail
  refine (op0_new T S 100 100 200 4 1000 hc tt kk (by omega) hi1 (by omega) hi2 _).mono ?_
  rintro e w8 ⟨ob, rfl, ho8, k8⟩
  rw [Hp.out] at ho8
  have hm8 := hm5.keeps k8 (by simp) (by simp)
  have hl8 := k8.blk hl5 (by simp)
  have hx8 := k8.blk hx5 (by simp)
  have hwb8 := k8.blk hwb (by simp)
  have X8 := k8.mono (S' := [m, c]) (by simp)
  have hml7 := hm5.lt
  have hx8o := hx8.o3
  have hwbl := hwb.lt
  clear hl5o
  go_wp2_with fail
  refine wp_loop_rounds 4 ?_
  rw [rounds_succ]
  go_wp2_with fail
  refine (poke_any _ m c _ 0 hm8 2 ((tm : Int) + x0) 0 ⟨#[]⟩).mono ?_
  rintro e w9 ⟨rfl, hm9, k9⟩
  have ho9 := ho8.keeps k9 (by simp; omega)
  have hl9 := k9.blk hl8 (by simp; omega)
  have hx9 := k9.blk hx8 (by simp; omega)
  have hwb9 := k9.blk hwb8 (by simp; omega)
  have X9 := X8.trans k9 (by simp)
  clear ho8 hl8 hx8 hwb8 X8 hm8 hx8o k9
  have hx9o := hx9.o3
  go_wp2_with fail
  refine (op0_marks (wo := w7) ho9).mono ?_
  rintro e w' ⟨rfl, rfl⟩
  go_wp2_with fail
  refine (op0_step (wo := w7) (X := [m, c]) ho9 hm9 (by omega) (by omega) hml7.1 hml7.2 (by simp) X9).mono ?_
  rintro e w8 ⟨rfl, ho8, hm8, X8'⟩
  have hl8 := (X8'.blk (S := [m, c]) (w := w7) hl5 (by simp; omega))
  have hx8 := (X8'.blk (S := [m, c]) (w := w7) hx5 (by simp; omega))
  have hwb8 := (X8'.blk (S := [m, c]) (w := w7) hwb (by simp; omega))
  have X8 := X8'
  clear ho9 hl9 hx9 hwb9 X9 hm9 hx9o X8'
  have hx8o := hx8.o3
  go_wp2_with fail
  refine (accesses_any _ m c _ _ hm8).mono ?_
  rintro e w' ⟨rfl, rfl⟩
  go_wp2_with fail
  refine (peek_any _ m c _ _ hm8 (8 + (p : Int))).mono ?_
  rintro e w9 ⟨rfl, k9⟩
  have ho9 := ho8.keeps k9 (by simp)
  have hl9 := k9.blk hl8 (by simp)
  have hx9 := k9.blk hx8 (by simp)
  have hwb9 := k9.blk hwb8 (by simp)
  have hm9 := hm8.keeps k9 (by simp) (by simp)
  have X9 := X8.trans k9 (by simp)
  clear ho8 hl8 hx8 hwb8 X8 hm8 hx8o k9
  have hx9o := hx9.o3
  rw [memAt_set_same _ _ _ (by omega) (by simp only [memSet_length]; omega)]
  go_wp2_with fail
  rw [rounds_succ]
  have ho8 := ho9
  have hl8 := hl9
  have hx8 := hx9
  have hwb8 := hwb9
  have hm8 := hm9
  have X8 := X9
  have hx8o := hx8.o3
  clear ho9 hl9 hx9 hwb9 X9 hm9 hx9o
  go_wp2_with fail
  refine (poke_any _ m c _ _ hm8 2 ((tm : Int) + x0 + x1) 0 ⟨#[]⟩).mono ?_
  rintro e w9 ⟨rfl, hm9, k9⟩
  have ho9 := ho8.keeps k9 (by simp; omega)
  have hl9 := k9.blk hl8 (by simp; omega)
  have hx9 := k9.blk hx8 (by simp; omega)
  have hwb9 := k9.blk hwb8 (by simp; omega)
  have X9 := X8.trans k9 (by simp)
  clear ho8 hl8 hx8 hwb8 X8 hm8 hx8o k9
  have hx9o := hx9.o3
  go_wp2_with fail
  refine (op1_marks (wo := w7) ho9).mono ?_
  rintro e w' ⟨rfl, rfl⟩
  go_wp2_with fail
  refine (op1_step (wo := w7) (X := [m, c]) ho9 hm9 (by omega) (by omega) hml7.1 hml7.2 (by simp) X9).mono ?_
  rintro e w8 ⟨rfl, ho8, hm8, X8'⟩
  rw [memAt_set_same _ _ _ (by omega) (by simp only [memSet_length]; omega)] at ho8
  have hl8 := (X8'.blk (S := [m, c]) (w := w7) hl5 (by simp; omega))
  have hx8 := (X8'.blk (S := [m, c]) (w := w7) hx5 (by simp; omega))
  have hwb8 := (X8'.blk (S := [m, c]) (w := w7) hwb (by simp; omega))
  have X8 := X8'
  clear ho9 hl9 hx9 hwb9 X9 hm9 hx9o X8'
  have hx8o := hx8.o3
  go_wp2_with fail
  refine (accesses_any _ m c _ _ hm8).mono ?_
  rintro e w' ⟨rfl, rfl⟩
  go_wp2_with fail
  refine (peek_any _ m c _ _ hm8 (8 + (p : Int))).mono ?_
  rintro e w9 ⟨rfl, k9⟩
  have ho9 := ho8.keeps k9 (by simp)
  have hl9 := k9.blk hl8 (by simp)
  have hx9 := k9.blk hx8 (by simp)
  have hwb9 := k9.blk hwb8 (by simp)
  have hm9 := hm8.keeps k9 (by simp) (by simp)
  have X9 := X8.trans k9 (by simp)
  clear ho8 hl8 hx8 hwb8 X8 hm8 hx8o k9
  have hx9o := hx9.o3
  rw [memAt_set_other _ _ _ _ (by omega), memAt_set_same _ _ _ (by omega) (by simp only [memSet_length]; omega)]
  go_wp2_with fail
  rw [rounds_succ]
  have ho8 := ho9
  have hl8 := hl9
  have hx8 := hx9
  have hwb8 := hwb9
  have hm8 := hm9
  have X8 := X9
  have hx8o := hx8.o3
  clear ho9 hl9 hx9 hwb9 X9 hm9 hx9o
  go_wp2_with fail
  refine (poke_any _ m c _ _ hm8 2 ((tm : Int) + x0 + x1 + x2) 0 ⟨#[]⟩).mono ?_
  rintro e w9 ⟨rfl, hm9, k9⟩
  have ho9 := ho8.keeps k9 (by simp; omega)
  have hl9 := k9.blk hl8 (by simp; omega)
  have hx9 := k9.blk hx8 (by simp; omega)
  have hwb9 := k9.blk hwb8 (by simp; omega)
  have X9 := X8.trans k9 (by simp)
  clear ho8 hl8 hx8 hwb8 X8 hm8 hx8o k9
  have hx9o := hx9.o3
  go_wp2_with fail
  refine (op2_marks (wo := w7) ho9).mono ?_
  rintro e w' ⟨rfl, rfl⟩
  go_wp2_with fail
  refine (op2_step (wo := w7) (X := [m, c]) ho9 (by omega) (by omega) hm9 (by omega) (by omega) hml7.1 hml7.2 (by simp) X9).mono ?_
  rintro e w8 ⟨rfl, ho8, hm8, X8'⟩
  have hl8 := (X8'.blk (S := [m, c]) (w := w7) hl5 (by simp; omega))
  have hx8 := (X8'.blk (S := [m, c]) (w := w7) hx5 (by simp; omega))
  have hwb8 := (X8'.blk (S := [m, c]) (w := w7) hwb (by simp; omega))
  have X8 := X8'
  clear ho9 hl9 hx9 hwb9 X9 hm9 hx9o X8'
  have hx8o := hx8.o3
  go_wp2_with fail
  refine (accesses_any _ m c _ _ hm8).mono ?_
  rintro e w' ⟨rfl, rfl⟩
  go_wp2_with fail
  refine (peek_any _ m c _ _ hm8 (8 + (p : Int))).mono ?_
  rintro e w9 ⟨rfl, k9⟩
  have ho9 := ho8.keeps k9 (by simp)
  have hl9 := k9.blk hl8 (by simp)
  have hx9 := k9.blk hx8 (by simp)
  have hwb9 := k9.blk hwb8 (by simp)
  have hm9 := hm8.keeps k9 (by simp) (by simp)
  have X9 := X8.trans k9 (by simp)
  clear ho8 hl8 hx8 hwb8 X8 hm8 hx8o k9
  have hx9o := hx9.o3
  rw [memAt_set_same _ _ _ (by omega) (by simp only [memSet_length]; omega)]
  have hwt : (((tm : Int) + x0 + x1) + 1 != ((tm : Int) + x0 + x1) + 1) = false := by simp
  go_wp2_with fail
  rw [rounds_succ]
  have hl9o := hl9.o7
  go_wp2_with fail
  refine (op3_time (wo := w7) ho9).mono ?_
  rintro e w' ⟨rfl, rfl⟩
  have hwt2 : ((tm : Int) + x0 + x1 != (tm : Int) + x0 + x1) = false := by simp
  go_wp2_with fail
  refine (op3_marks (wo := w7) ho9).mono ?_
  rintro e w' ⟨rfl, rfl⟩
  go_wp2_with fail
  obtain ⟨LF, hLF⟩ : ∃ LF, (memSet (memSet (memSet (memSet (memSet L0 2 ⟨(tm : Int) + x0, ⟨#[]⟩, 0⟩) (8 + (p : Int)) ⟨1, ⟨#[]⟩, 0⟩) 2 ⟨(tm : Int) + x0 + x1, ⟨#[]⟩, 0⟩) 2 ⟨(tm : Int) + x0 + x1 + x2, ⟨#[]⟩, 0⟩) (8 + (p : Int)) ⟨(tm : Int) + x0 + x1 + 1, ⟨#[]⟩, 0⟩) = LF := ⟨_, rfl⟩
  rw [hLF] at hm9
  have hfl : LF.length = L0.length := by rw [← hLF]; simp only [memSet_length]
  have hf1 : (memAt LF (8 + (p : Int))).N = (tm : Int) + x0 + x1 + 1 := by rw [← hLF, memAt_set_same _ _ _ (by omega) (by simp only [memSet_length]; omega)]
  have hf2 : ∀ j : Int, j ≠ 2 → j ≠ 8 + (p : Int) → memAt LF j = memAt L0 j := by
    intro j h1 h2
    rw [← hLF, memAt_set_other _ _ _ _ (Ne.symm h2), memAt_set_other _ _ _ _ (Ne.symm h1), memAt_set_other _ _ _ _ (Ne.symm h1), memAt_set_other _ _ _ _ (Ne.symm h2), memAt_set_other _ _ _ _ (Ne.symm h1)]
  have hf3 : memAt LF 2 = ⟨(tm : Int) + x0 + x1 + x2, ⟨#[]⟩, 0⟩ := by
    rw [← hLF, memAt_set_other _ _ _ _ (by omega), memAt_set_same _ _ _ (by omega) (by simp only [memSet_length]; omega)]
  have hz : ∀ j : Nat, j < T * S → j ≠ p → (memAt LF (8 + (j : Int))).N = 0 := by
    intro j hj hne
    rw [hf2 _ (by omega) (by omega)]
    exact Hlive0.out j hj
  have hlv : isort (liveIn LF (T * S)) = [(tm : Int) + x0 + x1] := by
    rw [liveIn_one LF p _ hf1 (by omega) (T * S) hz, if_pos Hp2.out]
    simp [isort, isortGo, insR]
  have hlv2 : (liveIn LF (T * S)).length ≤ 12 := by rw [← isort_length, hlv]; simp
  have hcl : ∀ i : Nat, i < T * S → 0 ≤ (memAt LF (8 + (i : Int))).N ∧ (memAt LF (8 + (i : Int))).N ≤ 18446744073709551615 := by
    intro j hj
    by_cases e : j = p
    · subst e; rw [hf1]; omega
    · rw [hz j hj e]; omega
  have Hf1 := Lib.hid hf1
  have Hf2 := Lib.hid hf2
  have Hf3 := Lib.hid hf3
  have Hz := Lib.hid hz
  have Hlv := Lib.hid hlv
  have Hcl := Lib.hid hcl
  clear hLF hf1 hf2 hf3 hz hlv hcl
  refine (live_any T S 100 100 200 4 1000 m c LF _ hc _ hm9 (T * S) Hprod.out hlv2 Hcl.out).mono ?_
  rintro e w10 ⟨v, rfl, hv, k10⟩
  rw [Hlv.out] at hv
  rcases hv with ⟨h0, _⟩ | ⟨vb, vcap, vrest, rfl, hvb, hvbs⟩
  · cases h0
  have ho10 := ho9.keeps k10 (by simp)
  have hl10 := k10.blk hl9 (by simp)
  have hwb10 := k10.blk hwb9 (by simp)
  have hm10 := hm9.keeps k10 (by simp) (by simp)
  have X10 := X9.trans k10 (by simp)
  clear ho9 hl9 hx9 hwb9 X9 hm9 hx9o hl9o k10
  go_wp2_with fail
  refine (same64_eq _ vb w10.heap.size vcap 1 [(tm : Int) + x0 + x1] vrest [] (hvb.alloc _) (by simpa [uV] using Blk.new w10 [.int .u64 ((tm : Int) + x0 + x1)] 22) (by simp)).mono ?_
  rintro e w11 ⟨rfl, k11⟩
  have K11 := ((Keeps.refl [] w10).alloc (.cells #[.int .u64 ((tm : Int) + x0 + x1)] 22)).trans k11 (by simp)
  have hl11 := K11.blk hl10 (by simp)
  have hwb11 := K11.blk hwb10 (by simp)
  have hm11 := hm10.keeps K11 (by simp) (by simp)
  have X11 := X10.trans K11 (by simp)
  have hl11o := hl11.o7
  clear hl10 hwb10 hm10 X10 k11 K11
  go_wp2_with fail
  refine (rl_new T S 100 100 200 4 1000 (tt : Int) (kk : Int) _).mono ?_
  rintro e w12 ⟨rb, rfl, hr12, k12⟩
  have hl12 := k12.blk hl11 (by simp)
  have hwb12 := k12.blk hwb11 (by simp)
  have hm12 := hm11.keeps k12 (by simp) (by simp)
  have X12 := X11.trans k12 (by simp)
  have hml11 := hm11.lt
  have hwbl11 := hwb11.lt
  have hl11l := hl11.lt
  clear hl11o
  have hx2' : L0[2]? = some (memAt L0 2) := memAt_nat L0 2 (by omega)
  obtain ⟨q0, q1, q2⟩ := flat_cells (r := []) (by rw [List.append_nil]; exact hwb12) 2 _ hx2'
  have hq2 : memAt L0 2 = C3.zero := by
    rw [← HL0.out]
    have h1 := Hprod.out
    exact memAt_cells0 _ _ _ (by omega) (by omega) (by omega)
  simp only [Nat.reduceMul] at q0
  have qf := hwb12.frozen
  have hn3 : 3 ≤ n := by have := Hnn.out; omega
  clear q1 q2
  have hfs := flat_setN ((tm : Int) + x0 + x1 + x2) L0 2 _ hx2'
  rw [hq2] at hfs
  have Hfs := Lib.hid hfs
  have Hx2' := Lib.hid hx2'
  have Hq2 := Lib.hid hq2
  clear hfs hx2' hq2
  go_wp2_with fail
  have hwb13 : Blk (w12.setCell ⟨wb, 6, none⟩ (.int .u64 ((tm : Int) + x0 + x1 + x2))) wb (flat (L0.set 2 ⟨(tm : Int) + x0 + x1 + x2, ⟨#[]⟩, 0⟩)) := by
    have h := hwb12.set 6 (.int .u64 ((tm : Int) + x0 + x1 + x2))
    have e := Hfs.out
    simp only [Nat.reduceMul] at e
    rw [e] at h
    exact h
  have hr13 : Rl (w12.setCell ⟨wb, 6, none⟩ (.int .u64 ((tm : Int) + x0 + x1 + x2))) rb w11.heap.size T S 100 100 200 4 1000 tt kk := by
    obtain ⟨lb, tb, jb, ⟨g1, g2, g3, g4⟩, e1, e2, e3, e4, e5⟩ := hr12
    exact ⟨lb, tb, jb, ⟨g1.other _ _ (by simp; omega), g2.other _ _ (by simp; omega), g3.other _ _ (by simp; omega), g4.other _ _ (by simp; omega)⟩, e1, e2, e3, e4, e5⟩
  have hm13 := hm12.other ⟨wb, 6, none⟩ (.int .u64 ((tm : Int) + x0 + x1 + x2)) (by simp; omega) (by simp; omega)
  have hl13 := hl12.other ⟨wb, 6, none⟩ (.int .u64 ((tm : Int) + x0 + x1 + x2)) (by simp; omega)
  obtain ⟨lb, tb, jb, hreg, e1, e2, e3, e4, e5⟩ := hr13
  have X13 := Keeps.setCell (S := [m, c, wb]) (X12.mono (by simp)) ⟨wb, 6, none⟩ (.int .u64 ((tm : Int) + x0 + x1 + x2)) (.inl (by simp))
  refine (regRelStep _ rb lb tb jb m c LF _ tt kk T S 100 100 200 4 1000 hc hreg (by omega) hi1 (by omega) hi2 hm13 (by omega) (by omega) (by omega)).mono ?_
  rintro e w14 ⟨rfl, hm14, k14⟩
  rw [Hp.out] at hm14
  have hwb14 := k14.blk hwb13 (by simp; omega)
  have hl14 := k14.blk hl13 (by simp; omega)
  have s11 := X11.size
  have X14 := X13.trans k14 (by intro j hj; simp at hj ⊢; omega)
  go_wp2_with fail
  refine (accesses_any _ m c _ _ hm14).mono ?_
  rintro e w' ⟨rfl, rfl⟩
  go_wp2_with fail
  refine (kitCells_any _ m c _ _ hm14).mono ?_
  rintro e w15 ⟨nb, rfl, hnb, hnbs, k15⟩
  have hfin : memSet LF (8 + (p : Int)) ⟨0, ⟨#[]⟩, 0⟩ = L0.set 2 ⟨(tm : Int) + x0 + x1 + x2, ⟨#[]⟩, 0⟩ := by
    rw [← memSet_nat]
    refine cells_ext _ _ (by simp only [memSet_length]; exact hfl) (fun j hj => ?_)
    by_cases e2 : (j : Int) = 2
    · rw [e2, memAt_set_other _ _ _ _ (by omega), Hf3.out]
      exact (memAt_set_same L0 2 _ (by omega) (by omega)).symm
    · by_cases e8 : (j : Int) = 8 + (p : Int)
      · rw [e8, memAt_set_same _ _ _ (by omega) (by omega)]
        rw [memAt_set_other L0 _ _ _ (by omega), Hz0.out]
        rfl
      · rw [memAt_set_other _ _ _ _ (Ne.symm e8), Hf2.out _ e2 e8]
        exact (memAt_set_other L0 _ _ _ (Ne.symm e2)).symm
  have hlen15 : (memSet LF (8 + (p : Int)) ⟨0, ⟨#[]⟩, 0⟩).length = n := by rw [memSet_length, hfl, hlen0]
  have hl15 := k15.blk hl14 (by simp)
  have hwb15 := k15.blk hwb14 (by simp)
  have hm15 := hm14.keeps k15 (by simp) (by simp)
  have X15 := X14.trans k15 (by simp)
  have hln : (L0.set 2 ⟨(tm : Int) + x0 + x1 + x2, ⟨#[]⟩, 0⟩).length = n := by rw [List.length_set, hlen0]
  have hsm := same_cells w15 nb wb n n (L0.set 2 ⟨(tm : Int) + x0 + x1 + x2, ⟨#[]⟩, 0⟩) [] [] (by rw [List.append_nil, ← hfin]; exact hnb) (by rw [List.append_nil]; exact hwb15) (by rw [hln]; have h1 := Hnn.out; have h2 := HTS.out; omega)
  rw [hln] at hsm
  have Hsm := Lib.hid hsm
  have Hfin := Lib.hid hfin
  rw [hlen15]
  clear hsm hfin hlen15 hln hnb hwb14 hl14 hm14 hm13 hl13 hwb13 hwb12 hm12 hl12
  go_wp2_with fail
  refine Hsm.out.mono ?_
  rintro e w16 ⟨rfl, k16⟩
  have hl16 := k16.blk hl15 (by simp)
  have hm16 := hm15.keeps k16 (by simp) (by simp)
  have X16 := X15.trans k16 (by simp)
  have hl16o := hl16.o7
  have hzf : ∀ j : Nat, j < T * S → (memAt (memSet LF (8 + (p : Int)) ⟨0, ⟨#[]⟩, 0⟩) (8 + (j : Int))).N = 0 := by
    intro j hj
    by_cases e : j = p
    · subst e
      rw [memAt_set_same _ _ _ (by omega) (by omega)]
    · rw [memAt_set_other _ _ _ _ (by omega)]
      exact Hz.out j hj e
  have hln := liveIn_none _ _ hzf
  have Hzf := Lib.hid hzf
  have Hln := Lib.hid hln
  clear hzf hln
  go_wp2_with fail
  refine (live_any T S 100 100 200 4 1000 m c _ _ hc _ hm16 (T * S) Hprod.out (by rw [Hln.out]; simp) (fun j hj => by rw [Hzf.out j hj]; omega)).mono ?_
  rintro e w17 ⟨v, rfl, hv, k17⟩
  rw [Hln.out] at hv
  have X17 := X16.trans k17 (by simp)
  have KE := K5.trans X17 (by intro j hj; right; simp at hj; omega)
  rcases hv with ⟨_, rfl⟩ | ⟨b', cap', rest', rfl, _, _⟩
  · go_wp2_with fail
    go_ret
    exact ⟨rfl, KE⟩
  · go_wp2_with fail
    go_ret
    exact ⟨rfl, KE⟩
end Go.Proofs.Ytiodlmmbjjdojaa
