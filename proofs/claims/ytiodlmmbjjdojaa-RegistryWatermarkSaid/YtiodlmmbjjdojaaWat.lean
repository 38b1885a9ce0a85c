/- RegistryWatermark: the walk. -/
import Derived.Test.YtiodlmmbjjdojaaWatP
import Derived.Test.YtiodlmmbjjdojaaRowU
import Derived.Test.YtiodlmmbjjdojaaLv
import Derived.Test.YtiodlmmbjjdojaaAwake18
import Derived.Test.YtiodlmmbjjdojaaKit
import Derived.Test.YtiodlmmbjjdojaaSame
import Derived.Test.YtiodlmmbjjdojaaFrame
namespace Go.Proofs.Ytiodlmmbjjdojaa
open Go.RowKit
set_option linter.unusedVariables false
set_option linter.unusedSimpArgs false
set_option maxRecDepth 100000
set_option maxHeartbeats 4000000
open Go.ChangeShapes Go.WideShapes Go.ChangeAt in
theorem open_u64s {H : Type} {enc : TypeId × Value → H} {P : Program} {w : World} {r : Reach} {b0 : Nat} {t e : TypeId} {v : Value} {d : DataW H} {p : List MemPlace}
    (ht : P.underlying t = some (.slice e)) (he : P.underlying e = some (.int .u64)) (hc : P.cellsOf e = 1)
    (hv : Value.okWide P w r b0 t v) (h : DataW.Trod enc P w 0 (fun _ => true) true t v d p) :
    ∃ (A : Option Addr) (cap b o : Nat) (xs : List Nat), v = .slice A xs.length cap ∧ (0 < xs.length → A = some ⟨b, o, none⟩) ∧ Arr w b o (xs.map vU64) ∧ xs.length ≤ 9223372036854775807 ∧ ∀ x, x ∈ xs → x ≤ 18446744073709551615 := by
  obtain ⟨a0, len, cap, rfl⟩ := okWide_slice ht hv
  obtain ⟨fuel, hf⟩ := h
  rcases open_ints ht he hc hf with ⟨hcs, hx⟩ | ⟨a, len', cap', zs, hcs, _, hl, hm, hz, hx, hcell, hwz⟩
  · simp [Value.cells] at hcs
    obtain ⟨rfl, rfl, rfl⟩ := hcs
    exact ⟨none, 0, 0, 0, [], rfl, fun h => by simp at h, ⟨fun i hi => absurd hi (Nat.not_lt_zero i), fun h => absurd h (Nat.lt_irrefl 0)⟩, Nat.zero_le _, by simp⟩
  · simp [Value.cells] at hcs
    obtain ⟨rfl, rfl, rfl⟩ := hcs
    simp only [if_true] at hz
    have hlen : ((zs.take len).map Int.toNat).length = len := by simp; omega
    have hmap : ((zs.take len).map Int.toNat).map vU64 = (zs.take len).map (fun z => Value.int .u64 z) := by
      rw [List.map_map]
      refine List.map_congr_left fun z hz' => ?_
      have := bounds_u64 (hwz z (List.mem_of_mem_take hz'))
      simp only [Function.comp_apply, vU64]
      rw [show ((z.toNat : Nat) : Int) = z by omega]
    unfold maxLen at hm
    by_cases h0 : 0 < len
    · obtain ⟨b, off, rfl, hcc⟩ := ints_at hcell (by omega)
      refine ⟨_, cap, b, off, (zs.take len).map Int.toNat, by rw [hlen], fun _ => rfl, ?_, by omega, ?_⟩
      · rw [hmap]
        refine ⟨fun i hi => ?_, fun _ => World.block_lt_of_cell? (w := w) (a := ⟨b, off + 0, none⟩) (hcc 0 (by omega))⟩
        have hi' : i < len := by simp at hi; omega
        rw [hcc i (by omega)]
        simp [hi', show i < zs.length by omega]
      · intro x hx
        simp only [List.mem_map] at hx
        obtain ⟨z, hz', rfl⟩ := hx
        have := bounds_u64 (hwz z (List.mem_of_mem_take hz'))
        omega
    · obtain rfl : len = 0 := by omega
      exact ⟨a, cap, 0, 0, [], rfl, fun h => by simp at h, ⟨fun i hi => absurd hi (Nat.not_lt_zero i), fun h => absurd h (Nat.lt_irrefl 0)⟩, by simp, by simp⟩
def fX (xs : List Nat) (j : Nat) : Int := ((xs.getD j 0 : Nat) : Int)
theorem w8k (k : Nat) (h : k < 25) : wrap64 (8 + (k : Int)) = 8 + (k : Int) := w64w _ (by omega) (by omega)
theorem swp_comm (d : Array Int) (i j : Nat) (h : i ≠ j) : Go.Sort.swp d i j = Go.Sort.swp d j i := by
  unfold Go.Sort.swp
  rw [Array.setIfInBounds_comm _ _ h]
theorem same64_zero (A B : Option Addr) (c1 c2 : Nat) (w : World) :
    Calls Try.prog 19 #[.slice A 0 c1, .slice B 0 c2] w fun e w' => e = .returned (.bool true) ∧ Keeps [] w w' := by
  go_enter Try.func19, Try.ntmps19
  go_wp2_with fail
  go_loopw [5] (fun i wr => i = .int .i64 0 ∧ wr = w) (fun _ _ => 0)
  case atStart => exact ⟨rfl, rfl⟩
  case round =>
    obtain ⟨rfl, rfl⟩ := hrel
    go_wp2_with fail
    go_ret
    exact ⟨rfl, Keeps.refl _ _⟩
theorem fX_bd (xs : List Nat) (h : ∀ x, x ∈ xs → x ≤ 18446744073709551615) (j : Nat) : 0 ≤ fX xs j ∧ fX xs j ≤ 18446744073709551615 := by
  by_cases hj : j < xs.length
  · have h9 := h xs[j] (List.getElem_mem hj)
    unfold fX
    rw [List.getD_eq_getElem?_getD, List.getElem?_eq_getElem hj]
    exact ⟨Int.natCast_nonneg _, by simp; omega⟩
  · unfold fX
    rw [List.getD_eq_getElem?_getD, List.getElem?_eq_none (by omega)]
    exact ⟨Int.natCast_nonneg _, by simp⟩
theorem stp (j E : Nat) (hE : E ≤ 25) (hj : j ≤ E) : j ≤ 25 ∧ decide ((j : Int) + 1 < 100) = true ∧ wrap64 ((j : Int) + 1) = (j : Int) + 1 ∧ wrap64 ((j : Int) + 1 + 1) = (j : Int) + 1 + 1 ∧ IntKind.u64.wrap ((j : Int) + 1) = (j : Int) + 1 ∧ (0 : Int) ≤ (j : Int) ∧ (j : Int) ≤ 4611686018427387904 ∧ (j : Int) + 1 < 100 :=
  ⟨by omega, decide_eq_true (by omega), w64w _ (by omega) (by omega), w64w _ (by omega) (by omega), by rw [IntKind.wrap_u64]; omega, by omega, by omega, by omega⟩
theorem stp2 {j E : Nat} (hE : E ≤ 25) (h1 : j ≤ E) (h2 : ¬ j = E) : j + 1 ≤ E ∧ 100 - (j + 1 + 1) < 100 - (j + 1) := by omega
theorem same_live (w : World) (base : Nat) (v V : Value) (ys : List Int) (d : Array Int) (hv : Rd w base v ys) (hrow : Row w V d.size 1 (d.toList.map uV)) (hd : d.toList = ys) (hlen : ys.length ≤ 1048577) :
    Calls Try.prog 19 #[v, V] w fun e w' => e = .returned (.bool true) ∧ Keeps [] w w' := by
  have hds : d.size = ys.length := by rw [← hd, Array.length_toList]
  rcases hv with ⟨rfl, rfl⟩ | ⟨b, cap, rest, rfl, hb, _⟩
  · obtain ⟨A, C, rfl⟩ := hrow.len
    rw [hds]
    exact same64_zero none A 0 C w
  · obtain ⟨_, ⟨rfl, h0⟩ | ⟨g, cap', rest', rfl, hg, _⟩⟩ := hrow
    · rw [hds] at h0
      rw [h0]
      exact same64_zero (some ⟨b, 0, none⟩) none cap 0 w
    · rw [hd] at hg
      rw [hds]
      exact same64_eq w b g cap cap' ys rest rest' hb hg hlen
theorem inn (m' n1 : Nat) (h4 : n1 ≤ 25) (h : m' + 1 ≤ n1) : (0 : Int) ≤ (m' : Int) ∧ (m' : Int) < (n1 : Int) + 1 ∧ (0 : Int) ≤ (m' : Int) + 1 ∧ (m' : Int) + 1 < (n1 : Int) + 1 ∧ decide ((m' : Int) + 1 > 0) = true ∧ wrap64 (m' : Int) = (m' : Int) ∧ IntKind.i64.wrap (m' : Int) = (m' : Int) :=
  ⟨by omega, by omega, by omega, by omega, decide_eq_true (by omega), w64w _ (by omega) (by omega), i64w _ (by omega) (by omega)⟩
theorem inn2 {m' n1 z : Nat} (h : m' + 1 ≤ n1 ∧ z = n1 + 1) : m' < z := by omega
theorem inn3 {m' n1 z : Nat} (h : m' + 1 ≤ n1 ∧ z = n1 + 1) : m' + 1 < z := by omega
theorem inn4 {m' n1 : Nat} (h : m' + 1 ≤ n1) : m' ≤ n1 := by omega
theorem meas {k E : Nat} (h : k < E) : E - (k + 1) < E - k := by omega
theorem w8k2 (E : Nat) (h : E ≤ 25) : wrap64 (8 + (E : Int)) = 8 + (E : Int) := w64w _ (by omega) (by omega)
theorem zero_bd : (0 : Int) ≤ 0 ∧ (0 : Int) ≤ 18446744073709551615 := ⟨by omega, by omega⟩
theorem w8k3 (E : Nat) (h : E ≤ 25) : 1508 + E ≤ 1048577 := by omega
theorem fX_at (xs : List Nat) (k : Nat) (h : k < xs.length) : fX xs k = ((xs[k] : Nat) : Int) := by
  unfold fX
  rw [List.getD_eq_getElem?_getD, List.getElem?_eq_getElem h]
  rfl
theorem fX_out (xs : List Nat) (k : Nat) (h : xs.length ≤ k) : fX xs k = 0 := by
  unfold fX
  rw [List.getD_eq_getElem?_getD, List.getElem?_eq_none h]
  rfl
def I64 (x : Int) : Prop := -9223372036854775808 ≤ x ∧ x ≤ 9223372036854775807
theorem wat_any (th sn tv : Int) (hth : I64 th) (hsn : I64 sn) (htv : 0 ≤ tv ∧ tv ≤ 18446744073709551615) (A : Option Addr) (cap b o : Nat) (xs : List Nat) (w : World)
    (hA : 0 < xs.length → A = some ⟨b, o, none⟩) (hx : Arr w b o (xs.map vU64)) (hlen : xs.length ≤ 9223372036854775807) (hxs : ∀ x, x ∈ xs → x ≤ 18446744073709551615) :
    Calls Try.prog 3 #[.int .i64 th, .int .i64 sn, .int .u64 tv, .slice A xs.length cap] w fun q w' => q = .returned (.bool true) ∧ Keeps [] w w' := by
  have HA := Lib.hid (And.intro hA (And.intro hx (And.intro hlen hxs)))
  have Ht := Lib.hid (And.intro hth hsn)
  have Htv := Lib.hid htv
  clear hA hx hlen hxs hth hsn htv
  obtain ⟨a, ha⟩ : ∃ a, th % 5 = a := ⟨_, rfl⟩
  obtain ⟨s, hs⟩ : ∃ s, sn % 5 = s := ⟨_, rfl⟩
  have Hab : Hid ((0 ≤ a ∧ a ≤ 4) ∧ 0 ≤ s ∧ s ≤ 4) := Lib.hid (by omega)
  have Ha := Lib.hid ha
  have Hs := Lib.hid hs
  clear ha hs
  have hwa : wrap64 (1 + a) = 1 + a := IntWalk.wrap64_in _ ⟨by have := Hab.out; omega, by have := Hab.out; omega⟩
  have hwb : wrap64 (1 + s) = 1 + s := IntWalk.wrap64_in _ ⟨by have := Hab.out; omega, by have := Hab.out; omega⟩
  have HC : Hid (CfgOK (1 + a) (1 + s) 100 100 200 4 1000) := Lib.hid ⟨by have := Hab.out; omega, by have := Hab.out; omega, by have := Hab.out; omega, by have := Hab.out; omega, by omega, by omega, by omega, by omega, by omega, by omega, by omega, by omega, by omega, by omega⟩
  obtain ⟨E, hE⟩ : ∃ E : Nat, (E : Int) = (1 + a) * (1 + s) := ⟨((1 + a) * (1 + s)).toNat, by
    have := Hab.out
    have := Int.mul_nonneg (show 0 ≤ 1 + a by omega) (show 0 ≤ 1 + s by omega)
    omega⟩
  have hE25 : 1 ≤ E ∧ E ≤ 25 := by
    have h0 := Hab.out
    obtain ⟨m1, m2⟩ := prod_bounds (a := 1 + a) (b := 1 + s) (A := 5) (B := 5) (by omega) (by omega) (by omega) (by omega)
    have h3 := Int.mul_pos (show 0 < 1 + a by omega) (show 0 < 1 + s by omega)
    omega
  have HE := Lib.hid (And.intro hE hE25)
  clear hE hE25
  go_enter Try.func3, Try.ntmps3
  go_wp2_with fail
  refine (mod_any th 5 Ht.out.1.1 Ht.out.1.2 (by omega) (by omega) _).mono ?_
  rintro q w1 ⟨rfl, rfl⟩
  rw [Ha.out]
  go_wp2_with fail
  refine (config_kit (1 + a) 0 (by omega) (by omega) _).mono ?_
  rintro q w1 ⟨rfl, K1⟩
  rw [show (4 : Int) + 0 % 3 = 4 from rfl]
  have kC := (Keeps.refl [] w1).alloc (.cells #[.int .i64 (1 + a), .int .i64 2, .int .i64 100, .int .i64 100, .int .i64 200, .int .i64 4, .int .u64 1000] 25)
  have bC := Blk.new w1 [.int .i64 (1 + a), .int .i64 2, .int .i64 100, .int .i64 100, .int .i64 200, .int .i64 4, .int .u64 1000] 25
  go_upto_region 2 with fail
  obtain ⟨W2, hW2⟩ : ∃ W2, w1.alloc (.cells #[.int .i64 (1 + a), .int .i64 2, .int .i64 100, .int .i64 100, .int .i64 200, .int .i64 4, .int .u64 1000] 25) = W2 := ⟨_, rfl⟩
  obtain ⟨gC, hgC⟩ : ∃ gC, w1.heap.size = gC := ⟨_, rfl⟩
  rw [hW2] at kC bC ⊢
  rw [hgC] at bC ⊢
  have K2 := K1.trans kC (by simp)
  have HGC : Hid (w.heap.size ≤ gC) := Lib.hid (by have := K1.size; omega)
  clear hW2 hgC kC K1
  go_wp2_with fail
  refine (mod_any sn 5 Ht.out.2.1 Ht.out.2.2 (by omega) (by omega) _).mono ?_
  rintro q w3 ⟨rfl, rfl⟩
  rw [Hs.out]
  obtain ⟨x0, x1, x2, x3, x4, x5, x6, xf, xl⟩ := bC.o7
  have kD := (Keeps.refl [gC] W2).setCell ⟨gC, 1, none⟩ (.int .i64 (1 + s)) (.inl (by simp))
  have bD := bC.set 1 (.int .i64 (1 + s))
  simp only [List.set_cons_zero, List.set_cons_succ] at bD
  go_upto_region 3 with fail
  obtain ⟨W3, hW3⟩ : ∃ W3, W2.setCell ⟨gC, 1, none⟩ (.int .i64 (1 + s)) = W3 := ⟨_, rfl⟩
  rw [hW3] at kD bD ⊢
  have K3 : Keeps [] w W3 := K2.trans kD (by have := HGC.out; simp; omega)
  clear hW3 kD K2 bC x0 x1 x2 x3 x4 x5 x6 xf xl
  obtain ⟨x0, x1, x2, x3, x4, x5, x6, xf, xl⟩ := bD.o7
  obtain ⟨N, hN⟩ : ∃ N : Nat, 8 + (1 + a) * (1 + s) + 100 * (4 + 4) + 100 + 3 * 200 = N := ⟨1508 + E, by have := HE.out.1; omega⟩
  have HN : Hid (N = 1508 + E) := Lib.hid (by have := HE.out.1; omega)
  have hmq := kitMemory_yes (1 + a) (1 + s) 100 100 200 4 1000 HC.out N hN
  clear hN
  go_wp2_with fail
  refine (hmq _).mono ?_
  rintro q w4 ⟨mb, mc, rfl, hm, hmb, hmc, k4⟩
  clear hmq x0 x1 x2 x3 x4 x5 x6 xf xl
  have bC4 := k4.blk bD (by simp)
  have K4 := K3.trans k4 (by simp)
  have HMM : Hid (w.heap.size ≤ mb ∧ w.heap.size ≤ mc ∧ gC ≠ mb ∧ gC ≠ mc) := Lib.hid (by have := K3.size; have := bD.lt; omega)
  clear bD K3 k4 hmb hmc
  have kL := (Keeps.refl [] w4).alloc (.cells #[.int .i64 (1 + a), .int .i64 (1 + s), .int .i64 100, .int .i64 100, .int .i64 200, .int .i64 4, .int .u64 1000] 29)
  have bL := Blk.new w4 [.int .i64 (1 + a), .int .i64 (1 + s), .int .i64 100, .int .i64 100, .int .i64 200, .int .i64 4, .int .u64 1000] 29
  go_upto_region 4 with fail
  obtain ⟨W5, hW5⟩ : ∃ W5, w4.alloc (.cells #[.int .i64 (1 + a), .int .i64 (1 + s), .int .i64 100, .int .i64 100, .int .i64 200, .int .i64 4, .int .u64 1000] 29) = W5 := ⟨_, rfl⟩
  obtain ⟨gL, hgL⟩ : ∃ gL, w4.heap.size = gL := ⟨_, rfl⟩
  have HGL : Hid (gL ≠ mb ∧ gL ≠ mc ∧ w.heap.size ≤ gL ∧ gC ≠ gL) := Lib.hid (by have := hm.lt; have := K4.size; have := bC4.lt; omega)
  rw [hW5] at kL bL ⊢
  rw [hgL] at bL ⊢
  have bC5 := kL.blk bC4 (by simp)
  have hm5 := hm.keeps kL (by simp) (by simp)
  have K5 := K4.trans kL (by simp)
  clear hW5 hgL kL bC4 K4 hm
  go_wp2_with fail
  refine (awake18_any _).mono ?_
  rintro q w6 ⟨rfl, k6⟩
  have bC6 := k6.blk bC5 (by simp)
  have bL6 := k6.blk bL (by simp)
  have hm6 := hm5.keeps k6 (by simp) (by simp)
  have K6 := K5.trans k6 (by simp)
  clear bC5 bL K5 k6 hm5
  go_wp2_with fail
  refine (poke_any _ mb mc _ 0 hm6 2 tv 0 ⟨#[]⟩).mono ?_
  rintro q w7 ⟨rfl, hm7, k7⟩
  have bC7 := k7.blk bC6 (by have := HMM.out; simp; omega)
  have bL7 := k7.blk bL6 (by have := HGL.out; simp; omega)
  have K7 : Keeps [] w w7 := K6.trans k7 (by have := HMM.out; simp; omega)
  clear bC6 bL6 hm6 K6 k7
  go_wp2_with fail
  have hL0 : Hid ((memSet (cells0 N (8 + (1 + a) * (1 + s) + 2)) 2 ⟨tv, ⟨#[]⟩, 0⟩).length = N ∧ (memAt (memSet (cells0 N (8 + (1 + a) * (1 + s) + 2)) 2 ⟨tv, ⟨#[]⟩, 0⟩) 2).N = tv ∧ ∀ j : Nat, j < E → (memAt (memSet (cells0 N (8 + (1 + a) * (1 + s) + 2)) 2 ⟨tv, ⟨#[]⟩, 0⟩) (8 + (j : Int))).N = 0) := by
    have h1 := HE.out
    have h2 := HN.out
    refine Lib.hid ⟨by rw [memSet_length, cells0_length], ?_, fun j hj => ?_⟩
    · rw [memAt_set_same _ _ _ (by omega) (by rw [cells0_length]; omega)]
    · rw [memAt_set_other _ _ _ _ (by omega), memAt_cells0 _ _ _ (by omega) (by omega) (by omega)]
      rfl
  obtain ⟨L0, hL0e⟩ : ∃ L0, memSet (cells0 N (8 + (1 + a) * (1 + s) + 2)) 2 ⟨tv, ⟨#[]⟩, 0⟩ = L0 := ⟨_, rfl⟩
  rw [hL0e] at hm7 hL0
  clear hL0e
  go_loopw [12, 13, 14] (fun s12 s13 s14 wr => ∃ (k : Nat) (L : List C3) (d : Array Int), s12 = .int .u64 (lsF tv (fX xs) k) ∧ s14 = .int .i64 k ∧
    Hid (k ≤ E ∧ k ≤ xs.length ∧ L.length = N ∧ (memAt L 2).N = tv ∧ (∀ j : Nat, j < E → (memAt L (8 + (j : Int))).N = if j < k then fX xs j else 0) ∧ Go.Sort.SortedIn Go.Sort.ltInt 0 d.size d ∧ d.toList.Perm (lvF (fX xs) k) ∧ (d.size = 0 → s13 = .slice none 0 0) ∧ (∀ g, s13.ownBlock = some g → g ≠ mb ∧ g ≠ mc ∧ g ≠ gC ∧ g ≠ gL ∧ w.heap.size ≤ g)) ∧
    Row wr s13 d.size 1 (d.toList.map uV) ∧ MemAt wr mb mc L 0 ∧ Blk wr gC [.int .i64 (1 + a), .int .i64 (1 + s), .int .i64 100, .int .i64 100, .int .i64 200, .int .i64 4, .int .u64 1000] ∧ Blk wr gL [.int .i64 (1 + a), .int .i64 (1 + s), .int .i64 100, .int .i64 100, .int .i64 200, .int .i64 4, .int .u64 1000] ∧ Keeps [] w wr) (fun _ _ s14 _ => E - (intOf s14).toNat)
  case atStart =>
    exact ⟨0, L0, #[], rfl, rfl, Lib.hid ⟨by omega, by omega, hL0.out.1, hL0.out.2.1, fun j hj => by rw [if_neg (by omega)]; exact hL0.out.2.2 j hj, fun i j h1 h2 h3 => by simp at h3, by simp [lvF], fun _ => rfl, fun g hg => by simp [Value.ownBlock] at hg⟩, Row.nil _ _, hm7, bC7, bL7, K7⟩
  case round =>
    obtain ⟨k, L, d, rfl, rfl, hI, hrow, hmr, bCr, bLr, hkr⟩ := hrel
    by_cases hgo : k < xs.length ∧ k < E
    · obtain ⟨hk1, hk2⟩ := hgo
      obtain ⟨i1, i2, i3, i4, i5, i6, i7, i8, i9⟩ := hI.out
      obtain ⟨h1, h2, h3, h4⟩ := HA.out
      have hAe := h1 (by omega)
      have hbw : b < w.heap.size := h2.lt (by simp; omega)
      have hfx := fX_at xs k hk1
      have hxw : w.cell? ⟨b, o + k, none⟩ = some (.int .u64 (fX xs k)) := by
        rw [h2.cells k (by simpa using hk1), List.getElem?_map, List.getElem?_eq_getElem hk1, hfx]
        rfl
      have hxb : 0 ≤ fX xs k ∧ fX xs k ≤ 18446744073709551615 := by
        have h9 := h4 xs[k] (List.getElem_mem hk1)
        rw [hfx]
        exact ⟨Int.natCast_nonneg _, by omega⟩
      clear hfx
      have hbn : Hid (b ≠ mb ∧ b ≠ mc ∧ b ≠ gC ∧ b ≠ gL ∧ b < w.heap.size) := Lib.hid (by have := HMM.out; have := HGL.out; have := HGC.out; omega)
      have hxr := hkr.cellEq hxw (by simp)
      have HR := Lib.hid (And.intro i1 (And.intro i2 (And.intro i3 (And.intro i4 (And.intro i5 (And.intro i6 (And.intro i7 (And.intro i8 (And.intro i9 (And.intro hk1 hk2))))))))))
      have hk25 : k < 25 := by have := HE.out; omega
      have hxw' : ∀ (S : List Nat) (v : World), Keeps S wr v → b ∉ S → v.cell? ⟨b, o + k, none⟩ = some (.int .u64 (fX xs k)) := fun S v hk hn => hk.cellEq hxr hn
      have HXW := Lib.hid (And.intro hxb hbw)
      have hc1 : (k : Int) < (xs.length : Int) := by omega
      have hk0 : (0 : Int) ≤ (k : Int) := by omega
      have hw8 : wrap64 (8 + (k : Int)) = 8 + (k : Int) := w8k k hk25
      have hkE : (8 : Int) + (k : Int) < 8 + (1 + a) * (1 + s) := by rw [← HE.out.1]; exact Int.add_lt_add_left (Int.ofNat_lt.mpr hk2) 8
      have HkE := Lib.hid hkE
      obtain ⟨c0, c1, c2, c3, c4, c5, c6, cf, cl⟩ := bCr.o7
      have hra := refA_any (1 + a) (1 + s) 100 100 200 4 1000 HC.out
      subst hAe
      clear i1 i2 i3 i4 i5 i6 i7 i8 i9 h1 h2 h3 h4 hxw hbw hxb hk1 hk2 hkE hI
      obtain ⟨x, hxx⟩ : ∃ x, fX xs k = x := ⟨_, rfl⟩
      obtain ⟨ls, hls⟩ : ∃ ls, lsF tv (fX xs) k = ls := ⟨_, rfl⟩
      rw [hxx] at hxr HXW hxw'
      rw [hls]
      have Hxx := Lib.hid hxx
      have Hls := Lib.hid hls
      have HX2 := Lib.hid hxw'
      clear hxx hls hxw'
      go_wp2_with fail
      refine (hra _).mono ?_
      rintro q w8 ⟨rfl, k8⟩
      have hE8 : decide ((8 : Int) + (k : Int) < 8 + (1 + a) * (1 + s)) = true := decide_eq_true HkE.out
      have hE9 : (8 : Int) + (k : Int) < 8 + (1 + a) * (1 + s) := HkE.out
      have hm8 := hmr.keeps k8 (by simp) (by simp)
      have bC8 := k8.blk bCr (by simp)
      have bL8 := k8.blk bLr (by simp)
      have hrow8 := hrow.keeps k8 (by simp)
      have K8 := hkr.trans k8 (by simp)
      have hx8 := k8.cellEq hxr (by simp)
      clear c0 c1 c2 c3 c4 c5 c6 cf cl hra hxr hmr bCr bLr hrow hkr
      go_wp2_with fail
      refine (poke_any _ mb mc L 0 hm8 (8 + (k : Int)) x 0 ⟨#[]⟩).mono ?_
      rintro q w9 ⟨rfl, hm9, k9⟩
      have hx9 := k9.cellEq hx8 (by have := hbn.out; simp; omega)
      have bC9 := k9.blk bC8 (by have := HMM.out; simp; omega)
      have bL9 := k9.blk bL8 (by have := HGL.out; simp; omega)
      have hrow9 := hrow8.keeps k9 (by intro g hg; have := HR.out.2.2.2.2.2.2.2.2.1 g hg; simp; omega)
      have K9 : Keeps [] w w9 := K8.trans k9 (by have := HMM.out; simp; omega)
      have HL9 : Hid ((memSet L (8 + (k : Int)) ⟨x, ⟨#[]⟩, 0⟩).length = N ∧ (memAt (memSet L (8 + (k : Int)) ⟨x, ⟨#[]⟩, 0⟩) 2).N = tv ∧ ∀ j : Nat, j < E → (memAt (memSet L (8 + (k : Int)) ⟨x, ⟨#[]⟩, 0⟩) (8 + (j : Int))).N = if j < k + 1 then fX xs j else 0) := by
        have h1 := HR.out
        have h2 := HN.out
        refine Lib.hid ⟨by rw [memSet_length]; exact h1.2.2.1, ?_, fun j hj => ?_⟩
        · rw [memAt_set_other _ _ _ _ (by clear h1; omega)]; exact h1.2.2.2.1
        · by_cases hjk : j = k
          · subst hjk
            rw [memAt_set_same _ _ _ (by clear h1; omega) (by rw [h1.2.2.1]; have := h1.2.2.2.2.2.2.2.2.2.2; clear h1; omega), if_pos (by clear h1; omega)]
            exact Hxx.out.symm
          · rw [memAt_set_other _ _ _ _ (by clear h1; omega), h1.2.2.2.2.1 j hj]
            by_cases hlt : j < k
            · rw [if_pos hlt, if_pos (by clear h1; omega)]
            · rw [if_neg hlt, if_neg (by clear h1; omega)]
      obtain ⟨L', hL'⟩ : ∃ L', memSet L (8 + (k : Int)) ⟨x, ⟨#[]⟩, 0⟩ = L' := ⟨_, rfl⟩
      rw [hL'] at hm9 HL9
      clear hL' hx8 bC8 bL8 hrow8 K8 hm8 k8 k9 hE8 hE9
      by_cases hx0 : x = 0
      · have hxb : (x == 0) = true := by simp [hx0]
        have Hx0 := Lib.hid hx0
        subst hx0
        go_wp2_with fail
        exact ⟨⟨k + 1, L', d, by rw [lsF, Hls.out, Hxx.out]; rfl, by go_num, Lib.hid ⟨by have := HR.out.2.2.2.2.2.2.2.2.2.2; omega, by have := HR.out.2.2.2.2.2.2.2.2.2.1; omega, HL9.out.1, HL9.out.2.1, HL9.out.2.2, HR.out.2.2.2.2.2.1, by rw [lvF_succ, Hxx.out, if_pos rfl, List.append_nil]; exact HR.out.2.2.2.2.2.2.1, HR.out.2.2.2.2.2.2.2.1, HR.out.2.2.2.2.2.2.2.2.1⟩, hrow9, hm9, bC9, bL9, K9⟩, by have := HR.out.2.2.2.2.2.2.2.2.2.2; simp [intOf]; omega⟩
      · have hxb : (x == 0) = false := by simp [hx0]
        have hwx : IntKind.u64.wrap (x - 1) = x - 1 := IntWalk.u64_in _ ⟨by have := HXW.out; omega, by have := HXW.out; omega⟩
        have Hx0 := Lib.hid hx0
        go_upto_region 14 with fail
        go_cut [12] from 70 to 76 (fun s12 wx => s12 = .int .u64 (wmin ls x) ∧ wx = w9)
        case first =>
          have hmn : wmin ls x = min ls (x - 1) := by
            unfold wmin
            rw [if_neg hx0]
            split <;> omega
          have Hmn := Lib.hid hmn
          clear hmn hx0
          go_wp2_with fail
          go_meet
          exact ⟨by rw [Hmn.out], rfl⟩
        case rest =>
        obtain ⟨rfl, rfl⟩ := hcut
        obtain ⟨A5, C5, rfl⟩ := hrow9.len
        obtain ⟨i0, hi, hz0, hz1, hz2⟩ := info_parts info64
        have hnl : Hid (d.size ≤ k) := Lib.hid (by
          have h1 := HR.out.2.2.2.2.2.2.1.length_eq
          rw [Array.length_toList] at h1
          have := lvF_le (fX xs) k
          omega)
        obtain ⟨n1, hn1⟩ : ∃ n1, d.size = n1 := ⟨_, rfl⟩
        rw [hn1] at hrow9 hnl ⊢
        have Hn1 := Lib.hid hn1
        clear hn1 hx0
        have kA := (Keeps.refl [] wc).alloc (.cells #[uV (x - 1)] 22)
        have hrowA := hrow9.keeps kA (by simp)
        have hrun := row_append hrowA 23 23 22 i0 (.int .u64 0) 8 Try.underlying23 hi hz0 hz1 hz2 rfl (by decide) ⟨wc.heap.size, 0, none⟩ 1 1 [uV (x - 1)] rfl (fun j u hj => by
          match j, hj with
          | 0, hj =>
            simp at hj
            subst hj
            exact (Blk.new wc [uV (x - 1)] 22).cell 0) (by simp [uV, Value.oneCell']) (by have := hnl.out; omega) (by decide)
        obtain ⟨v', w', hr, hrow', k', f'⟩ := hrun
        have hr' : ∀ ty, (Builtin.append_ #[23, 23] ty #[.slice A5 n1 C5, .slice (some ⟨wc.heap.size, 0, none⟩) 1 1]).run Try.prog (wc.alloc (.cells #[.int .u64 (x - 1)] 22)) = .ok v' w' := fun ty => by rw [← hr]; rfl
        obtain ⟨hxl, ⟨_, h0⟩ | ⟨g, cap', rest, rfl, hbk, hnc, hcm, hcl⟩⟩ := hrow'
        · exact absurd h0 (by omega)
        have hT : ∀ j, j ∈ (Value.slice A5 n1 C5).ownBlock.toList → j ≠ mb ∧ j ≠ mc ∧ j ≠ gC ∧ j ≠ gL ∧ w.heap.size ≤ j := fun j hj => HR.out.2.2.2.2.2.2.2.2.1 j (by rw [Hn1.out]; simpa using hj)
        have kAW : Keeps (Value.slice A5 n1 C5).ownBlock.toList wc w' := (kA.mono (S' := (Value.slice A5 n1 C5).ownBlock.toList) (by simp)).trans k' (fun j hj => .inl hj)
        have hmW := hm9.keeps kAW (fun h => (hT _ h).1 rfl) (fun h => (hT _ h).2.1 rfl)
        have bCW := kAW.blk bC9 (fun h => (hT _ h).2.2.1 rfl)
        have bLW := kAW.blk bL9 (fun h => (hT _ h).2.2.2.1 rfl)
        have KW : Keeps [] w w' := K9.trans kAW (fun j hj => .inr (hT _ hj).2.2.2.2)
        have Hg : Hid (g ≠ mb ∧ g ≠ mc ∧ g ≠ gC ∧ g ≠ gL ∧ w.heap.size ≤ g) := Lib.hid (by
          rcases f' g rfl with h | h
          · exact hT g (by simpa using h)
          · have h1 := hm9.lt
            have h2 := bC9.lt
            have h3 := bL9.lt
            have h4 := K9.size
            simp at h
            omega)
        obtain ⟨D, hD⟩ : ∃ D, Go.Sort.insInner Go.Sort.ltInt 0 n1 (d.push (x - 1)) = D := ⟨_, rfl⟩
        have hsink := sink d (x - 1) HR.out.2.2.2.2.2.1
        rw [Hn1.out, hD] at hsink
        have HD : Hid (Go.Sort.SortedIn Go.Sort.ltInt 0 (n1 + 1) D ∧ D.size = n1 + 1 ∧ D.toList.Perm (lvF (fX xs) (k + 1))) := Lib.hid ⟨hsink.1, hsink.2.1, by
          rw [lvF_succ, Hxx.out, if_neg Hx0.out]
          refine hsink.2.2.trans ?_
          refine (List.perm_append_singleton (x - 1) d.toList).symm.trans ?_
          exact HR.out.2.2.2.2.2.2.1.append_right [x - 1]⟩
        have hb0 : Rw w' g rest (d.push (x - 1)) := by
          unfold Rw
          rw [Array.toList_push, List.map_append]
          exact hbk
        have HROW : Hid (n1 + 1 ≤ cap' ∧ cap' ≤ maxLen ∧ n1 + 1 + rest.length = cap') := Lib.hid ⟨hnc, hcm, by
          have h1 := Hn1.out
          simp at hcl
          omega⟩
        have HEND : Hid (∀ wq, Rw wq g rest D → Keeps [g] w' wq → Row wq (.slice (some ⟨g, 0, none⟩) (n1 + 1) cap') D.size 1 (D.toList.map uV) ∧ MemAt wq mb mc L' 0 ∧ Blk wq gC [.int .i64 (1 + a), .int .i64 (1 + s), .int .i64 100, .int .i64 100, .int .i64 200, .int .i64 4, .int .u64 1000] ∧ Blk wq gL [.int .i64 (1 + a), .int .i64 (1 + s), .int .i64 100, .int .i64 100, .int .i64 200, .int .i64 4, .int .u64 1000] ∧ Keeps [] w wq) := Lib.hid (fun wq h1 h2 => by
          have hg := Hg.out
          refine ⟨⟨by simp, .inr ⟨g, cap', rest, by rw [HD.out.2.1], h1, by rw [HD.out.2.1]; exact HROW.out.1, HROW.out.2.1, ?_⟩⟩, hmW.keeps h2 (by simp; omega) (by simp; omega), h2.blk bCW (by simp; omega), h2.blk bLW (by simp; omega), KW.trans h2 (by simp; omega)⟩
          have := HROW.out.2.2
          have := HD.out.2.1
          simp
          omega)
        have HOWN : Hid (∀ g', (Value.slice (some ⟨g, 0, none⟩) (n1 + 1) cap').ownBlock = some g' → g' ≠ mb ∧ g' ≠ mc ∧ g' ≠ gC ∧ g' ≠ gL ∧ w.heap.size ≤ g') := Lib.hid (fun g' hg' => by
          have h : g = g' := by simpa [Value.ownBlock] using hg'
          rw [← h]
          exact Hg.out)
        have Hps : Hid ((d.push (x - 1)).size = n1 + 1) := Lib.hid (by rw [Array.size_push, Hn1.out])
        have HDD := Lib.hid hD
        have Hfin : Hid (lsF tv (fX xs) (k + 1) = wmin ls x) := Lib.hid (by rw [lsF, Hls.out, Hxx.out])
        clear hr f' k' kA kAW hrow9 hrowA hi hz0 hz1 hz2 hT hmW bCW bLW KW hsink hD hbk hnc hcm hcl hxl hm9 bC9 bL9 K9
        have hn4 : n1 ≤ 25 := by have := hnl.out; have := HR.out.2.2.2.2.2.2.2.2.2.2; have := HE.out.2; omega
        go_upto_region 15 with fail
        go_wp2_with (at_builtin; refine list_append_eq rfl _ _ 23 23 rfl (.slice A5 n1 C5) (.slice (some ⟨wc.heap.size, 0, none⟩) 1 1) rfl rfl (hr' _) ?_)
        go_loopw [15] (fun i wq => ∃ (m : Nat) (d2 : Array Int), i = .int .i64 m ∧ Hid (m ≤ n1 ∧ d2.size = n1 + 1 ∧ Go.Sort.insInner Go.Sort.ltInt 0 m d2 = D) ∧ Rw wq g rest d2 ∧ Keeps [g] w' wq) (fun i _ => (intOf i).toNat)
        case atStart => exact ⟨n1, d.push (x - 1), by go_num, Lib.hid ⟨Nat.le_refl _, Hps.out, HDD.out⟩, hb0, Keeps.refl _ _⟩
        case round =>
          obtain ⟨m, d2, rfl, hm, hb2, hk2⟩ := hrel
          by_cases hm0 : m = 0
          · have hDe : D = d2 := by rw [← hm.out.2.2, hm0]; rfl
            have HDe := Lib.hid hDe
            subst hm0
            clear hDe
            go_wp2_with fail
            go_quiet (fail)
            go_wp2_with fail
            have hend := HEND.out _ (by rw [HDe.out]; exact hb2.drewN nq) (hk2.drewN nq)
            exact ⟨⟨k + 1, L', D, by rw [Hfin.out], by go_num, Lib.hid ⟨HR.out.2.2.2.2.2.2.2.2.2.2, HR.out.2.2.2.2.2.2.2.2.2.1, HL9.out.1, HL9.out.2.1, HL9.out.2.2, by rw [HD.out.2.1]; exact HD.out.1, HD.out.2.2, fun h => absurd (HD.out.2.1.symm.trans h) (Nat.succ_ne_zero n1), HOWN.out⟩, hend.1, hend.2.1, hend.2.2.1, hend.2.2.2.1, hend.2.2.2.2⟩, by simp [intOf]; first | exact meas HR.out.2.2.2.2.2.2.2.2.2.2 | exact HR.out.2.2.2.2.2.2.2.2.2.2⟩
          · obtain ⟨m', rfl⟩ : ∃ m', m = m' + 1 := ⟨m - 1, by omega⟩
            have Hmm : Hid (m' + 1 ≤ n1 ∧ d2.size = n1 + 1) := Lib.hid ⟨hm.out.1, hm.out.2.1⟩
            have x1 := hb2.cell m' (inn2 Hmm.out)
            have x2 := hb2.cell (m' + 1) (inn3 Hmm.out)
            have xf := hb2.frozen
            have xl := hb2.lt
            obtain ⟨c1, c2, c3, c4, hgt, hw1, hw2⟩ := inn m' n1 hn4 Hmm.out.1
            have hn1' : m' ≠ m' + 1 := (Nat.succ_ne_self m').symm
            have hn2' : m' + 1 ≠ m' := Nat.succ_ne_self m'
            rw [show ((m' + 1 : Nat) : Int) = (m' : Int) + 1 from rfl]
            clear hm0
            by_cases hl : d2[m' + 1]! < d2[m']!
            · have hd4 : decide (d2[m' + 1]! < d2[m']!) = true := decide_eq_true hl
              have hd5 : decide (d2[m']! > d2[m' + 1]!) = true := decide_eq_true hl
              have hsp := (insI_step (a := 0) (m := m') (d := d2) (Nat.succ_pos m') hl).symm.trans hm.out.2.2
              rw [swp_comm _ _ _ hn2'] at hsp
              have Hsp := Lib.hid hsp
              clear hsp
              go_wp2_with fail
              go_quiet (fail)
              go_wp2_with fail
              have hb3 := hb2.drewN nq
              have hk3 := hk2.drewN nq
              have hz := (hb3.swp m' (m' + 1) (inn2 Hmm.out) (inn3 Hmm.out)).drew
              have hz2 := hb2.swp m' (m' + 1) (inn2 Hmm.out) (inn3 Hmm.out)
              have hkz2 := (keeps_swp (b := g) (by simp) w' hk2 m' (m' + 1) (.int .u64 d2[m' + 1]!) (.int .u64 d2[m']!))
              have hkz := (keeps_swp (b := g) (by simp) w' hk3 m' (m' + 1) (.int .u64 d2[m' + 1]!) (.int .u64 d2[m']!)).drew
              go_region
              all_goals go_wp2_with fail
              all_goals exact ⟨⟨m', _, by go_num, Lib.hid ⟨inn4 Hmm.out.1, by rw [Go.Sort.size_swp]; exact Hmm.out.2, Hsp.out⟩, by first | exact hz | exact hz2.drewN _ | exact (hz2.drewN _).drew, by first | exact hkz | exact hkz2.drewN _ | exact (hkz2.drewN _).drew⟩, by simp [intOf]⟩
            · have hd4 : decide (d2[m' + 1]! < d2[m']!) = false := decide_eq_false hl
              have hd5 : decide (d2[m']! > d2[m' + 1]!) = false := decide_eq_false hl
              have hDe : D = d2 := by rw [← hm.out.2.2]; exact insI_stop (fun _ => hl)
              have HDe := Lib.hid hDe
              clear hDe
              go_wp2_with fail
              go_quiet (fail)
              go_wp2_with fail
              have hend := HEND.out _ (by rw [HDe.out]; exact hb2.drewN nq) (hk2.drewN nq)
              exact ⟨⟨k + 1, L', D, by rw [Hfin.out], by go_num, Lib.hid ⟨HR.out.2.2.2.2.2.2.2.2.2.2, HR.out.2.2.2.2.2.2.2.2.2.1, HL9.out.1, HL9.out.2.1, HL9.out.2.2, by rw [HD.out.2.1]; exact HD.out.1, HD.out.2.2, fun h => absurd (HD.out.2.1.symm.trans h) (Nat.succ_ne_zero n1), HOWN.out⟩, hend.1, hend.2.1, hend.2.2.1, hend.2.2.2.1, hend.2.2.2.2⟩, by simp [intOf]; first | exact meas HR.out.2.2.2.2.2.2.2.2.2.2 | exact HR.out.2.2.2.2.2.2.2.2.2.2⟩
    · have hkK : ¬ (k < xs.length ∧ k < E) := hgo
      obtain ⟨i1, i2, i3, i4, i5, i6, i7, i8, i9⟩ := hI.out
      have hcell : ∀ j : Nat, j < E → (memAt L (8 + (j : Int))).N = (fun j => if j < k then fX xs j else 0) j := i5
      have hlive := (live_lvF L _ E hcell).trans (lvF_cut (fX xs) k E i1)
      have hleast := least_lsF L _ E hcell
      rw [i4, lsF_cut tv (fX xs) k E i1] at hleast
      have HLE := Lib.hid hleast
      have HSO : Hid (d.toList = isort (liveIn L E)) := Lib.hid (by rw [hlive]; exact sorted_eq _ _ (i7.trans (isort_perm _).symm) (sortedIn_pair i6) (isort_sorted _))
      have HCELL : Hid (∀ j : Nat, j < E → 0 ≤ (memAt L (8 + (j : Int))).N ∧ (memAt L (8 + (j : Int))).N ≤ 18446744073709551615) := Lib.hid (fun j hj => by
        rw [i5 j hj]
        split
        · exact fX_bd xs HA.out.2.2.2 j
        · exact zero_bd)
      have HOW := Lib.hid i9
      have HNI := Lib.hid i8
      have HLL : Hid (L.length = N) := Lib.hid i3
      have Hk2 := Lib.hid (And.intro i1 i2)
      have HMLT : Hid (mb < wr.heap.size) := Lib.hid hmr.lt.1
      clear i1 i2 i3 i4 i5 i6 i7 i8 i9 hcell hlive hleast hI
      by_cases hkx : k < xs.length
      · have hkE : k = E := by
          rcases Nat.lt_or_ge k E with h | h
          · exact absurd ⟨hkx, h⟩ hkK
          · exact Nat.le_antisymm Hk2.out.1 h
        have HkE := Lib.hid hkE
        have hc1 : (k : Int) < (xs.length : Int) := Int.ofNat_lt.mpr hkx
        have hw8 : wrap64 (8 + (k : Int)) = 8 + (k : Int) := by rw [hkE]; exact w8k2 E HE.out.2.2
        obtain ⟨c0, c1, c2, c3, c4, c5, c6, cf, cl⟩ := bCr.o7
        have hra := refA_any (1 + a) (1 + s) 100 100 200 4 1000 HC.out
        clear hkK hkx hkE
        go_wp2_with fail
        refine (hra _).mono ?_
        rintro q wT ⟨rfl, kT⟩
        have hE9 : ¬ (8 : Int) + (k : Int) < 8 + (1 + a) * (1 + s) := by rw [← HE.out.1, HkE.out]; exact Int.lt_irrefl _
        have hE8 : decide ((8 : Int) + (k : Int) < 8 + (1 + a) * (1 + s)) = false := decide_eq_false hE9
        have hmT := hmr.keeps kT (by simp) (by simp)
        have bLT := kT.blk bLr (by simp)
        have hrowT := hrow.keeps kT (by simp)
        have KT := hkr.trans kT (by simp)
        have HMLT : Hid (mb < wT.heap.size) := Lib.hid hmT.lt.1
        clear c0 c1 c2 c3 c4 c5 c6 cf cl hra hmr bCr bLr hrow hkr kT
        go_wp2_with fail
        refine (kitCells_any _ mb mc L 0 hmT).mono ?_
        rintro q w8 ⟨bb, rfl, hbb, hbl, k8⟩
        have hm8 := hmT.keeps k8 (by simp) (by simp)
        have bL8 := k8.blk bLT (by simp)
        have hrow8 := hrowT.keeps k8 (by simp)
        have K8 := KT.trans k8 (by simp)
        obtain ⟨l0, l1, l2, l3, l4, l5, l6, lf, ll⟩ := bL8.o7
        have hnw := wmAt_new (1 + a) (1 + s) 100 100 200 4 1000 L E
        clear hmT bLT hrowT KT k8
        go_wp2_with fail
        refine (hnw _).mono ?_
        rintro q w9 ⟨wm, rfl, hw9, k9⟩
        have hm9 := hm8.keeps k9 (by simp) (by simp)
        have hml8 := hm8.lt
        have Hml := Lib.hid hml8
        clear l0 l1 l2 l3 l4 l5 l6 lf ll hnw hml8
        go_wp2_with fail
        go_loopw [18] (fun i wr => ∃ j : Nat, i = .int .i64 ((j : Int) + 1) ∧ Hid (j ≤ E) ∧ WmAt wr wm w8.heap.size (1 + a) (1 + s) 100 100 200 4 1000 L E j ∧ MemAt wr mb mc L j ∧ Keeps [mb] w8 wr) (fun i _ => 100 - (intOf i).toNat)
        case atStart => exact ⟨0, by go_num, Lib.hid (Nat.zero_le _), hw9, hm9, k9.mono (by simp)⟩
        case round =>
          obtain ⟨j, rfl, hj, hwr, hmr, hkr⟩ := hrel
          obtain ⟨e0, e1, e2, e3, e4, e5, e6, e7⟩ := stp j E HE.out.2.2 hj.out
          have hst := wmAt_step w8 wr wm mb mc (1 + a) (1 + s) 100 100 200 4 1000 L E j j HC.out HE.out.1 hwr hj.out hmr e5 e6 Hml.out.1 Hml.out.2 hkr HCELL.out
          by_cases hlast : j = E
          · rw [decide_eq_true hlast] at hst
            have Hla := Lib.hid hlast
            clear hlast e0 hwr hmr
            go_wp2_with fail
            refine hst.mono ?_
            rintro q w10 ⟨rfl, hw10, hm10, k10⟩
            have hw11 : WmAt w10 wm w8.heap.size (1 + a) (1 + s) 100 100 200 4 1000 L E (E + 1) := by rw [← Hla.out] at hw10 ⊢; exact hw10
            have hwd := hw11.done
            rw [HLE.out] at hwd
            have bL10 := k10.blk bL8 (by have := HGL.out; simp; exact this.1)
            have hrow10 := hrow8.keeps k10 (by intro g hg; have := HOW.out g hg; simp; exact this.1)
            have hbb10 := k10.blk hbb (by simp; exact Nat.ne_of_gt (Nat.lt_of_lt_of_le (HMLT.out) hbl))
            have K10 : Keeps [] w w10 := K8.trans k10 (by simp; exact HMM.out.1)
            obtain ⟨l0, l1, l2, l3, l4, l5, l6, lf, ll⟩ := bL10.o7
            clear hst hw10 hw11 hkr
            go_wp2_with fail
            refine (accesses_any _ mb mc L _ hm10).mono ?_
            rintro q w' ⟨rfl, rfl⟩
            go_wp2_with fail
            refine (wmTime_done w10 wm (1 + a) (1 + s) 100 100 200 4 1000 _ hwd).mono ?_
            rintro q w' ⟨rfl, rfl⟩
            go_wp2_with fail
            refine (live25_any (1 + a) (1 + s) 100 100 200 4 1000 mb mc L _ HC.out _ hm10 E HE.out.1 (Nat.le_trans (liveIn_le L E) HE.out.2.2) HCELL.out).mono ?_
            rintro q w11 ⟨v, rfl, hv, k11⟩
            have hrow11 := hrow10.keeps k11 (by simp)
            have hbb11 := k11.blk hbb10 (by simp)
            have hm11 := hm10.keeps k11 (by simp) (by simp)
            have K11 := K10.trans k11 (by simp)
            have hsl := same_live w11 _ v _ _ d hv hrow11 HSO.out (by rw [isort_length]; exact Nat.le_trans (liveIn_le L E) (Nat.le_trans HE.out.2.2 (by decide)))
            clear hv hrow10 hbb10 hm10 K10 k10 k11 l0 l1 l2 l3 l4 l5 l6 lf ll hwd bL10 hw9 hm9 k9 hbb hm8 hrow8 bL8 K8 hrow11
            go_wp2_with fail
            refine hsl.mono ?_
            rintro q w12 ⟨rfl, k12⟩
            have hbb12 := k12.blk hbb11 (by simp)
            have hm12 := hm11.keeps k12 (by simp) (by simp)
            have K12 := K11.trans k12 (by simp)
            clear hsl hbb11 hm11 K11 k12
            go_wp2_with fail
            refine (kitCells_any _ mb mc L _ hm12).mono ?_
            rintro q w13 ⟨b2, rfl, hb2, hbl2, k13⟩
            have hbb13 := k13.blk hbb12 (by simp)
            have K13 := K12.trans k13 (by simp)
            have hsc := same_cells w13 b2 bb L.length L.length L [] [] (by rw [List.append_nil]; exact hb2) (by rw [List.append_nil]; exact hbb13) (by rw [HLL.out, HN.out]; exact w8k3 E HE.out.2.2)
            clear hbb12 hm12 K12 k13 hb2 hbl2 hbb13
            go_wp2_with fail
            refine hsc.mono ?_
            rintro q w14 ⟨rfl, k14⟩
            go_wp2_with fail
            go_ret
            exact ⟨rfl, K13.trans k14 (by simp)⟩
          · rw [decide_eq_false hlast] at hst
            have Hst2 := Lib.hid (stp2 HE.out.2.2 hj.out hlast)
            clear hlast e0 e1 e2 e4 e5 e6 hkr hmr hwr
            go_wp2_with fail
            refine hst.mono ?_
            rintro q w10 ⟨rfl, hw10, hm10, k10⟩
            clear hst
            have HW := Lib.hid (And.intro hw10 (And.intro hm10 k10))
            clear hw10 hm10 k10 hw9 hm9 k9 hbb hm8 hrow8 bL8 K8
            go_wp2_with fail
            exact ⟨⟨j + 1, by first | rfl | go_num, Lib.hid Hst2.out.1, HW.out.1, HW.out.2.1, HW.out.2.2⟩, by have := Hst2.out.2; simp [intOf]; first | exact Hst2.out.2 | omega⟩
      · have hc1 : ¬ (k : Int) < (xs.length : Int) := fun h => hkx (Int.ofNat_lt.mp h)
        have hmT := hmr
        have bLT := bLr
        have hrowT := hrow
        have KT := hkr
        clear hkK hkx hmr bCr bLr hrow hkr
        go_wp2_with fail
        refine (kitCells_any _ mb mc L 0 hmT).mono ?_
        rintro q w8 ⟨bb, rfl, hbb, hbl, k8⟩
        have hm8 := hmT.keeps k8 (by simp) (by simp)
        have bL8 := k8.blk bLT (by simp)
        have hrow8 := hrowT.keeps k8 (by simp)
        have K8 := KT.trans k8 (by simp)
        obtain ⟨l0, l1, l2, l3, l4, l5, l6, lf, ll⟩ := bL8.o7
        have hnw := wmAt_new (1 + a) (1 + s) 100 100 200 4 1000 L E
        clear hmT bLT hrowT KT k8
        go_wp2_with fail
        refine (hnw _).mono ?_
        rintro q w9 ⟨wm, rfl, hw9, k9⟩
        have hm9 := hm8.keeps k9 (by simp) (by simp)
        have hml8 := hm8.lt
        have Hml := Lib.hid hml8
        clear l0 l1 l2 l3 l4 l5 l6 lf ll hnw hml8
        go_wp2_with fail
        go_loopw [18] (fun i wr => ∃ j : Nat, i = .int .i64 ((j : Int) + 1) ∧ Hid (j ≤ E) ∧ WmAt wr wm w8.heap.size (1 + a) (1 + s) 100 100 200 4 1000 L E j ∧ MemAt wr mb mc L j ∧ Keeps [mb] w8 wr) (fun i _ => 100 - (intOf i).toNat)
        case atStart => exact ⟨0, by go_num, Lib.hid (Nat.zero_le _), hw9, hm9, k9.mono (by simp)⟩
        case round =>
          obtain ⟨j, rfl, hj, hwr, hmr, hkr⟩ := hrel
          obtain ⟨e0, e1, e2, e3, e4, e5, e6, e7⟩ := stp j E HE.out.2.2 hj.out
          have hst := wmAt_step w8 wr wm mb mc (1 + a) (1 + s) 100 100 200 4 1000 L E j j HC.out HE.out.1 hwr hj.out hmr e5 e6 Hml.out.1 Hml.out.2 hkr HCELL.out
          by_cases hlast : j = E
          · rw [decide_eq_true hlast] at hst
            have Hla := Lib.hid hlast
            clear hlast e0 hwr hmr
            go_wp2_with fail
            refine hst.mono ?_
            rintro q w10 ⟨rfl, hw10, hm10, k10⟩
            have hw11 : WmAt w10 wm w8.heap.size (1 + a) (1 + s) 100 100 200 4 1000 L E (E + 1) := by rw [← Hla.out] at hw10 ⊢; exact hw10
            have hwd := hw11.done
            rw [HLE.out] at hwd
            have bL10 := k10.blk bL8 (by have := HGL.out; simp; exact this.1)
            have hrow10 := hrow8.keeps k10 (by intro g hg; have := HOW.out g hg; simp; exact this.1)
            have hbb10 := k10.blk hbb (by simp; exact Nat.ne_of_gt (Nat.lt_of_lt_of_le (HMLT.out) hbl))
            have K10 : Keeps [] w w10 := K8.trans k10 (by simp; exact HMM.out.1)
            obtain ⟨l0, l1, l2, l3, l4, l5, l6, lf, ll⟩ := bL10.o7
            clear hst hw10 hw11 hkr
            go_wp2_with fail
            refine (accesses_any _ mb mc L _ hm10).mono ?_
            rintro q w' ⟨rfl, rfl⟩
            go_wp2_with fail
            refine (wmTime_done w10 wm (1 + a) (1 + s) 100 100 200 4 1000 _ hwd).mono ?_
            rintro q w' ⟨rfl, rfl⟩
            go_wp2_with fail
            refine (live25_any (1 + a) (1 + s) 100 100 200 4 1000 mb mc L _ HC.out _ hm10 E HE.out.1 (Nat.le_trans (liveIn_le L E) HE.out.2.2) HCELL.out).mono ?_
            rintro q w11 ⟨v, rfl, hv, k11⟩
            have hrow11 := hrow10.keeps k11 (by simp)
            have hbb11 := k11.blk hbb10 (by simp)
            have hm11 := hm10.keeps k11 (by simp) (by simp)
            have K11 := K10.trans k11 (by simp)
            have hsl := same_live w11 _ v _ _ d hv hrow11 HSO.out (by rw [isort_length]; exact Nat.le_trans (liveIn_le L E) (Nat.le_trans HE.out.2.2 (by decide)))
            clear hv hrow10 hbb10 hm10 K10 k10 k11 l0 l1 l2 l3 l4 l5 l6 lf ll hwd bL10 hw9 hm9 k9 hbb hm8 hrow8 bL8 K8 hrow11
            go_wp2_with fail
            refine hsl.mono ?_
            rintro q w12 ⟨rfl, k12⟩
            have hbb12 := k12.blk hbb11 (by simp)
            have hm12 := hm11.keeps k12 (by simp) (by simp)
            have K12 := K11.trans k12 (by simp)
            clear hsl hbb11 hm11 K11 k12
            go_wp2_with fail
            refine (kitCells_any _ mb mc L _ hm12).mono ?_
            rintro q w13 ⟨b2, rfl, hb2, hbl2, k13⟩
            have hbb13 := k13.blk hbb12 (by simp)
            have K13 := K12.trans k13 (by simp)
            have hsc := same_cells w13 b2 bb L.length L.length L [] [] (by rw [List.append_nil]; exact hb2) (by rw [List.append_nil]; exact hbb13) (by rw [HLL.out, HN.out]; exact w8k3 E HE.out.2.2)
            clear hbb12 hm12 K12 k13 hb2 hbl2 hbb13
            go_wp2_with fail
            refine hsc.mono ?_
            rintro q w14 ⟨rfl, k14⟩
            go_wp2_with fail
            go_ret
            exact ⟨rfl, K13.trans k14 (by simp)⟩
          · rw [decide_eq_false hlast] at hst
            have Hst2 := Lib.hid (stp2 HE.out.2.2 hj.out hlast)
            clear hlast e0 e1 e2 e4 e5 e6 hkr hmr hwr
            go_wp2_with fail
            refine hst.mono ?_
            rintro q w10 ⟨rfl, hw10, hm10, k10⟩
            clear hst
            have HW := Lib.hid (And.intro hw10 (And.intro hm10 k10))
            clear hw10 hm10 k10 hw9 hm9 k9 hbb hm8 hrow8 bL8 K8
            go_wp2_with fail
            exact ⟨⟨j + 1, by first | rfl | go_num, Lib.hid Hst2.out.1, HW.out.1, HW.out.2.1, HW.out.2.2⟩, by have := Hst2.out.2; simp [intOf]; first | exact Hst2.out.2 | omega⟩
end Go.Proofs.Ytiodlmmbjjdojaa
