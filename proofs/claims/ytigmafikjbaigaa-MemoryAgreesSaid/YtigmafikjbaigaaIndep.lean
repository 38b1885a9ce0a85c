/- The walk of MemoryCellsAreIndependent. -/
import Derived.Test.YtigmafikjbaigaaMemLaws
import Derived.Test.YtigmafikjbaigaaKit
namespace Go.Proofs.Ytigmafikjbaigaa
open Go.RowKit
theorem memAt_get (L : List C3) (k : Nat) : memAt L k = (L[k]?).getD C3.zero := by
  unfold memAt
  rw [if_pos (Int.natCast_nonneg k), Int.toNat_natCast, List.getD_eq_getElem?_getD]
theorem memAt_set (L : List C3) (i k : Nat) (x : C3) (hi : i < L.length) : memAt (L.set i x) k = if k = i then x else memAt L k := by
  rw [memAt_get, memAt_get, List.getElem?_set]
  by_cases h : i = k
  · subst h; simp [hi]
  · rw [if_neg h, if_neg (fun e => h e.symm)]
set_option maxRecDepth 100000 in
set_option maxHeartbeats 1000000 in
theorem memoryCellsAreIndependent_any (A : Option Addr) (cap b o : Nat) (X : List C3) (at_ N M old : Int) (K : ByteArray) (sw : Bool) (w : World)
    (hA : 0 < X.length → A = some ⟨b, o, none⟩) (hx : Arr w b o (flat X)) (hlen : X.length ≤ 9223372036854775807) (a0 : -9223372036854775808 ≤ at_) (a1 : at_ ≤ 9223372036854775807) :
    Calls Try.prog 8 #[.slice A X.length cap, .int .i64 at_, .agg #[.int .u64 N, .string K, .int .u64 M], .int .u64 old, .bool sw] w fun e w' => e = .returned (.bool true) ∧ Keeps [] w w' := by
  have HA := Lib.hid hA
  clear hA
  obtain ⟨n, hn, hn20⟩ : ∃ n : Nat, n = min X.length 20 ∧ n ≤ 20 := ⟨_, rfl, by omega⟩
  have hnX : n ≤ X.length := by omega
  have Hn := Lib.hid hn
  clear hn
  go_enter Try.func8, Try.ntmps8
  go_upto_region 1 with fail
  go_cut [11] (fun s wx => s = .int .i64 n ∧ Blk wx w.heap.size [.int .u64 N, .string K, .int .u64 M] ∧ Keeps [] w wx)
  case first =>
    go_wp2_with fail
    all_goals go_meet
    · exact ⟨by rw [Hn.out]; go_num, Blk.new _ _ _, (Keeps.refl _ _).alloc _⟩
    · exact ⟨by rw [Hn.out]; go_num, Blk.new _ _ _, (Keeps.refl _ _).alloc _⟩
  case rest =>
    obtain ⟨rfl, hbc, k0⟩ := hcut
    have hn1 : ((n + 1 : Nat) : Int) = (n : Int) + 1 := by omega
    go_wp2_with fail
    rw [← hn1]
    refine (new_yes (n + 1) (by omega) (by omega) _).mono ?_
    rintro e w1 ⟨m, c, rfl, h1, hm, hc, k1⟩
    clear hn1
    go_wp2_with fail
    refine (awake2_any _).mono ?_
    rintro e w2 ⟨rfl, k2⟩
    have h2 := (h1.keeps k2 (by simp) (by simp))
    have K2 := (k0.trans k1 (by simp)).trans k2 (by simp)
    have hbc2 := k2.blk (k1.blk hbc (by simp)) (by simp)
    have hx2 := hx.keeps K2 (by simp)
    have hne1 : w.heap.size ≠ m := by have := hbc.lt; omega
    have hne2 : w.heap.size ≠ c := by have := hbc.lt; omega
    have hsz : w.heap.size ≤ m ∧ w.heap.size ≤ c := by have := hbc.lt; omega
    clear h1 k1 k2 k0 hbc
    go_wp2_with fail
    go_loopw [14] (fun i wr => ∃ (k : Nat) (L : List C3), k ≤ n ∧ i = .int .i64 k ∧ L.length = n + 1 ∧ MemAt wr m c L k ∧ Keeps [m, c] w2 wr) (fun i _ => n - (intOf i).toNat)
    case atStart => exact ⟨0, _, by omega, rfl, by simp, h2, Keeps.refl _ _⟩
    case round =>
      obtain ⟨k, L, hk, rfl, hL, hm3, hk3⟩ := hrel
      by_cases hlt : k < n
      · obtain rfl := HA.out (by omega)
        obtain ⟨y, hy⟩ : ∃ y, X[k]? = some y := ⟨X[k]'(by omega), by simp [show k < X.length by omega]⟩
        have hbl : b < w.heap.size := hx.lt (by rw [flat_length]; omega)
        have hx3 := hx2.keeps hk3 (by simp; omega)
        obtain ⟨f0, f1, f2⟩ := flat_get X [] k y hy
        rw [List.append_nil] at f0 f1 f2
        have c0 := (hx3.cells (k * 3) (by rw [flat_length]; omega)).trans f0
        have c1 := (hx3.cells (k * 3 + 1) (by rw [flat_length]; omega)).trans f1
        have c2 := (hx3.cells (k * 3 + 2) (by rw [flat_length]; omega)).trans f2
        clear hy f0 f1 f2
        rw [← Nat.add_assoc] at c1 c2
        go_wp2_with fail
        refine (store_any _ m c _ _ hm3 k y.N y.M y.K (by omega) (by omega)).mono ?_
        rintro e w4 ⟨rfl, h4, k4⟩
        go_wp2_with fail
        go_roundw
        case rel => exact ⟨k + 1, _, by omega, by go_num, by rw [memSet_length]; exact hL, h4, hk3.trans k4 (by simp)⟩
        case measure => simp [intOf]; omega
      · obtain rfl : k = n := by omega
        have hmod0 := Int.emod_nonneg at_ (show (k : Int) + 1 ≠ 0 by omega)
        have hmod1 := Int.emod_lt_of_pos at_ (show 0 < (k : Int) + 1 by omega)
        obtain ⟨i, hi⟩ : ∃ i : Nat, at_ % ((k : Int) + 1) = i := ⟨(at_ % ((k : Int) + 1)).toNat, by omega⟩
        rw [hi] at hmod0 hmod1
        have Hi := Lib.hid hi
        clear hi
        have hiL : i < L.length := by omega
        go_wp2_with fail
        refine (mod_any at_ (k + 1) a0 a1 (by omega) (by omega) _).mono ?_
        rintro e w' ⟨rfl, rfl⟩
        rw [Hi.out]
        go_wp2_with fail
        refine (kitCells_any _ m c _ _ hm3).mono ?_
        rintro e w5 ⟨bw, rfl, hbw, hbws, k5⟩
        have hm5 := hm3.keeps k5 (by simp) (by simp)
        have hbc5 := k5.blk (hk3.blk hbc2 (by simp; omega)) (by simp)
        have K5 := hk3.trans k5 (by simp)
        have hm3l := hm3.lt
        have hbwc : w.heap.size ≠ bw := by have := (hk3.blk hbc2 (by simp; omega)).lt; omega
        clear hm3 hk3
        obtain ⟨y, hy⟩ : ∃ y, L[i]? = some y := ⟨L[i], by simp [hiL]⟩
        have hyi : memAt L i = y := by rw [memAt_get, hy]; rfl
        have q0 := (flat_cells (r := []) (by rw [List.append_nil]; exact hbw) i y hy).1
        go_upto_if 57 with fail
        go_cut [17] (fun s wx => ∃ okb : Bool, s = .bool okb ∧ MemAt wx m c (if okb then L.set i ⟨N, K, M⟩ else L) (k + 1) ∧ Keeps [m, c] w5 wx)
        case first =>
          have z0 := hbc5.cell 0
          have z1 := hbc5.cell 1
          have z2 := hbc5.cell 2
          simp only [List.getElem?_cons_zero, List.getElem?_cons_succ] at z0 z1 z2
          cases sw with
          | true =>
            go_wp2_with fail
            refine (swap_any _ m c _ _ hm5 i old N M K (by omega) (by omega)).mono ?_
            rintro e w6 ⟨he, h6, k6⟩
            have ein : memIn L i = true := by unfold memIn; simp; omega
            rw [ein, hyi, Bool.true_and] at he h6
            rw [memSet_nat] at h6
            subst he
            have hq6 := (flat_cells (r := []) (by rw [List.append_nil]; exact k6.blk hbw (by simp; omega)) i y hy).1
            cases hyo : (y.N == old) with
            | true =>
              rw [hyo] at h6
              go_wp2_with fail
              go_meet
              case rel => exact ⟨true, rfl, h6, k6⟩
            | false =>
              rw [hyo] at h6
              go_wp2_with fail
              go_meet
              case rel => exact ⟨false, rfl, h6, k6⟩
          | false =>
            go_wp2_with fail
            refine (store_any _ m c _ _ hm5 i N M K (by omega) (by omega)).mono ?_
            rintro e w6 ⟨rfl, h6, k6⟩
            rw [memSet_nat] at h6
            go_wp2_with fail
            go_meet
            case rel => exact ⟨true, rfl, h6, k6⟩
        case rest =>
          obtain ⟨okb, rfl, h6, k6⟩ := hcut
          have hbw6 := k6.blk hbw (by simp; omega)
          have hbc6 := k6.blk hbc5 (by simp; omega)
          have K6 := K5.trans k6 (by simp)
          obtain ⟨L', hL'⟩ : ∃ L', L' = (if okb then L.set i ⟨N, K, M⟩ else L) := ⟨_, rfl⟩
          rw [← hL'] at h6
          have hL'l : L'.length = k + 1 := by rw [hL']; split <;> simp [hL]
          have HL' := Lib.hid hL'
          clear hL'
          go_wp2_with fail
          go_loopw [18] (fun s wr => ∃ j : Nat, j ≤ k + 1 ∧ s = .int .i64 j ∧ MemAt wr m c L' (k + 1) ∧ Keeps [] wc wr) (fun s _ => k + 1 - (intOf s).toNat)
          case atStart => exact ⟨0, by omega, rfl, h6, Keeps.refl _ _⟩
          case round =>
            obtain ⟨j, hj, rfl, h7, k7⟩ := hrel
            by_cases hjl : j < k + 1
            · obtain ⟨u, hu⟩ : ∃ u, L[j]? = some u := ⟨L[j]'(by omega), by simp [show j < L.length by omega]⟩
              have hbw7 := k7.blk hbw6 (by simp)
              have hbc7 := k7.blk hbc6 (by simp)
              obtain ⟨g0, g1, g2⟩ := flat_cells (r := []) (by rw [List.append_nil]; exact hbw7) j u hu
              have bl := hbw7.lt
              have cl := hbc7.lt
              have z0 := hbc7.cell 0
              have z1 := hbc7.cell 1
              have z2 := hbc7.cell 2
              simp only [List.getElem?_cons_zero, List.getElem?_cons_succ] at z0 z1 z2
              by_cases hji : j = i
              · subst hji
                have hjj : ((j : Int) == (j : Int)) = true := by simp
                cases okb with
                | true =>
                  have hv : memAt L' j = ⟨N, K, M⟩ := by rw [HL'.out, if_pos rfl, memAt_set _ _ _ _ hiL, if_pos rfl]
                  go_upto_region 23 with fail
                  go_cut [96] (fun s wx => s = .bool false ∧ MemAt wx m c L' (k + 1) ∧ Keeps [] wr wx)
                  case first =>
                    go_region_with (go_at_call 27; refine (peek_any _ m c L' (k + 1) (by exact (h7.alloc _).drew) j).mono ?_; rintro e w8 ⟨he, k8⟩; rw [hv] at he; (try dsimp only at he); subst he; obtain ⟨x0, x1, x2, xf, xl⟩ := box3 k8 (Blk.drew (Blk.new_at wr wr.heap.size [.int .u64 N, .string K, .int .u64 M] 36 rfl)) (by simp); have h8 := ((h7.alloc (.cells #[.int .u64 N, .string K, .int .u64 M] 36)).drew).keeps k8 (by simp) (by simp); have K8 := ((((Keeps.refl [] wr).alloc (.cells #[.int .u64 N, .string K, .int .u64 M] 36)).drew).trans k8 (by simp)))
                    all_goals go_wp2_with fail
                    all_goals go_meet
                    all_goals exact ⟨rfl, h8, K8⟩
                  case rest =>
                    obtain ⟨rfl, h8, k8⟩ := hcut
                    go_wp2_with fail
                    go_roundw
                    case rel => exact ⟨j + 1, by omega, by go_num, h8, k7.trans k8 (by simp)⟩
                    case measure => simp [intOf]; omega
                | false =>
                  have hv : memAt L' j = u := by rw [HL'.out]; simp only [Bool.false_eq_true, if_false]; rw [memAt_get, hu]; rfl
                  go_upto_region 23 with fail
                  go_cut [96] (fun s wx => s = .bool false ∧ MemAt wx m c L' (k + 1) ∧ Keeps [] wr wx)
                  case first =>
                    go_region_with (go_at_call 27; refine (peek_any _ m c L' (k + 1) (by exact (h7.alloc _).drew) j).mono ?_; rintro e w8 ⟨he, k8⟩; rw [hv] at he; (try dsimp only at he); subst he; obtain ⟨x0, x1, x2, xf, xl⟩ := box3 k8 (Blk.drew (Blk.new_at wr wr.heap.size [.int .u64 u.N, .string u.K, .int .u64 u.M] 36 rfl)) (by simp); have h8 := ((h7.alloc (.cells #[.int .u64 u.N, .string u.K, .int .u64 u.M] 36)).drew).keeps k8 (by simp) (by simp); have K8 := ((((Keeps.refl [] wr).alloc (.cells #[.int .u64 u.N, .string u.K, .int .u64 u.M] 36)).drew).trans k8 (by simp)))
                    all_goals go_wp2_with fail
                    all_goals go_meet
                    all_goals exact ⟨rfl, h8, K8⟩
                  case rest =>
                    obtain ⟨rfl, h8, k8⟩ := hcut
                    go_wp2_with fail
                    go_roundw
                    case rel => exact ⟨j + 1, by omega, by go_num, h8, k7.trans k8 (by simp)⟩
                    case measure => simp [intOf]; omega
              · have hjj : ((j : Int) == (i : Int)) = false := by rw [beq_eq_false_iff_ne]; omega
                have hv : memAt L' j = u := by
                  rw [HL'.out]
                  split
                  · rw [memAt_set _ _ _ _ hiL, if_neg hji, memAt_get, hu]; rfl
                  · rw [memAt_get, hu]; rfl
                go_upto_region 23 with fail
                go_cut [96] (fun s wx => s = .bool false ∧ MemAt wx m c L' (k + 1) ∧ Keeps [] wr wx)
                case first =>
                  go_region_with (go_at_call 27; refine (peek_any _ m c L' (k + 1) (by exact (h7.alloc _).drew) j).mono ?_; rintro e w8 ⟨he, k8⟩; rw [hv] at he; (try dsimp only at he); subst he; obtain ⟨x0, x1, x2, xf, xl⟩ := box3 k8 (Blk.drew (Blk.new_at wr wr.heap.size [.int .u64 u.N, .string u.K, .int .u64 u.M] 36 rfl)) (by simp); have h8 := ((h7.alloc (.cells #[.int .u64 u.N, .string u.K, .int .u64 u.M] 36)).drew).keeps k8 (by simp) (by simp); have K8 := ((((Keeps.refl [] wr).alloc (.cells #[.int .u64 u.N, .string u.K, .int .u64 u.M] 36)).drew).trans k8 (by simp)))
                  all_goals go_wp2_with fail
                  all_goals go_meet
                  all_goals exact ⟨rfl, h8, K8⟩
                case rest =>
                  obtain ⟨rfl, h8, k8⟩ := hcut
                  go_wp2_with fail
                  go_roundw
                  case rel => exact ⟨j + 1, by omega, by go_num, h8, k7.trans k8 (by simp)⟩
                  case measure => simp [intOf]; omega
            · obtain rfl : j = k + 1 := by omega
              go_wp2_with (go_at_call 25; refine (accesses_any _ m c _ _ h7).mono ?_; rintro e w' ⟨rfl, rfl⟩)
              go_ret
              exact ⟨rfl, ((K2.trans K6 (by simp; omega)).trans k7 (by simp))⟩
end Go.Proofs.Ytigmafikjbaigaa
