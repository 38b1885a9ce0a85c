/- The walk of MemoryAgrees. -/
import Derived.Test.YtigmafikjbaigaaAgrP
import Derived.Deep.CutBlock
import Derived.Deep.RegionHeld3
namespace Go.Proofs.Ytigmafikjbaigaa
open Go.RowKit
set_option maxRecDepth 100000 in
set_option maxHeartbeats 4000000 in
theorem memoryAgrees_any (a0 a2 : Int) (s0 : -9223372036854775808 ≤ a0) (s1 : a0 ≤ 9223372036854775807) (t0 : -9223372036854775808 ≤ a2) (t1 : a2 ≤ 9223372036854775807)
    (A : Option Addr) (cap b o : Nat) (X : List CallV) (w : World) (hA : 0 < X.length → A = some ⟨b, o, none⟩) (hx : Arr w b o (flatC X)) (hlen : X.length ≤ 9223372036854775807)
    (hX : ∀ x, x ∈ X → -9223372036854775808 ≤ x.At ∧ x.At ≤ 9223372036854775807 ∧ -9223372036854775808 ≤ x.Kind ∧ x.Kind ≤ 9223372036854775807) :
    Calls Try.prog 9 #[.int .i64 a0, .slice A X.length cap, .int .i64 a2] w fun e w' => e = .returned (.bool true) ∧ Keeps [] w w' := by
  have HA := Lib.hid hA
  clear hA
  by_cases hl : 100 < X.length
  · go_enter Try.func9, Try.ntmps9
    go_wp2_with (go_at_call 23; refine (awake2_any _).mono ?_; rintro e w3 ⟨rfl, k3⟩)
    go_ret
    exact ⟨rfl, k3⟩
  · have hm0 := Int.emod_nonneg a0 (show (8 : Int) ≠ 0 by omega)
    have hm1 := Int.emod_lt_of_pos a0 (show (0 : Int) < 8 by omega)
    obtain ⟨r, hr⟩ : ∃ r : Nat, a0 % 8 = r := ⟨(a0 % 8).toNat, by omega⟩
    rw [hr] at hm0 hm1
    have Hr := Lib.hid hr
    clear hr
    obtain ⟨n, hn, hn1, hn8⟩ : ∃ n : Nat, 1 + (r : Int) = n ∧ 1 ≤ n ∧ n ≤ 8 := ⟨1 + r, by omega, by omega, by omega⟩
    have hmk := make_cells n (by omega)
    go_enter Try.func9, Try.ntmps9
    go_wp2_with fail
    refine (mod_any a0 8 s0 s1 (by omega) (by omega) _).mono ?_
    rintro e w' ⟨rfl, rfl⟩
    rw [Hr.out]
    go_wp2_with fail
    refine (new_yes n hn1 (by omega) _).mono ?_
    rintro e w1 ⟨m, c, rfl, h1, hm, hc, k1⟩
    have Hn := Lib.hid hn
    clear hn
    go_wp2_with fail
    refine (awake2_any _).mono ?_
    rintro e w2 ⟨rfl, k2⟩
    have h2 := h1.keeps k2 (by simp) (by simp)
    have K2 := k1.trans k2 (by simp)
    have hx2 := hx.keeps K2 (by simp)
    clear h1 k1 k2
    have hlt2 := h2.lt
    go_wp2_with fail
    go_loopw [11, 12, 13, 14, 15] (fun cnt old was oc i wr => ∃ (k q : Nat) (L : List C3), k ≤ X.length ∧ i = .int .i64 k ∧ cnt = .int .u64 q ∧ q ≤ k ∧ L.length = n ∧ St wr m c w2.heap.size L q old was oc ∧ Keeps [m, c, w2.heap.size] w2 wr) (fun _ _ _ _ i _ => X.length - (intOf i).toNat)
    case atStart =>
      exact ⟨0, 0, List.replicate n C3.zero, by omega, rfl, rfl, by omega, by simp, ⟨h2.alloc _, Blk.new w2 _ _, by omega, .inl ⟨rfl, rfl, rfl⟩⟩, (Keeps.refl _ _).alloc _⟩
    case round =>
      obtain ⟨k, q, L, hk, rfl, rfl, hqk, hL, hst, hkp⟩ := hrel
      rename_i old was oc
      by_cases hlt : k < X.length
      · obtain rfl := HA.out (by omega)
        go_upto_if 54 with (go_at_call 22; refine (mod_any a2 60 t0 t1 (by omega) (by omega) _).mono ?_; rintro e w' ⟨rfl, rfl⟩)
        go_cut [12, 13, 14] (fun old was oc wx => OldSt wx m c w2.heap.size old was oc ∧ Keeps [] wr wx)
        case first =>
          by_cases hck : (k : Int) = a2 % 60
          · have hckb : ((k : Int) == a2 % 60) = true := by rw [beq_iff_eq]; exact hck
            have Hck := Lib.hid hck
            clear hck
            go_wp2_with fail
            refine (copy_any _ m c L q hst.mem).mono ?_
            rintro e w5 ⟨om, oc, rfl, h5, ho1, ho2, k5⟩
            have hl5 := k5.blk hst.lst (by simp)
            have hlc : ∀ j u, (flat L)[j]? = some u → w5.cell? ((⟨w2.heap.size, 0, none⟩ : Addr).add j) = some u := fun j u hu => by
              rw [Go.WideShapes.add_plain, Nat.zero_add, hl5.cell]
              exact hu
            have Hlc := Lib.hid hlc
            clear hlc
            obtain ⟨i0, hi, hz0, hz1, hz2⟩ := info_parts infoCell
            go_wp2_with (at_builtin; refine wpList_append_own _ rfl _ _ 44 rfl w5.heap.size 36 i0 _ 3 32 Try.underlying44 hi hz0 hz1 hz2 rfl (by decide) _ _ _ rfl (World.ownsRow_nil _ _ _ _) ⟨w2.heap.size, 0, none⟩ n n (flat L) rfl (by rw [flat_length, hL]) Hlc.out (flat_one L) (by unfold maxLen; omega) (by omega) (Nat.le_refl _) ?_; intro v' w6 hown hgrow _; obtain ⟨g, cp, rest, hv, hgl, hgb⟩ := own_blk hown (by omega); rw [hv]; clear hv)
            go_meet
            case rel =>
              have hs5 := k5.size
              have hs6 := hgrow.size
              have hgl2 := hgb.lt
              have hlb := hst.lst.lt
              have hmc := hst.mem.lt
              refine ⟨.inr ⟨om, oc, g, cp, q, L, rest, rfl, by simp [hL], rfl, h5.keeps (Keeps.of_grown hgrow) (by simp) (by simp), hgb, by simp; omega, by simp; omega, ?_⟩, k5.trans (Keeps.of_grown hgrow) (by simp)⟩
              simp; omega
          · have hckb : ((k : Int) == a2 % 60) = false := by rw [beq_eq_false_iff_ne]; exact hck
            clear hck
            go_wp2_with fail
            go_meet
            case rel => exact ⟨hst.old, Keeps.refl _ _⟩
        case rest =>
          obtain ⟨ho3, k3⟩ := hcut
          have hst3 : St wc m c w2.heap.size L q _ _ _ := ⟨hst.mem.keeps k3 (by simp) (by simp), k3.blk hst.lst (by simp), hst.ne, ho3⟩
          have hx3 := (hx2.keeps hkp (by have := hx.lt; have := K2.size; simp [flatC_length] at *; omega)).keeps k3 (by simp)
          obtain ⟨x, hxk⟩ : ∃ x, X[k]? = some x := ⟨X[k], by simp [hlt]⟩
          obtain ⟨xa0, xa1, xk0, xk1⟩ := hX x (List.mem_of_getElem? hxk)
          have hcells : ∀ j, j < 8 → wc.cell? ⟨b, o + (k * 8 + j), none⟩ = x.vs[j]? := fun j hj => (hx3.cells (k * 8 + j) (by rw [flatC_length]; omega)).trans (flatC_get X k x j hxk hj)
          have e0 := hcells 0 (by omega)
          have e1 := hcells 1 (by omega)
          have e2 := hcells 2 (by omega)
          have e3 := hcells 3 (by omega)
          have e4 := hcells 4 (by omega)
          have e5 := hcells 5 (by omega)
          have e6 := hcells 6 (by omega)
          have e7 := hcells 7 (by omega)
          simp only [CallV.vs, List.getElem?_cons_zero, List.getElem?_cons_succ, ← Nat.add_assoc, Nat.add_zero] at e0 e1 e2 e3 e4 e5 e6 e7
          clear hxk hcells
          go_upto_region 19 with fail
          go_cut [16, 17] (fun p i wx => ∃ cb, p = .pointer (some ⟨cb, 0, none⟩) ∧ i = .int .i64 (callAt x n) ∧ Blk wx cb x.vs ∧ wc.heap.size ≤ cb ∧ Keeps [] wc wx)
          case first =>
            have hE := Lib.hid (fun (w' : World) (k' : Keeps [] wc w') => (⟨k'.cellEq e0 (by simp), k'.cellEq e1 (by simp), k'.cellEq e2 (by simp), k'.cellEq e3 (by simp), k'.cellEq e4 (by simp), k'.cellEq e5 (by simp), k'.cellEq e6 (by simp), k'.cellEq e7 (by simp)⟩ : w'.cell? ⟨b, o + k * 8, none⟩ = some (.int .i64 x.Kind) ∧ w'.cell? ⟨b, o + k * 8 + 1, none⟩ = some (.int .i64 x.At) ∧ w'.cell? ⟨b, o + k * 8 + 2, none⟩ = some (.int .u64 x.Old) ∧ w'.cell? ⟨b, o + k * 8 + 3, none⟩ = some (.int .u64 x.cell.N) ∧ w'.cell? ⟨b, o + k * 8 + 4, none⟩ = some (.string x.cell.K) ∧ w'.cell? ⟨b, o + k * 8 + 5, none⟩ = some (.int .u64 x.cell.M) ∧ w'.cell? ⟨b, o + k * 8 + 6, none⟩ = some (.bool x.Raw) ∧ w'.cell? ⟨b, o + k * 8 + 7, none⟩ = some (.bool x.Fit)))
            have hk0 : (0 : Int) ≤ k := by omega
            have hk1 : (k : Int) < X.length := by omega
            go_region_held3 (fun w' => w'.cell? ⟨b, o + k * 8, none⟩ = some (.int .i64 x.Kind) ∧ w'.cell? ⟨b, o + k * 8 + 1, none⟩ = some (.int .i64 x.At) ∧ w'.cell? ⟨b, o + k * 8 + 2, none⟩ = some (.int .u64 x.Old) ∧ w'.cell? ⟨b, o + k * 8 + 3, none⟩ = some (.int .u64 x.cell.N) ∧ w'.cell? ⟨b, o + k * 8 + 4, none⟩ = some (.string x.cell.K) ∧ w'.cell? ⟨b, o + k * 8 + 5, none⟩ = some (.int .u64 x.cell.M) ∧ w'.cell? ⟨b, o + k * 8 + 6, none⟩ = some (.bool x.Raw) ∧ w'.cell? ⟨b, o + k * 8 + 7, none⟩ = some (.bool x.Fit))
              (first
                | (with_reducible exact hE.out _ ((Keeps.refl [] wc).drew))
                | (with_reducible exact hE.out _ (((Keeps.refl [] wc).drew).alloc _))
                | (with_reducible exact hE.out _ (((Keeps.refl [] wc).alloc _).drew))
                | (with_reducible exact hE.out _ kE)
                | (with_reducible exact hE.out _ (kE.alloc _))
                | (with_reducible exact hE.out _ (kE.set8 wc.heap.size (.inr (Nat.le_refl _)) _ _ _ _ _ _ _ _)))
              ((go_at_call 32; refine (at_any x n (by omega) xa0 xa1 _).mono ?_; rintro e w8 ⟨rfl, k8⟩; have kE : Keeps [] wc w8 := (by first | exact k8.undrew | exact (((Keeps.refl [] wc).drew).alloc _).trans k8 (by simp) | exact (((Keeps.refl [] wc).alloc _).drew).trans k8 (by simp)); (try (have hb8 := k8.blk (Blk.drew (Blk.new wc [.int .i64 0, .int .i64 0, .int .u64 0, .int .u64 0, .string ⟨#[]⟩, .int .u64 0, .bool false, .bool false] 51)) (by simp); have hb8o := hb8.o8))))
            all_goals go_wp2_with fail
            all_goals go_meet
            · exact ⟨w8.heap.size, rfl, rfl, Blk.new w8 x.vs _, k8.size, kE.alloc _⟩
            · exact ⟨wc.heap.size, rfl, rfl, (((((((hb8.set 0 _).set 1 _).set 2 _).set 3 _).set 4 _).set 5 _).set 6 _).set 7 _, Nat.le_refl _, kE.set8 wc.heap.size (.inr (Nat.le_refl _)) _ _ _ _ _ _ _ _⟩
          case rest =>
            obtain ⟨cb, rfl, rfl, hcb, hcbs, k4⟩ := hcut
            have hst4 := hst3.keeps k4
            have K4 := (hkp.trans k3 (by simp)).trans k4 (by simp)
            have hmw := K2.size
            have hmc := hst4.mem.lt
            have hlb := hst4.lst.lt
            have hcl := hcb.lt
            have hmne := hst4.mem.ne
            have hlne := hst4.ne
            have hcm : cb ≠ m ∧ cb ≠ c ∧ cb ≠ w2.heap.size := by
              have h1 := (hst3.mem.lt); have h2 := hst3.lst.lt; omega
            clear e0 e1 e2 e3 e4 e5 e6 e7
            obtain ⟨i, hi⟩ : ∃ i, callAt x n = i := ⟨_, rfl⟩
            rw [hi]
            clear hi hst3 hx3
            go_upto_region 20 with fail
            go_cut [18] from 45 to 169 (fun s wx => s = .bool (memIn L i) ∧ wx = wc)
            case first =>
              have hinL : memIn L i = (decide (0 ≤ i) && decide (i < (n : Int))) := by unfold memIn; rw [hL]; exact Bool.decide_and ..
              by_cases hi0 : 0 ≤ i
              · by_cases hi1 : i < (n : Int)
                · go_wp2_with fail
                  go_meet
                  case rel => exact ⟨by rw [hinL]; simp [hi0, hi1], rfl⟩
                · go_wp2_with fail
                  go_meet
                  case rel => exact ⟨by rw [hinL, decide_eq_false (show ¬ i < (n : Int) by omega), Bool.and_false], rfl⟩
              · go_wp2_with fail
                go_meet
                case rel => exact ⟨by rw [hinL, decide_eq_false (show ¬ 0 ≤ i by omega), Bool.false_and], rfl⟩
            case rest =>
            obtain ⟨rfl, rfl⟩ := hcut
            obtain ⟨wp, rfl⟩ : ∃ wp : World, wp = wc := ⟨_, rfl⟩
            go_upto_if 80 with fail
            go_cut [18, 84] (fun s _ wx => s = .bool (memIn L i) ∧ Blk wx wp.heap.size (memAt L i).vs ∧ Keeps [] wp wx)
            case first =>
              have hnb := Blk.new wp [.int .u64 0, .string ⟨#[]⟩, .int .u64 0] 36
              cases hin : memIn L i with
              | true =>
                obtain ⟨j, rfl, hj⟩ := memIn_nat L i hin
                have hyj := memAt_nat L j hj
                obtain ⟨l0, l1, l2⟩ := flat_cells (r := []) (by rw [List.append_nil]; exact hst4.lst) j _ hyj
                have lf := hst4.lst.frozen
                have hjn : (j : Int) < n := by omega
                have hj0 : (0 : Int) ≤ j := by omega
                obtain ⟨y, hy⟩ : ∃ y, memAt L (j : Int) = y := ⟨_, rfl⟩
                rw [hy] at l0 l1 l2
                have Hy := Lib.hid hy
                have Hin := Lib.hid hin
                clear hyj hy hin
                go_wp2_with fail
                go_meet
                rw [Hy.out, Hin.out]
                exact ⟨rfl, Blk.new wp y.vs _, (Keeps.refl [] wp).alloc _⟩
              | false =>
                have hz := memAt_out L i hin
                have Hz := Lib.hid hz
                have Hin := Lib.hid hin
                clear hz hin
                go_wp2_with fail
                go_meet
                rw [Hz.out, Hin.out]
                exact ⟨rfl, hnb, (Keeps.refl [] wp).alloc _⟩
            case rest =>
              obtain ⟨rfl, hnb, k6⟩ := hcut
              have hst6 := hst4.keeps k6
              have hcb6 := k6.blk hcb (by simp)
              have K6 := K4.trans k6 (by simp)
              have s6 := k6.size
              have hnl := hnb.lt
              have hcbo := hcb6.o8
              have hkr := Int.emod_nonneg x.Kind (show (5 : Int) ≠ 0 by omega)
              have hkr2 := Int.emod_lt_of_pos x.Kind (show (0 : Int) < 5 by omega)
              obtain ⟨kd, hkd⟩ : ∃ kd, x.Kind % 5 = kd := ⟨_, rfl⟩
              rw [hkd] at hkr hkr2
              have Hkd := Lib.hid hkd
              clear hkd hst4 hcb K4 k6
              go_upto_block 2 with (go_at_call 22; refine (mod_any x.Kind 5 xk0 xk1 (by omega) (by omega) _).mono ?_; rintro e w' ⟨rfl, rfl⟩; rw [Hkd.out])
              go_cut [11, 18] (fun s _ wx => ∃ (q' : Nat) (L' : List C3), s = .int .u64 q' ∧ q' ≤ q + 1 ∧ L'.length = n ∧ St wx m c w2.heap.size L' q' u12 u13 u14 ∧ Keeps [m, c, w2.heap.size] wc wx)
              case first =>
                obtain ⟨y, hy⟩ : ∃ y, memAt L i = y := ⟨_, rfl⟩
                rw [hy] at hnb
                have Hy := Lib.hid hy
                clear hy
                have hnbo := hnb.o3
                obtain ⟨n0, n1, n2, nf, nl⟩ := hnb.o3
                have hmem := hst6.mem
                have hmd := hst6.mem.drew
                rcases (by omega : kd = 0 ∨ kd = 1 ∨ kd = 2 ∨ kd = 3 ∨ kd = 4) with rfl | rfl | rfl | rfl | rfl
                · go_wp2_with fail
                  go_region_held3 (fun w' => w'.cell? ⟨wp.heap.size, 0, none⟩ = some (.int .u64 y.N) ∧ w'.cell? ⟨wp.heap.size, 1, none⟩ = some (.string y.K) ∧ w'.cell? ⟨wp.heap.size, 2, none⟩ = some (.int .u64 y.M))
                    (first
                      | exact ⟨k8.undrew.cellEq n0 (by simp; omega), k8.undrew.cellEq n1 (by simp; omega), k8.undrew.cellEq n2 (by simp; omega)⟩
                      | go_keep)
                    ((go_at_call 26; refine (load_any _ m c L q hmd i (by omega) (by omega)).mono ?_; rintro e w8 ⟨he, h8, k8⟩; rw [Hy.out] at he; subst he))
                  go_wp2_with fail
                  go_meet
                  exact ⟨q + 1, L, by go_num, by omega, hL, hst6.same h8 (by omega) (k8.undrew.mono (by simp)), k8.undrew.mono (by simp)⟩
                · go_wp2_with fail
                  refine (store_any _ m c L q hmem i x.cell.N x.cell.M x.cell.K (by omega) (by omega)).mono ?_
                  rintro e w5 ⟨rfl, h5, k5⟩
                  cases hin : memIn L i with
                  | true =>
                    obtain ⟨j, rfl, hj⟩ := memIn_nat L i hin
                    have hl5 := k5.blk hst6.lst (by simp; omega)
                    have hc5 := k5.blk hcb6 (by simp; omega)
                    have hc5o := hc5.o8
                    obtain ⟨l0, l1, l2⟩ := flat_cells (r := []) (by rw [List.append_nil]; exact hl5) j _ (memAt_nat L j hj)
                    have lf := hl5.frozen
                    have ll := hl5.lt
                    have hjn : (j : Int) < n := by omega
                    have hj0 : (0 : Int) ≤ j := by omega
                    obtain ⟨hs, hk⟩ := hst6.put_in (q' := q + 1) hj h5 (by omega) k5
                    clear hcbo hnbo n0 n1 n2 nf nl hin
                    go_wp2_with fail
                    go_meet
                    exact ⟨q + 1, _, by first | rfl | go_num, by omega, by simp [hL], hs, hk⟩
                  | false =>
                    have hs := hst6.put_out (q' := q + 1) hin h5 (by omega) k5
                    clear hin
                    go_wp2_with fail
                    go_meet
                    exact ⟨q + 1, L, by first | rfl | go_num, by omega, hL, hs, k5.mono (by intro i hi; left; simp at hi ⊢; omega)⟩
                · go_upto_if 130 with fail
                  go_cut [20, 130] (fun s _ wx => ∃ xo : Int, s = .int .u64 xo ∧ wx = wc)
                  case first =>
                    obtain ⟨fit, hfit⟩ : ∃ fit, x.Fit = fit := ⟨_, rfl⟩
                    rw [hfit] at hcbo ⊢
                    cases fit with
                    | true =>
                      have Hf := Lib.hid hfit
                      clear hfit
                      go_wp2_with fail
                      go_meet
                      exact ⟨y.N, rfl, rfl⟩
                    | false =>
                      have Hf := Lib.hid hfit
                      clear hfit
                      go_wp2_with fail
                      go_meet
                      exact ⟨x.Old, rfl, rfl⟩
                  case rest =>
                    obtain ⟨xo, rfl, rfl⟩ := hcut
                    go_wp2_with fail
                    refine (swap_any _ m c L q hmem i xo x.cell.N x.cell.M x.cell.K (by omega) (by omega)).mono ?_
                    rintro e w5 ⟨he, h5, k5⟩
                    rw [Hy.out] at he h5
                    cases hin : memIn L i with
                    | true =>
                      rw [hin, Bool.true_and] at he h5
                      obtain ⟨j, rfl, hj⟩ := memIn_nat L i hin
                      have hl5 := k5.blk hst6.lst (by simp; omega)
                      have hc5 := k5.blk hcb6 (by simp; omega)
                      have hb5 := k5.blk hnb (by simp; omega)
                      have hc5o := hc5.o8
                      have hb5o := hb5.o3
                      obtain ⟨l0, l1, l2⟩ := flat_cells (r := []) (by rw [List.append_nil]; exact hl5) j _ (memAt_nat L j hj)
                      have lf := hl5.frozen
                      have ll := hl5.lt
                      have hjn : (j : Int) < n := by omega
                      have hj0 : (0 : Int) ≤ j := by omega
                      clear hcbo hnbo n0 n1 n2 nf nl hin
                      cases hyo : (y.N == xo) with
                      | true =>
                        have hoy : (xo == y.N) = true := by rw [beq_iff_eq] at hyo ⊢; exact hyo.symm
                        rw [hyo] at he h5
                        simp only [if_true] at h5
                        subst he
                        obtain ⟨hs, hk⟩ := hst6.put_in (q' := q + 1) hj h5 (by omega) k5
                        clear hyo
                        go_wp2_with fail
                        go_meet
                        exact ⟨q + 1, _, by go_num, by omega, by simp [hL], hs, hk⟩
                      | false =>
                        have hoy : (xo == y.N) = false := by rw [beq_eq_false_iff_ne] at hyo ⊢; exact fun e => hyo e.symm
                        rw [hyo] at he h5
                        simp only [Bool.false_eq_true, if_false] at h5
                        subst he
                        have hs := hst6.same (q' := q + 1) h5 (by omega) k5
                        clear hyo
                        go_wp2_with fail
                        go_meet
                        exact ⟨q + 1, L, by go_num, by omega, hL, hs, k5.mono (by intro i hi; left; simp at hi ⊢; omega)⟩
                    | false =>
                      rw [hin, Bool.false_and] at he h5
                      simp only [Bool.false_eq_true, if_false] at h5
                      subst he
                      have hs := hst6.same (q' := q + 1) h5 (by omega) k5
                      clear hin
                      go_wp2_with fail
                      go_meet
                      exact ⟨q + 1, L, by go_num, by omega, hL, hs, k5.mono (by intro i hi; left; simp at hi ⊢; omega)⟩
                · go_wp2_with fail
                  go_region_held3 (fun w' => w'.cell? ⟨wp.heap.size, 0, none⟩ = some (.int .u64 y.N) ∧ w'.cell? ⟨wp.heap.size, 1, none⟩ = some (.string y.K) ∧ w'.cell? ⟨wp.heap.size, 2, none⟩ = some (.int .u64 y.M))
                    (first
                      | exact ⟨k8.undrew.cellEq n0 (by simp), k8.undrew.cellEq n1 (by simp), k8.undrew.cellEq n2 (by simp)⟩
                      | go_keep)
                    ((go_at_call 27; refine (peek_any _ m c L q hmd i).mono ?_; rintro e w8 ⟨he, k8⟩; rw [Hy.out] at he; subst he))
                  go_wp2_with fail
                  go_meet
                  exact ⟨q, L, rfl, by omega, hL, hst6.same (hmd.keeps k8 (by simp) (by simp)) rfl (k8.undrew.mono (by simp)), k8.undrew.mono (by simp)⟩
                · go_wp2_with fail
                  refine (poke_any _ m c L q hmem i x.cell.N x.cell.M x.cell.K).mono ?_
                  rintro e w5 ⟨rfl, h5, k5⟩
                  replace k5 := k5.mono (S' := [m, c]) (by simp)
                  cases hin : memIn L i with
                  | true =>
                    obtain ⟨j, rfl, hj⟩ := memIn_nat L i hin
                    have hl5 := k5.blk hst6.lst (by simp; omega)
                    have hc5 := k5.blk hcb6 (by simp; omega)
                    have hc5o := hc5.o8
                    obtain ⟨l0, l1, l2⟩ := flat_cells (r := []) (by rw [List.append_nil]; exact hl5) j _ (memAt_nat L j hj)
                    have lf := hl5.frozen
                    have ll := hl5.lt
                    have hjn : (j : Int) < n := by omega
                    have hj0 : (0 : Int) ≤ j := by omega
                    obtain ⟨hs, hk⟩ := hst6.put_in (q' := q) hj h5 (by omega) k5
                    clear hcbo hnbo n0 n1 n2 nf nl hin
                    go_wp2_with fail
                    go_meet
                    exact ⟨q, _, by first | rfl | go_num, by omega, by simp [hL], hs, hk⟩
                  | false =>
                    have hs := hst6.put_out (q' := q) hin h5 (by omega) k5
                    clear hin
                    go_wp2_with fail
                    go_meet
                    exact ⟨q, L, by first | rfl | go_num, by omega, hL, hs, k5.mono (by intro i hi; left; simp at hi ⊢; omega)⟩
              case rest =>
                obtain ⟨q', L', rfl, hq', hL', hst7, k7⟩ := hcut
                have hmem7 := hst7.mem
                have K7 := K6.trans k7 (by simp)
                clear hcbo hnb hcb6 hst6
                go_wp2_with fail
                refine (accesses_any _ m c _ _ hmem7).mono ?_
                rintro e w' ⟨rfl, rfl⟩
                have hqq : ((q' : Int) != (q' : Int)) = false := by simp
                go_wp2_with fail
                exact ⟨⟨k + 1, q', L', by omega, by go_num, rfl, by omega, hL', hst7, K7⟩, by simp [intOf]; omega⟩
      · obtain rfl : k = X.length := by omega
        go_wp2_with fail
        refine (kitCells_any _ m c L q hst.mem).mono ?_
        rintro e w5 ⟨b5, rfl, hb5, hbs5, k5⟩
        have hst5 := hst.keeps k5
        rw [hL]
        go_wp2_with fail
        have hsm := hst5.mem.small
        have hsame := fun W (h1 : Blk W b5 (flat L)) (h2 : Blk W w2.heap.size (flat L)) => same_cells W b5 w2.heap.size n n L [] [] (by rw [List.append_nil]; exact h1) (by rw [List.append_nil]; exact h2) (by omega)
        rw [hL] at hsame
        refine (hsame _ hb5 hst5.lst).mono ?_
        rintro e w6 ⟨rfl, k6⟩
        have hst6 := hst5.keeps k6
        have K6 := (hkp.trans k5 (by simp)).trans k6 (by simp)
        have hmw := K2.size
        have fin : ∀ w7, Keeps [] w6 w7 → Keeps [] w w7 := fun w7 k7 => (K2.trans (K6.trans k7 (by simp)) (by simp; omega))
        clear hsame
        rcases hst6.old with ⟨rfl, rfl, rfl⟩ | ⟨om, oc, wb, wcap, oq, OL, rest, rfl, rfl, rfl, h4, h5, h6, h7, h8⟩
        · go_wp2_with fail
          go_ret
          exact ⟨rfl, fin _ (Keeps.refl _ _)⟩
        · go_wp2_with fail
          refine (kitCells_any _ om oc OL oq h4).mono ?_
          rintro e w7 ⟨b7, rfl, hb7, hbs7, k7⟩
          have h47 := h4.keeps k7 (by simp) (by simp)
          have h57 := k7.blk h5 (by simp)
          have hsm7 := h4.small
          go_wp2_with fail
          refine (same_cells _ b7 wb OL.length wcap OL [] rest (by rw [List.append_nil]; exact hb7) h57 (by omega)).mono ?_
          rintro e w8 ⟨rfl, k8⟩
          have h48 := h47.keeps k8 (by simp) (by simp)
          go_wp2_with (go_at_call 25; refine (accesses_any _ om oc OL oq h48).mono ?_; rintro e w' ⟨rfl, rfl⟩)
          go_ret
          exact ⟨rfl, fin _ (k7.trans k8 (by simp))⟩
end Go.Proofs.Ytigmafikjbaigaa
