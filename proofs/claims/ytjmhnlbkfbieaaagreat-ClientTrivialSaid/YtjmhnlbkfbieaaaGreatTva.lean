/- ClientTrivial: the walk of the law. -/
import Derived.Test.YtjmhnlbkfbieaaaGreatTrq
import Derived.Test.YtjmhnlbkfbieaaaGreatClt
import Derived.Test.YtjmhnlbkfbieaaaGreatAwc
import Derived.Test.YtjmhnlbkfbieaaaGreatTvp
import Derived.Test.YtjmhnlbkfbieaaaGreatTvr
import Derived.Deep.RegionHeld3
namespace Go.Proofs.YtjmhnlbkfbieaaaGreat
open Go.RowKit
set_option linter.unusedSectionVars false
set_option linter.unusedVariables false
set_option linter.unusedSimpArgs false
set_option maxRecDepth 100000
set_option maxHeartbeats 40000000
@[go_sem] theorem ptr_neq_nil_mem (m : Nat) (w : World) : (binOp .neq 32 (.pointer (some ⟨m, 0, none⟩)) (.pointer none)).run Tryz.prog w = .ok (.bool true) w := by kernel_rfl
theorem memAt_set_other (L : List C3) (i j : Int) (x : C3) (h : i ≠ j) : memAt (memSet L i x) j = memAt L j := by
  unfold memSet
  split
  · unfold memAt
    split
    · rw [List.getD_eq_getElem?_getD, List.getD_eq_getElem?_getD, List.getElem?_set_ne (by omega)]
    · rfl
  · rfl
theorem memAt_rep (n : Nat) (j : Int) : memAt (List.replicate n C3.zero) j = C3.zero := by
  unfold memAt
  split
  · rw [List.getD_eq_getElem?_getD, List.getElem?_replicate]
    split <;> rfl
  · rfl
theorem memAt_cells0 (n : Nat) (hi j : Int) (h0 : j ≠ 0) (h4 : j ≠ 4) (hh : j ≠ hi) : memAt (cells0 n hi) j = C3.zero := by
  unfold cells0
  rw [memAt_set_other _ _ _ _ (Ne.symm hh), memAt_set_other _ _ _ _ (Ne.symm h4), memAt_set_other _ _ _ _ (Ne.symm h0), memAt_rep]
theorem infoWr : (Tryz.prog.info? 45).map (fun i => (i.zero, i.size, i.bytes)) = some (some (.agg #[.string ⟨#[]⟩, .string ⟨#[]⟩, .bool false]), 3, 40) := by kernel_rfl
theorem make_wrt (k : Nat) (h : 17 ≤ k ∧ k ≤ 21) (w : World) : (Instr.makeSlice 23 (.int .i64 (k : Int)) (.int .i64 (k : Int))).run Tryz.prog w = .ok (.slice (some ⟨w.heap.size, 0, none⟩) k k) (w.alloc (.cells (wCs (List.replicate k wr0)).toArray 45)) := by
  obtain ⟨i, hi, hz0, hz1, hz2⟩ := info_parts infoWr
  have := run_make (P := Tryz.prog) w 23 45 i _ Tryz.underlying23 hi hz0 .i64 .i64 k k (by omega) (by omega) (by rw [hz2]; omega) (by omega)
  rw [hz1] at this
  rw [this]
  simp only [Int.toNat_natCast]
  have e : madeCells (Value.agg #[.string ⟨#[]⟩, .string ⟨#[]⟩, .bool false]).cells (k * 3) = (wCs (List.replicate k wr0)).toArray := by
    obtain rfl | rfl | rfl | rfl | rfl : k = 17 ∨ k = 18 ∨ k = 19 ∨ k = 20 ∨ k = 21 := by omega
    all_goals kernel_rfl
  rw [e]
def dig : Str := [48, 49, 50, 51, 52, 53, 54, 55, 56, 57, 48, 49, 50, 51, 52, 53, 54, 55, 56, 57, 48, 49, 50, 51, 52, 53, 54, 55, 56, 57, 48, 49, 50, 51, 52, 53, 54, 55, 56, 57]
@[go_sem] theorem field_Answer_0 (a b c d : Value) (w : World) : (Instr.field 52 (.agg #[a, b, c, d]) 0).run Tryz.prog w = .ok a w := by kernel_rfl
theorem neAn (e : Int) (he : e = 1 ∨ e = 6 ∨ e = 7 ∨ e = 8) (w : World) : (binOp .neq 52 (.agg #[.int .i64 e, .int .u64 0, .string ⟨#[]⟩, .string ⟨#[]⟩]) (.agg #[.int .i64 e, .int .u64 0, .string ⟨#[]⟩, .string ⟨#[]⟩])).run Tryz.prog w = .ok (.bool false) w := by
  rcases he with rfl | rfl | rfl | rfl <;> kernel_rfl
theorem str_cat (a b : Str) : (⟨a.toArray⟩ ++ ⟨b.toArray⟩ : ByteArray) = ⟨(a ++ b).toArray⟩ := by
  apply ByteArray.ext
  simp [ByteArray.data_append]
theorem tva_any (ky vl : Str) (ww ha ho hc : Int) (bw : 0 ≤ ww ∧ ww ≤ 255) (ba : -9223372036854775808 ≤ ha ∧ ha ≤ 9223372036854775807) (bo : -9223372036854775808 ≤ ho ∧ ho ≤ 9223372036854775807) (bc : -9223372036854775808 ≤ hc ∧ hc ≤ 9223372036854775807) (w : World) :
    Calls Tryz.prog 4 #[.string ⟨ky.toArray⟩, .string ⟨vl.toArray⟩, .int .u8 ww, .int .i64 ha, .int .i64 ho, .int .i64 hc] w fun q w' => q = .returned (.bool true) ∧ Keeps [] w w' := by
  go_enter Tryz.func4, Tryz.ntmps4
  go_wp2_with fail
  refine (config_kit 1 0 (by omega) (by omega) _).mono ?_
  rintro q w1 ⟨rfl, k1⟩
  rw [show (4 : Int) + 0 % 3 = 4 from rfl]
  go_wp2_with fail
  refine (kitMemory_yes 1 2 100 100 200 4 1000 cfg1 1510 (by decide) _).mono ?_
  rintro q w2 ⟨mb, mc, rfl, hm2, hmb, hmc, k2⟩
  have kc := (Keeps.refl [] w1).alloc (.cells #[.int .i64 1, .int .i64 2, .int .i64 100, .int .i64 100, .int .i64 200, .int .i64 4, .int .u64 1000] 27)
  have K2 := (k1.trans kc (by simp)).trans k2 (by simp)
  have hs1 : w.heap.size ≤ mb ∧ w.heap.size ≤ mc := by have := (k1.trans kc (by simp)).size; omega
  have bL := Blk.new w2 [.int .i64 1, .int .i64 2, .int .i64 100, .int .i64 100, .int .i64 200, .int .i64 4, .int .u64 1000] 31
  have kB := (Keeps.refl [] w2).alloc (.cells #[.int .i64 1, .int .i64 2, .int .i64 100, .int .i64 100, .int .i64 200, .int .i64 4, .int .u64 1000] 31)
  change Blk (w2.alloc (.cells #[.int .i64 1, .int .i64 2, .int .i64 100, .int .i64 100, .int .i64 200, .int .i64 4, .int .u64 1000] 31)) _ _ at bL
  go_upto_region 3 with fail
  obtain ⟨W3, hW3⟩ : ∃ W3, (w2.alloc (.cells #[.int .i64 1, .int .i64 2, .int .i64 100, .int .i64 100, .int .i64 200, .int .i64 4, .int .u64 1000] 31)) = W3 := ⟨_, rfl⟩
  obtain ⟨gL, hgL⟩ : ∃ gL, w2.heap.size = gL := ⟨_, rfl⟩
  rw [hW3] at kB bL ⊢
  rw [hgL] at bL ⊢
  have hm3 := hm2.keeps kB (by simp) (by simp)
  have K3 := K2.trans kB (by simp)
  clear hW3 hgL k1 kc k2 hmb hmc kB K2 hm2
  go_wp2_with fail
  refine (awc_any _).mono ?_
  rintro q w4 ⟨rfl, k4⟩
  have bL4 := k4.blk bL (by simp)
  have hm4 := hm3.keeps k4 (by simp) (by simp)
  have K4 := K3.trans k4 (by simp)
  clear k4 bL hm3 K3
  by_cases hk : ky.length ≤ 100
  · by_cases hv : vl.length ≤ 100
    · have hk1 : ¬ (100 : Int) < (ky.length : Int) := by omega
      have hv1 : ¬ (100 : Int) < (vl.length : Int) := by omega
      go_upto_region 5 with fail
      obtain ⟨h, hh⟩ : ∃ h : Nat, ha % 2 = (h : Int) := ⟨(ha % 2).toNat, by omega⟩
      obtain ⟨o, hoo⟩ : ∃ o : Nat, ho % 2 = (o : Int) := ⟨(ho % 2).toNat, by omega⟩
      obtain ⟨r, hr⟩ : ∃ r : Nat, hc % 8 = (r : Int) := ⟨(hc % 8).toNat, by omega⟩
      obtain ⟨n, hn⟩ : ∃ n : Nat, 17 + ww % 5 = (n : Int) := ⟨(17 + ww % 5).toNat, by omega⟩
      have h2 : h < 2 := by omega
      have o2 : o < 2 := by omega
      have r8 : r < 8 := by omega
      have n17 : 17 ≤ n ∧ n ≤ 21 := by omega
      have hw5 : wrap64 (17 + ww % 5) = (n : Int) := by rw [hn]; exact IntWalk.wrap64_in _ ⟨by omega, by omega⟩
      have h1 : wrap64 (1 - (h : Int)) = ((1 - h : Nat) : Int) := by rw [show (1 : Int) - (h : Int) = ((1 - h : Nat) : Int) by omega]; exact IntWalk.wrap64_in _ ⟨by omega, by omega⟩
      have hmk := make_wrt n n17
      go_wp2_with fail
      refine (mod_any ha 2 ba.1 ba.2 (by omega) (by omega) _).mono ?_
      rintro q w5 ⟨rfl, rfl⟩
      go_wp2_with fail
      refine (mod_any ho 2 bo.1 bo.2 (by omega) (by omega) _).mono ?_
      rintro q w5 ⟨rfl, rfl⟩
      go_wp2_with fail
      refine (mod_any hc 8 bc.1 bc.2 (by omega) (by omega) _).mono ?_
      rintro q w5 ⟨rfl, rfl⟩
      rw [hr]
      go_upto_region 6 with fail
      go_cut [19] from 64 to 65 (fun s19 wx => s19 = .string ⟨(ky ++ dig).toArray⟩ ∧ wx = w4)
      case first =>
        go_wp2_with fail
        go_meet
        exact ⟨by rw [← str_cat]; rfl, rfl⟩
      case rest =>
        obtain ⟨rfl, rfl⟩ := hcut
        obtain ⟨lg, hlg⟩ : ∃ lg, ky ++ dig = lg := ⟨_, rfl⟩
        have l1 : 40 ≤ lg.length ∧ lg.length ≤ 140 := by rw [← hlg, List.length_append]; have : dig.length = 40 := rfl; omega
        rw [hlg]
        go_upto_region 7 with fail
        go_cut [20] from 66 to 70 (fun s20 wx => s20 = .string ⟨(vl ++ lg ++ lg).toArray⟩ ∧ wx = wc)
        case first =>
          go_wp2_with fail
          go_meet
          exact ⟨by rw [← str_cat, ← str_cat], rfl⟩
        case rest =>
          obtain ⟨rfl, rfl⟩ := hcut
          obtain ⟨bg, hbg⟩ : ∃ bg, vl ++ lg ++ lg = bg := ⟨_, rfl⟩
          have l2 : 80 ≤ bg.length ∧ bg.length ≤ 380 := by rw [← hbg, List.length_append, List.length_append]; omega
          rw [hbg]
          have HLB := Lib.hid (And.intro l1 (And.intro l2 (And.intro h2 (And.intro o2 (And.intro r8 n17)))))
          clear hlg hbg l1 l2 hk hv hk1 hv1
          go_upto_region 8 with fail
          go_cut [21] from 71 to 75 (fun s21 wx => ∃ gM, s21 = .slice (some ⟨gM, 0, none⟩) n n ∧ Blk wx gM (wCs (List.replicate n wr0)) ∧ Keeps [] wc wx)
          case first =>
            go_wp2_with fail
            go_meet
            exact ⟨_, rfl, Blk.new _ _ _, (Keeps.refl _ _).alloc _⟩
          case rest =>
            obtain ⟨gM, rfl, bM, kM⟩ := hcut
            have hm5 := hm4.keeps kM (by simp) (by simp)
            have bL5 := kM.blk bL4 (by simp)
            have K5 := K4.trans kM (by simp)
            clear hmk hw5 hn bL4 hm4 K4 kM hh hoo hr
            go_upto_region 9 with fail
            go_cut [22] from 76 to 132 (fun s22 wx => ∃ gP g1 g2 g3, s22 = .slice (some ⟨gP, 0, none⟩) 22 22 ∧ Blk wx gP (oCs (tB h o r n lg bg gM g1 g2 g3)) ∧ Blk wx g1 (wCs [⟨lg, [], false⟩]) ∧ Blk wx g2 (wCs [⟨[], bg, false⟩]) ∧ Blk wx g3 (wCs [⟨[], [120], true⟩]) ∧ Keeps [] wc wx ∧ wc.heap.size ≤ gP)
            case first =>
              have k1 := (Keeps.refl [] wc).alloc (.cells #[.string ⟨lg.toArray⟩, .string ⟨#[]⟩, .bool false] 45)
              have b1 := Blk.new wc [.string ⟨lg.toArray⟩, .string ⟨#[]⟩, .bool false] 45
              change Blk (wc.alloc (.cells #[.string ⟨lg.toArray⟩, .string ⟨#[]⟩, .bool false] 45)) _ _ at b1
              go_wp2_with fail
              go_meet
              rw [show (1 : Int) - (h : Int) = ((1 - h : Nat) : Int) by have := HLB.out; omega]
              refine ⟨wc.heap.size + 1 + 1 + 1, wc.heap.size, wc.heap.size + 1, wc.heap.size + 1 + 1, rfl, ?_, ((b1.alloc _).alloc _).alloc _, ?_, ?_, ((k1.alloc _).alloc _).alloc _, by omega⟩
              · simp only [tB, oCs_cons, oC, List.length_replicate, List.length_cons, List.length_nil, List.cons_append, List.nil_append]
                refine Blk.new_at _ _ _ _ ?_
                simp
              · exact ((Blk.new_at _ (wc.heap.size + 1) [.string ⟨#[]⟩, .string ⟨bg.toArray⟩, .bool false] _ (by simp)).alloc _).alloc _
              · exact (Blk.new_at _ (wc.heap.size + 1 + 1) [.string ⟨#[]⟩, .string ⟨#[120]⟩, .bool true] _ (by simp)).alloc _
            case rest =>
              obtain ⟨gP, g1, g2, g3, rfl, bP, b1, b2, b3, kP, hgP⟩ := hcut
              have HMB : Hid (mb < gP ∧ mc < gP ∧ mb < wc.heap.size ∧ mc < wc.heap.size) := Lib.hid (by have := hm5.lt; have := kP.size; omega)
              clear hgP
              have hm6 := hm5.keeps kP (by simp) (by simp)
              have bL6 := kP.blk bL5 (by simp)
              have bM6 := kP.blk bM (by simp)
              have K6 := K5.trans kP (by simp)
              clear hm5 bL5 bM K5 kP h1
              have kW := (Keeps.refl [] wc).alloc (.cells wantV.toArray 40)
              have bW := Blk.new wc wantV 40
              have HZ : Hid (w.heap.size ≤ wc.heap.size) := Lib.hid K6.size
              go_upto_region 11 with fail
              obtain ⟨W7, hW7⟩ : ∃ W7, wc.alloc (.cells #[.int .i64 6, .int .i64 6, .int .i64 6, .int .i64 6, .int .i64 8, .int .i64 8, .int .i64 8, .int .i64 8, .int .i64 8, .int .i64 1, .int .i64 0, .int .i64 7, .int .i64 0, .int .i64 7, .int .i64 8, .int .i64 6, .int .i64 0, .int .i64 6, .int .i64 0, .int .i64 0, .int .i64 6, .int .i64 6] 40) = W7 := ⟨_, rfl⟩
              obtain ⟨gW, hgW⟩ : ∃ gW, wc.heap.size = gW := ⟨_, rfl⟩
              rw [hW7, hgW]
              change Keeps [] wc (wc.alloc (.cells #[.int .i64 6, .int .i64 6, .int .i64 6, .int .i64 6, .int .i64 8, .int .i64 8, .int .i64 8, .int .i64 8, .int .i64 8, .int .i64 1, .int .i64 0, .int .i64 7, .int .i64 0, .int .i64 7, .int .i64 8, .int .i64 6, .int .i64 0, .int .i64 6, .int .i64 0, .int .i64 0, .int .i64 6, .int .i64 6] 40)) at kW
              change Blk (wc.alloc (.cells #[.int .i64 6, .int .i64 6, .int .i64 6, .int .i64 6, .int .i64 8, .int .i64 8, .int .i64 8, .int .i64 8, .int .i64 8, .int .i64 1, .int .i64 0, .int .i64 7, .int .i64 0, .int .i64 7, .int .i64 8, .int .i64 6, .int .i64 0, .int .i64 6, .int .i64 0, .int .i64 0, .int .i64 6, .int .i64 6] 40)) wc.heap.size wantV at bW
              have HWM : Hid (gW ≠ mb ∧ gW ≠ mc) := Lib.hid (by have := HMB.out; omega)
              rw [hW7] at kW bW
              rw [hgW] at bW
              have hm7 := hm6.keeps kW (by simp) (by simp)
              have bL7 := kW.blk bL6 (by simp)
              have bM7 := kW.blk bM6 (by simp)
              have bP7 := kW.blk bP (by simp)
              have b17 := kW.blk b1 (by simp)
              have b27 := kW.blk b2 (by simp)
              have b37 := kW.blk b3 (by simp)
              have K7 := K6.trans kW (by simp)
              clear hW7 hgW hm6 bL6 bM6 K6 kW bP b1 b2 b3
              obtain ⟨l0, l1, l2, l3, l4, l5, l6, lf, ll⟩ := bL7.o7
              have hcn : Calls Tryz.prog 11 #[.agg #[.int .i64 1, .int .i64 2, .int .i64 100, .int .i64 100, .int .i64 200, .int .i64 4, .int .u64 1000], .int .i64 0, .slice (some ⟨gP, 0, none⟩) 22 22] W7 (CNewT W7 1 2 100 100 200 4 1000 0 (tB h o r n lg bg gM g1 g2 g3) (vProg 2 ((tB h o r n lg bg gM g1 g2 g3).map OV.op))) :=
                cnew_ok 1 2 100 100 200 4 1000 cfgT 0 ⟨by omega, by omega⟩ (tB h o r n lg bg gM g1 g2 g3) (by rw [tB_len]; omega) (tB_small h o r n lg bg gM g1 g2 g3 n17.2) (some ⟨gP, 0, none⟩) 22 W7 (Lst.blk (rest := []) (by rw [List.append_nil]; exact bP7)) (tB_ok h o r n lg bg gM g1 g2 g3 bM7 b17 b27 b37)
              clear b17 b27 b37 bM7
              go_wp2_with fail
              refine hcn.mono ?_
              rintro q w8 ⟨k8, hq⟩
              rw [tB_op, tO_valid h o r n lg bg h2 o2 r8, if_pos rfl] at hq
              obtain ⟨gc, gs, s, l, A5, C5, hs, rfl, bc8, bs, hgc, hgs, hne, hrow, hmap, hown, hbt⟩ := hq
              obtain rfl : s = 2 := by omega
              clear hs hcn
              obtain ⟨gp, rest, rfl, bp⟩ : ∃ gp rest, A5 = some ⟨gp, 0, none⟩ ∧ Blk w8 gp (oCs l ++ rest) := by
                obtain ⟨_, h' | ⟨g, cap, rest, hv, hb, _⟩⟩ := hrow
                · exact absurd h'.2 (by rw [tB_len]; omega)
                · injection hv with hv1 _ _
                  exact ⟨g, rest, hv1, hb⟩
              have hgp := hown gp rfl
              have hm8 := hm7.keeps k8 (by simp) (by simp)
              have bP8 := k8.blk bP7 (by simp)
              have bW8 := k8.blk bW (by simp)
              have K8 := K7.trans k8 (by simp)
              have hml := hm7.lt
              have hK7 := K7.size
              have H0 : CS w8 gc gs gp mb mc C5 l (cells0 1510 (8 + 1 * 2 + 2)) 0 0 0 (snA h 0) (scA r h 0) 0 := ⟨bc8, by rw [snp0_two] at bs; exact bs, ⟨rest, bp⟩, fun x hx => ⟨(hbt x hx).1, fun g hg => by have := (hbt x hx).2 g hg; omega⟩, hm8, by omega⟩
              have HG : Hid (w.heap.size ≤ gc ∧ w.heap.size ≤ gs ∧ w.heap.size ≤ gp ∧ w.heap.size ≤ mb ∧ w.heap.size ≤ mc ∧ gP ≠ gc ∧ gP ≠ gs ∧ gP ≠ mb ∧ gP ≠ mc ∧ gW ≠ gc ∧ gW ≠ gs ∧ gW ≠ mb ∧ gW ≠ mc) := by
                have := bP7.lt
                have := bW.lt
                have := HZ.out
                have hw0 : wantV.length = 22 := rfl
                have := HMB.out
                exact Lib.hid ⟨by omega, by omega, by omega, by omega, by omega, by omega, by omega, by omega, by omega, by omega, by omega, HWM.out.1, HWM.out.2⟩
              have HM := Lib.hid hmap
              clear hrow hown hbt bc8 bs hgc hgs hne hmap bp hgp hm8 k8 hm7 bP7 bW bL7 K7 hml hK7 l0 l1 l2 l3 l4 l5 l6 lf ll hs1
              go_wp2_with fail
              go_loopw [26] (fun i wr => ∃ (k : Nat) (L : List C3) (er tm na : Int), i = .int .i64 (k : Int) ∧ k ≤ 22 ∧ CS wr gc gs gp mb mc C5 l L k er tm (snA h k) (scA r h k) na ∧ Hid (0 ≤ na ∧ na ≤ 4 ∧ (k ≤ 19 → na ≤ 3) ∧ (k ≤ 10 → na = 0 ∧ L = cells0 1510 (8 + 1 * 2 + 2))) ∧ Blk wr gP (oCs (tB h o r n lg bg gM g1 g2 g3)) ∧ Blk wr gW wantV ∧ Keeps [] w wr) (fun i _ => 22 - (intOf i).toNat)
              case atStart => exact ⟨0, _, 0, 0, 0, rfl, by omega, H0, Lib.hid ⟨by omega, by omega, fun _ => by omega, fun _ => ⟨rfl, rfl⟩⟩, bP8, bW8, K8⟩
              case round =>
                clear H0 bP8 bW8 K8
                obtain ⟨k, L, er, tm, na, rfl, hk, H, HN, bP8, bW8, K8⟩ := hrel
                by_cases hlt : k < 22
                · have fW : wr.cell? ⟨gW, k, none⟩ = some (.int .i64 (wantE k)) := by rw [bW8.cell]; exact want_get k hlt
                  have fC : wr.cell? ⟨gP, k * 7, none⟩ = some (.int .i64 (codeL.getD k 0)) := by rw [bP8.cell]; exact code_get h o r n lg bg gM g1 g2 g3 k hlt
                  have hmk := H.mem
                  go_wp2_with fail
                  refine (accesses_any _ mb mc _ na hmk).mono ?_
                  rintro q w9 ⟨rfl, rfl⟩
                  by_cases h10 : k = 10
                  · --<C
                    obtain ⟨wo, rfl⟩ : ∃ wo, wo = wr := ⟨_, rfl⟩
                    have e11 : snA h k = sn0 := by subst h10; rfl
                    have e12 : scA r h k = sc0 := by subst h10; rfl
                    have e13 : snA h (k + 1) = snO h 0 := by subst h10; rfl
                    have e14 : scA r h (k + 1) = sc0 := by subst h10; rfl
                    rw [e11, e12] at H
                    obtain ⟨x, hx, ho⟩ : ∃ x, l[k]? = some x ∧ x.op = ⟨4, [], 0, [], h, 0, 0⟩ := by rw [h10]; exact op_at HM.out 10 _ rfl
                    have hna := HN.out.2.2.2 (by omega)
                    have hs := sn_one H hlt x hx h h2 ho (by omega)
                    have htp : (memAt (memSet L (8 + 0 * 2 + (h : Int)) ⟨1, ⟨#[]⟩, 0⟩) 2).N = 0 := by
                      rw [memAt_set_other _ _ _ _ (by omega), hna.2, memAt_cells0 _ _ _ (by omega) (by omega) (by omega)]
                      rfl
                    have HE := Lib.hid (And.intro e13 (And.intro e14 (And.intro htp hna)))
                    have HK := Lib.hid h10
                    clear e11 e12 e13 e14 htp hna h10
                    go_wp2_with fail
                    refine hs.mono ?_
                    rintro q w10 ⟨rfl, ob, HT⟩
                    clear hs hmk fW fC
                    obtain ⟨B, hB⟩ : ∃ B, w10.heap.size = B := ⟨_, rfl⟩
                    rw [hB] at HT
                    go_wp2_with fail
                    try rw [hB]
                    go_loopw [28, 29] (fun s28 s29 wx => ∃ (j g : Nat), s28 = .int .i64 (j : Int) ∧ s29 = .pointer (some ⟨g, 0, none⟩) ∧ B ≤ g ∧
                      ((j = 0 ∧ Blk wx g [.bool true, .bool false, .bool false] ∧ CT1 wo wx B gc gs gp mb mc C5 ob (memSet L (8 + 0 * 2 + (h : Int)) ⟨1, ⟨#[]⟩, 0⟩) ((k + 1 : Nat) : Int) h sc0 (na + 1)) ∨
                       (j = 1 ∧ Blk wx g [.bool false, .bool true, .bool false] ∧ CT2 wo wx B gc gs gp mb mc C5 ob (memSet L (8 + 0 * 2 + (h : Int)) ⟨1, ⟨#[]⟩, 0⟩) ((k + 1 : Nat) : Int) h 0 sc0 (na + 1 + 1)) ∨
                       (j = 2 ∧ Blk wx g [.bool false, .bool false, .bool true] ∧ CS wx gc gs gp mb mc C5 l (memSet (memSet L (8 + 0 * 2 + (h : Int)) ⟨1, ⟨#[]⟩, 0⟩) (8 + 0 * 2 + (h : Int)) ⟨0 + 1, ⟨#[]⟩, 0⟩) (k + 1) 0 0 (snO h 0) sc0 (na + 1 + 1 + 1) ∧ Keeps [gc, gs, mb, mc] wo wx))) (fun s28 _ _ => 2 - (intOf s28).toNat)
                    case atStart =>
                      have ka := (Keeps.refl [] w10).alloc (.cells #[.bool true, .bool false, .bool false] 49)
                      exact ⟨0, _, rfl, rfl, Nat.le_refl _, .inl ⟨rfl, Blk.new_at _ _ _ _ hB.symm, HT.keeps ka⟩⟩
                    case round =>
                      clear HT hB
                      obtain ⟨j, g, rfl, rfl, hg, hj⟩ := hrel
                      rcases hj with ⟨rfl, bE, HT⟩ | ⟨rfl, bE, HT⟩ | ⟨rfl, bE, H11, K11⟩
                      · obtain ⟨e0, e1, e2, ef, el⟩ := bE.o3
                        have ka := (Keeps.refl [] wr).alloc (.cells #[.bool true, .bool false, .bool false] 49)
                        have bN := Blk.new wr [.bool true, .bool false, .bool false] 49
                        have hs := sn_two H (HT.keeps ka) (by have := HE.out; omega)
                        rw [HE.out.2.2.1] at hs
                        have hgn : B ≤ wr.heap.size := by omega
                        go_wp2_with fail
                        refine hs.mono ?_
                        rintro q w11 ⟨rfl, HT2, X, kX, hX⟩
                        obtain ⟨gN, hgN⟩ : ∃ gN, wr.heap.size = gN := ⟨_, rfl⟩
                        change Blk (wr.alloc (.cells #[.bool true, .bool false, .bool false] 49)) _ _ at bN
                        rw [hgN] at bN hgn
                        rw [hgN]
                        have bN2 := kX.blk bN (fun hm => by have := hX _ hm; omega)
                        obtain ⟨u0, u1, u2, uf, ul⟩ := bN2.o3
                        have kS := (((Keeps.refl [gN] w11).setCell ⟨gN, 0, none⟩ (.bool false) (.inl (by simp))).setCell ⟨gN, 1, none⟩ (.bool true) (.inl (by simp))).setCell ⟨gN, 2, none⟩ (.bool false) (.inl (by simp))
                        have bS := ((bN2.set 0 (.bool false)).set 1 (.bool true)).set 2 (.bool false)
                        simp only [List.set_cons_zero, List.set_cons_succ] at bS
                        clear hs HT ka bN e0 e1 e2 ef el bE kX hX hgN bN2
                        go_wp2_with fail
                        exact ⟨⟨1, gN, by go_num, rfl, hgn, .inr (.inl ⟨rfl, bS, HT2.far kS hgn⟩)⟩, by simp [intOf]⟩
                      · obtain ⟨e0, e1, e2, ef, el⟩ := bE.o3
                        have ka := (Keeps.refl [] wr).alloc (.cells #[.bool false, .bool true, .bool false] 49)
                        have bN := Blk.new wr [.bool false, .bool true, .bool false] 49
                        have hs := sn_three H (HT.keeps ka) (by have := HE.out; omega) ⟨by omega, by omega⟩ h2
                        have hgn : B ≤ wr.heap.size := by omega
                        have hwo := HT.bd.2.2
                        go_wp2_with fail
                        refine hs.mono ?_
                        rintro q w11 ⟨rfl, HT2, kO, X, kX, hX⟩
                        obtain ⟨gN, hgN⟩ : ∃ gN, wr.heap.size = gN := ⟨_, rfl⟩
                        change Blk (wr.alloc (.cells #[.bool false, .bool true, .bool false] 49)) _ _ at bN
                        rw [hgN] at bN hgn
                        rw [hgN]
                        have bN2 := kX.blk bN (fun hm => by have := hX _ hm; omega)
                        obtain ⟨u0, u1, u2, uf, ul⟩ := bN2.o3
                        have kS := (((Keeps.refl [gN] w11).setCell ⟨gN, 0, none⟩ (.bool false) (.inl (by simp))).setCell ⟨gN, 1, none⟩ (.bool false) (.inl (by simp))).setCell ⟨gN, 2, none⟩ (.bool true) (.inl (by simp))
                        have bS := ((bN2.set 0 (.bool false)).set 1 (.bool false)).set 2 (.bool true)
                        simp only [List.set_cons_zero, List.set_cons_succ] at bS
                        clear hs HT ka bN e0 e1 e2 ef el bE kX hX hgN bN2
                        go_wp2_with fail
                        exact ⟨⟨2, gN, by go_num, rfl, hgn, .inr (.inr ⟨rfl, bS, HT2.far (B := 0) H kS (by omega), kO.trans kS (by simp; omega)⟩)⟩, by simp [intOf]⟩
                      · obtain ⟨e0, e1, e2, ef, el⟩ := bE.o3
                        have bP11 := K11.blk bP8 (by have := HG.out; simp; omega)
                        have bW11 := K11.blk bW8 (by have := HG.out; simp; omega)
                        have K12 : Keeps [] w wr := K8.trans K11 (by have := HG.out; simp; omega)
                        clear bE K11 bP8 bW8 K8 H
                        have fW : wr.cell? ⟨gW, k, none⟩ = some (.int .i64 0) := by rw [bW11.cell, want_get k hlt, show k = 10 from HK.out]; rfl
                        have fC : wr.cell? ⟨gP, k * 7, none⟩ = some (.int .i64 4) := by rw [bP11.cell, code_get h o r n lg bg gM g1 g2 g3 k hlt, show k = 10 from HK.out]; rfl
                        have hk0 : (0 : Int) ≤ (k : Int) := by omega
                        go_upto_region 24 with fail
                        go_cut [30] from 169 to 189 (fun s30 wx => s30 = .bool false ∧ wx = wr)
                        case first =>
                          go_wp2_with fail
                          go_meet
                          exact ⟨rfl, rfl⟩
                        case rest =>
                          obtain ⟨rfl, rfl⟩ := hcut
                          have kd := (Keeps.refl [] wc).drew
                          have fWd : wc.drew.cell? ⟨gW, k, none⟩ = some (.int .i64 0) := fW
                          clear e0 e1 e2 ef el fC
                          go_upto_region 25 with fail
                          refine wp_region_noPanic ?_
                          refine wp_region_held_drew (S := fun w' => w'.cell? ⟨gW, k, none⟩ = some (.int .i64 0)) (by kernel_rfl) fWd (fun hHeld => ?_)
                          refine takeIn 0 (some 190) (.pointer (some ⟨gc, 0, none⟩)) (by kernel_rfl) (by kernel_rfl) (by kernel_rfl) (by kernel_rfl) (fun _ _ _ _ h => h) (by kernel_rfl) (fun w _ => by kernel_rfl) (by assumption) ?_
                          refine takeIn 3 (some 193) (.slice (some ⟨gW, 0, none⟩) 22 22) (by kernel_rfl) (by kernel_rfl) (by kernel_rfl) (by kernel_rfl) (fun _ _ _ _ h => h) (by kernel_rfl) (fun w _ => by kernel_rfl) (by assumption) ?_
                          refine takeIn 4 (some 194) (.int .i64 k) (by kernel_rfl) (by kernel_rfl) (by kernel_rfl) (by kernel_rfl) (fun _ _ _ _ h => h) (by kernel_rfl) (fun w _ => by kernel_rfl) (by assumption) ?_
                          try simp only [Act.put, List.setIfInBounds_toArray, List.set_cons_zero, List.set_cons_succ]
                          refine takeIn 5 (some 195) (.pointer (some ⟨gW, k, none⟩)) (by kernel_rfl) (by kernel_rfl) (by kernel_rfl) (by kernel_rfl) (fun _ _ _ _ h => h) (by kernel_rfl) (fun w hSw => by (try dsimp only at hSw); simp only [runAt, List.getElem?_toArray, List.getElem?_cons_succ, List.getElem?_cons_zero, Option.map_some, Option.some.injEq]; go_simp) (by assumption) ?_
                          try simp only [Act.put, List.setIfInBounds_toArray, List.set_cons_zero, List.set_cons_succ]
                          refine takeIn 6 (some 196) (.int .i64 0) (by kernel_rfl) (by kernel_rfl) (by kernel_rfl) (by kernel_rfl) (fun _ _ _ _ h => h) (by kernel_rfl) (fun w hSw => by (try dsimp only at hSw); simp only [runAt, List.getElem?_toArray, List.getElem?_cons_succ, List.getElem?_cons_zero, Option.map_some, Option.some.injEq]; go_simp) (by assumption) ?_
                          try simp only [Act.put, List.setIfInBounds_toArray, List.set_cons_zero, List.set_cons_succ]
                          refine wpAnyH_ready (rs := [1]) (by kernel_rfl) (by simp) ?_
                          refine AllReadyH.cons (o := _) rfl (fun K hK => ?_) AllReadyH.nil
                          go_simp
                          refine (answer_any _ gc _ 0 0 (H11.keeps kd).cl ⟨rfl, rfl, rfl, rfl⟩).mono ?_
                          rintro q w5 ⟨rfl, k5⟩
                          replace kd := kd.trans k5 (by simp)
                          replace fWd : w5.cell? ⟨gW, k, none⟩ = some (.int .i64 0) := kd.cellEq fW (by simp)
                          go_wp2_with fail
                          refine hK.out _ _ fWd (fun hHeld => ?_)
                          clear hK K
                          try simp only [Act.put, List.setIfInBounds_toArray, List.set_cons_zero, List.set_cons_succ]
                          refine takeIn 2 (some 192) (.int .i64 0) (by kernel_rfl) (by kernel_rfl) (by kernel_rfl) (by kernel_rfl) (fun _ _ _ _ h => h) (by kernel_rfl) (fun w _ => by kernel_rfl) (by assumption) ?_
                          refine takeIn 7 (some 197) (.bool false) (by kernel_rfl) (by kernel_rfl) (by kernel_rfl) (by kernel_rfl) (fun _ _ _ _ h => h) (by kernel_rfl) (fun w _ => by kernel_rfl) (by assumption) ?_
                          refine takeIn 8 (some 198) (.bool false) (by kernel_rfl) (by kernel_rfl) (by kernel_rfl) (by kernel_rfl) (fun _ _ _ _ h => h) (by kernel_rfl) (fun w _ => by kernel_rfl) (by assumption) ?_
                          refine takeIn 9 (some 199) (.bool false) (by kernel_rfl) (by kernel_rfl) (by kernel_rfl) (by kernel_rfl) (fun _ _ _ _ h => h) (by kernel_rfl) (fun w _ => by kernel_rfl) (by assumption) ?_
                          refine takeIn 10 (some 200) (.bool false) (by kernel_rfl) (by kernel_rfl) (by kernel_rfl) (by kernel_rfl) (fun _ _ _ _ h => h) (by kernel_rfl) (fun w _ => by kernel_rfl) (by assumption) ?_
                          refine takeOff 11 (some 201) (by kernel_rfl) (by kernel_rfl) (by kernel_rfl) (by kernel_rfl) (fun _ _ _ _ h => h) (by kernel_rfl) (by assumption) ?_
                          refine takeOff 12 (some 202) (by kernel_rfl) (by kernel_rfl) (by kernel_rfl) (by kernel_rfl) (fun _ _ _ _ h => h) (by kernel_rfl) (by assumption) ?_
                          refine takeOff 13 (some 203) (by kernel_rfl) (by kernel_rfl) (by kernel_rfl) (by kernel_rfl) (fun _ _ _ _ h => h) (by kernel_rfl) (by assumption) ?_
                          refine takeOff 14 (some 204) (by kernel_rfl) (by kernel_rfl) (by kernel_rfl) (by kernel_rfl) (fun _ _ _ _ h => h) (by kernel_rfl) (by assumption) ?_
                          refine takeOff 16 (some 206) (by kernel_rfl) (by kernel_rfl) (by kernel_rfl) (by kernel_rfl) (fun _ _ _ _ h => h) (by kernel_rfl) (by assumption) ?_
                          refine takeOff 15 (some 205) (by kernel_rfl) (by kernel_rfl) (by kernel_rfl) (by kernel_rfl) (fun _ _ _ _ h => h) (by kernel_rfl) (by assumption) ?_
                          refine takeOff 17 (some 207) (by kernel_rfl) (by kernel_rfl) (by kernel_rfl) (by kernel_rfl) (fun _ _ _ _ h => h) (by kernel_rfl) (by assumption) ?_
                          refine takeOff 18 (some 208) (by kernel_rfl) (by kernel_rfl) (by kernel_rfl) (by kernel_rfl) (fun _ _ _ _ h => h) (by kernel_rfl) (by assumption) ?_
                          refine takeIn 19 (some 209) (.bool false) (by kernel_rfl) (by kernel_rfl) (by kernel_rfl) (by kernel_rfl) (fun _ _ _ _ h => h) (by kernel_rfl) (fun w _ => by kernel_rfl) (by assumption) ?_
                          refine takeIn 20 (some 210) (.bool false) (by kernel_rfl) (by kernel_rfl) (by kernel_rfl) (by kernel_rfl) (fun _ _ _ _ h => h) (by kernel_rfl) (fun w _ => by kernel_rfl) (by assumption) ?_
                          refine takeIn 21 (some 211) (.bool false) (by kernel_rfl) (by kernel_rfl) (by kernel_rfl) (by kernel_rfl) (fun _ _ _ _ h => h) (by kernel_rfl) (fun w _ => by kernel_rfl) (by assumption) ?_
                          refine takeIn 22 (some 212) (.slice (some ⟨gW, 0, none⟩) 22 22) (by kernel_rfl) (by kernel_rfl) (by kernel_rfl) (by kernel_rfl) (fun _ _ _ _ h => h) (by kernel_rfl) (fun w _ => by kernel_rfl) (by assumption) ?_
                          refine takeIn 23 (some 213) (.int .i64 k) (by kernel_rfl) (by kernel_rfl) (by kernel_rfl) (by kernel_rfl) (fun _ _ _ _ h => h) (by kernel_rfl) (fun w _ => by kernel_rfl) (by assumption) ?_
                          try simp only [Act.put, List.setIfInBounds_toArray, List.set_cons_zero, List.set_cons_succ]
                          refine takeIn 24 (some 214) (.pointer (some ⟨gW, k, none⟩)) (by kernel_rfl) (by kernel_rfl) (by kernel_rfl) (by kernel_rfl) (fun _ _ _ _ h => h) (by kernel_rfl) (fun w hSw => by (try dsimp only at hSw); simp only [runAt, List.getElem?_toArray, List.getElem?_cons_succ, List.getElem?_cons_zero, Option.map_some, Option.some.injEq]; go_simp) (by assumption) ?_
                          try simp only [Act.put, List.setIfInBounds_toArray, List.set_cons_zero, List.set_cons_succ]
                          refine takeIn 25 (some 215) (.int .i64 0) (by kernel_rfl) (by kernel_rfl) (by kernel_rfl) (by kernel_rfl) (fun _ _ _ _ h => h) (by kernel_rfl) (fun w hSw => by (try dsimp only at hSw); simp only [runAt, List.getElem?_toArray, List.getElem?_cons_succ, List.getElem?_cons_zero, Option.map_some, Option.some.injEq]; go_simp) (by assumption) ?_
                          refine takeIn 26 (some 216) (.bool false) (by kernel_rfl) (by kernel_rfl) (by kernel_rfl) (by kernel_rfl) (fun _ _ _ _ h => h) (by kernel_rfl) (fun w _ => by kernel_rfl) (by assumption) ?_
                          refine takeIn 27 (some 217) (.bool false) (by kernel_rfl) (by kernel_rfl) (by kernel_rfl) (by kernel_rfl) (fun _ _ _ _ h => h) (by kernel_rfl) (fun w _ => by kernel_rfl) (by assumption) ?_
                          refine takeOff 28 (some 218) (by kernel_rfl) (by kernel_rfl) (by kernel_rfl) (by kernel_rfl) (fun _ _ _ _ h => h) (by kernel_rfl) (by assumption) ?_
                          refine takeOff 30 (some 220) (by kernel_rfl) (by kernel_rfl) (by kernel_rfl) (by kernel_rfl) (fun _ _ _ _ h => h) (by kernel_rfl) (by assumption) ?_
                          refine takeOff 31 (some 221) (by kernel_rfl) (by kernel_rfl) (by kernel_rfl) (by kernel_rfl) (fun _ _ _ _ h => h) (by kernel_rfl) (by assumption) ?_
                          refine takeOff 32 (some 222) (by kernel_rfl) (by kernel_rfl) (by kernel_rfl) (by kernel_rfl) (fun _ _ _ _ h => h) (by kernel_rfl) (by assumption) ?_
                          refine takeOff 33 (some 223) (by kernel_rfl) (by kernel_rfl) (by kernel_rfl) (by kernel_rfl) (fun _ _ _ _ h => h) (by kernel_rfl) (by assumption) ?_
                          refine takeOff 34 (some 224) (by kernel_rfl) (by kernel_rfl) (by kernel_rfl) (by kernel_rfl) (fun _ _ _ _ h => h) (by kernel_rfl) (by assumption) ?_
                          refine takeOff 29 (some 219) (by kernel_rfl) (by kernel_rfl) (by kernel_rfl) (by kernel_rfl) (fun _ _ _ _ h => h) (by kernel_rfl) (by assumption) ?_
                          refine takeOff 35 (some 225) (by kernel_rfl) (by kernel_rfl) (by kernel_rfl) (by kernel_rfl) (fun _ _ _ _ h => h) (by kernel_rfl) (by assumption) ?_
                          refine takeIn 36 (some 226) (.bool false) (by kernel_rfl) (by kernel_rfl) (by kernel_rfl) (by kernel_rfl) (fun _ _ _ _ h => h) (by kernel_rfl) (fun w _ => by kernel_rfl) (by assumption) ?_
                          refine takeIn 37 (some 227) (.bool false) (by kernel_rfl) (by kernel_rfl) (by kernel_rfl) (by kernel_rfl) (fun _ _ _ _ h => h) (by kernel_rfl) (fun w _ => by kernel_rfl) (by assumption) ?_
                          try simp only [Act.put, List.setIfInBounds_toArray, List.set_cons_zero, List.set_cons_succ]
                          refine wpAnyH_done (by kernel_rfl) ?_ _
                          refine NoPanic.normal ?_
                          go_wp2_with fail
                          exact ⟨⟨k + 1, _, 0, 0, na + 1 + 1 + 1, by go_num, by omega, by rw [HE.out.1, HE.out.2.1]; exact H11.keeps kd, Lib.hid (by have := HE.out.2.2.2; have := HK.out; exact ⟨by omega, by omega, fun hh => by omega, fun hh => by omega⟩), kd.blk bP11 (by simp), kd.blk bW11 (by simp), K12.trans kd (by simp)⟩, by simp [intOf]; omega⟩
                    --C>
                  · by_cases h19 : k = 19
                    · --<D
                      have e11 : snA h k = snO h 0 := by subst h19; rfl
                      have e12 : scA r h k = scO r h := by subst h19; rfl
                      have e13 : snA h (k + 1) = sn0 := by subst h19; rfl
                      have e14 : scA r h (k + 1) = sc0 := by subst h19; rfl
                      rw [e11, e12] at H
                      obtain ⟨x, hx, ho⟩ : ∃ x, l[k]? = some x ∧ x.op = ⟨5, [], 0, [], h, 0, 0⟩ := by rw [h19]; exact op_at HM.out 19 _ rfl
                      have hs := io_release h r 0 h2 r8 H hlt x hx ho ⟨HN.out.1, by have := HN.out.2.1; omega⟩
                      have HE := Lib.hid (And.intro e13 e14)
                      have HK := Lib.hid h19
                      clear e11 e12 e13 e14 h19
                      go_wp2_with fail
                      refine hs.mono ?_
                      rintro q w10 ⟨rfl, H10, k10⟩
                      clear hs hmk fW fC
                      have bP10 := k10.blk bP8 (by have := HG.out; simp; omega)
                      have bW10 := k10.blk bW8 (by have := HG.out; simp; omega)
                      have K10 : Keeps [] w w10 := K8.trans k10 (by have := HG.out; simp; omega)
                      clear k10 bP8 bW8 K8 H
                      go_wp2_with fail
                      go_loopw [28, 29] (fun s28 s29 wx => s28 = .int .i64 0 ∧ ∃ g, s29 = .pointer (some ⟨g, 0, none⟩) ∧ Blk wx g [.bool true, .bool true, .bool true] ∧ Keeps [] w10 wx) (fun _ _ _ => 0)
                      case atStart => exact ⟨rfl, _, rfl, Blk.new _ _ _, (Keeps.refl _ _).alloc _⟩
                      case round =>
                        obtain ⟨rfl, g, rfl, bE, kE⟩ := hrel
                        obtain ⟨e0, e1, e2, ef, el⟩ := bE.o3
                        have H11 := H10.keeps kE
                        have bP11 := kE.blk bP10 (by simp)
                        have bW11 := kE.blk bW10 (by simp)
                        have K11 := K10.trans kE (by simp)
                        clear H10 bP10 bW10 K10 kE bE
                        have fW : wr.cell? ⟨gW, k, none⟩ = some (.int .i64 0) := by rw [bW11.cell, want_get k hlt, show k = 19 from HK.out]; rfl
                        have fC : wr.cell? ⟨gP, k * 7, none⟩ = some (.int .i64 5) := by rw [bP11.cell, code_get h o r n lg bg gM g1 g2 g3 k hlt, show k = 19 from HK.out]; rfl
                        have hk0 : (0 : Int) ≤ (k : Int) := by omega
                        go_upto_region 24 with fail
                        go_cut [30] from 169 to 189 (fun s30 wx => s30 = .bool false ∧ wx = wr)
                        case first =>
                          go_wp2_with fail
                          go_meet
                          exact ⟨rfl, rfl⟩
                        case rest =>
                          obtain ⟨rfl, rfl⟩ := hcut
                          have kd := (Keeps.refl [] wc).drew
                          have fWd : wc.drew.cell? ⟨gW, k, none⟩ = some (.int .i64 0) := fW
                          clear e0 e1 e2 ef el fC
                          go_upto_region 25 with fail
                          refine wp_region_noPanic ?_
                          refine wp_region_held_drew (S := fun w' => w'.cell? ⟨gW, k, none⟩ = some (.int .i64 0)) (by kernel_rfl) fWd (fun hHeld => ?_)
                          refine takeIn 0 (some 190) (.pointer (some ⟨gc, 0, none⟩)) (by kernel_rfl) (by kernel_rfl) (by kernel_rfl) (by kernel_rfl) (fun _ _ _ _ h => h) (by kernel_rfl) (fun w _ => by kernel_rfl) (by assumption) ?_
                          refine takeIn 3 (some 193) (.slice (some ⟨gW, 0, none⟩) 22 22) (by kernel_rfl) (by kernel_rfl) (by kernel_rfl) (by kernel_rfl) (fun _ _ _ _ h => h) (by kernel_rfl) (fun w _ => by kernel_rfl) (by assumption) ?_
                          refine takeIn 4 (some 194) (.int .i64 k) (by kernel_rfl) (by kernel_rfl) (by kernel_rfl) (by kernel_rfl) (fun _ _ _ _ h => h) (by kernel_rfl) (fun w _ => by kernel_rfl) (by assumption) ?_
                          try simp only [Act.put, List.setIfInBounds_toArray, List.set_cons_zero, List.set_cons_succ]
                          refine takeIn 5 (some 195) (.pointer (some ⟨gW, k, none⟩)) (by kernel_rfl) (by kernel_rfl) (by kernel_rfl) (by kernel_rfl) (fun _ _ _ _ h => h) (by kernel_rfl) (fun w hSw => by (try dsimp only at hSw); simp only [runAt, List.getElem?_toArray, List.getElem?_cons_succ, List.getElem?_cons_zero, Option.map_some, Option.some.injEq]; go_simp) (by assumption) ?_
                          try simp only [Act.put, List.setIfInBounds_toArray, List.set_cons_zero, List.set_cons_succ]
                          refine takeIn 6 (some 196) (.int .i64 0) (by kernel_rfl) (by kernel_rfl) (by kernel_rfl) (by kernel_rfl) (fun _ _ _ _ h => h) (by kernel_rfl) (fun w hSw => by (try dsimp only at hSw); simp only [runAt, List.getElem?_toArray, List.getElem?_cons_succ, List.getElem?_cons_zero, Option.map_some, Option.some.injEq]; go_simp) (by assumption) ?_
                          try simp only [Act.put, List.setIfInBounds_toArray, List.set_cons_zero, List.set_cons_succ]
                          refine wpAnyH_ready (rs := [1]) (by kernel_rfl) (by simp) ?_
                          refine AllReadyH.cons (o := _) rfl (fun K hK => ?_) AllReadyH.nil
                          go_simp
                          refine (answer_any _ gc _ 0 0 (H11.keeps kd).cl ⟨rfl, rfl, rfl, rfl⟩).mono ?_
                          rintro q w5 ⟨rfl, k5⟩
                          replace kd := kd.trans k5 (by simp)
                          replace fWd : w5.cell? ⟨gW, k, none⟩ = some (.int .i64 0) := kd.cellEq fW (by simp)
                          go_wp2_with fail
                          refine hK.out _ _ fWd (fun hHeld => ?_)
                          clear hK K
                          try simp only [Act.put, List.setIfInBounds_toArray, List.set_cons_zero, List.set_cons_succ]
                          refine takeIn 2 (some 192) (.int .i64 0) (by kernel_rfl) (by kernel_rfl) (by kernel_rfl) (by kernel_rfl) (fun _ _ _ _ h => h) (by kernel_rfl) (fun w _ => by kernel_rfl) (by assumption) ?_
                          refine takeIn 7 (some 197) (.bool false) (by kernel_rfl) (by kernel_rfl) (by kernel_rfl) (by kernel_rfl) (fun _ _ _ _ h => h) (by kernel_rfl) (fun w _ => by kernel_rfl) (by assumption) ?_
                          refine takeIn 8 (some 198) (.bool false) (by kernel_rfl) (by kernel_rfl) (by kernel_rfl) (by kernel_rfl) (fun _ _ _ _ h => h) (by kernel_rfl) (fun w _ => by kernel_rfl) (by assumption) ?_
                          refine takeIn 9 (some 199) (.bool false) (by kernel_rfl) (by kernel_rfl) (by kernel_rfl) (by kernel_rfl) (fun _ _ _ _ h => h) (by kernel_rfl) (fun w _ => by kernel_rfl) (by assumption) ?_
                          refine takeIn 10 (some 200) (.bool false) (by kernel_rfl) (by kernel_rfl) (by kernel_rfl) (by kernel_rfl) (fun _ _ _ _ h => h) (by kernel_rfl) (fun w _ => by kernel_rfl) (by assumption) ?_
                          refine takeOff 11 (some 201) (by kernel_rfl) (by kernel_rfl) (by kernel_rfl) (by kernel_rfl) (fun _ _ _ _ h => h) (by kernel_rfl) (by assumption) ?_
                          refine takeOff 12 (some 202) (by kernel_rfl) (by kernel_rfl) (by kernel_rfl) (by kernel_rfl) (fun _ _ _ _ h => h) (by kernel_rfl) (by assumption) ?_
                          refine takeOff 13 (some 203) (by kernel_rfl) (by kernel_rfl) (by kernel_rfl) (by kernel_rfl) (fun _ _ _ _ h => h) (by kernel_rfl) (by assumption) ?_
                          refine takeOff 14 (some 204) (by kernel_rfl) (by kernel_rfl) (by kernel_rfl) (by kernel_rfl) (fun _ _ _ _ h => h) (by kernel_rfl) (by assumption) ?_
                          refine takeOff 16 (some 206) (by kernel_rfl) (by kernel_rfl) (by kernel_rfl) (by kernel_rfl) (fun _ _ _ _ h => h) (by kernel_rfl) (by assumption) ?_
                          refine takeOff 15 (some 205) (by kernel_rfl) (by kernel_rfl) (by kernel_rfl) (by kernel_rfl) (fun _ _ _ _ h => h) (by kernel_rfl) (by assumption) ?_
                          refine takeOff 17 (some 207) (by kernel_rfl) (by kernel_rfl) (by kernel_rfl) (by kernel_rfl) (fun _ _ _ _ h => h) (by kernel_rfl) (by assumption) ?_
                          refine takeOff 18 (some 208) (by kernel_rfl) (by kernel_rfl) (by kernel_rfl) (by kernel_rfl) (fun _ _ _ _ h => h) (by kernel_rfl) (by assumption) ?_
                          refine takeIn 19 (some 209) (.bool false) (by kernel_rfl) (by kernel_rfl) (by kernel_rfl) (by kernel_rfl) (fun _ _ _ _ h => h) (by kernel_rfl) (fun w _ => by kernel_rfl) (by assumption) ?_
                          refine takeIn 20 (some 210) (.bool false) (by kernel_rfl) (by kernel_rfl) (by kernel_rfl) (by kernel_rfl) (fun _ _ _ _ h => h) (by kernel_rfl) (fun w _ => by kernel_rfl) (by assumption) ?_
                          refine takeIn 21 (some 211) (.bool false) (by kernel_rfl) (by kernel_rfl) (by kernel_rfl) (by kernel_rfl) (fun _ _ _ _ h => h) (by kernel_rfl) (fun w _ => by kernel_rfl) (by assumption) ?_
                          refine takeIn 22 (some 212) (.slice (some ⟨gW, 0, none⟩) 22 22) (by kernel_rfl) (by kernel_rfl) (by kernel_rfl) (by kernel_rfl) (fun _ _ _ _ h => h) (by kernel_rfl) (fun w _ => by kernel_rfl) (by assumption) ?_
                          refine takeIn 23 (some 213) (.int .i64 k) (by kernel_rfl) (by kernel_rfl) (by kernel_rfl) (by kernel_rfl) (fun _ _ _ _ h => h) (by kernel_rfl) (fun w _ => by kernel_rfl) (by assumption) ?_
                          try simp only [Act.put, List.setIfInBounds_toArray, List.set_cons_zero, List.set_cons_succ]
                          refine takeIn 24 (some 214) (.pointer (some ⟨gW, k, none⟩)) (by kernel_rfl) (by kernel_rfl) (by kernel_rfl) (by kernel_rfl) (fun _ _ _ _ h => h) (by kernel_rfl) (fun w hSw => by (try dsimp only at hSw); simp only [runAt, List.getElem?_toArray, List.getElem?_cons_succ, List.getElem?_cons_zero, Option.map_some, Option.some.injEq]; go_simp) (by assumption) ?_
                          try simp only [Act.put, List.setIfInBounds_toArray, List.set_cons_zero, List.set_cons_succ]
                          refine takeIn 25 (some 215) (.int .i64 0) (by kernel_rfl) (by kernel_rfl) (by kernel_rfl) (by kernel_rfl) (fun _ _ _ _ h => h) (by kernel_rfl) (fun w hSw => by (try dsimp only at hSw); simp only [runAt, List.getElem?_toArray, List.getElem?_cons_succ, List.getElem?_cons_zero, Option.map_some, Option.some.injEq]; go_simp) (by assumption) ?_
                          refine takeIn 26 (some 216) (.bool false) (by kernel_rfl) (by kernel_rfl) (by kernel_rfl) (by kernel_rfl) (fun _ _ _ _ h => h) (by kernel_rfl) (fun w _ => by kernel_rfl) (by assumption) ?_
                          refine takeIn 27 (some 217) (.bool false) (by kernel_rfl) (by kernel_rfl) (by kernel_rfl) (by kernel_rfl) (fun _ _ _ _ h => h) (by kernel_rfl) (fun w _ => by kernel_rfl) (by assumption) ?_
                          refine takeOff 28 (some 218) (by kernel_rfl) (by kernel_rfl) (by kernel_rfl) (by kernel_rfl) (fun _ _ _ _ h => h) (by kernel_rfl) (by assumption) ?_
                          refine takeOff 30 (some 220) (by kernel_rfl) (by kernel_rfl) (by kernel_rfl) (by kernel_rfl) (fun _ _ _ _ h => h) (by kernel_rfl) (by assumption) ?_
                          refine takeOff 31 (some 221) (by kernel_rfl) (by kernel_rfl) (by kernel_rfl) (by kernel_rfl) (fun _ _ _ _ h => h) (by kernel_rfl) (by assumption) ?_
                          refine takeOff 32 (some 222) (by kernel_rfl) (by kernel_rfl) (by kernel_rfl) (by kernel_rfl) (fun _ _ _ _ h => h) (by kernel_rfl) (by assumption) ?_
                          refine takeOff 33 (some 223) (by kernel_rfl) (by kernel_rfl) (by kernel_rfl) (by kernel_rfl) (fun _ _ _ _ h => h) (by kernel_rfl) (by assumption) ?_
                          refine takeOff 34 (some 224) (by kernel_rfl) (by kernel_rfl) (by kernel_rfl) (by kernel_rfl) (fun _ _ _ _ h => h) (by kernel_rfl) (by assumption) ?_
                          refine takeOff 29 (some 219) (by kernel_rfl) (by kernel_rfl) (by kernel_rfl) (by kernel_rfl) (fun _ _ _ _ h => h) (by kernel_rfl) (by assumption) ?_
                          refine takeOff 35 (some 225) (by kernel_rfl) (by kernel_rfl) (by kernel_rfl) (by kernel_rfl) (fun _ _ _ _ h => h) (by kernel_rfl) (by assumption) ?_
                          refine takeIn 36 (some 226) (.bool false) (by kernel_rfl) (by kernel_rfl) (by kernel_rfl) (by kernel_rfl) (fun _ _ _ _ h => h) (by kernel_rfl) (fun w _ => by kernel_rfl) (by assumption) ?_
                          refine takeIn 37 (some 227) (.bool false) (by kernel_rfl) (by kernel_rfl) (by kernel_rfl) (by kernel_rfl) (fun _ _ _ _ h => h) (by kernel_rfl) (fun w _ => by kernel_rfl) (by assumption) ?_
                          try simp only [Act.put, List.setIfInBounds_toArray, List.set_cons_zero, List.set_cons_succ]
                          refine wpAnyH_done (by kernel_rfl) ?_ _
                          refine NoPanic.normal ?_
                          go_wp2_with fail
                          exact ⟨⟨k + 1, _, 0, 0, na + 1, by go_num, by omega, by rw [HE.out.1, HE.out.2]; exact H11.keeps kd, Lib.hid (by have := HN.out; have := HK.out; exact ⟨by omega, by omega, fun hh => by omega, fun hh => by omega⟩), kd.blk bP11 (by simp), kd.blk bW11 (by simp), K11.trans kd (by simp)⟩, by simp [intOf]; omega⟩
                      --D>
                    · have hs := imm_all h o r n lg bg HLB.out k H HM.out hlt h10 h19
                      go_wp2_with fail
                      refine hs.mono ?_
                      rintro q w10 ⟨rfl, tm', H10, htm, k10⟩
                      clear hs hmk fW fC
                      have bP10 := k10.blk bP8 (by have := HG.out; simp; omega)
                      have bW10 := k10.blk bW8 (by have := HG.out; simp; omega)
                      have K10 : Keeps [] w w10 := K8.trans k10 (by have := HG.out; simp; omega)
                      clear k10 bP8 bW8 K8 H
                      go_wp2_with fail
                      go_loopw [28, 29] (fun s28 s29 wx => s28 = .int .i64 0 ∧ ∃ g, s29 = .pointer (some ⟨g, 0, none⟩) ∧ Blk wx g [.bool true, .bool true, .bool true] ∧ Keeps [] w10 wx) (fun _ _ _ => 0)
                      case atStart => exact ⟨rfl, _, rfl, Blk.new _ _ _, (Keeps.refl _ _).alloc _⟩
                      case round =>
                        obtain ⟨rfl, g, rfl, bE, kE⟩ := hrel
                        obtain ⟨e0, e1, e2, ef, el⟩ := bE.o3
                        have H11 := H10.keeps kE
                        have bP11 := kE.blk bP10 (by simp)
                        have bW11 := kE.blk bW10 (by simp)
                        have K11 := K10.trans kE (by simp)
                        clear H10 bP10 bW10 K10 kE bE
                        have fW : wr.cell? ⟨gW, k, none⟩ = some (.int .i64 (wantE k)) := by rw [bW11.cell]; exact want_get k hlt
                        have fC : wr.cell? ⟨gP, k * 7, none⟩ = some (.int .i64 (codeL.getD k 0)) := by rw [bP11.cell]; exact code_get h o r n lg bg gM g1 g2 g3 k hlt
                        obtain ⟨e, he⟩ : ∃ e, wantE k = e := ⟨_, rfl⟩
                        obtain ⟨c, hc⟩ : ∃ c, codeL.getD k 0 = c := ⟨_, rfl⟩
                        have hwc := want_code k hlt h10 h19
                        change (wantE k = 1 ∨ wantE k = 6 ∨ wantE k = 7 ∨ wantE k = 8) ∨ (wantE k = 0 ∧ _) at hwc
                        rw [he] at fW hwc H11 htm
                        rw [hc] at fC hwc
                        clear he hc
                        have hk0 : (0 : Int) ≤ (k : Int) := by omega
                        rcases hwc with hwc | ⟨rfl, hwc⟩
                        · --<A
                          have hne : ¬ e = 0 := by omega
                          obtain rfl := htm hne
                          have hneq : ∀ w : World, (binOp .neq 52 (.agg #[.int .i64 e, .int .u64 0, .string ⟨#[]⟩, .string ⟨#[]⟩]) (.agg #[.int .i64 e, .int .u64 0, .string ⟨#[]⟩, .string ⟨#[]⟩])).run Tryz.prog w = .ok (.bool false) w := neAn e hwc
                          go_upto_region 25 with fail
                          have kd := (Keeps.refl [] wr).drew
                          have fWd : wr.drew.cell? ⟨gW, k, none⟩ = some (.int .i64 e) := fW
                          have hb1 : (e == 0) = false := by simp [hne]
                          have hb2 : (e != 0) = true := by simp [hne]
                          clear e0 e1 e2 ef el fC hwc htm
                          go_region_held3 (fun w' => w'.cell? ⟨gW, k, none⟩ = some (.int .i64 e))
                            (first | (with_reducible assumption) | (with_reducible go_keep))
                            ((first
                              | (go_at_call 15; refine (answer_any _ gc _ e 0 (H11.keeps (by assumption)).cl ⟨rfl, rfl, rfl, rfl⟩).mono ?_; rintro q w5 ⟨rfl, k5⟩; have kk := Keeps.trans (a := wr) (by assumption) k5 (by simp); have f5 : w5.cell? ⟨gW, k, none⟩ = some (.int .i64 e) := kk.cellEq fW (by simp))
                              | (go_at_call 13; refine (accesses_any _ mb mc L na (H11.keeps (by assumption)).mem).mono ?_; rintro q w6 ⟨rfl, rfl⟩)
                                | fail))
                          go_wp2_with fail
                          exact ⟨⟨k + 1, L, e, 0, na, by go_num, by omega, H11.keeps kk, Lib.hid (by have := HN.out; exact ⟨by omega, by omega, fun _ => by omega, fun hh => this.2.2.2 (by omega)⟩), kk.blk bP11 (by simp), kk.blk bW11 (by simp), K11.trans kk (by simp)⟩, by simp [intOf]; omega⟩
                          --A>
                        · --<B
                          clear htm
                          go_upto_region 24 with fail
                          go_cut [30] from 169 to 189 (fun s30 wx => s30 = .bool true ∧ wx = wr)
                          case first =>
                            rcases hwc with rfl | rfl
                            all_goals
                              go_wp2_with fail
                              go_meet
                              exact ⟨rfl, rfl⟩
                          case rest =>
                            obtain ⟨rfl, rfl⟩ := hcut
                            have kd := (Keeps.refl [] wc).drew
                            have fWd : wc.drew.cell? ⟨gW, k, none⟩ = some (.int .i64 0) := fW
                            clear e0 e1 e2 ef el fC hwc
                            go_upto_region 25 with fail
                            refine wp_region_noPanic ?_
                            refine wp_region_held_drew (S := fun w' => w'.cell? ⟨gW, k, none⟩ = some (.int .i64 0)) (by kernel_rfl) fWd (fun hHeld => ?_)
                            refine takeIn 0 (some 190) (.pointer (some ⟨gc, 0, none⟩)) (by kernel_rfl) (by kernel_rfl) (by kernel_rfl) (by kernel_rfl) (fun _ _ _ _ h => h) (by kernel_rfl) (fun w _ => by kernel_rfl) (by assumption) ?_
                            refine takeIn 3 (some 193) (.slice (some ⟨gW, 0, none⟩) 22 22) (by kernel_rfl) (by kernel_rfl) (by kernel_rfl) (by kernel_rfl) (fun _ _ _ _ h => h) (by kernel_rfl) (fun w _ => by kernel_rfl) (by assumption) ?_
                            refine takeIn 4 (some 194) (.int .i64 k) (by kernel_rfl) (by kernel_rfl) (by kernel_rfl) (by kernel_rfl) (fun _ _ _ _ h => h) (by kernel_rfl) (fun w _ => by kernel_rfl) (by assumption) ?_
                            try simp only [Act.put, List.setIfInBounds_toArray, List.set_cons_zero, List.set_cons_succ]
                            refine takeIn 5 (some 195) (.pointer (some ⟨gW, k, none⟩)) (by kernel_rfl) (by kernel_rfl) (by kernel_rfl) (by kernel_rfl) (fun _ _ _ _ h => h) (by kernel_rfl) (fun w hSw => by (try dsimp only at hSw); simp only [runAt, List.getElem?_toArray, List.getElem?_cons_succ, List.getElem?_cons_zero, Option.map_some, Option.some.injEq]; go_simp) (by assumption) ?_
                            try simp only [Act.put, List.setIfInBounds_toArray, List.set_cons_zero, List.set_cons_succ]
                            refine takeIn 6 (some 196) (.int .i64 0) (by kernel_rfl) (by kernel_rfl) (by kernel_rfl) (by kernel_rfl) (fun _ _ _ _ h => h) (by kernel_rfl) (fun w hSw => by (try dsimp only at hSw); simp only [runAt, List.getElem?_toArray, List.getElem?_cons_succ, List.getElem?_cons_zero, Option.map_some, Option.some.injEq]; go_simp) (by assumption) ?_
                            try simp only [Act.put, List.setIfInBounds_toArray, List.set_cons_zero, List.set_cons_succ]
                            refine wpAnyH_ready (rs := [1]) (by kernel_rfl) (by simp) ?_
                            refine AllReadyH.cons (o := _) rfl (fun K hK => ?_) AllReadyH.nil
                            go_simp
                            refine (answer_any _ gc _ 0 tm' (H11.keeps kd).cl ⟨rfl, rfl, rfl, rfl⟩).mono ?_
                            rintro q w5 ⟨rfl, k5⟩
                            replace kd := kd.trans k5 (by simp)
                            replace fWd : w5.cell? ⟨gW, k, none⟩ = some (.int .i64 0) := kd.cellEq fW (by simp)
                            go_wp2_with fail
                            refine hK.out _ _ fWd (fun hHeld => ?_)
                            clear hK K
                            try simp only [Act.put, List.setIfInBounds_toArray, List.set_cons_zero, List.set_cons_succ]
                            refine takeIn 2 (some 192) (.int .i64 0) (by kernel_rfl) (by kernel_rfl) (by kernel_rfl) (by kernel_rfl) (fun _ _ _ _ h => h) (by kernel_rfl) (fun w _ => by kernel_rfl) (by assumption) ?_
                            refine takeIn 7 (some 197) (.bool false) (by kernel_rfl) (by kernel_rfl) (by kernel_rfl) (by kernel_rfl) (fun _ _ _ _ h => h) (by kernel_rfl) (fun w _ => by kernel_rfl) (by assumption) ?_
                            refine takeIn 8 (some 198) (.bool false) (by kernel_rfl) (by kernel_rfl) (by kernel_rfl) (by kernel_rfl) (fun _ _ _ _ h => h) (by kernel_rfl) (fun w _ => by kernel_rfl) (by assumption) ?_
                            refine takeIn 9 (some 199) (.bool true) (by kernel_rfl) (by kernel_rfl) (by kernel_rfl) (by kernel_rfl) (fun _ _ _ _ h => h) (by kernel_rfl) (fun w _ => by kernel_rfl) (by assumption) ?_
                            refine takeIn 10 (some 200) (.bool true) (by kernel_rfl) (by kernel_rfl) (by kernel_rfl) (by kernel_rfl) (fun _ _ _ _ h => h) (by kernel_rfl) (fun w _ => by kernel_rfl) (by assumption) ?_
                            refine takeIn 11 (some 201) (.int .i64 1) (by kernel_rfl) (by kernel_rfl) (by kernel_rfl) (by kernel_rfl) (fun _ _ _ _ h => h) (by kernel_rfl) (fun w _ => by kernel_rfl) (by assumption) ?_
                            refine takeIn 12 (some 202) (.bool false) (by kernel_rfl) (by kernel_rfl) (by kernel_rfl) (by kernel_rfl) (fun _ _ _ _ h => h) (by kernel_rfl) (fun w _ => by kernel_rfl) (by assumption) ?_
                            refine takeIn 13 (some 203) (.bool false) (by kernel_rfl) (by kernel_rfl) (by kernel_rfl) (by kernel_rfl) (fun _ _ _ _ h => h) (by kernel_rfl) (fun w _ => by kernel_rfl) (by assumption) ?_
                            refine takeIn 14 (some 204) (.pointer (some ⟨mb, 0, none⟩)) (by kernel_rfl) (by kernel_rfl) (by kernel_rfl) (by kernel_rfl) (fun _ _ _ _ h => h) (by kernel_rfl) (fun w _ => by kernel_rfl) (by assumption) ?_
                            refine takeIn 16 (some 206) (.int .u64 na) (by kernel_rfl) (by kernel_rfl) (by kernel_rfl) (by kernel_rfl) (fun _ _ _ _ h => h) (by kernel_rfl) (fun w _ => by kernel_rfl) (by assumption) ?_
                            try simp only [Act.put, List.setIfInBounds_toArray, List.set_cons_zero, List.set_cons_succ]
                            refine wpAnyH_ready (rs := [15]) (by kernel_rfl) (by simp) ?_
                            refine AllReadyH.cons (o := _) rfl (fun K hK => ?_) AllReadyH.nil
                            go_simp
                            refine (accesses_any _ mb mc L na (H11.keeps kd).mem).mono ?_
                            rintro q w6 ⟨rfl, rfl⟩
                            go_wp2_with fail
                            refine hK.out _ _ fWd (fun hHeld => ?_)
                            clear hK K
                            try simp only [Act.put, List.setIfInBounds_toArray, List.set_cons_zero, List.set_cons_succ]
                            try simp only [Act.put, List.setIfInBounds_toArray, List.set_cons_zero, List.set_cons_succ]
                            refine takeIn 17 (some 207) (.bool false) (by kernel_rfl) (by kernel_rfl) (by kernel_rfl) (by kernel_rfl) (fun _ _ _ _ h => h) (by kernel_rfl) (fun w hSw => by (try dsimp only at hSw); simp only [runAt, List.getElem?_toArray, List.getElem?_cons_succ, List.getElem?_cons_zero, Option.map_some, Option.some.injEq]; go_simp) (by assumption) ?_
                            refine takeIn 18 (some 208) (.bool false) (by kernel_rfl) (by kernel_rfl) (by kernel_rfl) (by kernel_rfl) (fun _ _ _ _ h => h) (by kernel_rfl) (fun w _ => by kernel_rfl) (by assumption) ?_
                            refine takeIn 19 (some 209) (.bool false) (by kernel_rfl) (by kernel_rfl) (by kernel_rfl) (by kernel_rfl) (fun _ _ _ _ h => h) (by kernel_rfl) (fun w _ => by kernel_rfl) (by assumption) ?_
                            refine takeIn 20 (some 210) (.bool false) (by kernel_rfl) (by kernel_rfl) (by kernel_rfl) (by kernel_rfl) (fun _ _ _ _ h => h) (by kernel_rfl) (fun w _ => by kernel_rfl) (by assumption) ?_
                            refine takeIn 21 (some 211) (.bool false) (by kernel_rfl) (by kernel_rfl) (by kernel_rfl) (by kernel_rfl) (fun _ _ _ _ h => h) (by kernel_rfl) (fun w _ => by kernel_rfl) (by assumption) ?_
                            refine takeIn 22 (some 212) (.slice (some ⟨gW, 0, none⟩) 22 22) (by kernel_rfl) (by kernel_rfl) (by kernel_rfl) (by kernel_rfl) (fun _ _ _ _ h => h) (by kernel_rfl) (fun w _ => by kernel_rfl) (by assumption) ?_
                            refine takeIn 23 (some 213) (.int .i64 k) (by kernel_rfl) (by kernel_rfl) (by kernel_rfl) (by kernel_rfl) (fun _ _ _ _ h => h) (by kernel_rfl) (fun w _ => by kernel_rfl) (by assumption) ?_
                            try simp only [Act.put, List.setIfInBounds_toArray, List.set_cons_zero, List.set_cons_succ]
                            refine takeIn 24 (some 214) (.pointer (some ⟨gW, k, none⟩)) (by kernel_rfl) (by kernel_rfl) (by kernel_rfl) (by kernel_rfl) (fun _ _ _ _ h => h) (by kernel_rfl) (fun w hSw => by (try dsimp only at hSw); simp only [runAt, List.getElem?_toArray, List.getElem?_cons_succ, List.getElem?_cons_zero, Option.map_some, Option.some.injEq]; go_simp) (by assumption) ?_
                            try simp only [Act.put, List.setIfInBounds_toArray, List.set_cons_zero, List.set_cons_succ]
                            refine takeIn 25 (some 215) (.int .i64 0) (by kernel_rfl) (by kernel_rfl) (by kernel_rfl) (by kernel_rfl) (fun _ _ _ _ h => h) (by kernel_rfl) (fun w hSw => by (try dsimp only at hSw); simp only [runAt, List.getElem?_toArray, List.getElem?_cons_succ, List.getElem?_cons_zero, Option.map_some, Option.some.injEq]; go_simp) (by assumption) ?_
                            refine takeIn 26 (some 216) (.bool false) (by kernel_rfl) (by kernel_rfl) (by kernel_rfl) (by kernel_rfl) (fun _ _ _ _ h => h) (by kernel_rfl) (fun w _ => by kernel_rfl) (by assumption) ?_
                            refine takeIn 27 (some 217) (.bool false) (by kernel_rfl) (by kernel_rfl) (by kernel_rfl) (by kernel_rfl) (fun _ _ _ _ h => h) (by kernel_rfl) (fun w _ => by kernel_rfl) (by assumption) ?_
                            refine takeOff 28 (some 218) (by kernel_rfl) (by kernel_rfl) (by kernel_rfl) (by kernel_rfl) (fun _ _ _ _ h => h) (by kernel_rfl) (by assumption) ?_
                            refine takeOff 30 (some 220) (by kernel_rfl) (by kernel_rfl) (by kernel_rfl) (by kernel_rfl) (fun _ _ _ _ h => h) (by kernel_rfl) (by assumption) ?_
                            refine takeOff 31 (some 221) (by kernel_rfl) (by kernel_rfl) (by kernel_rfl) (by kernel_rfl) (fun _ _ _ _ h => h) (by kernel_rfl) (by assumption) ?_
                            refine takeOff 32 (some 222) (by kernel_rfl) (by kernel_rfl) (by kernel_rfl) (by kernel_rfl) (fun _ _ _ _ h => h) (by kernel_rfl) (by assumption) ?_
                            refine takeOff 33 (some 223) (by kernel_rfl) (by kernel_rfl) (by kernel_rfl) (by kernel_rfl) (fun _ _ _ _ h => h) (by kernel_rfl) (by assumption) ?_
                            refine takeOff 34 (some 224) (by kernel_rfl) (by kernel_rfl) (by kernel_rfl) (by kernel_rfl) (fun _ _ _ _ h => h) (by kernel_rfl) (by assumption) ?_
                            refine takeOff 29 (some 219) (by kernel_rfl) (by kernel_rfl) (by kernel_rfl) (by kernel_rfl) (fun _ _ _ _ h => h) (by kernel_rfl) (by assumption) ?_
                            refine takeOff 35 (some 225) (by kernel_rfl) (by kernel_rfl) (by kernel_rfl) (by kernel_rfl) (fun _ _ _ _ h => h) (by kernel_rfl) (by assumption) ?_
                            refine takeIn 36 (some 226) (.bool false) (by kernel_rfl) (by kernel_rfl) (by kernel_rfl) (by kernel_rfl) (fun _ _ _ _ h => h) (by kernel_rfl) (fun w _ => by kernel_rfl) (by assumption) ?_
                            refine takeIn 37 (some 227) (.bool false) (by kernel_rfl) (by kernel_rfl) (by kernel_rfl) (by kernel_rfl) (fun _ _ _ _ h => h) (by kernel_rfl) (fun w _ => by kernel_rfl) (by assumption) ?_
                            try simp only [Act.put, List.setIfInBounds_toArray, List.set_cons_zero, List.set_cons_succ]
                            refine wpAnyH_done (by kernel_rfl) ?_ _
                            refine NoPanic.normal ?_
                            go_wp2_with fail
                            exact ⟨⟨k + 1, L, 0, tm', na, by go_num, by omega, H11.keeps kd, Lib.hid (by have := HN.out; exact ⟨by omega, by omega, fun _ => by omega, fun hh => this.2.2.2 (by omega)⟩), kd.blk bP11 (by simp), kd.blk bW11 (by simp), K11.trans kd (by simp)⟩, by simp [intOf]; omega⟩
                          --B>
                · obtain rfl : k = 22 := by omega
                  have hf := finished_yes H.cl
                  go_wp2_with fail
                  refine hf.mono ?_
                  rintro q w9 ⟨rfl, k9⟩
                  go_wp2_with fail
                  go_ret
                  exact ⟨rfl, K8.trans k9 (by simp)⟩
    · have hk1 : ¬ (100 : Int) < (ky.length : Int) := by omega
      have hv1 : (100 : Int) < (vl.length : Int) := by omega
      go_wp2_with fail
      refine (awc_any _).mono ?_
      rintro q w5 ⟨rfl, k5⟩
      go_wp2_with fail
      go_ret
      exact ⟨rfl, K4.trans k5 (by simp)⟩
  · have hk1 : (100 : Int) < (ky.length : Int) := by omega
    go_wp2_with fail
    refine (awc_any _).mono ?_
    rintro q w5 ⟨rfl, k5⟩
    go_wp2_with fail
    go_ret
    exact ⟨rfl, K4.trans k5 (by simp)⟩
end Go.Proofs.YtjmhnlbkfbieaaaGreat
