/- The walk of HistoryThreads. -/
import Derived.Test.YtjlgodaiciopaaaHisI
import Derived.Deep.CutBlock
namespace Go.Proofs.Ytjlgodaiciopaaa
open Go.RowKit
set_option maxRecDepth 100000
set_option linter.unusedSimpArgs false
set_option maxHeartbeats 2000000
/-- How many records the first t threads have. -/
def sumT (L : List Rec) (t : Nat) : Nat := ((List.range t).map (fun t : Nat => (ofT t L).length)).sum
theorem sumT_succ (L : List Rec) (t : Nat) : sumT L (t + 1) = sumT L t + (ofT t L).length := by
  unfold sumT; rw [List.range_succ, List.map_append, List.sum_append]; simp
theorem historyThreads_any (X : List (Value × List Rn)) (v : Value) (w : World) (hX : OkRuns w v X) : Calls Try.prog 7 #[v] w fun e w' => e = .returned (.bool true) ∧ Keeps [] w w' := by
  have mixed : Try.prog.follows .mixedOrders = true := by kernel_rfl
  have hbld := build_any X v w hX
  obtain ⟨⟨A0, cap0, b0, o0, rfl, _, _⟩, _⟩ := hX
  go_enter Try.func7, Try.ntmps7
  go_wp2_with fail
  refine hbld.mono ?_
  rintro e w1 ⟨u, rfl, hp, k1⟩
  have hlen := bldOf_len X
  have hthr := bldOf_thr X
  have hsum : sumT (bldOf X) 6 = (bldOf X).length := bldOf_sum X
  generalize bldOf X = L at hp hlen hthr hsum
  have hlst := hp.lst
  obtain ⟨A1, c1, rfl⟩ := hp.row.len
  have hn : (L.map rvOf).length = L.length := by simp
  have HL := Lib.hid hlst
  have HT := Lib.hid hthr
  have HS := Lib.hid hsum
  have Hn := Lib.hid hn
  rw [hn]
  obtain ⟨N, hN⟩ : ∃ N, L.length = N := ⟨_, rfl⟩
  rw [hN] at hlen ⊢
  have HN := Lib.hid hN
  clear hbld hlst hthr hsum hp hn hN
  go_wp2_with fail
  go_loopw [4, 5] (fun c t wr => ∃ q : Nat, q ≤ 6 ∧ t = .int .i64 q ∧ c = .int .i64 (sumT L q : Nat) ∧ sumT L q ≤ 8 * q ∧ Keeps [] w1 wr) (fun _ t _ => 6 - (intOf t).toNat)
  case atStart => exact ⟨0, by omega, rfl, rfl, Nat.zero_le _, Keeps.refl _ _⟩
  case round =>
    obtain ⟨q, hq, rfl, rfl, hc8, kk⟩ := hrel
    obtain ⟨c, hc⟩ : ∃ c, sumT L q = c := ⟨_, rfl⟩
    rw [hc] at hc8 ⊢
    have HC := Lib.hid hc
    clear hc
    by_cases hlt : q < 6
    · have hqz : (q : Int) < 6 := by omega
      have hth := thread_any (L.map rvOf) (by rw [Hn.out, HN.out]; omega) _ wr (HL.out.keeps kk) (okl_rv L) (q : Int)
      rw [Hn.out, HN.out] at hth
      go_wp2_with fail
      refine hth.mono ?_
      rintro e w2 ⟨u2, ys, rfl, hpk, hst, k2⟩
      have hnum : ys.map (·.n) = ofT q L := by
        rw [pk_nums (p := fun r : Rec => r.th == (q : Int)) hst, map_n]; rfl
      obtain ⟨h1, h2, h3⟩ := HT.out q
      rw [← hnum] at h1 h2 h3
      have hyl : ys.length = (ofT q L).length := by rw [← hnum, List.length_map]
      have hlst2 := hpk.lst
      have hok2 := hpk.ok
      obtain ⟨A2, c2, rfl⟩ := hpk.row.len
      have hss := sumT_succ L q
      rw [← hyl, HC.out] at hss
      obtain ⟨m, hm⟩ : ∃ m, ys.length = m := ⟨_, rfl⟩
      rw [List.length_map, hm] at h3
      rw [hm] at hss hlst2
      rw [hm]
      have Hm := Lib.hid hm
      have HSS := Lib.hid hss
      have H1 := Lib.hid h1
      have H2 := Lib.hid h2
      have HL2 := Lib.hid hlst2
      have HO2 := Lib.hid hok2
      have K2 := kk.trans k2 (by simp)
      have hw1 : IntKind.i64.wrap ((c : Int) + (m : Int)) = (c : Int) + (m : Int) := by rw [IntKind.wrap_i64]; omega
      have HB2 := Lib.hid (strip_b hst (fun z hz => rv_b z (List.mem_filter.1 hz).1))
      clear hth hst hnum hyl hss h1 h2 hm hpk hlst2 hok2 k2 kk
      go_wp2_with fail
      go_loopw [7] (fun i wx => ∃ j : Nat, 1 ≤ j ∧ j ≤ m + 1 ∧ i = .int .i64 j ∧ Keeps [] w2 wx) (fun i _ => m + 1 - (intOf i).toNat)
      case atStart => exact ⟨1, Nat.le_refl _, by omega, rfl, Keeps.refl _ _⟩
      case round =>
        obtain ⟨j, hj1, hjm, rfl, k3⟩ := hrel
        by_cases hlt2 : j < m
        · obtain ⟨i, rfl⟩ : ∃ i, j = i + 1 := ⟨j - 1, by omega⟩
          obtain ⟨y1, hy1⟩ : ∃ y, ys[i]? = some y := ⟨_, List.getElem?_eq_getElem (by rw [Hm.out]; omega)⟩
          obtain ⟨y2, hy2⟩ : ∃ y, ys[i + 1]? = some y := ⟨_, List.getElem?_eq_getElem (by rw [Hm.out]; omega)⟩
          obtain ⟨hp1, hix⟩ := H1.out i y1.n y2.n (recs_at hy1) (recs_at hy2)
          obtain ⟨g, o, rfl, hc1, hg⟩ := (HL2.out.keeps k3).atS Hm.out hy1
          obtain ⟨g', o', e2, hc2, _⟩ := (HL2.out.keeps k3).atS Hm.out hy2
          injection e2 with e2
          injection e2 with e2 e3
          subst e2; subst e3
          have ld1 : Hid (∀ w', Keeps [] wr w' → (loadVar 36 ⟨g, o + i * 16, none⟩).run Try.prog w' = .ok (.agg #[.int .i64 y1.n.th, .int .i64 y1.n.ix, .int .i64 y1.n.inv, .int .i64 y1.n.pt, .int .i64 y1.n.rs, .int .i64 y1.code, .string y1.key, .int .u64 y1.time, .slice y1.bA y1.b.length y1.bc, .int .i64 y1.hd, .int .i64 y1.cu, .int .i64 y1.mo, .int .i64 y1.er, .int .u64 y1.at_, .string y1.ak, .string y1.av]) w') := fun w' k' => (hc1.keeps k' (by simp)).load
          have ld2 : Hid (∀ w', Keeps [] wr w' → (loadVar 36 ⟨g, o + (i + 1) * 16, none⟩).run Try.prog w' = .ok (.agg #[.int .i64 y2.n.th, .int .i64 y2.n.ix, .int .i64 y2.n.inv, .int .i64 y2.n.pt, .int .i64 y2.n.rs, .int .i64 y2.code, .string y2.key, .int .u64 y2.time, .slice y2.bA y2.b.length y2.bc, .int .i64 y2.hd, .int .i64 y2.cu, .int .i64 y2.mo, .int .i64 y2.er, .int .u64 y2.at_, .string y2.ak, .string y2.av]) w') := fun w' k' => (hc2.keeps k' (by simp)).load
          have ld3 : Hid (∀ w', Keeps [] wr w' → (loadVar 3 ⟨g, o + (i + 1) * 16 + 1, none⟩).run Try.prog w' = .ok (.int .i64 ((i : Int) + 1)) w') := fun w' k' => by rw [← hix]; exact load_int (hc2.keeps k' (by simp)).num.2.1
          have hcl : Hid (∀ w', Keeps [] wr w' → Calls Try.prog 14 #[.agg #[.int .i64 y1.n.th, .int .i64 y1.n.ix, .int .i64 y1.n.inv, .int .i64 y1.n.pt, .int .i64 y1.n.rs, .int .i64 y1.code, .string y1.key, .int .u64 y1.time, .slice y1.bA y1.b.length y1.bc, .int .i64 y1.hd, .int .i64 y1.cu, .int .i64 y1.mo, .int .i64 y1.er, .int .u64 y1.at_, .string y1.ak, .string y1.av], .agg #[.int .i64 y2.n.th, .int .i64 y2.n.ix, .int .i64 y2.n.inv, .int .i64 y2.n.pt, .int .i64 y2.n.rs, .int .i64 y2.code, .string y2.key, .int .u64 y2.time, .slice y2.bA y2.b.length y2.bc, .int .i64 y2.hd, .int .i64 y2.cu, .int .i64 y2.mo, .int .i64 y2.er, .int .u64 y2.at_, .string y2.ak, .string y2.av]] w' fun e w'' => e = .returned (.bool true) ∧ Keeps [] wr w'') := fun w' k' => (prec_any y1 y2 w').mono fun e w'' h => ⟨by rw [h.1, hp1], k'.trans h.2 (by simp)⟩
          have jz : (i : Int) + 1 < (m : Int) := by omega
          have jz1 : (i : Int) < (m : Int) := by omega
          have jzp : (0 : Int) ≤ (i : Int) + 1 := by omega
          have hwj : IntKind.i64.wrap (i : Int) = (i : Int) := by rw [IntKind.wrap_i64]; omega
          have e1 : ((i : Int) + 1).toNat = i + 1 := by omega
          have hself : (((i : Int) + 1) != ((i : Int) + 1)) = false := by simp
          clear hy1 hy2 hp1 hix hc1 hc2
          go_upto_region 11 with fail
          go_cut [46] from 21 to 46 (fun s wx => s = .bool false ∧ Keeps [] wr wx)
          case first =>
            refine wp_region_keeps mixed (by kernel_rfl) ?_
            refine wpQuiet_step (fun K hK => ?_)
            go_simp
            refine ⟨_, fun _ _ => rfl, hK _ ?_⟩
            clear hK K
            refine wpQuiet_step (fun K hK => ?_)
            go_simp
            refine ⟨_, fun _ _ => rfl, hK _ ?_⟩
            clear hK K
            refine wpQuiet_step (fun K hK => ?_)
            go_simp
            refine ⟨_, fun _ _ => rfl, hK _ ?_⟩
            clear hK K
            refine wpQuiet_step (fun K hK => ?_)
            go_simp
            refine ⟨_, fun _ _ => rfl, hK _ ?_⟩
            clear hK K
            refine quiet_load rfl 36 _ rfl _ rfl _ (fun w1 hw1 => ld1.out w1 hw1) ?_
            refine wpQuiet_step (fun K hK => ?_)
            go_simp
            refine ⟨_, fun _ _ => rfl, hK _ ?_⟩
            clear hK K
            refine wpQuiet_step (fun K hK => ?_)
            go_simp
            refine ⟨_, fun _ _ => rfl, hK _ ?_⟩
            clear hK K
            refine wpQuiet_step (fun K hK => ?_)
            go_simp
            refine ⟨_, fun _ _ => rfl, hK _ ?_⟩
            clear hK K
            refine quiet_load rfl 36 _ rfl _ rfl _ (fun w1 hw1 => ld2.out w1 hw1) ?_
            refine wpQuiet_step (fun K hK => ?_)
            go_simp
            apply Exists.intro
            refine ⟨fun w1 hw1 => hcl.out w1 hw1, hK _ ?_⟩
            clear hK K
            refine wpQuiet_step (fun K hK => ?_)
            go_simp
            refine ⟨_, fun _ _ => rfl, hK _ ?_⟩
            clear hK K
            refine wpQuiet_step (fun K hK => ?_)
            go_simp
            refine ⟨_, fun _ _ => rfl, hK _ ?_⟩
            clear hK K
            refine wpQuiet_step (fun K hK => ?_)
            go_simp
            refine ⟨_, fun _ _ => rfl, hK _ ?_⟩
            clear hK K
            refine wpQuiet_step (fun K hK => ?_)
            go_simp
            refine ⟨_, fun _ _ => rfl, hK _ ?_⟩
            clear hK K
            refine wpQuiet_step (fun K hK => ?_)
            go_simp
            refine ⟨_, fun _ _ => rfl, hK _ ?_⟩
            clear hK K
            refine wpQuiet_step (fun K hK => ?_)
            go_simp
            refine ⟨_, fun _ _ => rfl, hK _ ?_⟩
            clear hK K
            refine quiet_load_w (by rfl) 3 _ rfl _ rfl _ (fun w1 hw1 => ld3.out w1 hw1) ?_
            refine wpQuiet_step (fun K hK => ?_)
            go_simp
            refine ⟨_, fun _ _ => rfl, hK _ ?_⟩
            clear hK K
            refine wpQuiet_step (fun K hK => ?_)
            go_simp
            refine ⟨_, fun _ _ => rfl, hK _ ?_⟩
            clear hK K
            refine wpQuiet_step (fun K hK => ?_)
            go_simp
            refine ⟨_, fun _ _ => rfl, hK _ ?_⟩
            clear hK K
            refine wpQuiet_nil ?_
            intro w1 hw1
            go_wp2_with fail
            go_meet
            case rel => exact ⟨rfl, hw1⟩
          case rest =>
          obtain ⟨rfl, k4⟩ := hcut
          go_wp2_with fail
          exact ⟨⟨i + 2, by omega, by omega, by go_num, k3.trans k4 (by simp)⟩, by simp [intOf]; omega⟩
        · have hpe := pending_any ys (by rw [Hm.out]; omega) _ wr (by rw [Hm.out]; exact HL2.out.keeps k3) (fun y hy => ⟨(HO2.out y hy).okb.keeps k3, by rw [HB2.out y hy]; decide⟩)
          go_wp2_with fail
          refine hpe.mono ?_
          rintro e w4 ⟨u4, zs, rfl, hpk4, hst4, k4⟩
          have hz1 : zs.length ≤ 1 := by
            have := pk_nums (p := fun r : Rec => r.rs == -1) hst4
            have h2 := H2.out
            rw [← this, List.length_map] at h2
            exact h2
          obtain ⟨A4, c4, rfl⟩ := hpk4.row.len
          have hz1z : ¬ (1 : Int) < (zs.length : Int) := by omega
          clear hpe hst4
          go_wp2_with fail
          exact ⟨⟨q + 1, by omega, by go_num, by rw [HSS.out]; go_num, by rw [HSS.out]; omega, (K2.trans k3 (by simp)).trans k4 (by simp)⟩, by simp [intOf]; omega⟩
    · obtain rfl : q = 6 := by omega
      have hcN : c = N := by rw [← HC.out, HS.out, HN.out]
      subst hcN
      have hself : ((c : Int) == (c : Int)) = true := by simp
      go_wp2_with fail
      refine (awake_any wr).mono ?_
      rintro e w5 ⟨rfl, k5⟩
      go_wp2_with fail
      go_ret
      exact ⟨rfl, (k1.trans kk (by simp)).trans k5 (by simp)⟩
end Go.Proofs.Ytjlgodaiciopaaa
