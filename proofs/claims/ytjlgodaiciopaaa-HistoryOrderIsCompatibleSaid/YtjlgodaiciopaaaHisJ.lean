/- The walk of HistoryOrderIsCompatible. -/
import Derived.Test.YtjlgodaiciopaaaHisI
import Derived.Deep.CutBlock
namespace Go.Proofs.Ytjlgodaiciopaaa
open Go.RowKit
set_option linter.unusedSectionVars false
set_option linter.unusedVariables false
set_option maxRecDepth 100000
set_option linter.unusedSimpArgs false
set_option maxHeartbeats 4000000
theorem ord_facts {L : List Rec} (hg : Good L) {ys : List RV} (h : ys.map strip = (ordL (L.map rvOf)).map strip) :
    (ys.map (·.n)).Pairwise (fun a b => a.pt ≤ b.pt) ∧ (∀ r ∈ ys.map (·.n), SoundR r ∧ 0 ≤ r.pt) ∧ ys.length = (L.filter (fun r => r.pt != -1)).length := by
  have e := strip_n h
  rw [e]
  refine ⟨?_, fun r hr => ?_, ?_⟩
  · rw [List.pairwise_map]
    exact stab_sort (k := keyP) _
  · obtain ⟨x, hx, rfl⟩ := List.mem_map.1 hr
    have hx2 := (stab_mem _ x).1 hx
    obtain ⟨h1, h2⟩ := List.mem_filter.1 hx2
    obtain ⟨r2, hr2, rfl⟩ := List.mem_map.1 h1
    have hs := hg.snd r2 hr2
    refine ⟨hs, ?_⟩
    have h3 := hs.2.2.2.1
    have h4 : r2.pt ≠ -1 := by have h5 : (r2.pt != -1) = true := h2; simpa using h5
    show 0 ≤ r2.pt
    omega
  · have h1 := congrArg List.length h
    rw [List.length_map, List.length_map] at h1
    rw [h1]
    unfold ordL
    rw [stab_len, ← List.length_map (f := (·.n)), filter_n (fun r : Rec => r.pt != -1), map_n]
def cntP (L : List Rec) (i : Nat) : Nat := ((L.take i).filter (fun r => r.pt != -1)).length
theorem cntP_step {L : List Rec} {r : Rec} {i : Nat} (h : L[i]? = some r) : cntP L (i + 1) = cntP L i + (if r.pt = -1 then 0 else 1) := by
  unfold cntP
  rw [List.take_add_one, h, List.filter_append, List.length_append]
  by_cases hp : r.pt = -1
  · simp [hp]
  · simp [hp]
theorem cntP_le (L : List Rec) (i : Nat) : cntP L i ≤ i := by
  unfold cntP
  have := List.length_filter_le (fun r : Rec => r.pt != -1) (L.take i)
  rw [List.length_take] at this
  omega
theorem historyOrder_any (X : List (Value × List Rn)) (v : Value) (w : World) (hX : OkRuns w v X) : Calls Try.prog 4 #[v] w fun e w' => e = .returned (.bool true) ∧ Keeps [] w w' := by
  have mixed : Try.prog.follows .mixedOrders = true := by kernel_rfl
  have hbld := build_any X v w hX
  obtain ⟨⟨A0, cap0, b0, o0, rfl, _, _⟩, _⟩ := hX
  go_enter Try.func4, Try.ntmps4
  go_wp2_with fail
  refine hbld.mono ?_
  rintro e w1 ⟨u, rfl, hp, k1⟩
  have hlen := bldOf_len X
  have hgood := bldOf_good X
  generalize bldOf X = L at hp hlen hgood
  have hlst := hp.lst
  obtain ⟨A1, c1, rfl⟩ := hp.row.len
  have hn : (L.map rvOf).length = L.length := by simp
  have hord := order_any (L.map rvOf) (by omega) _ w1 hlst (okl_rv L)
  obtain ⟨N, hN⟩ : ∃ N, L.length = N := ⟨_, rfl⟩
  rw [hn, hN] at hlst hord ⊢
  rw [hN] at hlen
  have Hn := Lib.hid hn
  have HN := Lib.hid hN
  have HG := Lib.hid hgood
  have HL := Lib.hid hlst
  clear hbld hlst hp hn hN hgood
  go_wp2_with fail
  refine hord.mono ?_
  rintro e w2 ⟨u2, ys, rfl, hpk, hst, k2⟩
  obtain ⟨hpw, hsnd, hcnt⟩ := ord_facts HG.out hst
  have hlst2 := hpk.lst
  obtain ⟨A2, c2, rfl⟩ := hpk.row.len
  obtain ⟨m, hm⟩ : ∃ m, ys.length = m := ⟨_, rfl⟩
  rw [hm] at hlst2 hcnt ⊢
  have Hm := Lib.hid hm
  have HPw := Lib.hid hpw
  have HSnd := Lib.hid hsnd
  have HCnt := Lib.hid hcnt
  have HL2 := Lib.hid hlst2
  have hm48 : m ≤ 48 := by
    have := List.length_filter_le (fun r : Rec => r.pt != -1) L
    have := HN.out
    omega
  have K2 : Keeps [] w w2 := k1.trans k2 (by simp)
  have HLw2 : Hid (Lst w2 (.slice A1 N c1) N (rCs (L.map rvOf))) := HL.out.keeps k2
  clear hord hst hpw hsnd hcnt hlst2 hm hpk k1 k2
  go_wp2_with fail
  go_loopw [5, 6] (fun c i wr => ∃ q : Nat, q ≤ N ∧ i = .int .i64 q ∧ c = .int .i64 (cntP L q : Nat) ∧ Keeps [] w2 wr) (fun _ i _ => N - (intOf i).toNat)
  case atStart => exact ⟨0, by omega, rfl, rfl, Keeps.refl _ _⟩
  case round =>
    obtain ⟨q, hq, rfl, rfl, kq⟩ := hrel
    obtain ⟨c, hc⟩ : ∃ c, cntP L q = c := ⟨_, rfl⟩
    have hcq : c ≤ q := by rw [← hc]; exact cntP_le L q
    rw [hc]
    have HC := Lib.hid hc
    clear hc
    by_cases hlt : q < N
    · obtain ⟨r, hr⟩ : ∃ r, L[q]? = some r := ⟨_, List.getElem?_eq_getElem (by rw [HN.out]; exact hlt)⟩
      have hst := cntP_step hr
      rw [HC.out] at hst
      obtain ⟨g, o, rfl, hc1, hg⟩ := (HLw2.out.keeps kq).atS (by rw [Hn.out, HN.out]) (show (L.map rvOf)[q]? = some (rvOf r) by rw [List.getElem?_map, hr]; rfl)
      have c3 : wr.cell? ⟨g, o + q * 16 + 3, none⟩ = some (.int .i64 r.pt) := hc1.num.2.2.2.1
      have hqz : (q : Int) < (N : Int) := by omega
      have hw1 : IntKind.i64.wrap ((c : Int) + 1) = (c : Int) + 1 := by rw [IntKind.wrap_i64]; omega
      clear hr hc1
      by_cases hp : r.pt = -1
      · have hb : (r.pt != -1) = false := by simp [hp]
        have hst2 : cntP L (q + 1) = c := by rw [hst, if_pos hp]; rfl
        have HSt := Lib.hid hst2
        clear hst hst2 hp
        go_wp2_with fail
        exact ⟨⟨q + 1, by omega, by go_num, by rw [HSt.out], kq⟩, by simp [intOf]; omega⟩
      · have hb : (r.pt != -1) = true := by simp [hp]
        rw [if_neg hp] at hst
        have HSt := Lib.hid hst
        clear hst hp
        go_wp2_with fail
        exact ⟨⟨q + 1, by omega, by go_num, by rw [HSt.out]; go_num, kq⟩, by simp [intOf]; omega⟩
    · obtain rfl : q = N := by omega
      have hcm : c = m := by rw [← HC.out, HCnt.out]; unfold cntP; rw [List.take_of_length_le (by rw [HN.out]; exact Nat.le_refl _)]
      subst hcm
      have hself : ((c : Int) != (c : Int)) = false := by simp
      go_wp2_with fail
      refine (awake_any wr).mono ?_
      rintro e w5 ⟨rfl, k5⟩
      go_wp2_with fail
      go_loopw [7] (fun i wx => ∃ i0 : Nat, i0 ≤ c ∧ i = .int .i64 i0 ∧ Keeps [] w2 wx) (fun i _ => c - (intOf i).toNat)
      case atStart => exact ⟨0, by omega, rfl, kq.trans k5 (by simp)⟩
      case round =>
        obtain ⟨i, hi, rfl, ki⟩ := hrel
        by_cases hli : i < c
        · obtain ⟨y1, hy1⟩ : ∃ y, ys[i]? = some y := ⟨_, List.getElem?_eq_getElem (by rw [Hm.out]; omega)⟩
          have hiz : (i : Int) < (c : Int) := by omega
          go_wp2_with fail
          go_loopw [8] (fun kv wx => ∃ k0 : Nat, k0 ≤ c ∧ kv = .int .i64 k0 ∧ Keeps [] w2 wx) (fun kv _ => c - (intOf kv).toNat)
          case atStart => exact ⟨0, by omega, rfl, ki⟩
          case round =>
            clear ki
            obtain ⟨k, hk, rfl, kk⟩ := hrel
            by_cases hlk : k < c
            · obtain ⟨y2, hy2⟩ : ∃ y, ys[k]? = some y := ⟨_, List.getElem?_eq_getElem (by rw [Hm.out]; omega)⟩
              have hkz : (k : Int) < (c : Int) := by omega
              obtain ⟨g, o, rfl, hc1, hg⟩ := HL2.out.atS Hm.out hy1
              obtain ⟨g', o', e2, hc2, _⟩ := HL2.out.atS Hm.out hy2
              injection e2 with e2
              injection e2 with e2 e3
              subst e2; subst e3
              obtain ⟨va, hva⟩ : ∃ va, (.agg #[.int .i64 y1.n.th, .int .i64 y1.n.ix, .int .i64 y1.n.inv, .int .i64 y1.n.pt, .int .i64 y1.n.rs, .int .i64 y1.code, .string y1.key, .int .u64 y1.time, .slice y1.bA y1.b.length y1.bc, .int .i64 y1.hd, .int .i64 y1.cu, .int .i64 y1.mo, .int .i64 y1.er, .int .u64 y1.at_, .string y1.ak, .string y1.av] : Value) = va := ⟨_, rfl⟩
              obtain ⟨vb, hvb⟩ : ∃ vb, (.agg #[.int .i64 y2.n.th, .int .i64 y2.n.ix, .int .i64 y2.n.inv, .int .i64 y2.n.pt, .int .i64 y2.n.rs, .int .i64 y2.code, .string y2.key, .int .u64 y2.time, .slice y2.bA y2.b.length y2.bc, .int .i64 y2.hd, .int .i64 y2.cu, .int .i64 y2.mo, .int .i64 y2.er, .int .u64 y2.at_, .string y2.ak, .string y2.av] : Value) = vb := ⟨_, rfl⟩
              have LI : Hid (∀ wb, Keeps [] w2 wb → ∀ w', Keeps [] wb w' → (loadVar 36 ⟨g, o + i * 16, none⟩).run Try.prog w' = .ok va w') := fun wb kb w' k' => by rw [← hva]; exact (hc1.keeps (kb.trans k' (by simp)) (by simp)).load
              have LK : Hid (∀ wb, Keeps [] w2 wb → ∀ w', Keeps [] wb w' → (loadVar 36 ⟨g, o + k * 16, none⟩).run Try.prog w' = .ok vb w') := fun wb kb w' k' => by rw [← hvb]; exact (hc2.keeps (kb.trans k' (by simp)) (by simp)).load
              obtain ⟨b1, hb1⟩ : ∃ b, prec y1.n y2.n = b := ⟨_, rfl⟩
              have C1 : Hid (∀ wb, ∀ w', Keeps [] wb w' → Calls Try.prog 14 #[va, vb] w' fun e w'' => e = .returned (.bool b1) ∧ Keeps [] wb w'') := fun wb w' k' => by rw [← hva, ← hvb]; exact (prec_any y1 y2 w').mono fun e w'' h => ⟨by rw [h.1, hb1], k'.trans h.2 (by simp)⟩
              have Hb1 := Lib.hid hb1
              have HVa := Lib.hid hva
              have HVb := Lib.hid hvb
              have HO := Lib.hid (fun h => order_law (ys.map (·.n)) HSnd.out HPw.out i k y1.n y2.n (recs_at hy1) (recs_at hy2) h)
              have HY2 := Lib.hid hy2
              clear hc1 hc2 hb1 hy2 hva hvb
              go_upto_region 17 with fail
              go_cut [61] from 42 to 99 (fun s wx => s = .bool false ∧ Keeps [] wr wx)
              case first =>
                have L1 := Lib.hid (LI.out wr kk)
                have L2 := Lib.hid (LK.out wr kk)
                have D1 := Lib.hid (C1.out wr)
                cases b1 with
                | false =>
                  refine wp_region_keeps mixed (by kernel_rfl) ?_
                  try (refine wpQuiet_step (fun K hK => ?_); go_simp; first | refine ⟨_, fun _ _ => rfl, hK _ ?_⟩ | refine hK _ ?_; clear hK K)
                  repeat (first | go_big_quiet_skip | (go_big_quiet_want; go_big_quiet_op; first | go_big_quiet_on | (refine ⟨_, fun _ _ => rfl, ?_⟩; go_big_quiet_on)))
                  refine quiet_load_w (by rfl) 36 _ rfl _ rfl _ (fun w1 hw1 => L1.out w1 hw1) ?_
                  try (refine wpQuiet_step (fun K hK => ?_); go_simp; first | refine ⟨_, fun _ _ => rfl, hK _ ?_⟩ | refine hK _ ?_; clear hK K)
                  repeat (first | go_big_quiet_skip | (go_big_quiet_want; go_big_quiet_op; first | go_big_quiet_on | (refine ⟨_, fun _ _ => rfl, ?_⟩; go_big_quiet_on)))
                  refine quiet_load_w (by rfl) 36 _ rfl _ rfl _ (fun w1 hw1 => L2.out w1 hw1) ?_
                  try (refine wpQuiet_step (fun K hK => ?_); go_simp; first | refine ⟨_, fun _ _ => rfl, hK _ ?_⟩ | refine hK _ ?_; clear hK K)
                  repeat (first | go_big_quiet_skip | (go_big_quiet_want; go_big_quiet_op; first | go_big_quiet_on | (refine ⟨_, fun _ _ => rfl, ?_⟩; go_big_quiet_on)))
                  refine wpQuiet_step (fun K hK => ?_)
                  go_simp
                  apply Exists.intro
                  refine ⟨fun w1 hw1 => D1.out w1 hw1, hK _ ?_⟩
                  clear hK K
                  try (refine wpQuiet_step (fun K hK => ?_); go_simp; first | refine ⟨_, fun _ _ => rfl, hK _ ?_⟩ | refine hK _ ?_; clear hK K)
                  repeat (first | go_big_quiet_skip | (go_big_quiet_want; go_big_quiet_op; first | go_big_quiet_on | (refine ⟨_, fun _ _ => rfl, ?_⟩; go_big_quiet_on)))
                  refine wpQuiet_nil ?_
                  intro w1 hw1
                  go_wp2_with fail
                  go_meet
                  case rel => exact ⟨rfl, hw1⟩
                | true =>
                  have hlt := HO.out Hb1.out
                  have hd : decide (k ≤ i) = false := decide_eq_false (by omega)
                  refine wp_region_keeps mixed (by kernel_rfl) ?_
                  try (refine wpQuiet_step (fun K hK => ?_); go_simp; first | refine ⟨_, fun _ _ => rfl, hK _ ?_⟩ | refine hK _ ?_; clear hK K)
                  repeat (first | go_big_quiet_skip | (go_big_quiet_want; go_big_quiet_op; first | go_big_quiet_on | (refine ⟨_, fun _ _ => rfl, ?_⟩; go_big_quiet_on)))
                  refine quiet_load_w (by rfl) 36 _ rfl _ rfl _ (fun w1 hw1 => L1.out w1 hw1) ?_
                  try (refine wpQuiet_step (fun K hK => ?_); go_simp; first | refine ⟨_, fun _ _ => rfl, hK _ ?_⟩ | refine hK _ ?_; clear hK K)
                  repeat (first | go_big_quiet_skip | (go_big_quiet_want; go_big_quiet_op; first | go_big_quiet_on | (refine ⟨_, fun _ _ => rfl, ?_⟩; go_big_quiet_on)))
                  refine quiet_load_w (by rfl) 36 _ rfl _ rfl _ (fun w1 hw1 => L2.out w1 hw1) ?_
                  try (refine wpQuiet_step (fun K hK => ?_); go_simp; first | refine ⟨_, fun _ _ => rfl, hK _ ?_⟩ | refine hK _ ?_; clear hK K)
                  repeat (first | go_big_quiet_skip | (go_big_quiet_want; go_big_quiet_op; first | go_big_quiet_on | (refine ⟨_, fun _ _ => rfl, ?_⟩; go_big_quiet_on)))
                  refine wpQuiet_step (fun K hK => ?_)
                  go_simp
                  apply Exists.intro
                  refine ⟨fun w1 hw1 => D1.out w1 hw1, hK _ ?_⟩
                  clear hK K
                  try (refine wpQuiet_step (fun K hK => ?_); go_simp; first | refine ⟨_, fun _ _ => rfl, hK _ ?_⟩ | refine hK _ ?_; clear hK K)
                  repeat (first | go_big_quiet_skip | (go_big_quiet_want; go_big_quiet_op; first | go_big_quiet_on | (refine ⟨_, fun _ _ => rfl, ?_⟩; go_big_quiet_on)))
                  refine wpQuiet_nil ?_
                  intro w1 hw1
                  go_wp2_with fail
                  go_meet
                  case rel => exact ⟨rfl, hw1⟩
              case rest =>
              obtain ⟨rfl, k6⟩ := hcut
              have kk7 := kk.trans k6 (by simp)
              clear k6 kk
              go_wp2_with fail
              go_loopw [9] (fun jv wx => ∃ j0 : Nat, j0 ≤ c ∧ jv = .int .i64 j0 ∧ Keeps [] w2 wx) (fun jv _ => c - (intOf jv).toNat)
              case atStart => exact ⟨0, by omega, rfl, kk7⟩
              case round =>
                clear kk7
                obtain ⟨j, hj, rfl, kj⟩ := hrel
                by_cases hlj : j < c
                · obtain ⟨y3, hy3⟩ : ∃ y, ys[j]? = some y := ⟨_, List.getElem?_eq_getElem (by rw [Hm.out]; omega)⟩
                  have hjz : (j : Int) < (c : Int) := by omega
                  obtain ⟨g', o', e2, hc3, _⟩ := HL2.out.atS Hm.out hy3
                  injection e2 with e2
                  injection e2 with e2 e3
                  subst e2; subst e3
                  obtain ⟨vc, hvc⟩ : ∃ vc, (.agg #[.int .i64 y3.n.th, .int .i64 y3.n.ix, .int .i64 y3.n.inv, .int .i64 y3.n.pt, .int .i64 y3.n.rs, .int .i64 y3.code, .string y3.key, .int .u64 y3.time, .slice y3.bA y3.b.length y3.bc, .int .i64 y3.hd, .int .i64 y3.cu, .int .i64 y3.mo, .int .i64 y3.er, .int .u64 y3.at_, .string y3.ak, .string y3.av] : Value) = vc := ⟨_, rfl⟩
                  have LJ : Hid (∀ w', Keeps [] wr w' → (loadVar 36 ⟨g, o + j * 16, none⟩).run Try.prog w' = .ok vc w') := fun w' k' => by rw [← hvc]; exact (hc3.keeps (kj.trans k' (by simp)) (by simp)).load
                  obtain ⟨b2, hb2⟩ : ∃ b, prec y2.n y3.n = b := ⟨_, rfl⟩
                  have D2 : Hid (∀ w', Keeps [] wr w' → Calls Try.prog 14 #[vb, vc] w' fun e w'' => e = .returned (.bool b2) ∧ Keeps [] wr w'') := fun w' k' => by rw [← HVb.out, ← hvc]; exact (prec_any y2 y3 w').mono fun e w'' h => ⟨by rw [h.1, hb2], k'.trans h.2 (by simp)⟩
                  have D3 : Hid (∀ w', Keeps [] wr w' → Calls Try.prog 14 #[va, vc] w' fun e w'' => e = .returned (.bool (prec y1.n y3.n)) ∧ Keeps [] wr w'') := fun w' k' => by rw [← HVa.out, ← hvc]; exact (prec_any y1 y3 w').mono fun e w'' h => ⟨h.1, k'.trans h.2 (by simp)⟩
                  have L1 := Lib.hid (LI.out wr kj)
                  have L2 := Lib.hid (LK.out wr kj)
                  have D1 := Lib.hid (C1.out wr)
                  have Hb2 := Lib.hid hb2
                  clear hc3 hb2 hy3 hvc
                  go_upto_region 22 with fail
                  go_cut [99] from 62 to 99 (fun s wx => s = .bool false ∧ Keeps [] wr wx)
                  case first =>
                    cases b1 with
                    | false =>
                      refine wp_region_keeps mixed (by kernel_rfl) ?_
                      try (refine wpQuiet_step (fun K hK => ?_); go_simp; first | refine ⟨_, fun _ _ => rfl, hK _ ?_⟩ | refine hK _ ?_; clear hK K)
                      repeat (first | go_big_quiet_skip | (go_big_quiet_want; go_big_quiet_op; first | go_big_quiet_on | (refine ⟨_, fun _ _ => rfl, ?_⟩; go_big_quiet_on)))
                      refine quiet_load_w (by rfl) 36 _ rfl _ rfl _ (fun w1 hw1 => L1.out w1 hw1) ?_
                      try (refine wpQuiet_step (fun K hK => ?_); go_simp; first | refine ⟨_, fun _ _ => rfl, hK _ ?_⟩ | refine hK _ ?_; clear hK K)
                      repeat (first | go_big_quiet_skip | (go_big_quiet_want; go_big_quiet_op; first | go_big_quiet_on | (refine ⟨_, fun _ _ => rfl, ?_⟩; go_big_quiet_on)))
                      refine quiet_load_w (by rfl) 36 _ rfl _ rfl _ (fun w1 hw1 => L2.out w1 hw1) ?_
                      try (refine wpQuiet_step (fun K hK => ?_); go_simp; first | refine ⟨_, fun _ _ => rfl, hK _ ?_⟩ | refine hK _ ?_; clear hK K)
                      repeat (first | go_big_quiet_skip | (go_big_quiet_want; go_big_quiet_op; first | go_big_quiet_on | (refine ⟨_, fun _ _ => rfl, ?_⟩; go_big_quiet_on)))
                      refine wpQuiet_step (fun K hK => ?_)
                      go_simp
                      apply Exists.intro
                      refine ⟨fun w1 hw1 => D1.out w1 hw1, hK _ ?_⟩
                      clear hK K
                      try (refine wpQuiet_step (fun K hK => ?_); go_simp; first | refine ⟨_, fun _ _ => rfl, hK _ ?_⟩ | refine hK _ ?_; clear hK K)
                      repeat (first | go_big_quiet_skip | (go_big_quiet_want; go_big_quiet_op; first | go_big_quiet_on | (refine ⟨_, fun _ _ => rfl, ?_⟩; go_big_quiet_on)))
                      refine wpQuiet_nil ?_
                      intro w1 hw1
                      go_wp2_with fail
                      go_meet
                      case rel => exact ⟨rfl, hw1⟩
                    | true =>
                      cases b2 with
                      | false =>
                        refine wp_region_keeps mixed (by kernel_rfl) ?_
                        try (refine wpQuiet_step (fun K hK => ?_); go_simp; first | refine ⟨_, fun _ _ => rfl, hK _ ?_⟩ | refine hK _ ?_; clear hK K)
                        repeat (first | go_big_quiet_skip | (go_big_quiet_want; go_big_quiet_op; first | go_big_quiet_on | (refine ⟨_, fun _ _ => rfl, ?_⟩; go_big_quiet_on)))
                        refine quiet_load_w (by rfl) 36 _ rfl _ rfl _ (fun w1 hw1 => L1.out w1 hw1) ?_
                        try (refine wpQuiet_step (fun K hK => ?_); go_simp; first | refine ⟨_, fun _ _ => rfl, hK _ ?_⟩ | refine hK _ ?_; clear hK K)
                        repeat (first | go_big_quiet_skip | (go_big_quiet_want; go_big_quiet_op; first | go_big_quiet_on | (refine ⟨_, fun _ _ => rfl, ?_⟩; go_big_quiet_on)))
                        refine quiet_load_w (by rfl) 36 _ rfl _ rfl _ (fun w1 hw1 => L2.out w1 hw1) ?_
                        try (refine wpQuiet_step (fun K hK => ?_); go_simp; first | refine ⟨_, fun _ _ => rfl, hK _ ?_⟩ | refine hK _ ?_; clear hK K)
                        repeat (first | go_big_quiet_skip | (go_big_quiet_want; go_big_quiet_op; first | go_big_quiet_on | (refine ⟨_, fun _ _ => rfl, ?_⟩; go_big_quiet_on)))
                        refine wpQuiet_step (fun K hK => ?_)
                        go_simp
                        apply Exists.intro
                        refine ⟨fun w1 hw1 => D1.out w1 hw1, hK _ ?_⟩
                        clear hK K
                        try (refine wpQuiet_step (fun K hK => ?_); go_simp; first | refine ⟨_, fun _ _ => rfl, hK _ ?_⟩ | refine hK _ ?_; clear hK K)
                        repeat (first | go_big_quiet_skip | (go_big_quiet_want; go_big_quiet_op; first | go_big_quiet_on | (refine ⟨_, fun _ _ => rfl, ?_⟩; go_big_quiet_on)))
                        refine quiet_load_w (by rfl) 36 _ rfl _ rfl _ (fun w1 hw1 => L2.out w1 hw1) ?_
                        try (refine wpQuiet_step (fun K hK => ?_); go_simp; first | refine ⟨_, fun _ _ => rfl, hK _ ?_⟩ | refine hK _ ?_; clear hK K)
                        repeat (first | go_big_quiet_skip | (go_big_quiet_want; go_big_quiet_op; first | go_big_quiet_on | (refine ⟨_, fun _ _ => rfl, ?_⟩; go_big_quiet_on)))
                        refine quiet_load_w (by rfl) 36 _ rfl _ rfl _ (fun w1 hw1 => LJ.out w1 hw1) ?_
                        try (refine wpQuiet_step (fun K hK => ?_); go_simp; first | refine ⟨_, fun _ _ => rfl, hK _ ?_⟩ | refine hK _ ?_; clear hK K)
                        repeat (first | go_big_quiet_skip | (go_big_quiet_want; go_big_quiet_op; first | go_big_quiet_on | (refine ⟨_, fun _ _ => rfl, ?_⟩; go_big_quiet_on)))
                        refine wpQuiet_step (fun K hK => ?_)
                        go_simp
                        apply Exists.intro
                        refine ⟨fun w1 hw1 => D2.out w1 hw1, hK _ ?_⟩
                        clear hK K
                        try (refine wpQuiet_step (fun K hK => ?_); go_simp; first | refine ⟨_, fun _ _ => rfl, hK _ ?_⟩ | refine hK _ ?_; clear hK K)
                        repeat (first | go_big_quiet_skip | (go_big_quiet_want; go_big_quiet_op; first | go_big_quiet_on | (refine ⟨_, fun _ _ => rfl, ?_⟩; go_big_quiet_on)))
                        refine wpQuiet_nil ?_
                        intro w1 hw1
                        go_wp2_with fail
                        go_meet
                        case rel => exact ⟨rfl, hw1⟩
                      | true =>
                        have h3 := prec_trans (HSnd.out y2.n (List.mem_of_getElem? (recs_at HY2.out))).1 Hb1.out Hb2.out
                        rw [h3] at D3
                        clear h3
                        refine wp_region_keeps mixed (by kernel_rfl) ?_
                        try (refine wpQuiet_step (fun K hK => ?_); go_simp; first | refine ⟨_, fun _ _ => rfl, hK _ ?_⟩ | refine hK _ ?_; clear hK K)
                        repeat (first | go_big_quiet_skip | (go_big_quiet_want; go_big_quiet_op; first | go_big_quiet_on | (refine ⟨_, fun _ _ => rfl, ?_⟩; go_big_quiet_on)))
                        refine quiet_load_w (by rfl) 36 _ rfl _ rfl _ (fun w1 hw1 => L1.out w1 hw1) ?_
                        try (refine wpQuiet_step (fun K hK => ?_); go_simp; first | refine ⟨_, fun _ _ => rfl, hK _ ?_⟩ | refine hK _ ?_; clear hK K)
                        repeat (first | go_big_quiet_skip | (go_big_quiet_want; go_big_quiet_op; first | go_big_quiet_on | (refine ⟨_, fun _ _ => rfl, ?_⟩; go_big_quiet_on)))
                        refine quiet_load_w (by rfl) 36 _ rfl _ rfl _ (fun w1 hw1 => L2.out w1 hw1) ?_
                        try (refine wpQuiet_step (fun K hK => ?_); go_simp; first | refine ⟨_, fun _ _ => rfl, hK _ ?_⟩ | refine hK _ ?_; clear hK K)
                        repeat (first | go_big_quiet_skip | (go_big_quiet_want; go_big_quiet_op; first | go_big_quiet_on | (refine ⟨_, fun _ _ => rfl, ?_⟩; go_big_quiet_on)))
                        refine wpQuiet_step (fun K hK => ?_)
                        go_simp
                        apply Exists.intro
                        refine ⟨fun w1 hw1 => D1.out w1 hw1, hK _ ?_⟩
                        clear hK K
                        try (refine wpQuiet_step (fun K hK => ?_); go_simp; first | refine ⟨_, fun _ _ => rfl, hK _ ?_⟩ | refine hK _ ?_; clear hK K)
                        repeat (first | go_big_quiet_skip | (go_big_quiet_want; go_big_quiet_op; first | go_big_quiet_on | (refine ⟨_, fun _ _ => rfl, ?_⟩; go_big_quiet_on)))
                        refine quiet_load_w (by rfl) 36 _ rfl _ rfl _ (fun w1 hw1 => L2.out w1 hw1) ?_
                        try (refine wpQuiet_step (fun K hK => ?_); go_simp; first | refine ⟨_, fun _ _ => rfl, hK _ ?_⟩ | refine hK _ ?_; clear hK K)
                        repeat (first | go_big_quiet_skip | (go_big_quiet_want; go_big_quiet_op; first | go_big_quiet_on | (refine ⟨_, fun _ _ => rfl, ?_⟩; go_big_quiet_on)))
                        refine quiet_load_w (by rfl) 36 _ rfl _ rfl _ (fun w1 hw1 => LJ.out w1 hw1) ?_
                        try (refine wpQuiet_step (fun K hK => ?_); go_simp; first | refine ⟨_, fun _ _ => rfl, hK _ ?_⟩ | refine hK _ ?_; clear hK K)
                        repeat (first | go_big_quiet_skip | (go_big_quiet_want; go_big_quiet_op; first | go_big_quiet_on | (refine ⟨_, fun _ _ => rfl, ?_⟩; go_big_quiet_on)))
                        refine wpQuiet_step (fun K hK => ?_)
                        go_simp
                        apply Exists.intro
                        refine ⟨fun w1 hw1 => D2.out w1 hw1, hK _ ?_⟩
                        clear hK K
                        try (refine wpQuiet_step (fun K hK => ?_); go_simp; first | refine ⟨_, fun _ _ => rfl, hK _ ?_⟩ | refine hK _ ?_; clear hK K)
                        repeat (first | go_big_quiet_skip | (go_big_quiet_want; go_big_quiet_op; first | go_big_quiet_on | (refine ⟨_, fun _ _ => rfl, ?_⟩; go_big_quiet_on)))
                        refine quiet_load_w (by rfl) 36 _ rfl _ rfl _ (fun w1 hw1 => L1.out w1 hw1) ?_
                        try (refine wpQuiet_step (fun K hK => ?_); go_simp; first | refine ⟨_, fun _ _ => rfl, hK _ ?_⟩ | refine hK _ ?_; clear hK K)
                        repeat (first | go_big_quiet_skip | (go_big_quiet_want; go_big_quiet_op; first | go_big_quiet_on | (refine ⟨_, fun _ _ => rfl, ?_⟩; go_big_quiet_on)))
                        refine quiet_load_w (by rfl) 36 _ rfl _ rfl _ (fun w1 hw1 => LJ.out w1 hw1) ?_
                        try (refine wpQuiet_step (fun K hK => ?_); go_simp; first | refine ⟨_, fun _ _ => rfl, hK _ ?_⟩ | refine hK _ ?_; clear hK K)
                        repeat (first | go_big_quiet_skip | (go_big_quiet_want; go_big_quiet_op; first | go_big_quiet_on | (refine ⟨_, fun _ _ => rfl, ?_⟩; go_big_quiet_on)))
                        refine wpQuiet_step (fun K hK => ?_)
                        go_simp
                        apply Exists.intro
                        refine ⟨fun w1 hw1 => D3.out w1 hw1, hK _ ?_⟩
                        clear hK K
                        try (refine wpQuiet_step (fun K hK => ?_); go_simp; first | refine ⟨_, fun _ _ => rfl, hK _ ?_⟩ | refine hK _ ?_; clear hK K)
                        repeat (first | go_big_quiet_skip | (go_big_quiet_want; go_big_quiet_op; first | go_big_quiet_on | (refine ⟨_, fun _ _ => rfl, ?_⟩; go_big_quiet_on)))
                        refine wpQuiet_nil ?_
                        intro w1 hw1
                        go_wp2_with fail
                        go_meet
                        case rel => exact ⟨rfl, hw1⟩
                  case rest =>
                  obtain ⟨rfl, k8⟩ := hcut
                  go_wp2_with fail
                  exact ⟨⟨j + 1, by omega, by go_num, kj.trans k8 (by simp)⟩, by simp [intOf]; omega⟩
                · obtain rfl : j = c := by omega
                  go_wp2_with fail
                  exact ⟨⟨k + 1, by omega, by go_num, kj⟩, by simp [intOf]; omega⟩
            · obtain rfl : k = c := by omega
              go_wp2_with fail
              exact ⟨⟨i + 1, by omega, by go_num, kk⟩, by simp [intOf]; omega⟩
        · obtain rfl : i = c := by omega
          go_wp2_with fail
          go_ret
          exact ⟨rfl, K2.trans ki (by simp)⟩
end Go.Proofs.Ytjlgodaiciopaaa
