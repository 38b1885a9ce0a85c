/- The walk of HistoryOverlaps. -/
import Derived.Test.YtjlgodaiciopaaaHisY
import Derived.Deep.DeepCutAuto
namespace Go.Proofs.Ytjlgodaiciopaaa
open Go.RowKit
set_option linter.unusedSectionVars false
set_option linter.unusedVariables false
set_option linter.unusedSimpArgs false
set_option maxRecDepth 100000
set_option maxHeartbeats 4000000
theorem historyOverlaps_any (X : List (Value × List Rn)) (K : Nat) (v : Value) (w : World) (hX : OkRuns w v X) (hK : K < 256) : Calls Try.prog 5 #[v, .int .u8 K] w fun e w' => e = .returned (.bool true) ∧ Keeps [] w w' := by
  have mixed : Try.prog.follows .mixedOrders = true := by kernel_rfl
  have hbld := build_any X v w hX
  obtain ⟨⟨A0, cap0, b0, o0, rfl, _, _⟩, _⟩ := hX
  go_enter Try.func5, Try.ntmps5
  go_wp2_with fail
  refine hbld.mono ?_
  rintro e w1 ⟨u, rfl, hp, k1⟩
  have hlen := bldOf_len X
  have hth := bldOf_th X
  have hover := bldOf_over X
  generalize bldOf X = L at hp hlen hth hover
  have hlst := hp.lst
  obtain ⟨A1, c1, rfl⟩ := hp.row.len
  have hn : (L.map rvOf).length = L.length := by simp
  obtain ⟨N, hN⟩ : ∃ N, L.length = N := ⟨_, rfl⟩
  rw [hn, hN] at hlst ⊢
  rw [hN] at hlen hover
  have Hn := Lib.hid hn
  have HN := Lib.hid hN
  have HT := Lib.hid hth
  have HOv := Lib.hid hover
  have HL := Lib.hid hlst
  have hb6 : Blk (w1.alloc (.cells #[.bool false, .bool false, .bool false, .bool false, .bool false, .bool false] 42)) w1.heap.size (sv (L.take 0)) := Blk.new w1 (sv (L.take 0)) 42
  have K1a : Keeps [] w1 (w1.alloc (.cells #[.bool false, .bool false, .bool false, .bool false, .bool false, .bool false] 42)) := (Keeps.refl [] w1).alloc _
  clear hbld hlst hp hn hN hth hover
  go_wp2_with fail
  generalize hg6 : w1.heap.size = g6 at hb6 ⊢
  generalize w1.alloc (.cells #[.bool false, .bool false, .bool false, .bool false, .bool false, .bool false] 42) = w2 at hb6 K1a ⊢
  have hge6 : w1.heap.size ≤ g6 := by omega
  clear hg6
  go_loopw [7, 8] (fun c i wr => ∃ q : Nat, q ≤ N ∧ i = .int .i64 q ∧ c = .int .i64 (threads (L.take q) 6 : Nat) ∧ Blk wr g6 (sv (L.take q)) ∧ Keeps [] w1 wr) (fun _ i _ => N - (intOf i).toNat)
  case atStart => exact ⟨0, by omega, rfl, rfl, hb6, K1a⟩
  case round =>
    clear hb6 K1a
    obtain ⟨q, hq, rfl, rfl, hb, kk⟩ := hrel
    obtain ⟨c, hc⟩ : ∃ c, threads (L.take q) 6 = c := ⟨_, rfl⟩
    have hc6 : c ≤ 6 := by rw [← hc]; exact threads_le _
    rw [hc]
    have HC := Lib.hid hc
    clear hc
    by_cases hlt : q < N
    · obtain ⟨r, hr⟩ : ∃ r, L[q]? = some r := ⟨_, List.getElem?_eq_getElem (by rw [HN.out]; exact hlt)⟩
      obtain ⟨t, ht, hrt⟩ := HT.out r (List.mem_of_getElem? hr)
      obtain ⟨g, o, rfl, hc1, hg⟩ := (HL.out.keeps kk).atS (by rw [Hn.out, HN.out]) (show (L.map rvOf)[q]? = some (rvOf r) by rw [List.getElem?_map, hr]; rfl)
      have c0 : wr.cell? ⟨g, o + q * 16, none⟩ = some (.int .i64 (t : Int)) := by rw [← hrt]; exact hc1.num.1
      have htk : L.take (q + 1) = L.take q ++ [r] := by rw [List.take_add_one, hr]; rfl
      have hthr := threads_snoc (L.take q) r t hrt 6
      rw [← htk, HC.out] at hthr
      have hsv := sv_snoc (L.take q) r t ht hrt
      rw [← htk] at hsv
      have hsame : ofT t (L.take q) ≠ [] → sv (L.take (q + 1)) = sv (L.take q) := fun h => by
        rw [← hsv]
        refine List.ext_getElem? fun i => ?_
        by_cases hi : t = i
        · subst hi
          rw [List.getElem?_set_self (by rw [sv_len]; exact ht), sv_at _ t ht]
          cases hl : ofT t (L.take q) with
          | nil => exact absurd hl h
          | cons a l => rfl
        · rw [List.getElem?_set_ne hi]
      have ct : wr.cell? ⟨g6, t, none⟩ = some (.bool (!(ofT t (L.take q)).isEmpty)) := by rw [hb.cell]; exact sv_at _ t ht
      have hqz : (q : Int) < (N : Int) := by omega
      have htz : (t : Int) < 6 := by omega
      have htd : decide ((t : Int) < 6) = true := decide_eq_true htz
      have hw1 : IntKind.i64.wrap ((c : Int) + 1) = (c : Int) + 1 := by rw [IntKind.wrap_i64]; omega
      have f6 := hb.frozen
      have g6l := hb.lt
      have hbs := hb.set t (.bool true)
      rw [hsv] at hbs
      have HBs := Lib.hid hbs
      have HB := Lib.hid hb
      have Kst : Keeps [] w1 (wr.setCell ⟨g6, t, none⟩ (.bool true)) := kk.setCell _ _ (.inr hge6)
      by_cases hem : ofT t (L.take q) = []
      · rw [hem] at ct
        rw [if_pos ⟨ht, hem⟩] at hthr
        have HTh := Lib.hid hthr
        clear hr hrt hc1 htk hthr hsv hsame hbs hb hem
        go_wp2_with fail
        exact ⟨⟨q + 1, by omega, by go_num, by rw [HTh.out]; go_num, HBs.out, Kst⟩, by simp [intOf]; omega⟩
      · have hne : (!(ofT t (L.take q)).isEmpty) = true := by
          cases hl : ofT t (L.take q) with
          | nil => exact absurd hl hem
          | cons a l => rfl
        rw [hne] at ct
        have hthr2 : threads (L.take (q + 1)) 6 = c := by rw [hthr, if_neg (fun h => hem h.2)]; rfl
        have HTh := Lib.hid hthr2
        have HSame := Lib.hid (hsame hem)
        clear hr hrt hc1 htk hthr hthr2 hsv hsame hbs hb hem hne
        go_wp2_with fail
        exact ⟨⟨q + 1, by omega, by go_num, by rw [HTh.out], by rw [HSame.out]; exact HB.out, kk⟩, by simp [intOf]; omega⟩
    · obtain rfl : q = N := by omega
      have hcT : c = threads L 6 := by rw [← HC.out, List.take_of_length_le (by rw [HN.out]; exact Nat.le_refl _)]
      have hov := overlap_any (L.map rvOf) (by rw [Hn.out, HN.out]; omega) _ wr (by rw [Hn.out, HN.out]; exact HL.out.keeps kk)
      rw [map_n, Hn.out, HN.out] at hov
      obtain ⟨h1, h2⟩ := HOv.out
      rw [← hcT] at h1
      obtain ⟨om, hom⟩ : ∃ om, ovM L q = om := ⟨_, rfl⟩
      rw [hom] at hov h1 h2
      have Hom := Lib.hid hom
      clear hb hcT hom
      go_wp2_with fail
      refine hov.mono ?_
      rintro e w3 ⟨rfl, k3⟩
      have hz1 : decide ((c : Int) < (om : Int)) = false := decide_eq_false (by omega)
      have hz1n : decide (c < om) = false := decide_eq_false (by omega)
      have H0 : Hid (q = 0 → om = 0) := fun h => by
        have h3 : ovM L 0 = om := by rw [← h]; exact Hom.out
        exact h3.symm
      clear hov
      go_upto_region 11 with fail
      go_cut [60] (fun s wx => s = .bool false ∧ Keeps [] w3 wx)
      case first =>
        rcases Nat.eq_zero_or_pos q with hq0 | hq0
        · have h0 := H0.out hq0
          have d1 : decide ((1 : Int) ≤ (om : Int)) = false := decide_eq_false (by omega)
          have d1n : decide (1 ≤ om) = false := decide_eq_false (by omega)
          have d0 : decide ((0 : Int) < (q : Int)) = false := decide_eq_false (by omega)
          have d0n : decide (0 < q) = false := decide_eq_false (by omega)
          have D1 := Lib.hid (And.intro d1 (And.intro d1n (And.intro d0 d0n)))
          clear h0 hq0 h1 h2
          go_wp2_with fail
          refine (awake_any w3).mono ?_
          rintro e w4 ⟨rfl, k4⟩
          go_wp2_with fail
          go_meet
          case rel => exact ⟨by first | rfl | (simp only [D1.out.1, D1.out.2.1, D1.out.2.2.1, D1.out.2.2.2]; rfl), k4⟩
        · have h0 := h2 hq0
          have d1 : decide ((1 : Int) ≤ (om : Int)) = true := decide_eq_true (by omega)
          have d1n : decide (1 ≤ om) = true := decide_eq_true (by omega)
          have d0 : decide ((0 : Int) < (q : Int)) = true := decide_eq_true (by omega)
          have d0n : decide (0 < q) = true := decide_eq_true (by omega)
          have D1 := Lib.hid (And.intro d1 (And.intro d1n (And.intro d0 d0n)))
          clear h0 hq0 h1 h2
          go_wp2_with fail
          refine (awake_any w3).mono ?_
          rintro e w4 ⟨rfl, k4⟩
          go_wp2_with fail
          go_meet
          case rel => exact ⟨by first | rfl | (simp only [D1.out.1, D1.out.2.1, D1.out.2.2.1, D1.out.2.2.2]; rfl), k4⟩
      case rest =>
      obtain ⟨rfl, k4⟩ := hcut
      have K4 : Keeps [] w wc := ((k1.trans kk (by simp)).trans k3 (by simp)).trans k4 (by simp)
      clear k1 kk k3 k4 hz1 hz1n h1 h2
      go_wp2_with fail
      obtain ⟨T, hT⟩ : ∃ T : Nat, T = 1 + K % 9 := ⟨_, rfl⟩
      have hT0 : 0 < T := by omega
      have hT10 : T ≤ 9 := by omega
      have hTz : (1 : Int) + (K : Int) % 9 = (T : Int) := by omega
      have HTz := Lib.hid hTz
      clear hT hTz
      go_loopw [10, 11] (fun s i wx => ∃ j : Nat, j ≤ T ∧ i = .int .i64 j ∧ Pk wx wc.heap.size s (sq j) ∧ Keeps [] wc wx) (fun _ i _ => T - (intOf i).toNat)
      case atStart => exact ⟨0, by omega, rfl, Pk.nil _ _, Keeps.refl _ _⟩
      case round =>
        obtain ⟨j, hj, rfl, hp, kj⟩ := hrel
        obtain ⟨A3, c3, h3⟩ := hp.row.len
        rw [sq_len] at h3
        subst h3
        by_cases hlj : j < T
        · have hz : (j : Int) < 1 + (K : Int) % 9 := by rw [HTz.out]; omega
          obtain ⟨z, hz0⟩ : ∃ z : RV, z = { rvOf ⟨(j : Int), 0, 3 * (j : Int), 3 * (j : Int) + 1, 3 * (j : Int) + 2⟩ with code := 0 } := ⟨_, rfl⟩
          have hzr : z = rv0 (seqR j) := by
            rw [hz0]; unfold rv0 seqR
            simp
          have hzb : z.b = [] := by rw [hz0]; rfl
          have k11 : Keeps [] wr (wr.alloc (.cells #[.int .i64 z.n.th, .int .i64 z.n.ix, .int .i64 z.n.inv, .int .i64 z.n.pt, .int .i64 z.n.rs, .int .i64 z.code, .string z.key, .int .u64 z.time, .slice z.bA z.b.length z.bc, .int .i64 z.hd, .int .i64 z.cu, .int .i64 z.mo, .int .i64 z.er, .int .u64 z.at_, .string z.ak, .string z.av] 36)) := (Keeps.refl [] wr).alloc _
          obtain ⟨u4, w12, hap, hpk12, k12⟩ := pk_append (hp.keeps k11) z (okn_nil _ _ _ hzb) (by rw [sq_len]; omega) (Nat.le_trans kj.size k11.size) ⟨wr.heap.size, 0, none⟩ 1 (fun j u hj => by rw [Addr.add_lit]; exact (Blk.new_at wr wr.heap.size [.int .i64 z.n.th, .int .i64 z.n.ix, .int .i64 z.n.inv, .int .i64 z.n.pt, .int .i64 z.n.rs, .int .i64 z.code, .string z.key, .int .u64 z.time, .slice z.bA z.b.length z.bc, .int .i64 z.hd, .int .i64 z.cu, .int .i64 z.mo, .int .i64 z.er, .int .u64 z.at_, .string z.ak, .string z.av] 36 (by simp)).cel j u hj) 22
          have K12 : Keeps [] wc w12 := (kj.trans k11 (by simp)).trans k12 (fun i hi => .inr (hp.ge i (by simpa using hi)))
          rw [hzr, ← sq_succ] at hpk12
          have HP12 := Lib.hid hpk12
          subst hz0
          have hap2 := hap
          simp only [rvOf, List.length_nil] at hap2
          clear hap hpk12 k12 k11 hzr hzb hp
          go_wp2_with (at_builtin; refine list_append_eq rfl _ _ 22 22 rfl _ _ rfl rfl hap2 ?_)
          exact ⟨⟨j + 1, by omega, by go_num, HP12.out, K12⟩, by simp [intOf]; omega⟩
        · obtain rfl : j = T := by omega
          have hz : ¬ (j : Int) < 1 + (K : Int) % 9 := by rw [HTz.out]; omega
          have hl : Hid (∀ w', Keeps [] wr w' → Lst w' (.slice A3 j c3) (sq j).length (rCs (sq j))) := fun w' k => hp.lst.keeps k
          have hov := overlap_any (sq j) (by rw [sq_len]; omega) _ wr (hl.out wr (Keeps.refl _ _))
          rw [sq_n, sq_len, sq_over j hT0] at hov
          clear hp
          go_wp2_with fail
          refine hov.mono ?_
          rintro e w5 ⟨rfl, k5⟩
          have hck := check_any (sq j) (by rw [sq_len]; omega) (sq_rng (by omega)) _ w5 (hl.out w5 k5)
          clear hov
          go_wp2_with fail
          refine hck.mono ?_
          rintro e w6 ⟨r6, rfl, hr6, k6⟩
          rw [sq_n] at hr6
          obtain rfl : r6 = true := hr6.2 (seq_good j)
          have K6 := k5.trans k6 (by simp)
          have hord := order_any (sq j) (by rw [sq_len]; omega) _ w6 (hl.out w6 K6) (sq_ok _ _)
          clear hck hr6 k5 k6
          go_wp2_with fail
          refine hord.mono ?_
          rintro e w7 ⟨u7, ys, rfl, hp7, hst, k7⟩
          rw [sq_ord] at hst
          have K7 := K6.trans k7 (by simp)
          have hyl : ys.length = j := by have := congrArg List.length hst; rw [List.length_map, List.length_map, sq_len] at this; exact this
          have hyb := strip_b hst sq_b
          have hsl := samelist_any ys (sq j) hst (by omega) _ _ w7 hp7.lst (hl.out w7 K7) (fun y hy => ⟨(hp7.ok y hy).okb, by rw [hyb y hy]; decide⟩) (fun y hy => (sq_ok w7 j y hy).1)
          obtain ⟨A7, c7, rfl⟩ := hp7.row.len
          clear hord hst hyl hyb hp7 k7 K6
          go_wp2_with fail
          refine hsl.mono ?_
          rintro e w8 ⟨rfl, k8⟩
          have K8 := K7.trans k8 (by simp)
          have hpe := pending_any (sq j) (by rw [sq_len]; omega) _ w8 (hl.out w8 K8) (sq_ok _ _)
          clear hsl k8 K7
          go_wp2_with fail
          refine hpe.mono ?_
          rintro e w9 ⟨u9, zs, rfl, hp9, hst9, k9⟩
          have hz9 : zs.length = 0 := by
            have := pk_nums (p := fun r : Rec => r.rs == -1) hst9
            rw [sq_n, sq_pend] at this
            have := congrArg List.length this
            simpa using this
          obtain ⟨A9, c9, rfl⟩ := hp9.row.len
          rw [hz9]
          clear hpe hst9 hp9 hz9
          go_wp2_with fail
          go_ret
          exact ⟨rfl, ((K4.trans kj (by simp)).trans K8 (by simp)).trans k9 (by simp)⟩
end Go.Proofs.Ytjlgodaiciopaaa
