/- The statement ModelSnapshots: the walk. -/
import Derived.Test.YtnnpmpdlhojecaaModM
namespace Go.Proofs.Ytnnpmpdlhojecaa
open Go.RowKit Go.Maps
/-- What the loop of ModelSnapshots keeps. -/
def Snp (w wr : World) (K : Nat → Lit) (m a c : Nat) (St : List (List Ent)) (O : Nat → Nat) : Prop :=
  ∃ N F D, GM wr w.heap.size [a] m N St F D ∧ N ≤ c ∧ Sn K O D ∧ (∀ i, i < 6 → O i ≤ St.length) ∧ St.length ≤ 1 + c ∧ Blk wr a ((six O).map (Value.int .i64)) ∧ Keeps [] w wr
theorem Blk.kp {w w' : World} {base a : Nat} {Q : List Nat} {cs : List Value} (h : Blk w a cs) (k : Kp base Q w w') (ha : a ∈ Q) : Blk w' a cs := by
  obtain ⟨S, h1, h2⟩ := k
  exact h2.blk h (fun hS => (h1 a hS).2 ha)
set_option maxHeartbeats 2000000 in
set_option maxRecDepth 100000 in
theorem snaplaw_any (L : List Stp) (hnL : L.length ≤ 9223372036854775807) (v1 : Value) (w : World)
    (l1 : Lst w v1 L.length (L.flatMap sC)) (hL : ∀ p ∈ L, OkS w p) :
    Calls Try.prog 4 #[v1] w fun e w' => e = .returned (.bool true) ∧ Keeps [] w w' := by
  obtain ⟨A2, cap2, b2, o2, rfl, hA2, har2⟩ := l1
  obtain ⟨q, hq⟩ : ∃ q, L.length = q := ⟨_, rfl⟩
  rw [hq] at hA2 hnL ⊢
  have Hq := Lib.hid hq
  have HL := Lib.hid hL
  clear hq hL
  obtain ⟨K, hK⟩ := keys_ex
  go_enter Try.func4, Try.ntmps4
  go_wp2_with fail
  refine (gm_new _).mono ?_
  rintro e w1 ⟨m, rfl, h1, k1⟩
  go_wp2_with fail
  refine (awakeM_any _).mono ?_
  rintro e w2 ⟨rfl, k2⟩
  have h2 := h1.keeps k2
  have K2 := k1.trans k2 (by simp)
  by_cases h12 : 30 < q
  · go_wp2_with fail
    refine (awakeM_any _).mono ?_
    rintro e w3 ⟨rfl, k3⟩
    go_wp2_with fail
    go_ret
    exact ⟨rfl, K2.trans k3 (by simp)⟩
  · clear h1 k1 k2
    go_wp2_with fail
    have hb0 : Blk (w2.alloc (.cells #[.int .i64 0, .int .i64 0, .int .i64 0, .int .i64 0, .int .i64 0, .int .i64 0] 39)) w2.heap.size ((six fun _ => 0).map (Value.int .i64)) := Blk.new w2 [.int .i64 0, .int .i64 0, .int .i64 0, .int .i64 0, .int .i64 0, .int .i64 0] 39
    have k3 := (Keeps.refl [] w2).alloc (.cells #[.int .i64 0, .int .i64 0, .int .i64 0, .int .i64 0, .int .i64 0, .int .i64 0] 39)
    have h3 := h2.addQ k3 (Q := [w2.heap.size]) (by intro x hx; simp at hx; subst hx; exact ⟨Nat.le_refl _, hb0.lt⟩)
    have K3 := K2.trans k3 (by simp)
    obtain ⟨ab, hab⟩ : ∃ ab, w2.heap.size = ab := ⟨_, rfl⟩
    obtain ⟨W3, hW3⟩ : ∃ W3, W3 = w2.alloc (.cells #[.int .i64 0, .int .i64 0, .int .i64 0, .int .i64 0, .int .i64 0, .int .i64 0] 39) := ⟨_, rfl⟩
    have hab2 : w.heap.size ≤ ab := by have := K2.size; omega
    rw [← hW3] at hb0 h3 K3 ⊢
    rw [hab] at hb0 h3 ⊢
    clear k3 hab hW3 h2 K2
    go_loopw [5] (fun i wr => ∃ (c : Nat) (St : List (List Ent)) (O : Nat → Nat), c ≤ q ∧ i = .int .i64 c ∧ Snp w wr K m ab c St O) (fun i _ => q - (intOf i).toNat)
    case atStart => exact ⟨0, [[]], fun _ => 0, by omega, rfl, 0, 0, .map [], h3, by omega, Sn.none_ K, by simp, by simp, hb0, K3⟩
    case round =>
      obtain ⟨c, St, O, hc, rfl, N, F, D, hg, hN, hsn, hO, hl, hab, KW⟩ := hrel
      by_cases hlt2 : c < q
      · obtain rfl := hA2 (by omega)
        obtain ⟨s, hs⟩ : ∃ s, L[c]? = some s := ⟨_, List.getElem?_eq_getElem (by rw [Hq.out]; exact hlt2)⟩
        obtain ⟨c0, c1, c2, c3, c4, hbl⟩ := (har2.keeps KW (by simp)).stp hs
        obtain ⟨hLp, hlp, hk1, hk2, hk3, hk4⟩ := HL.out s (List.mem_of_getElem? hs)
        have hLp' := hLp.keeps KW
        have hcq : (c : Int) < (q : Int) := by omega
        clear hs hLp
        go_wp2_with fail
        go_quiet ((go_at_call 20; refine mod_q _ _ ?_ ?_ ?_ ?_ _ _ <;> omega))
        go_wp2_with fail
        obtain ⟨t, ht⟩ : ∃ t : Nat, s.t % 3 = (t : Int) := ⟨(s.t % 3).toNat, by omega⟩
        obtain ⟨j, hj⟩ : ∃ j : Nat, s.j % 2 = (j : Int) := ⟨(s.j % 2).toNat, by omega⟩
        have ht3 : t < 3 := by omega
        have hj2 : j < 2 := by omega
        have hkl := hK.at_ ht3 hj2
        rw [ht, hj]
        clear ht hj c2 c3
        have kd := (Keeps.refl [] wr).drewN nq
        have hg' := hg.keeps kd
        have KW' := KW.trans kd (by simp)
        have hLq := hLp'.keeps kd
        have c0' := kd.cellEq c0 (by simp)
        have c1' := kd.cellEq c1 (by simp)
        have c4' := kd.cellEq c4 (by simp)
        have hab' := kd.blk hab (by simp)
        have hbl' := Nat.lt_of_lt_of_le hbl kd.size
        obtain ⟨W, hWW⟩ : ∃ W, W = wr.drewN nq := ⟨_, rfl⟩
        rw [← hWW] at hg' KW' hLq c0' c1' c4' hbl' hab' ⊢
        clear hg KW hLp' c0 c1 c4 hbl hab hWW kd
        have hm0 := Int.emod_nonneg s.kind (show (5 : Int) ≠ 0 by omega)
        have hm1 := Int.emod_lt_of_pos s.kind (show (0 : Int) < 5 by omega)
        refine (mod_any s.kind 5 hk1.1 hk1.2 (by omega) (by omega) _).mono ?_
        rintro e w5 ⟨rfl, rfl⟩
        obtain ⟨r, hr⟩ : ∃ r, s.kind % 5 = r := ⟨_, rfl⟩
        rw [hr] at hm0 hm1 ⊢
        clear hr
        have hp := hg'.2.1
        go_upto_block 2 with fail
        go_cut [61] from 53 to 91 (fun _ wx => ∃ St' O', Snp w wx K m ab (c + 1) St' O')
        case first =>
          by_cases h2 : r = 2
          · subst h2
            go_wp2_with fail
            obtain ⟨y, hy⟩ : ∃ y, ((St.length - 1 : Nat) : Int) = y := ⟨_, rfl⟩
            have hw1 : IntKind.i64.wrap y = y := IntWalk.i64_in _ ⟨by omega, by omega⟩
            have hw2 : IntKind.i64.wrap (y + 1) = y + 1 := IntWalk.i64_in _ ⟨by omega, by omega⟩
            have ht3' : (t : Int) < 3 := by omega
            have hj2' : (j : Int) < 2 := by omega
            have HY := Lib.hid hy
            have hop := gm_open (hg'.keeps ((Keeps.refl [] W).drew)) (by omega) (by omega) t j _ hkl
            have hst := hsn.put hK (show 2 * t + j < 6 by omega) (St.length - 1)
            rw [hy] at hop hst
            clear hy
            go_region_law (first
             | (go_simp
                go_at_call 21
                refine hop.mono ?_
                rintro e w6 ⟨rfl, h6, k6⟩
                have hb6 := ((Keeps.refl [] W).drew.blk hab' (by simp)).kp k6 (by simp)
                have cc6 : w6.cell? ⟨ab, t * 2 + j, none⟩ = some (.int .i64 (O (2 * t + j))) := by rw [hb6.cell, show t * 2 + j = 2 * t + j by omega]; exact six_at O (by omega)
                have f6 := hb6.frozen
                have l6 := hb6.lt))
            have K6 := Kp.keeps KW'.drew k6 (Nat.le_refl _)
            have kk : Keeps [ab] w6 (w6.setCell ⟨ab, t * 2 + j, none⟩ (.int .i64 (y + 1))) := ((Keeps.refl [] w6).mono (by simp)).setCell _ _ (.inl (by simp))
            have hb7 : Blk (w6.setCell ⟨ab, t * 2 + j, none⟩ (.int .i64 (y + 1))) ab ((six (upd O (2 * t + j) (St.length - 1 + 1))).map (Value.int .i64)) := by
              rw [← six_upd O (by omega)]
              have e1 : ((St.length - 1 + 1 : Nat) : Int) = y + 1 := by have := HY.out; omega
              have e2 : t * 2 + j = 2 * t + j := by omega
              rw [e1, e2]
              exact hb6.set _ _
            go_wp2_with fail
            go_meet
            case rel =>
              refine ⟨St, _, N + 1, F, _, h6.setArr (by simp) kk _ _ hb6 hb7 (by simp [six]), by omega, hst, fun i hi => ?_, by omega, hb7, K6.setCell _ _ (.inr hab2)⟩
              by_cases e : i = 2 * t + j
              · rw [e, upd_at]; omega
              · rw [upd_ne e]; exact hO i hi
          · by_cases h3 : r = 3
            · subst h3
              go_wp2_with fail
              refine (gm_rel hg' t j _ hkl).mono ?_
              rintro e w6 ⟨rfl, h6, k6⟩
              have hst := hsn.del hK (show 2 * t + j < 6 by omega)
              have hb6 := hab'.kp k6 (by simp)
              have cc6 : w6.cell? ⟨ab, t * 2 + j, none⟩ = some (.int .i64 (O (2 * t + j))) := by rw [hb6.cell, show t * 2 + j = 2 * t + j by omega]; exact six_at O (by omega)
              have f6 := hb6.frozen
              have l6 := hb6.lt
              have ht3' : (t : Int) < 3 := by omega
              have hj2' : (j : Int) < 2 := by omega
              have K6 := Kp.keeps KW' k6 (Nat.le_refl _)
              have kk : Keeps [ab] w6 (w6.setCell ⟨ab, t * 2 + j, none⟩ (.int .i64 0)) := ((Keeps.refl [] w6).mono (by simp)).setCell _ _ (.inl (by simp))
              have hb7 : Blk (w6.setCell ⟨ab, t * 2 + j, none⟩ (.int .i64 0)) ab ((six (upd O (2 * t + j) 0)).map (Value.int .i64)) := by
                rw [← six_upd O (by omega)]
                have e2 : t * 2 + j = 2 * t + j := by omega
                rw [e2]
                exact hb6.set _ _
              go_wp2_with fail
              go_meet
              case rel =>
                refine ⟨St, _, N, F, _, h6.setArr (by simp) kk _ _ hb6 hb7 (by simp [six]), by omega, hst, fun i hi => ?_, by omega, hb7, K6.setCell _ _ (.inr hab2)⟩
                by_cases e : i = 2 * t + j
                · rw [e, upd_at]; omega
                · rw [upd_ne e]; exact hO i hi
            · by_cases h4 : r = 4
              · subst h4
                obtain ⟨V, hV⟩ : ∃ V : Nat, s.too = (V : Int) := ⟨s.too.toNat, by omega⟩
                rw [hV] at c4' hk4
                go_wp2_with fail
                refine (gm_raise hg' (by omega) hsn.size V).mono ?_
                rintro e w6 ⟨rfl, h6, k6⟩
                have hb6 := hab'.kp k6 (by simp)
                go_wp2_with fail
                go_meet
                case rel => exact ⟨St, O, N, _, D, h6, by omega, hsn, hO, by omega, hb6, Kp.keeps KW' k6 (Nat.le_refl _)⟩
              · have n2 : (r == 2) = false := by simpa using h2
                have n3 : (r == 3) = false := by simpa using h3
                have n4 : (r == 4) = false := by simpa using h4
                obtain ⟨sA, sc, _, _, hsb, _⟩ := id hLq
                rw [hsb] at c1' hLq
                go_wp2_with fail
                refine (fit5_any s.b hlp _ _ hLq).mono ?_
                rintro e w5 ⟨u5, rfl, m5, k5⟩
                go_wp2_with fail
                refine (gm_apply (hg'.keeps k5) (by omega) (fitL5 s.b) (fitL5_len s.b) u5 m5).mono ?_
                rintro e w6 ⟨rfl, h6, k6⟩
                have hb6 := (k5.blk hab' (by simp)).kp k6 (by simp)
                go_wp2_with fail
                go_meet
                case rel => exact ⟨_, O, N, _, D, h6, by omega, hsn, fun i hi => by have := hO i hi; rw [List.length_append]; omega, by rw [List.length_append, List.length_singleton]; omega, hb6, Kp.keeps (KW'.trans k5 (by simp)) k6 (Nat.le_refl _)⟩
        case rest =>
          obtain ⟨St', O', N', F', D', h6, hN6, hs6, hO6, hl6, hb6, K6⟩ := hcut
          have hp6 := h6.2.1
          obtain ⟨n, hn⟩ : ∃ n, St'.length = n + 1 := ⟨St'.length - 1, by omega⟩
          have hn1 : ((St'.length - 1 : Nat) : Int) = (n : Int) := by omega
          have HN := Lib.hid hn1
          have HN2 := Lib.hid hn
          have hn42 : n ≤ 42 := by omega
          clear hn hn1 hp6 hg' hLq c0' c1' c4' hbl' hab' hk1 hk2 hk3 hk4 hsn hO
          go_wp2_with fail
          refine (gm_time h6 (by omega)).mono ?_
          rintro e w7 ⟨rfl, rfl⟩
          rw [HN.out]
          go_wp2_with fail
          go_loopw [8, 9, 10] (fun v lst x wz => ∃ (k : Nat), k ≤ n + 1 ∧ x = .int .u64 k ∧ OwnU wz w7.heap.size v (wantW O' k) ∧ lst = .int .u64 ((wantW O' k).headD n) ∧ Keeps [] w7 wz) (fun _ _ x _ => n + 1 - (intOf x).toNat)
          case atStart => exact ⟨0, by omega, rfl, World.ownsRow_nil _ _ _ _, rfl, Keeps.refl _ _⟩
          case round =>
            obtain ⟨k, hk, rfl, ho, rfl, kz⟩ := hrel
            go_wp2_with fail
            refine (gm_time (h6.keeps kz) (by omega)).mono ?_
            rintro e w8 ⟨rfl, rfl⟩
            rw [HN.out]
            by_cases hkn : k ≤ n
            · have hkn' : (k : Int) ≤ (n : Int) := by omega
              go_wp2_with fail
              go_loopw [8, 9, 11] (fun v lst x wz => ∃ (i : Nat), i ≤ 6 ∧ x = .int .i64 i ∧ OwnU wz w7.heap.size v (wantW O' k ++ rowW O' k i) ∧ lst = .int .u64 ((wantW O' k ++ rowW O' k i).headD n) ∧ Keeps [] w7 wz) (fun _ _ x _ => 6 - (intOf x).toNat)
              case atStart => exact ⟨0, by omega, rfl, by simpa [rowW] using ho, by simp [rowW], kz⟩
              case round =>
                obtain ⟨i, hi, rfl, hoi, rfl, ki⟩ := hrel
                by_cases hi6 : i < 6
                · have hsn := rowW_succ O' k i
                  have hmem : ∀ y ∈ wantW O' k ++ rowW O' k i, y ≤ (k : Int) := fun y hy => mem_part hy
                  have hlen : (wantW O' k ++ rowW O' k i).length < 4096 := by
                    rw [List.length_append]
                    have := wantW_len2 O' k
                    have := rowW_len O' k i
                    omega
                  have hsn2 : wantW O' k ++ rowW O' k (i + 1) = (wantW O' k ++ rowW O' k i) ++ (if O' i = k + 1 then [(k : Int)] else []) := by rw [hsn, List.append_assoc]
                  obtain ⟨A, hA⟩ : ∃ A, wantW O' k ++ rowW O' k i = A := ⟨_, rfl⟩
                  rw [hA] at hoi hmem hlen hsn2 ⊢
                  have hhead := head_snoc (n := n) hmem hkn'
                  obtain ⟨H, hH⟩ : ∃ H, A.headD (n : Int) = H := ⟨_, rfl⟩
                  rw [hH] at hhead ⊢
                  have HH := Lib.hid hH
                  have Hhead := Lib.hid hhead
                  have Hsn := Lib.hid hsn2
                  clear hsn hmem hA hhead hH hsn2
                  have hq1 : (i : Int).tdiv 2 = ((i / 2 : Nat) : Int) := by rw [Int.tdiv_eq_ediv_of_nonneg (by omega)]; omega
                  have hq2 : (i : Int).tmod 2 = ((i % 2 : Nat) : Int) := tmod_nat i 2
                  have hq3 : IntKind.i64.wrap ((i / 2 : Nat) : Int) = ((i / 2 : Nat) : Int) := IntWalk.i64_in _ ⟨by omega, by omega⟩
                  have hq4 : IntKind.i64.wrap ((i % 2 : Nat) : Int) = ((i % 2 : Nat) : Int) := IntWalk.i64_in _ ⟨by omega, by omega⟩
                  have hq5 : ((i / 2 : Nat) : Int) < 3 := by omega
                  have hq6 : ((i % 2 : Nat) : Int) < 2 := by omega
                  have hq7 : IntKind.i64.wrap (k : Int) = (k : Int) := IntWalk.i64_in _ ⟨by omega, by omega⟩
                  have hq8 : IntKind.i64.wrap ((k : Int) + 1) = (k : Int) + 1 := IntWalk.i64_in _ ⟨by omega, by omega⟩
                  have hbi := ki.blk hb6 (by simp)
                  have hbl := hbi.lt
                  have hci := (hbi.cell (i / 2 * 2 + i % 2)).trans (show _ = some (Value.int .i64 (O' i)) by rw [show i / 2 * 2 + i % 2 = i by omega]; exact six_at O' hi6)
                  by_cases heq : O' i = k + 1
                  · have hbq : (((O' i : Nat) : Int) == (k : Int) + 1) = true := by rw [beq_iff_eq]; omega
                    obtain ⟨v', w8, hr, ho8, k8, _⟩ := appendU (wb := w7) hoi hlen (k : Int) ki (Nat.le_refl _) ki.size
                    have Hq := Lib.hid heq
                    clear heq
                    go_wp2_with (at_builtin; refine list_append_eq rfl _ _ 46 46 rfl _ _ rfl rfl hr ?_)
                    exact ⟨⟨i + 1, by omega, by go_num, by rw [Hsn.out, if_pos Hq.out]; exact ho8, by rw [Hsn.out, if_pos Hq.out, Hhead.out], k8⟩, by simp [intOf]; omega⟩
                  · have hbq : (((O' i : Nat) : Int) == (k : Int) + 1) = false := by rw [beq_eq_false_iff_ne]; omega
                    have Hq := Lib.hid heq
                    clear heq
                    go_wp2_with fail
                    exact ⟨⟨i + 1, by omega, by go_num, by rw [Hsn.out, if_neg Hq.out, List.append_nil]; exact hoi, by rw [Hsn.out, if_neg Hq.out, List.append_nil, HH.out], ki⟩, by simp [intOf]; omega⟩
                · obtain rfl : i = 6 := by omega
                  rw [← wantW_succ] at hoi ⊢
                  obtain ⟨H, hH⟩ : ∃ H, (wantW O' (k + 1)).headD (n : Int) = H := ⟨_, rfl⟩
                  rw [hH]
                  have HH := Lib.hid hH
                  clear hH
                  go_wp2_with fail
                  exact ⟨⟨k + 1, by omega, by go_num, hoi, by rw [HH.out], ki⟩, by simp [intOf]; omega⟩
            · obtain rfl : k = n + 1 := by omega
              have hO7 : ∀ i, i < 6 → O' i ≤ n + 1 := fun i h => by rw [← HN2.out]; exact hO6 i h
              have hwa := wantW_snaps hs6 (n + 1) hO7
              have hwl := wantW_len O' (n + 1) hO7
              have hwm := wmk_head St' D'
              rw [hwa] at ho hwl ⊢
              rw [HN.out] at hwm
              obtain ⟨H, hH⟩ : ∃ H, (snaps D').headD (n : Int) = H := ⟨_, rfl⟩
              rw [hH] at hwm ⊢
              have hnk : ¬ ((n : Int) + 1 ≤ n) := by omega
              clear hH hwa
              go_wp2_with fail
              refine (gm_snap (h6.keeps kz) hs6.size).mono ?_
              rintro e w9 ⟨u9, rfl, r9, k9⟩
              have ho9 := ho.keeps k9
              go_wp2_with fail
              refine (sameU (snaps D') (by omega) _ _ _ r9.lst ho9.lst).mono ?_
              rintro e w10 ⟨rfl, k10⟩
              have kk10 := (kz.trans k9 (by simp)).trans k10 (by simp)
              go_wp2_with fail
              refine (gm_wm (h6.keeps kk10) (by omega) hs6.size).mono ?_
              rintro e w11 ⟨rfl, k11⟩
              rw [hwm]
              have hself : (H != H) = false := by simp
              have kk11 := kk10.trans k11 (by simp)
              go_wp2_with fail
              exact ⟨⟨c + 1, St', O', by omega, by go_num, N', F', D', h6.keeps kk11, hN6, hs6, hO6, hl6, kk11.blk hb6 (by simp), K6.trans kk11 (by simp)⟩, by simp [intOf]; omega⟩
      · obtain rfl : c = q := by omega
        go_wp2_with fail
        go_ret
        exact ⟨rfl, KW⟩
end Go.Proofs.Ytnnpmpdlhojecaa
