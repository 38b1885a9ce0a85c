/- The statement ModelFloor: the walk. -/
import Derived.Test.YtnnpmpdlhojecaaModK
import Derived.Test.YtnnpmpdlhojecaaModJ
import Derived.Deep.QuietTactic
import Derived.BigQuiet
namespace Go.Proofs.Ytnnpmpdlhojecaa
open Go.RowKit Go.Maps
theorem mod_q (k n : Int) (hk : -9223372036854775808 ≤ k) (hk' : k ≤ 9223372036854775807) (hn : 1 ≤ n) (hn' : n ≤ 4611686018427387904) (w : World) (z : Nat) :
    Calls Try.prog 20 #[.int .i64 k, .int .i64 n] (w.drewN z) fun e w' => e = .returned (.int .i64 (k % n)) ∧ ∃ z', w' = w.drewN z' :=
  (mod_any k n hk hk' hn hn' (w.drewN z)).mono fun _ _ ⟨a, b⟩ => ⟨a, z, b.symm⟩
theorem gm_time_q {W : World} {base m N F : Nat} {Q : List Nat} {St : List (List Ent)} {D : DataW Unit} (h : GM W base Q m N St F D) (hn : St.length ≤ 200) (z : Nat) :
    Calls Try.prog 24 #[.pointer (some ⟨m, 0, none⟩)] (W.drewN z) fun e w' => e = .returned (.int .u64 ((St.length - 1 : Nat) : Int)) ∧ ∃ z', w' = W.drewN z' :=
  (gm_time (h.keeps ((Keeps.refl [] W).drewN z)) hn).mono fun _ _ ⟨a, b⟩ => ⟨a, z, b⟩
/-- What the loop of ModelFloor keeps. -/
def Flo (w wr : World) (K : Nat → Lit) (m c F : Nat) (St : List (List Ent)) (O : Nat → Nat) : Prop :=
  ∃ N D, GM wr w.heap.size [] m N St F D ∧ N ≤ c ∧ Sn K O D ∧ Low F St.length O ∧ (∀ i, i < 6 → O i ≤ St.length) ∧ St.length ≤ 1 + c ∧ Keeps [] w wr
set_option maxHeartbeats 2000000 in
set_option maxRecDepth 100000 in
theorem floorlaw_any (L : List Stp) (hnL : L.length ≤ 9223372036854775807) (v1 : Value) (w : World)
    (l1 : Lst w v1 L.length (L.flatMap sC)) (hL : ∀ p ∈ L, OkS w p) :
    Calls Try.prog 5 #[v1] w fun e w' => e = .returned (.bool true) ∧ Keeps [] w w' := by
  obtain ⟨A2, cap2, b2, o2, rfl, hA2, har2⟩ := l1
  obtain ⟨q, hq⟩ : ∃ q, L.length = q := ⟨_, rfl⟩
  rw [hq] at hA2 hnL ⊢
  have Hq := Lib.hid hq
  have HL := Lib.hid hL
  clear hq hL
  obtain ⟨K, hK⟩ := keys_ex
  go_enter Try.func5, Try.ntmps5
  go_wp2_with fail
  refine (gm_new _).mono ?_
  rintro e w1 ⟨m, rfl, h1, k1⟩
  go_wp2_with fail
  refine (awakeM_any _).mono ?_
  rintro e w2 ⟨rfl, k2⟩
  have h2 := h1.keeps k2
  have K2 := k1.trans k2 (by simp)
  by_cases h12 : 40 < q
  · go_wp2_with fail
    refine (awakeM_any _).mono ?_
    rintro e w3 ⟨rfl, k3⟩
    go_wp2_with fail
    go_ret
    exact ⟨rfl, K2.trans k3 (by simp)⟩
  · clear h1 k1 k2
    go_wp2_with fail
    go_loopw [4] (fun i wr => ∃ (c F : Nat) (St : List (List Ent)) (O : Nat → Nat), c ≤ q ∧ i = .int .i64 c ∧ Flo w wr K m c F St O) (fun i _ => q - (intOf i).toNat)
    case atStart => exact ⟨0, 0, [[]], fun _ => 0, by omega, rfl, 0, .map [], h2, by omega, Sn.none_ K, ⟨by simp, by simp⟩, by simp, by simp, K2⟩
    case round =>
      obtain ⟨c, F, St, O, hc, rfl, N, D, hg, hN, hsn, hlow, hO, hl, KW⟩ := hrel
      by_cases hlt2 : c < q
      · obtain rfl := hA2 (by omega)
        obtain ⟨s, hs⟩ : ∃ s, L[c]? = some s := ⟨_, List.getElem?_eq_getElem (by rw [Hq.out]; exact hlt2)⟩
        obtain ⟨c0, c1, c2, c3, c4, hbl⟩ := (har2.keeps KW (by simp)).stp hs
        obtain ⟨hLp, hlp, hk1, hk2, hk3, hk4⟩ := HL.out s (List.mem_of_getElem? hs)
        have hLp' := hLp.keeps KW
        have hcq : (c : Int) < (q : Int) := by omega
        clear hs hLp
        go_wp2_with fail
        go_quiet ((go_at_call 20; refine mod_q _ _ ?_ ?_ ?_ ?_ _ _ <;> omega))
        go_wp2_with fail
        obtain ⟨t, ht⟩ : ∃ t : Nat, s.t % 3 = (t : Int) := ⟨(s.t % 3).toNat, by omega⟩
        obtain ⟨j, hj⟩ : ∃ j : Nat, s.j % 2 = (j : Int) := ⟨(s.j % 2).toNat, by omega⟩
        have ht3 : t < 3 := by omega
        have hj2 : j < 2 := by omega
        have hkl := hK.at_ ht3 hj2
        rw [ht, hj]
        clear ht hj c2 c3
        have kd := (Keeps.refl [] wr).drewN nq
        refine (gm_floor (hg.keeps kd)).mono ?_
        rintro e wf ⟨rfl, rfl⟩
        have hg' := hg.keeps kd
        have KW' := KW.trans kd (by simp)
        have hLq := hLp'.keeps kd
        have c0' := kd.cellEq c0 (by simp)
        have c1' := kd.cellEq c1 (by simp)
        have c4' := kd.cellEq c4 (by simp)
        have hbl' := Nat.lt_of_lt_of_le hbl kd.size
        obtain ⟨W, hWW⟩ : ∃ W, W = wr.drewN nq := ⟨_, rfl⟩
        rw [← hWW] at hg' KW' hLq c0' c1' c4' hbl' ⊢
        clear hg KW hLp' c0 c1 c4 hbl hWW kd
        have hm0 := Int.emod_nonneg s.kind (show (5 : Int) ≠ 0 by omega)
        have hm1 := Int.emod_lt_of_pos s.kind (show (0 : Int) < 5 by omega)
        go_wp2_with fail
        refine (mod_any s.kind 5 hk1.1 hk1.2 (by omega) (by omega) _).mono ?_
        rintro e w5 ⟨rfl, rfl⟩
        obtain ⟨r, hr⟩ : ∃ r, s.kind % 5 = r := ⟨_, rfl⟩
        rw [hr] at hm0 hm1 ⊢
        clear hr
        by_cases h2 : r = 2
        · subst h2
          go_wp2_with fail
          refine (gm_open hg' (by omega) (by omega) t j _ hkl).mono ?_
          rintro e w6 ⟨rfl, h6, k6⟩
          have hp := h6.2.1
          have hs6 := hsn.put hK (show 2 * t + j < 6 by omega) (St.length - 1)
          have low6 : Low F St.length (upd O (2 * t + j) (St.length - 1 + 1)) := ⟨hlow.1, fun i hi h0 => by
            have := hlow.1
            by_cases e : i = 2 * t + j
            · rw [e, upd_at]; omega
            · rw [upd_ne e] at h0 ⊢; exact hlow.2 i hi h0⟩
          have hO6 : ∀ i, i < 6 → upd O (2 * t + j) (St.length - 1 + 1) i ≤ St.length := fun i hi => by
            by_cases e : i = 2 * t + j
            · rw [e, upd_at]; omega
            · rw [upd_ne e]; exact hO i hi
          have hW6 := Low.wmk hs6 low6
          have hd1 : decide (((F : Nat) : Int) < (F : Int)) = false := decide_eq_false (by omega)
          go_wp2_with fail
          refine (gm_floor h6).mono ?_
          rintro e w7 ⟨rfl, rfl⟩
          go_wp2_with fail
          refine (gm_floor h6).mono ?_
          rintro e w8 ⟨rfl, rfl⟩
          go_wp2_with fail
          refine (gm_wm h6 (by omega) hs6.size).mono ?_
          rintro e w9 ⟨rfl, k9⟩
          go_wp2_with fail
          exact ⟨⟨c + 1, _, _, _, by omega, by go_num, N + 1, _, h6.keeps k9, by omega, hs6, low6, hO6, by omega, (Kp.keeps (KW') k6 (Nat.le_refl _)).trans k9 (by simp)⟩, by simp [intOf]; omega⟩
        · by_cases h3 : r = 3
          · subst h3
            go_wp2_with fail
            refine (gm_rel hg' t j _ hkl).mono ?_
            rintro e w6 ⟨rfl, h6, k6⟩
            have hs6 := hsn.del hK (show 2 * t + j < 6 by omega)
            have low6 : Low F St.length (upd O (2 * t + j) 0) := ⟨hlow.1, fun i hi h0 => by
              by_cases e : i = 2 * t + j
              · rw [e, upd_at] at h0; omega
              · rw [upd_ne e] at h0 ⊢; exact hlow.2 i hi h0⟩
            have hO6 : ∀ i, i < 6 → upd O (2 * t + j) 0 i ≤ St.length := fun i hi => by
              by_cases e : i = 2 * t + j
              · rw [e, upd_at]; omega
              · rw [upd_ne e]; exact hO i hi
            have hW6 := Low.wmk hs6 low6
            have hd1 : decide (((F : Nat) : Int) < (F : Int)) = false := decide_eq_false (by omega)
            go_wp2_with fail
            refine (gm_floor h6).mono ?_
            rintro e w7 ⟨rfl, rfl⟩
            go_wp2_with fail
            refine (gm_floor h6).mono ?_
            rintro e w8 ⟨rfl, rfl⟩
            go_wp2_with fail
            refine (gm_wm h6 (by omega) hs6.size).mono ?_
            rintro e w9 ⟨rfl, k9⟩
            go_wp2_with fail
            exact ⟨⟨c + 1, _, _, _, by omega, by go_num, N, _, h6.keeps k9, by omega, hs6, low6, hO6, by omega, (Kp.keeps (KW') k6 (Nat.le_refl _)).trans k9 (by simp)⟩, by simp [intOf]; omega⟩
          · by_cases h4 : r = 4
            · subst h4
              go_wp2_with fail
              obtain ⟨V, hV⟩ : ∃ V : Nat, s.too = (V : Int) := ⟨s.too.toNat, by omega⟩
              rw [hV] at c4' hk4
              obtain ⟨y, hy⟩ : ∃ y, ((St.length - 1 : Nat) : Int) = y := ⟨_, rfl⟩
              have hy2 : y + 2 = ((St.length + 1 : Nat) : Int) := by have := hlow.1; omega
              have hwy : IntKind.u64.wrap (y + 2) = ((St.length + 1 : Nat) : Int) := by rw [hy2]; exact IntWalk.u64_in _ ⟨by omega, by omega⟩
              have hmod : (V : Int).tmod ((St.length + 1 : Nat) : Int) = ((V % (St.length + 1) : Nat) : Int) := tmod_nat V (St.length + 1)
              have hU1 : V % (St.length + 1) < St.length + 1 := Nat.mod_lt _ (by omega)
              have hwt : IntKind.u64.wrap ((V % (St.length + 1) : Nat) : Int) = ((V % (St.length + 1) : Nat) : Int) := IntWalk.u64_in _ ⟨by omega, by omega⟩
              have hz : (((St.length + 1 : Nat) : Int) == 0) = false := by simp; omega
              obtain ⟨U, hU⟩ : ∃ U, V % (St.length + 1) = U := ⟨_, rfl⟩
              obtain ⟨Y, hY⟩ : ∃ Y, ((St.length + 1 : Nat) : Int) = Y := ⟨_, rfl⟩
              have hYp : 0 < Y := by omega
              rw [hU] at hmod hwt hU1
              rw [hY] at hmod hwy hz
              have hT := gm_time_q hg' (by omega)
              rw [hy] at hT
              have HY := Lib.hid hy
              clear hU hY hy hy2 c0' c1' hV
              go_quiet ((go_at_call 24; exact hT _))
              clear hT hwy hmod hwt hz
              go_wp2_with fail
              have h5 := hg'.keeps ((Keeps.refl [] W).drewN nq)
              have K5 := KW'.drewN nq
              obtain ⟨W5, hW5⟩ : ∃ W5, W5 = W.drewN nq := ⟨_, rfl⟩
              rw [← hW5] at h5 K5 ⊢
              clear hW5 c4'
              refine (gm_raise h5 (by omega) hsn.size U).mono ?_
              rintro e w6 ⟨rfl, h6, k6⟩
              have hs6 := hsn
              have K6 := Kp.keeps K5 k6 (Nat.le_refl _)
              by_cases hle : (U : Int) ≤ wmk St D
              · have low6 := hlow.raise hsn hO hle
                have hdl : decide ((U : Int) ≤ wmk St D) = true := decide_eq_true hle
                have hmax : max (F : Int) (U : Int) = ((max F U : Nat) : Int) := by omega
                rw [if_pos hle] at h6
                rw [hdl]
                go_wp2_with fail
                refine (gm_wm h6 (by omega) hs6.size).mono ?_
                rintro e w7 ⟨rfl, k7⟩
                go_wp2_with fail
                refine (gm_wm (h6.keeps k7) (by omega) hs6.size).mono ?_
                rintro e w8 ⟨rfl, k8⟩
                go_wp2_with fail
                refine (gm_floor ((h6.keeps k7).keeps k8)).mono ?_
                rintro e w9 ⟨rfl, rfl⟩
                have hW6 := Low.wmk hs6 low6
                have hd1 : decide (((max F U : Nat) : Int) < (F : Int)) = false := decide_eq_false (by omega)
                go_wp2_with fail
                refine (gm_floor ((h6.keeps k7).keeps k8)).mono ?_
                rintro e w10 ⟨rfl, rfl⟩
                go_wp2_with fail
                refine (gm_floor ((h6.keeps k7).keeps k8)).mono ?_
                rintro e w11 ⟨rfl, rfl⟩
                go_wp2_with fail
                refine (gm_wm ((h6.keeps k7).keeps k8) (by omega) hs6.size).mono ?_
                rintro e w12 ⟨rfl, k9⟩
                go_wp2_with fail
                exact ⟨⟨c + 1, _, _, _, by omega, by go_num, N, _, GM.keeps ((h6.keeps k7).keeps k8) k9, by omega, hs6, low6, hO, by omega, ((K6.trans k7 (by simp)).trans k8 (by simp)).trans k9 (by simp)⟩, by simp [intOf]; omega⟩
              · have hdl : decide ((U : Int) ≤ wmk St D) = false := decide_eq_false hle
                rw [if_neg hle] at h6
                rw [hdl]
                go_wp2_with fail
                refine (gm_wm h6 (by omega) hs6.size).mono ?_
                rintro e w7 ⟨rfl, k7⟩
                go_wp2_with fail
                refine (gm_wm (h6.keeps k7) (by omega) hs6.size).mono ?_
                rintro e w8 ⟨rfl, k8⟩
                have low6 := hlow
                have hW6 := Low.wmk hs6 low6
                have hd1 : decide (((F : Nat) : Int) < (F : Int)) = false := decide_eq_false (by omega)
                go_wp2_with fail
                refine (gm_floor ((h6.keeps k7).keeps k8)).mono ?_
                rintro e w10 ⟨rfl, rfl⟩
                go_wp2_with fail
                refine (gm_floor ((h6.keeps k7).keeps k8)).mono ?_
                rintro e w11 ⟨rfl, rfl⟩
                go_wp2_with fail
                refine (gm_wm ((h6.keeps k7).keeps k8) (by omega) hs6.size).mono ?_
                rintro e w12 ⟨rfl, k9⟩
                go_wp2_with fail
                exact ⟨⟨c + 1, _, _, _, by omega, by go_num, N, _, GM.keeps ((h6.keeps k7).keeps k8) k9, by omega, hs6, low6, hO, by omega, ((K6.trans k7 (by simp)).trans k8 (by simp)).trans k9 (by simp)⟩, by simp [intOf]; omega⟩
            · have n2 : (r == 2) = false := by simpa using h2
              have n3 : (r == 3) = false := by simpa using h3
              have n4 : (r == 4) = false := by simpa using h4
              obtain ⟨sA, sc, _, _, hsb, _⟩ := id hLq
              rw [hsb] at c1' hLq
              go_wp2_with fail
              refine (fit5_any s.b hlp _ _ hLq).mono ?_
              rintro e w5 ⟨u5, rfl, m5, k5⟩
              go_wp2_with fail
              refine (gm_apply (hg'.keeps k5) (by omega) (fitL5 s.b) (fitL5_len s.b) u5 m5).mono ?_
              rintro e w6 ⟨rfl, h6, k6⟩
              have hs6 := hsn
              have low6 : Low F (St ++ [applyR (lastS St) (fitL5 s.b)]).length O := ⟨by rw [List.length_append]; have := hlow.1; omega, hlow.2⟩
              have hO6 : ∀ i, i < 6 → O i ≤ (St ++ [applyR (lastS St) (fitL5 s.b)]).length := fun i hi => by have := hO i hi; rw [List.length_append]; omega
              have hW6 := Low.wmk hs6 low6
              have hd1 : decide (((F : Nat) : Int) < (F : Int)) = false := decide_eq_false (by omega)
              go_wp2_with fail
              refine (gm_floor h6).mono ?_
              rintro e w7 ⟨rfl, rfl⟩
              go_wp2_with fail
              refine (gm_floor h6).mono ?_
              rintro e w8 ⟨rfl, rfl⟩
              go_wp2_with fail
              refine (gm_wm h6 (by rw [List.length_append, List.length_singleton]; omega) hs6.size).mono ?_
              rintro e w9 ⟨rfl, k9⟩
              go_wp2_with fail
              exact ⟨⟨c + 1, _, _, _, by omega, by go_num, N, _, h6.keeps k9, by omega, hs6, low6, hO6, by rw [List.length_append, List.length_singleton]; omega, (Kp.keeps (KW'.trans k5 (by simp)) k6 (Nat.le_refl _)).trans k9 (by simp)⟩, by simp [intOf]; omega⟩
      · obtain rfl : c = q := by omega
        go_wp2_with fail
        go_ret
        exact ⟨rfl, KW⟩
end Go.Proofs.Ytnnpmpdlhojecaa
