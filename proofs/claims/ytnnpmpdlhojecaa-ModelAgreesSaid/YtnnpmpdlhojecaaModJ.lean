/- The statement ModelIsPersistent: the walk. -/
import Derived.Test.YtnnpmpdlhojecaaModI
import Derived.Test.YtnnpmpdlhojecaaBatV
namespace Go.Proofs.Ytnnpmpdlhojecaa
open Go.RowKit Go.Maps
theorem tmod_nat (a b : Nat) : ((a : Int)).tmod (b : Int) = ((a % b : Nat) : Int) := by
  rw [Int.tmod_eq_emod_of_nonneg (by omega)]; omega
theorem pick_at {St : List (List Ent)} {T : Nat} (h : T < St.length) : pick St T = T := by unfold pick; omega
theorem Own.blk {w : World} {base : Nat} {v : Value} {l : List Ent} (h : Own w base v l) : ∀ g ∈ v.ownBlock.toList, base ≤ g ∧ g < w.heap.size := by
  intro g hg
  rcases h with ⟨rfl, _⟩ | ⟨g', cap, rest, rfl, hb, hge, _⟩
  · simp [Value.ownBlock] at hg
  · have : g = g' := by simpa [Value.ownBlock] using hg
    subst this
    exact ⟨hge, hb.lt⟩
/-- What the second loop keeps. -/
def Per (w3 wr : World) (base : Nat) (Q : List Nat) (m T c : Nat) (l : List Ent) (kl : Lit) : Prop :=
  ∃ N St F D, GM wr base Q m N St F D ∧ N ≤ c ∧ One kl D ∧ St.length ≤ 11 + c ∧ St[T]? = some l ∧ Kp base Q w3 wr
set_option maxHeartbeats 2000000 in
set_option maxRecDepth 100000 in
theorem persist_any (X : List (Value × List Wrt)) (hn : X.length ≤ 9223372036854775807) (L : List Stp) (hnL : L.length ≤ 9223372036854775807) (v0 v1 : Value) (T : Nat) (hT : T ≤ 18446744073709551615) (w : World) (l0 : Lst w v0 X.length (X.map (·.1))) (hX : ∀ p ∈ X, Lst w p.1 p.2.length (wCs p.2) ∧ p.2.length ≤ 9223372036854775807)
    (l1 : Lst w v1 L.length (L.flatMap sC)) (hL : ∀ p ∈ L, OkS w p) :
    Calls Try.prog 7 #[v0, v1, .int .u64 (T : Int)] w fun e w' => e = .returned (.bool true) ∧ Keeps [] w w' := by
  obtain ⟨A, cap, b, o, rfl, hA, har⟩ := l0
  obtain ⟨n, hnn⟩ : ∃ n, X.length = n := ⟨_, rfl⟩
  rw [hnn] at hA hn ⊢
  have Hn := Lib.hid hnn
  have HX := Lib.hid hX
  clear hnn hX
  obtain ⟨A2, cap2, b2, o2, rfl, hA2, har2⟩ := l1
  obtain ⟨q, hq⟩ : ∃ q, L.length = q := ⟨_, rfl⟩
  rw [hq] at hA2 hnL ⊢
  have Hq := Lib.hid hq
  have HL := Lib.hid hL
  clear hq hL
  go_enter Try.func7, Try.ntmps7
  go_wp2_with fail
  refine (gm_new _).mono ?_
  rintro e w1 ⟨m, rfl, h1, k1⟩
  go_wp2_with fail
  refine (awakeM_any _).mono ?_
  rintro e w2 ⟨rfl, k2⟩
  have h2 := h1.keeps k2
  have K2 := k1.trans k2 (by simp)
  by_cases hbad : 10 < n ∨ 30 < q
  · by_cases h12 : 10 < n
    · go_wp2_with fail
      refine (awakeM_any _).mono ?_
      rintro e w3 ⟨rfl, k3⟩
      go_wp2_with fail
      go_ret
      exact ⟨rfl, K2.trans k3 (by simp)⟩
    · have h30 : 30 < q := by omega
      have h12' : n ≤ 10 := by omega
      clear hbad h12
      go_wp2_with fail
      refine (awakeM_any _).mono ?_
      rintro e w3 ⟨rfl, k3⟩
      go_wp2_with fail
      go_ret
      exact ⟨rfl, K2.trans k3 (by simp)⟩
  · have hn10 : n ≤ 10 := by omega
    have hq30 : q ≤ 30 := by omega
    clear h1 k1 k2 hbad
    go_wp2_with fail
    go_loopw [8] (fun i wr => ∃ (k : Nat) (St : List (List Ent)), k ≤ n ∧ i = .int .i64 k ∧ GM wr w.heap.size [] m 0 St 0 (.map []) ∧ St.length = k + 1 ∧ Keeps [] w wr) (fun i _ => n - (intOf i).toNat)
    case atStart => exact ⟨0, [[]], by omega, rfl, h2, rfl, K2⟩
    case round =>
      obtain ⟨k, St, hk, rfl, hg, hl, hkp⟩ := hrel
      by_cases hlt : k < n
      · obtain rfl := hA (by omega)
        obtain ⟨p, hp⟩ : ∃ p, X[k]? = some p := ⟨_, List.getElem?_eq_getElem (by rw [Hn.out]; exact hlt)⟩
        have hc := (har.keeps hkp (by simp)).cells k (by rw [List.length_map, Hn.out]; exact hlt)
        rw [List.getElem?_map, hp] at hc
        simp only [Option.map_some] at hc
        have hbl := (har.keeps hkp (by simp)).lt (by rw [List.length_map, Hn.out]; omega)
        obtain ⟨hLp, hlp⟩ := HX.out p (List.mem_of_getElem? hp)
        have hLp' := hLp.keeps hkp
        obtain ⟨pv, pb⟩ := p
        simp only at hc hLp' hlp
        obtain ⟨pA, pc, _, _, rfl, _⟩ := id hLp'
        clear hLp hp
        have hkn : (k : Int) < (n : Int) := by omega
        go_wp2_with fail
        refine (fit5_any pb hlp _ _ hLp').mono ?_
        rintro e w3 ⟨u3, rfl, m3, k3⟩
        go_wp2_with fail
        refine (gm_apply (hg.keeps k3) (by omega) (fitL5 pb) (fitL5_len pb) u3 m3).mono ?_
        rintro e w4 ⟨rfl, h4, k4⟩
        have K4 := Kp.keeps (hkp.trans k3 (by simp)) k4 (Nat.le_refl _)
        go_wp2_with fail
        exact ⟨⟨k + 1, _, by omega, by go_num, h4, by simp [hl], K4⟩, by simp [intOf]; omega⟩
      · obtain rfl : k = n := by omega
        have hw : IntKind.u64.wrap ((k : Int) + 1) = (k : Int) + 1 := IntWalk.u64_in _ ⟨by omega, by omega⟩
        have hmod : (T : Int).tmod ((k : Int) + 1) = ((T % (k + 1) : Nat) : Int) := tmod_nat T (k + 1)
        have hlk : ((St.length - 1 : Nat) : Int) = (k : Int) := by omega
        have hTk : T % (k + 1) < k + 1 := Nat.mod_lt _ (by omega)
        have hwt : IntKind.u64.wrap ((T % (k + 1) : Nat) : Int) = ((T % (k + 1) : Nat) : Int) := IntWalk.u64_in _ ⟨by omega, by omega⟩
        have hTl : T % (k + 1) < St.length := by omega
        obtain ⟨U, hU⟩ : ∃ U, T % (k + 1) = U := ⟨_, rfl⟩
        rw [hU] at hmod hTk hwt hTl
        have hk0 : (((k : Int) + 1) == 0) = false := by simp; omega
        go_wp2_with fail
        refine (gm_time hg (by omega)).mono ?_
        rintro e wt ⟨rfl, rfl⟩
        rw [hlk]
        clear hlk
        go_wp2_with fail
        refine (gm_list hg (by omega) U (by omega)).mono ?_
        rintro e w3 ⟨v, l, rfl, hpk, ho, k3⟩
        rw [pick_at hTl] at hpk
        obtain ⟨hasc, hll⟩ := hg.2.2 l (List.mem_of_getElem? hpk)
        obtain ⟨v', w4, hrun, ho', k4⟩ := appendEnil l (by omega) v ho.lst
        have K4 := (hkp.trans k3 (by simp)).trans k4 (by simp)
        have hQ : ∀ g ∈ v'.ownBlock.toList, w3.heap.size ≤ g ∧ g < w4.heap.size := ho'.blk
        have h4 := (hg.keeps k3).addQ k4 hQ
        obtain ⟨kl, hkl⟩ := kl_ex 0 0 (by omega) (by omega)
        have hks := kl_self hkl
        go_wp2_with (at_builtin; refine list_append_eq rfl _ _ 30 30 rfl _ _ rfl rfl hrun ?_)
        clear hrun h2 K2 hg hkp k3 ho k4
        have hU10 : U ≤ 10 := by omega
        have Hpk := Lib.hid hpk
        clear hTl hmod hTk hwt hU hk0 hw hpk
        go_loopw [10] (fun i wr => ∃ (c : Nat), c ≤ q ∧ i = .int .i64 c ∧ Per w4 wr w.heap.size v'.ownBlock.toList m U c l kl) (fun i _ => q - (intOf i).toNat)
        case atStart => exact ⟨0, by omega, rfl, 0, St, 0, .map [], h4, by omega, .inl rfl, by omega, Hpk.out, Kp.of (Keeps.refl _ _)⟩
        case round =>
          obtain ⟨c, hc, rfl, N, St2, F, D, hg, hN, hone, hl2, hpk2, kp⟩ := hrel
          have KW := Kp.keeps K4 kp (Nat.le_refl _)
          by_cases hlt2 : c < q
          · obtain rfl := hA2 (by omega)
            obtain ⟨s, hs⟩ : ∃ s, L[c]? = some s := ⟨_, List.getElem?_eq_getElem (by rw [Hq.out]; exact hlt2)⟩
            obtain ⟨c0, c1, c2, c3, c4, hbl⟩ := (har2.keeps KW (by simp)).stp hs
            obtain ⟨hLp, hlp, hk1, hk2, hk3, hk4⟩ := HL.out s (List.mem_of_getElem? hs)
            have hLp' := hLp.keeps KW
            have hcq : (c : Int) < (q : Int) := by omega
            have hm0 := Int.emod_nonneg s.kind (show (5 : Int) ≠ 0 by omega)
            have hm1 := Int.emod_lt_of_pos s.kind (show (0 : Int) < 5 by omega)
            clear hs hLp c2 c3
            go_wp2_with fail
            refine (mod_any s.kind 5 hk1.1 hk1.2 (by omega) (by omega) _).mono ?_
            rintro e w5 ⟨rfl, rfl⟩
            obtain ⟨r, hr⟩ : ∃ r, s.kind % 5 = r := ⟨_, rfl⟩
            rw [hr] at hm0 hm1 ⊢
            clear hr
            by_cases h2 : r = 2
            · subst h2
              go_wp2_with fail
              refine (gm_open hg (by omega) (by omega) 0 0 kl hkl).mono ?_
              rintro e w6 ⟨rfl, h6, k6⟩
              have o6 := hone.put hks (.lit (.int .u64 ((St2.length - 1 : Nat) : Int)))
              have hpk6 := hpk2
              have k6' := kp.trans (k6)
              go_wp2_with fail
              refine (gm_list h6 (by first | omega | (rw [List.length_append, List.length_singleton]; omega)) U (by omega)).mono ?_
              rintro e w7 ⟨v7, l7, rfl, hp7, ho7, k7⟩
              rw [pick_at ((List.getElem?_eq_some_iff.1 hpk6).1)] at hp7
              obtain rfl : l7 = l := by rw [hpk6] at hp7; exact (Option.some.inj hp7).symm
              have h7 := h6.keeps k7
              have kp7 := k6'.trans (Kp.of k7)
              have ho2 := ho'.kp kp7 (fun g hg => by simp [hg])
              clear h6 hp7
              go_wp2_with fail
              refine (sameEt l7 (by omega) _ _ _ ho7.lst ho2.lst).mono ?_
              rintro e w8 ⟨rfl, k8⟩
              go_wp2_with fail
              exact ⟨⟨c + 1, by omega, by go_num, N + 1, _, _, _, h7.keeps k8, by omega, o6, by first | omega | (rw [List.length_append, List.length_singleton]; omega), hpk6, kp7.trans (Kp.of k8)⟩, by simp [intOf]; omega⟩
            · by_cases h3 : r = 3
              · subst h3
                go_wp2_with fail
                refine (gm_rel hg 0 0 kl hkl).mono ?_
                rintro e w6 ⟨rfl, h6, k6⟩
                have o6 := hone.del hks
                have hpk6 := hpk2
                have k6' := kp.trans (k6)
                go_wp2_with fail
                refine (gm_list h6 (by first | omega | (rw [List.length_append, List.length_singleton]; omega)) U (by omega)).mono ?_
                rintro e w7 ⟨v7, l7, rfl, hp7, ho7, k7⟩
                rw [pick_at ((List.getElem?_eq_some_iff.1 hpk6).1)] at hp7
                obtain rfl : l7 = l := by rw [hpk6] at hp7; exact (Option.some.inj hp7).symm
                have h7 := h6.keeps k7
                have kp7 := k6'.trans (Kp.of k7)
                have ho2 := ho'.kp kp7 (fun g hg => by simp [hg])
                clear h6 hp7
                go_wp2_with fail
                refine (sameEt l7 (by omega) _ _ _ ho7.lst ho2.lst).mono ?_
                rintro e w8 ⟨rfl, k8⟩
                go_wp2_with fail
                exact ⟨⟨c + 1, by omega, by go_num, N, _, _, _, h7.keeps k8, by omega, o6, by first | omega | (rw [List.length_append, List.length_singleton]; omega), hpk6, kp7.trans (Kp.of k8)⟩, by simp [intOf]; omega⟩
              · by_cases h4 : r = 4
                · subst h4
                  obtain ⟨V, hV⟩ : ∃ V : Nat, s.too = (V : Int) := ⟨s.too.toNat, by omega⟩
                  rw [hV] at c4 hk4
                  have hmod : (V : Int).tmod 12 = ((V % 12 : Nat) : Int) := tmod_nat V 12
                  have hwt : IntKind.u64.wrap ((V % 12 : Nat) : Int) = ((V % 12 : Nat) : Int) := IntWalk.u64_in _ ⟨by omega, by omega⟩
                  obtain ⟨Z, hZ⟩ : ∃ Z, V % 12 = Z := ⟨_, rfl⟩
                  rw [hZ] at hmod hwt
                  clear hZ
                  go_wp2_with fail
                  refine (gm_raise hg (by omega) hone.size Z).mono ?_
                  rintro e w6 ⟨rfl, h6, k6⟩
                  have hpk6 := hpk2
                  clear hV c4 hwt hmod
                  have k6' := kp.trans (k6)
                  go_wp2_with fail
                  refine (gm_list h6 (by first | omega | (rw [List.length_append, List.length_singleton]; omega)) U (by omega)).mono ?_
                  rintro e w7 ⟨v7, l7, rfl, hp7, ho7, k7⟩
                  rw [pick_at ((List.getElem?_eq_some_iff.1 hpk6).1)] at hp7
                  obtain rfl : l7 = l := by rw [hpk6] at hp7; exact (Option.some.inj hp7).symm
                  have h7 := h6.keeps k7
                  have kp7 := k6'.trans (Kp.of k7)
                  have ho2 := ho'.kp kp7 (fun g hg => by simp [hg])
                  clear h6 hp7
                  go_wp2_with fail
                  refine (sameEt l7 (by omega) _ _ _ ho7.lst ho2.lst).mono ?_
                  rintro e w8 ⟨rfl, k8⟩
                  go_wp2_with fail
                  exact ⟨⟨c + 1, by omega, by go_num, N, _, _, _, h7.keeps k8, by omega, hone, by first | omega | (rw [List.length_append, List.length_singleton]; omega), hpk6, kp7.trans (Kp.of k8)⟩, by simp [intOf]; omega⟩
                · have n2 : (r == 2) = false := by simpa using h2
                  have n3 : (r == 3) = false := by simpa using h3
                  have n4 : (r == 4) = false := by simpa using h4
                  obtain ⟨sA, sc, _, _, hsb, _⟩ := id hLp'
                  rw [hsb] at c1 hLp'
                  go_wp2_with fail
                  refine (fit5_any s.b hlp _ _ hLp').mono ?_
                  rintro e w5 ⟨u5, rfl, m5, k5⟩
                  go_wp2_with fail
                  refine (gm_apply (hg.keeps k5) (by omega) (fitL5 s.b) (fitL5_len s.b) u5 m5).mono ?_
                  rintro e w6 ⟨rfl, h6, k6⟩
                  have hpk6 : (St2 ++ [applyR (lastS St2) (fitL5 s.b)])[U]? = some l := by
                    rw [List.getElem?_append_left ((List.getElem?_eq_some_iff.1 hpk2).1)]; exact hpk2
                  have k6' := kp.trans ((Kp.of k5).trans k6)
                  go_wp2_with fail
                  refine (gm_list h6 (by first | omega | (rw [List.length_append, List.length_singleton]; omega)) U (by omega)).mono ?_
                  rintro e w7 ⟨v7, l7, rfl, hp7, ho7, k7⟩
                  rw [pick_at ((List.getElem?_eq_some_iff.1 hpk6).1)] at hp7
                  obtain rfl : l7 = l := by rw [hpk6] at hp7; exact (Option.some.inj hp7).symm
                  have h7 := h6.keeps k7
                  have kp7 := k6'.trans (Kp.of k7)
                  have ho2 := ho'.kp kp7 (fun g hg => by simp [hg])
                  clear h6 hp7
                  go_wp2_with fail
                  refine (sameEt l7 (by omega) _ _ _ ho7.lst ho2.lst).mono ?_
                  rintro e w8 ⟨rfl, k8⟩
                  go_wp2_with fail
                  exact ⟨⟨c + 1, by omega, by go_num, N, _, _, _, h7.keeps k8, by omega, hone, by first | omega | (rw [List.length_append, List.length_singleton]; omega), hpk6, kp7.trans (Kp.of k8)⟩, by simp [intOf]; omega⟩
          · obtain rfl : c = q := by omega
            go_wp2_with fail
            go_ret
            exact ⟨rfl, KW⟩
end Go.Proofs.Ytnnpmpdlhojecaa
