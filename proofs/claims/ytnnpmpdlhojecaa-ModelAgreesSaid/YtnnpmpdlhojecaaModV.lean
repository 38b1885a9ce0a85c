/- The statement ModelAgrees: the walk. -/
import Derived.Test.YtnnpmpdlhojecaaModU
namespace Go.Proofs.Ytnnpmpdlhojecaa
open Go.RowKit Go.Maps
def Ag (w wr : World) (K : Nat → Lit) (m ww c : Nat) : Prop := ∃ N F D St O Q bv vs Bs sv Ss, GM wr w.heap.size Q m N St F D ∧ N ≤ c ∧ Sn K O D ∧ (∀ i, i < 6 → O i ≤ St.length) ∧ WR wr Q ww bv vs Bs F sv Ss ∧ Lk Ss O ∧ Pre St Bs ∧ Bs.length ≤ c ∧ (∀ b ∈ Bs, b.length ≤ 5) ∧ Ss.length ≤ c ∧ (∀ q ∈ Q, w.heap.size ≤ q) ∧ Keeps [] w wr
theorem Wq.keeps0 {w a b : World} {Q Q' : List Nat} (h : Wq Q a b Q') (k : Keeps [] w a) (hQ : ∀ q ∈ Q, w.heap.size ≤ q) : Keeps [] w b ∧ ∀ q ∈ Q', w.heap.size ≤ q := by
  obtain ⟨⟨S, s1, s2⟩, h2, h3⟩ := h
  refine ⟨k.trans s2 (fun i hi => .inr (hQ i (s1 i hi))), fun q hq => ?_⟩
  rcases h3 q hq with h | h
  · exact hQ q h
  · have := k.size; omega
theorem GM.wq {a b : World} {base m N F : Nat} {Q Qb Q' : List Nat} {St : List (List Ent)} {D : DataW Unit} (h : GM a base Qb m N St F D) (hQ : ∀ q ∈ Q, q ∈ Qb) (k : Wq Q a b Q') : GM b base Q' m N St F D := by
  obtain ⟨⟨S, s1, s2⟩, h2, h3⟩ := k
  refine h.requ s2 (fun s hs => hQ s (s1 s hs)) (fun q hq => ?_)
  rcases h3 q hq with h | h
  · exact .inl (hQ q h)
  · exact .inr h
theorem RelTo.len {Ss Ss' : List (Nat × Nat)} {i : Nat} (h : RelTo Ss i Ss') : Ss'.length ≤ Ss.length := by
  rcases h with ⟨rfl, _⟩ | ⟨k, p, _, _, rfl⟩
  · exact Nat.le_refl _
  · rw [List.length_append, List.length_take, List.length_drop]; omega
theorem Pre.snoc {St : List (List Ent)} {Bs : List (List Wrt)} (h : Pre St Bs) (b : List Wrt) : Pre (St ++ [applyR (lastS St) b]) (Bs ++ [b]) := by
  obtain ⟨h1, h2, h3⟩ := h
  refine ⟨by simp [h1], by rw [List.getElem?_append_left (by omega)]; exact h2, fun i l c hl hc => ?_⟩
  by_cases hi : i < Bs.length
  · rw [List.getElem?_append_left (by omega)] at hl
    rw [List.getElem?_append_left hi] at hc
    rw [List.getElem?_append_left (by omega)]
    exact h3 i l c hl hc
  · have hi2 : i = Bs.length := by
      have := (List.getElem?_eq_some_iff.1 hc).1
      simp at this; omega
    subst hi2
    rw [List.getElem?_append_right (Nat.le_refl _)] at hc
    simp at hc
    subst hc
    rw [List.getElem?_append_left (by omega)] at hl
    have hl2 : lastS St = l := by
      unfold lastS
      rw [h1, Nat.add_sub_cancel, hl]; rfl
    rw [List.getElem?_append_right (by omega), h1, hl2]
    simp
theorem Row.kp {w w' : World} {base : Nat} {Q : List Nat} {v : Value} {n k : Nat} {xs : List Value} (h : Row w v n k xs) (kk : Kp base Q w w') (hv : ∀ g, v.ownBlock = some g → g ∈ Q) : Row w' v n k xs := by
  obtain ⟨S, h1, h2⟩ := kk
  exact h.keeps h2 (fun g hg hs => (h1 g hs).2 (hv g hg))
theorem wtime_q {w : World} {Q : List Nat} {ww : Nat} {bv sv : Value} {vs : List Value} {Bs : List (List Wrt)} {F : Nat} {Ss : List (Nat × Nat)} (h : WR w Q ww bv vs Bs F sv Ss) (hn : Bs.length ≤ 4096) (z : Nat) :
    Calls Try.prog 31 #[.pointer (some ⟨ww, 0, none⟩)] (w.drewN z) fun e w' => e = .returned (.int .u64 ((Bs.length : Nat) : Int)) ∧ ∃ z', w' = w.drewN z' :=
  (wtime_any (h.keeps ((Keeps.refl [] w).drewN z)) hn).mono fun _ _ ⟨a, b⟩ => ⟨a, z, b⟩
set_option maxHeartbeats 4000000 in
set_option maxRecDepth 100000 in
theorem agreesM_any (L : List Stp) (hnL : L.length ≤ 9223372036854775807) (v1 : Value) (T : Nat) (hT : T ≤ 18446744073709551615) (key0 : Str) (w : World)
    (l1 : Lst w v1 L.length (L.flatMap sC)) (hL : ∀ p ∈ L, OkS w p) :
    Calls Try.prog 6 #[v1, .int .u64 (T : Int), .string ⟨key0.toArray⟩] w fun e w' => e = .returned (.bool true) ∧ Keeps [] w w' := by
  obtain ⟨A2, cap2, b2, o2, rfl, hA2, har2⟩ := l1
  obtain ⟨q, hq⟩ : ∃ q, L.length = q := ⟨_, rfl⟩
  rw [hq] at hA2 hnL ⊢
  have Hq := Lib.hid hq
  have HL := Lib.hid hL
  clear hq hL
  obtain ⟨K, hK⟩ := keys_ex
  go_enter Try.func6, Try.ntmps6
  go_wp2_with fail
  refine (gm_new _).mono ?_
  rintro e w1 ⟨m, rfl, h1, k1⟩
  have hbw : Blk (w1.alloc (.cells #[.slice none 0 0, .int .u64 0, .slice none 0 0, .slice none 0 0] 55)) w1.heap.size [.slice none 0 0, .int .u64 0, .slice none 0 0, .slice none 0 0] := Blk.new w1 [.slice none 0 0, .int .u64 0, .slice none 0 0, .slice none 0 0] 55
  have ka := (Keeps.refl [] w1).alloc (.cells #[.slice none 0 0, .int .u64 0, .slice none 0 0, .slice none 0 0] 55)
  have h1a := h1.addQ ka (Q := [w1.heap.size]) (by intro x hx; simp at hx; subst hx; exact ⟨Nat.le_refl _, hbw.lt⟩)
  have K1 := k1.trans ka (by simp)
  have hww : w.heap.size ≤ w1.heap.size := k1.size
  go_wp2_with fail
  obtain ⟨ww, hwwe⟩ : ∃ ww, w1.heap.size = ww := ⟨_, rfl⟩
  obtain ⟨W2, hW2⟩ : ∃ W2, W2 = w1.alloc (.cells #[.slice none 0 0, .int .u64 0, .slice none 0 0, .slice none 0 0] 55) := ⟨_, rfl⟩
  rw [← hW2] at hbw h1a K1 ⊢
  rw [hwwe] at hbw h1a hww ⊢
  have hWR : WR W2 [ww] ww (.slice none 0 0) [] [] 0 (.slice none 0 0) [] := ⟨hbw, Row.nil _ _, fun i v b hv => by simp at hv, Row.nil _ _, ⟨by simp, fun g hg => by simp [Value.ownBlock] at hg⟩, fun g hg => by simp [Value.ownBlock] at hg⟩
  clear hwwe hW2 h1 k1 ka hbw
  refine (awakeM_any _).mono ?_
  rintro e w2 ⟨rfl, k2⟩
  have h2 := h1a.keeps k2
  have hWR2 := hWR.keeps k2
  have K2 := K1.trans k2 (by simp)
  clear h1a hWR K1 k2
  by_cases h12 : 30 < q
  · go_wp2_with fail
    refine (awakeM_any _).mono ?_
    rintro e w3 ⟨rfl, k3⟩
    go_wp2_with fail
    go_ret
    exact ⟨rfl, K2.trans k3 (by simp)⟩
  · go_wp2_with fail
    go_loopw [2, 9] (fun ky i wr => ∃ (c : Nat) (key : Str), c ≤ q ∧ i = .int .i64 c ∧ ky = .string ⟨key.toArray⟩ ∧ Ag w wr K m ww c) (fun _ i _ => q - (intOf i).toNat)
    case atStart => exact ⟨0, key0, by omega, rfl, rfl, 0, 0, .map [], [[]], fun _ => 0, [ww], _, [], [], _, [], h2, by omega, Sn.none_ K, by simp, hWR2, Lk.nil, ⟨rfl, rfl, by simp⟩, by simp, by simp, by simp, by simpa using hww, K2⟩
    case round =>
      obtain ⟨c, key, hc, rfl, rfl, N, F, D, St, O, Q, bv, vs, Bs, sv, Ss, hg, hN, hsn, hO, hWr, hlk, hpre, hBl, hB5, hSl, hQw, KW⟩ := hrel
      by_cases hlt2 : c < q
      · obtain rfl := hA2 (by omega)
        obtain ⟨s, hs⟩ : ∃ s, L[c]? = some s := ⟨_, List.getElem?_eq_getElem (by rw [Hq.out]; exact hlt2)⟩
        obtain ⟨c0, c1, c2, c3, c4, hbl⟩ := (har2.keeps KW (by simp)).stp hs
        obtain ⟨hLp, hlp, hk1, hk2, hk3, hk4⟩ := HL.out s (List.mem_of_getElem? hs)
        have hLp' := hLp.keeps KW
        have hcq : (c : Int) < (q : Int) := by omega
        have hStl := hpre.1
        clear hs hLp h2 hWR2 K2
        go_wp2_with fail
        go_quiet ((go_at_call 20; refine mod_q _ _ ?_ ?_ ?_ ?_ _ _ <;> omega))
        go_wp2_with fail
        obtain ⟨t, ht⟩ : ∃ t : Nat, s.t % 3 = (t : Int) := ⟨(s.t % 3).toNat, by omega⟩
        obtain ⟨j, hj⟩ : ∃ j : Nat, s.j % 2 = (j : Int) := ⟨(s.j % 2).toNat, by omega⟩
        have ht3 : t < 3 := by omega
        have hj2 : j < 2 := by omega
        have hi6 : 2 * t + j < 6 := by omega
        have hkl := hK.at_ ht3 hj2
        rw [ht, hj]
        clear ht hj c2 c3
        have kd := (Keeps.refl [] wr).drewN nq
        have hg' := hg.keeps kd
        have hW' := hWr.keeps kd
        have KW' := KW.trans kd (by simp)
        have hLq := hLp'.keeps kd
        have c0' := kd.cellEq c0 (by simp)
        have c1' := kd.cellEq c1 (by simp)
        have c4' := kd.cellEq c4 (by simp)
        have hbl' := Nat.lt_of_lt_of_le hbl kd.size
        obtain ⟨W, hWW⟩ : ∃ W, W = wr.drewN nq := ⟨_, rfl⟩
        rw [← hWW] at hg' KW' hLq c0' c1' c4' hbl' hW' ⊢
        clear hg KW hLp' c0 c1 c4 hbl hWr hWW kd
        have hm0 := Int.emod_nonneg s.kind (show (5 : Int) ≠ 0 by omega)
        have hm1 := Int.emod_lt_of_pos s.kind (show (0 : Int) < 5 by omega)
        refine (mod_any s.kind 5 hk1.1 hk1.2 (by omega) (by omega) _).mono ?_
        rintro e w5 ⟨rfl, rfl⟩
        obtain ⟨r, hr⟩ : ∃ r, s.kind % 5 = r := ⟨_, rfl⟩
        rw [hr] at hm0 hm1 ⊢
        clear hr
        go_upto_block 2 with fail
        go_cut [2, 12, 13] from 57 to 115 (fun ky _ _ wx => (∃ key' : Str, ky = .string ⟨key'.toArray⟩) ∧ Ag w wx K m ww (c + 1))
        case first =>
          by_cases h2 : r = 2
          · subst h2
            go_wp2_with fail
            refine (gm_open hg' (by omega) (by omega) t j _ hkl).mono ?_
            rintro e w6 ⟨rfl, h6, k6⟩
            have hst := hsn.put hK hi6 (St.length - 1)
            have hW6 := hW'.kp k6
            have K6 := Kp.keeps KW' k6 (Nat.le_refl _)
            have hop := wopen_any hW6 (by omega) (by omega) t j hj2
            have e1 : St.length - 1 = Bs.length := by omega
            rw [e1] at hst h6 ⊢
            obtain ⟨n, hn⟩ : ∃ n, Bs.length = n := ⟨_, rfl⟩
            rw [hn] at hst h6 hop ⊢
            have hself : ((n : Int) != (n : Int)) = false := by simp
            have Hn := Lib.hid hn
            clear hn e1
            go_wp2_with fail
            refine hop.mono ?_
            rintro e w7 ⟨rfl, Q', sv', Ss', hW7, hrt, hwq⟩
            have h7 := h6.wq (fun q h => h) hwq
            obtain ⟨K7, hQ7⟩ := hwq.keeps0 K6 hQw
            go_wp2_with fail
            go_meet
            case rel =>
              refine ⟨⟨key, rfl⟩, N + 1, F, _, St, _, Q', bv, vs, Bs, sv', _, h7, by omega, hst, fun i hi => ?_, hW7, (hlk.rel hi6 hrt).open_ hi6, hpre, by omega, hB5, ?_, hQ7, K7⟩
              · by_cases e : i = 2 * t + j
                · rw [e, upd_at]; have := Hn.out; omega
                · rw [upd_ne e]; exact hO i hi
              · rw [List.length_append, List.length_singleton]; have := hrt.len; omega
          · by_cases h3 : r = 3
            · subst h3
              go_wp2_with fail
              refine (gm_rel hg' t j _ hkl).mono ?_
              rintro e w6 ⟨rfl, h6, k6⟩
              have hst := hsn.del hK hi6
              have hW6 := hW'.kp k6
              have K6 := Kp.keeps KW' k6 (Nat.le_refl _)
              go_wp2_with fail
              refine (wrel_any hW6 (by omega) t j hj2).mono ?_
              rintro e w7 ⟨rfl, Q', sv', Ss', hW7, hrt, hwq⟩
              have h7 := h6.wq (fun q h => h) hwq
              obtain ⟨K7, hQ7⟩ := hwq.keeps0 K6 hQw
              go_wp2_with fail
              go_meet
              case rel =>
                refine ⟨⟨key, rfl⟩, N, F, _, St, _, Q', bv, vs, Bs, sv', _, h7, by omega, hst, fun i hi => ?_, hW7, hlk.rel hi6 hrt, hpre, by omega, hB5, ?_, hQ7, K7⟩
                · by_cases e : i = 2 * t + j
                  · rw [e, upd_at]; omega
                  · rw [upd_ne e]; exact hO i hi
                · have := hrt.len; omega
            · by_cases h4 : r = 4
              · subst h4
                go_wp2_with fail
                obtain ⟨V, hV⟩ : ∃ V : Nat, s.too = (V : Int) := ⟨s.too.toNat, by omega⟩
                rw [hV] at c4' hk4
                have hTq := wtime_q hW' (by omega)
                have hwm := wmk_minS hsn hlk hO hpre.1
                obtain ⟨n, hn⟩ : ∃ n, Bs.length = n := ⟨_, rfl⟩
                rw [hn] at hTq hwm
                have hwy : IntKind.u64.wrap ((n : Int) + 2) = ((n + 2 : Nat) : Int) := IntWalk.u64_in _ ⟨by omega, by omega⟩
                have hmod : (V : Int).tmod ((n + 2 : Nat) : Int) = ((V % (n + 2) : Nat) : Int) := tmod_nat V (n + 2)
                have hU1 : V % (n + 2) < n + 2 := Nat.mod_lt _ (by omega)
                have hwt : IntKind.u64.wrap ((V % (n + 2) : Nat) : Int) = ((V % (n + 2) : Nat) : Int) := IntWalk.u64_in _ ⟨by omega, by omega⟩
                have hz : (((n + 2 : Nat) : Int) == 0) = false := by simp; omega
                obtain ⟨U, hU⟩ : ∃ U, V % (n + 2) = U := ⟨_, rfl⟩
                obtain ⟨Y, hY⟩ : ∃ Y, ((n + 2 : Nat) : Int) = Y := ⟨_, rfl⟩
                have hYp : 0 < Y := by omega
                rw [hU] at hmod hwt hU1
                rw [hY] at hmod hwy hz
                have Hn := Lib.hid hn
                have Hwm := Lib.hid hwm
                have hn31 : n ≤ 31 := by omega
                have Hst := Lib.hid hStl
                clear hU hY hn hV c0' c1' hwm hStl
                go_quiet ((go_at_call 31; exact hTq _))
                clear hTq hwy hmod hwt hz
                go_wp2_with fail
                have h5 := hg'.keeps ((Keeps.refl [] W).drewN nq)
                have hW5' := hW'.keeps ((Keeps.refl [] W).drewN nq)
                have K5 := KW'.drewN nq
                obtain ⟨W5, hW5⟩ : ∃ W5, W5 = W.drewN nq := ⟨_, rfl⟩
                rw [← hW5] at h5 K5 hW5' ⊢
                clear hW5 c4'
                refine (gm_raise h5 (by rw [Hst.out, Hn.out]; omega) hsn.size U).mono ?_
                rintro e w6 ⟨rfl, h6, k6⟩
                have hW6 := hW5'.kp k6
                have K6 := Kp.keeps K5 k6 (Nat.le_refl _)
                have hra := wraise_any hW6 (by rw [Hn.out]; omega) (by omega) U
                rw [Hn.out] at hra
                rw [Hwm.out] at h6 ⊢
                obtain ⟨M, hM⟩ : ∃ M, minS Ss n = M := ⟨_, rfl⟩
                rw [hM] at hra h6 ⊢
                clear hM
                by_cases hle : U ≤ M
                · have hle' : (U : Int) ≤ (M : Int) := by omega
                  rw [if_pos hle'] at h6
                  rw [if_pos hle, decide_eq_true hle] at hra
                  rw [decide_eq_true hle']
                  clear hle hle'
                  go_wp2_with fail
                  refine hra.mono ?_
                  rintro e w7 ⟨rfl, hW7, k7⟩
                  have h7 := h6.requ k7 (by simpa using hW7.hq.1) (Q' := Q) (fun q hq => .inl hq)
                  have K7 := K6.trans k7 (fun i hi => .inr (by simp at hi; subst hi; exact hQw _ hW7.hq.1))
                  go_wp2_with fail
                  go_meet
                  case rel => exact ⟨⟨key, rfl⟩, N, _, D, St, O, Q, bv, vs, Bs, sv, Ss, h7, by omega, hsn, hO, hW7, hlk, hpre, by omega, hB5, by omega, hQw, K7⟩
                · have hle' : ¬ (U : Int) ≤ (M : Int) := by omega
                  rw [if_neg hle'] at h6
                  rw [if_neg hle, decide_eq_false hle] at hra
                  rw [decide_eq_false hle']
                  clear hle hle'
                  go_wp2_with fail
                  refine hra.mono ?_
                  rintro e w7 ⟨rfl, hW7, k7⟩
                  have h7 := h6.requ k7 (by simpa using hW7.hq.1) (Q' := Q) (fun q hq => .inl hq)
                  have K7 := K6.trans k7 (fun i hi => .inr (by simp at hi; subst hi; exact hQw _ hW7.hq.1))
                  go_wp2_with fail
                  go_meet
                  case rel => exact ⟨⟨key, rfl⟩, N, _, D, St, O, Q, bv, vs, Bs, sv, Ss, h7, by omega, hsn, hO, hW7, hlk, hpre, by omega, hB5, by omega, hQw, K7⟩
              · have n2 : (r == 2) = false := by simpa using h2
                have n3 : (r == 3) = false := by simpa using h3
                have n4 : (r == 4) = false := by simpa using h4
                obtain ⟨sA, sc, _, _, hsb, _⟩ := id hLq
                rw [hsb] at c1' hLq
                go_wp2_with fail
                refine (fit5_own s.b hlp _ _ hLq).mono ?_
                rintro e w5 ⟨u5, rfl, m5, k5⟩
                have f5 := World.ownsRow.lt m5
                have hqlt := hg'.q_lt
                have h5 := (hg'.keeps k5).requ (Keeps.refl [] w5) (by simp) (Q' := Q) (fun q hq => .inl hq)
                have h5b := hg'.requ k5 (by simp) (Q' := Q ++ u5.ownBlock.toList) (fun q hq => by
                  rcases List.mem_append.1 hq with hq | hq
                  · exact .inl hq
                  · exact .inr (f5 q (by simpa using hq)))
                have r5 : Row w5 u5 (fitL5 s.b).length 3 (wCs (fitL5 s.b)) := Row.of m5
                have hW5 := hW'.keeps k5
                have K5 := KW'.trans k5 (by simp)
                have hb5 := fitL5_len s.b
                obtain ⟨bb, hbb⟩ : ∃ bb, fitL5 s.b = bb := ⟨_, rfl⟩
                rw [hbb] at r5 m5 hb5
                clear hbb h5 hLq
                go_wp2_with fail
                refine (gm_apply h5b (by omega) bb hb5 u5 r5.lst).mono ?_
                rintro e w6 ⟨rfl, h6, k6⟩
                have hW6 := hW5.kp (k6.sub (fun q hq => List.mem_append_left _ hq))
                have r6 := r5.kp k6 (fun g hg => List.mem_append_right _ (by simp [hg]))
                have K6 := Kp.keeps K5 k6 (Nat.le_refl _)
                have had := wadd_any hW6 (by omega) bb hb5 u5 r6.lst
                have e1 : Bs.length + 1 = St.length := by omega
                rw [e1] at had
                obtain ⟨n, hn⟩ : ∃ n, St.length = n := ⟨_, rfl⟩
                rw [hn] at had ⊢
                have hself : ((n : Int) != (n : Int)) = false := by simp
                have Hn := Lib.hid hn
                clear hn e1
                go_wp2_with fail
                refine had.mono ?_
                rintro e w7 ⟨rfl, Q', bv', vs', hW7, hwq⟩
                have h7 := h6.wq (fun q hq => List.mem_append_left _ hq) hwq
                obtain ⟨K7, hQ7⟩ := hwq.keeps0 K6 hQw
                have r7 : Row w7 u5 bb.length 3 (wCs bb) := by
                  obtain ⟨⟨S, s1, s2⟩, _⟩ := hwq
                  refine r6.keeps s2 (fun g hg hs => ?_)
                  have q1 := (f5 g hg).1
                  have q2 := hqlt g (s1 g hs)
                  omega
                have hpre7 := hpre.snoc bb
                have hO7 : ∀ i, i < 6 → O i ≤ (St ++ [applyR (lastS St) bb]).length := fun i hi => by have := hO i hi; rw [List.length_append]; omega
                have hB7 : ∀ b ∈ Bs ++ [bb], b.length ≤ 5 := fun b hb => by
                  rcases List.mem_append.1 hb with hb | hb
                  · exact hB5 b hb
                  · simp at hb; subst hb; exact hb5
                have HA : Ag w w7 K m ww (c + 1) := ⟨N, F, D, _, O, Q', bv', vs', _, sv, Ss, h7, by omega, hsn, hO7, hW7, hlk, hpre7, by rw [List.length_append, List.length_singleton]; omega, hB7, by omega, hQ7, K7⟩
                have HA2 := Lib.hid HA
                clear HA h7 hW7 hpre7 hO7 hB7 had h6 hW6 r6 r5 m5 h5b hW5
                obtain ⟨hr1, ⟨rfl, h0⟩ | ⟨g, cap, rest, rfl, hgb, g2, g3, g4⟩⟩ := r7
                · obtain ⟨p, hp⟩ : ∃ p, bb.length = p := ⟨_, rfl⟩
                  go_wp2_with fail
                  go_meet
                  case rel => exact ⟨⟨key, rfl⟩, HA2.out⟩
                · cases bb with
                  | nil =>
                    simp only [List.length_nil] at *
                    go_wp2_with fail
                    go_meet
                    case rel => exact ⟨⟨key, rfl⟩, HA2.out⟩
                  | cons y bb =>
                    have hc : w7.cell? ⟨g, 0, none⟩ = some (.string ⟨y.k.toArray⟩) := by rw [hgb.cell]; simp [wCs, wC]
                    have hgl := hgb.lt
                    have hlp : (0 : Int) < ((y :: bb).length : Int) := by rw [List.length_cons]; omega
                    obtain ⟨p, hp⟩ : ∃ p, (y :: bb).length = p := ⟨_, rfl⟩
                    rw [hp] at hlp ⊢
                    clear hp
                    go_wp2_with fail
                    go_meet
                    case rel => exact ⟨⟨y.k, rfl⟩, HA2.out⟩
        case rest =>
          obtain ⟨⟨key', rfl⟩, N', F', D', St', O', Q', bv', vs', Bs', sv', Ss', h7, hN7, hs7, hO7, hW7, hlk7, hpre7, hBl7, hB7, hSl7, hQ7, K7⟩ := hcut
          clear hg' hW' KW' hLq c0' c1' c4' hbl'
          go_wp2_with fail
          refine (same_any h7 hW7 hpre7 (by omega) (by omega) hB7 hs7.size (wmk_minS hs7 hlk7 hO7 hpre7.1) T hT key').mono ?_
          rintro e w9 ⟨rfl, k9⟩
          go_wp2_with fail
          exact ⟨⟨c + 1, key', by omega, by go_num, rfl, N', F', D', St', O', Q', bv', vs', Bs', sv', Ss', h7.keeps k9, hN7, hs7, hO7, hW7.keeps k9, hlk7, hpre7, hBl7, hB7, hSl7, hQ7, K7.trans k9 (by simp)⟩, by simp [intOf]; omega⟩
      · obtain rfl : c = q := by omega
        go_wp2_with fail
        go_ret
        exact ⟨rfl, KW⟩
end Go.Proofs.Ytnnpmpdlhojecaa
