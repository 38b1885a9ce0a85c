/- The statement ModelAgrees: the walk of same. -/
import Derived.Test.YtnnpmpdlhojecaaModT
namespace Go.Proofs.Ytnnpmpdlhojecaa
open Go.RowKit Go.Maps
set_option maxHeartbeats 4000000 in
set_option maxRecDepth 100000 in
theorem same_any {w : World} {base m N F : Nat} {Q Q2 : List Nat} {St : List (List Ent)} {D : DataW Unit} {ww : Nat} {bv sv : Value} {vs : List Value} {Bs : List (List Wrt)} {Ss : List (Nat × Nat)}
    (h : GM w base Q2 m N St F D) (hW : WR w Q ww bv vs Bs F sv Ss) (hP : Pre St Bs) (hn : Bs.length ≤ 100) (hs : Ss.length ≤ 4000) (hb5 : ∀ b ∈ Bs, b.length ≤ 5) (hsz : Maps.size D ≤ 12) (hwm : wmk St D = ((minS Ss Bs.length : Nat) : Int))
    (T : Nat) (hT : T ≤ 18446744073709551615) (key : Str) :
    Calls Try.prog 34 #[.pointer (some ⟨m, 0, none⟩), .pointer (some ⟨ww, 0, none⟩), .int .u64 (T : Int), .string ⟨key.toArray⟩] w fun e w' => e = .returned (.bool true) ∧ Keeps [] w w' := by
  obtain ⟨n, hn'⟩ : ∃ n, Bs.length = n := ⟨_, rfl⟩
  have hSt : St.length = n + 1 := by rw [hP.1, hn']
  have hl3 : ∀ l ∈ St, l.length ≤ 3000 := fun l hl => by have := (h.2.2 l hl).2; omega
  have kd := (Keeps.refl [] w).drew
  have hd := h.keeps kd
  have hWd := hW.keeps kd
  have t1 := gm_time hd (by omega)
  have t2 := wtime_any hWd (by omega)
  have t3 := gm_floor hd
  have t4 := gm_wm hd (by omega) hsz
  rw [show ((St.length - 1 : Nat) : Int) = (n : Int) by omega] at t1
  rw [hn'] at t2
  rw [hwm, hn'] at t4
  obtain ⟨M, hM⟩ : ∃ M, minS Ss n = M := ⟨_, rfl⟩
  rw [hM] at t4
  have d1 := hWd.hw.o4.2.1
  have dl := hWd.hw.lt
  have Hw := Lib.hid hW
  have H := Lib.hid h
  have HP := Lib.hid hP
  have Hl := Lib.hid hl3
  have Hb := Lib.hid hb5
  have Hn := Lib.hid hn'
  have HM := Lib.hid hM
  have HS := Lib.hid hSt
  have hn100 : n ≤ 100 := by omega
  clear h hW hP hb5 hl3 hwm hn' hM hSt hd hWd hn
  have s1 : ((n : Int) != (n : Int)) = false := by simp
  have s2 : ((F : Int) != (F : Int)) = false := by simp
  have s3 : ((M : Int) != (M : Int)) = false := by simp
  go_enter Try.func34, Try.ntmps34
  go_wp2_with fail
  go_region_law (first
    | (go_simp
       go_at_call 24
       refine t1.mono ?_
       rintro e w1 ⟨rfl, rfl⟩)
    | (go_simp
       go_at_call 31
       refine t2.mono ?_
       rintro e w1 ⟨rfl, rfl⟩)
    | (go_simp
       go_at_call 28
       refine t3.mono ?_
       rintro e w1 ⟨rfl, rfl⟩)
    | (go_simp
       go_at_call 27
       refine t4.mono ?_
       rintro e w4 ⟨rfl, k4⟩
       have hW4 := (Hw.out.keeps kd).keeps k4
       have t5 := wwm_any hW4 (by rw [Hn.out]; omega) (by omega)
       rw [Hn.out, HM.out] at t5
       have d4 := hW4.hw.o4.2.1
       have dl4 := hW4.hw.lt)
    | (go_simp
       go_at_call 55
       refine t5.mono ?_
       rintro e w6 ⟨rfl, z, rfl⟩))
  all_goals (
    have K5 : Keeps [] w (w4.drewN z) := (kd.trans k4 (by simp)).drewN z
    have W5 := Hw.out.keeps K5
    have T5 := wtime_any W5 (by rw [Hn.out]; omega)
    rw [Hn.out] at T5
    clear t1 t2 t3 t4 t5 d1 dl d4 dl4 hW4 kd k4
    obtain ⟨X5, hX5⟩ : ∃ X5, X5 = w4.drewN z := ⟨_, rfl⟩
    rw [← hX5] at K5 W5 T5 ⊢
    clear hX5 W5
    go_wp2_with fail
    refine T5.mono ?_
    rintro e w7 ⟨rfl, rfl⟩
    go_wp2_with fail
    refine T5.mono ?_
    rintro e w7 ⟨rfl, rfl⟩
    have q1 : (n : Int).tdiv 2 = ((n / 2 : Nat) : Int) := by rw [Int.tdiv_eq_ediv_of_nonneg (by omega)]; omega
    have q2 : IntKind.u64.wrap ((n / 2 : Nat) : Int) = ((n / 2 : Nat) : Int) := IntWalk.u64_in _ ⟨by omega, by omega⟩
    obtain ⟨n2, hn2⟩ : ∃ n2, n / 2 = n2 := ⟨_, rfl⟩
    rw [hn2] at q1 q2
    have hn2' : n2 ≤ 100 := by omega
    clear hn2
    go_wp2_with fail
    refine T5.mono ?_
    rintro e w7 ⟨rfl, rfl⟩
    have q3 : IntKind.u64.wrap ((n : Int) + 2) = ((n + 2 : Nat) : Int) := IntWalk.u64_in _ ⟨by omega, by omega⟩
    have q4 : (T : Int).tmod ((n + 2 : Nat) : Int) = ((T % (n + 2) : Nat) : Int) := tmod_nat T (n + 2)
    have hU1 : T % (n + 2) < n + 2 := Nat.mod_lt _ (by omega)
    have q5 : IntKind.u64.wrap ((T % (n + 2) : Nat) : Int) = ((T % (n + 2) : Nat) : Int) := IntWalk.u64_in _ ⟨by omega, by omega⟩
    have q6 : (((n + 2 : Nat) : Int) == 0) = false := by simp; omega
    obtain ⟨U, hU⟩ : ∃ U, T % (n + 2) = U := ⟨_, rfl⟩
    obtain ⟨Y, hY⟩ : ∃ Y, ((n + 2 : Nat) : Int) = Y := ⟨_, rfl⟩
    have hYp : 0 < Y := by omega
    rw [hU] at q4 q5 hU1
    rw [hY] at q3 q4 q6
    clear hU hY
    have hbk : Blk (w7.alloc (.cells #[.int .u64 0, .int .u64 (n : Int), .int .u64 (n2 : Int), .int .u64 (U : Int), .int .u64 (T : Int)] 23)) w7.heap.size [.int .u64 0, .int .u64 (n : Int), .int .u64 (n2 : Int), .int .u64 (U : Int), .int .u64 (T : Int)] := Blk.new w7 [.int .u64 0, .int .u64 (n : Int), .int .u64 (n2 : Int), .int .u64 (U : Int), .int .u64 (T : Int)] 23
    have kb := (Keeps.refl [] w7).alloc (.cells #[.int .u64 0, .int .u64 (n : Int), .int .u64 (n2 : Int), .int .u64 (U : Int), .int .u64 (T : Int)] 23)
    have hcs : ∀ k, k < 5 → ∃ x : Nat, x ≤ 18446744073709551615 ∧ [Value.int .u64 0, .int .u64 (n : Int), .int .u64 (n2 : Int), .int .u64 (U : Int), .int .u64 (T : Int)][k]? = some (.int .u64 (x : Int)) := fun k hk => by
      match k, hk with
      | 0, _ => exact ⟨0, by omega, rfl⟩
      | 1, _ => exact ⟨n, by omega, rfl⟩
      | 2, _ => exact ⟨n2, by omega, rfl⟩
      | 3, _ => exact ⟨U, by omega, rfl⟩
      | 4, _ => exact ⟨T, by omega, rfl⟩
    have Hcs := Lib.hid hcs
    clear hcs T5
    go_wp2_with fail
    obtain ⟨X7, hX7⟩ : ∃ X7, X7 = w7.alloc (.cells #[.int .u64 0, .int .u64 (n : Int), .int .u64 (n2 : Int), .int .u64 (U : Int), .int .u64 (T : Int)] 23) := ⟨_, rfl⟩
    rw [← hX7] at hbk kb ⊢
    have K7 := K5.trans kb (by simp)
    clear hX7 kb q1 q2 q3 q4 q5 q6 K5
    go_loopw [50] (fun i wr => ∃ k : Nat, k ≤ 5 ∧ i = .int .i64 k ∧ Keeps [] X7 wr) (fun i _ => 5 - (intOf i).toNat)
    case atStart => exact ⟨0, by omega, rfl, Keeps.refl _ _⟩
    case round =>
      obtain ⟨k, hk, rfl, kk⟩ := hrel
      by_cases hk5 : k < 5
      · obtain ⟨x, hx, hxe⟩ := Hcs.out k hk5
        have hc := (kk.blk hbk (by simp)).cell k
        rw [hxe] at hc
        have hbl := (kk.blk hbk (by simp)).lt
        have KW := K7.trans kk (by simp)
        have li := wlist_any (Hw.out.keeps KW) (by rw [Hn.out]; omega) St HP.out Hl.out Hb.out x hx
        clear hxe
        go_wp2_with fail
        refine li.mono ?_
        rintro e w8 ⟨u8, l, rfl, hp8, m8, k8⟩
        have hl := Hl.out l (List.mem_of_getElem? hp8)
        obtain ⟨lk8, hlk8⟩ : ∃ o, lk l key = o := ⟨_, rfl⟩
        have hge := get_any l (by omega) key u8 w8 m8
        rw [hlk8] at hge
        have Hp8 := Lib.hid hp8
        have Hlk := Lib.hid hlk8
        clear li hc hp8 hlk8
        go_wp2_with fail
        refine hge.mono ?_
        rintro e w9 ⟨rfl, rfl⟩
        have KW9 := KW.trans k8 (by simp)
        clear hge
        go_wp2_with fail
        refine (gm_get (H.out.keeps KW9) (by rw [HS.out]; omega) key x hx).mono ?_
        rintro e w10 ⟨l', rfl, hp10, k10⟩
        obtain rfl : l' = l := by rw [Hp8.out] at hp10; exact (Option.some.inj hp10).symm
        rw [Hlk.out]
        have KW10 := KW9.trans k10 (by simp)
        clear hp10
        go_wp2_with fail
        refine (gm_list (H.out.keeps KW10) (by rw [HS.out]; omega) x hx).mono ?_
        rintro e w11 ⟨v11, l'', rfl, hp11, o11, k11⟩
        obtain rfl : l'' = l' := by rw [Hp8.out] at hp11; exact (Option.some.inj hp11).symm
        have m11 := (m8.keeps k10).keeps k11
        clear hp11
        go_wp2_with fail
        refine (sameEt l'' (by omega) _ _ _ o11.lst m11).mono ?_
        rintro e w12 ⟨rfl, k12⟩
        have z1 : (lk8.getD [] == lk8.getD []) = true := by simp
        have z2 : (lk8.isSome != lk8.isSome) = false := by simp
        go_wp2_with fail
        exact ⟨⟨k + 1, by omega, by go_num, (((kk.trans k8 (by simp)).trans k10 (by simp)).trans k11 (by simp)).trans k12 (by simp)⟩, by simp [intOf]; omega⟩
      · obtain rfl : k = 5 := by omega
        go_wp2_with fail
        go_ret
        exact ⟨rfl, K7.trans kk (by simp)⟩)
end Go.Proofs.Ytnnpmpdlhojecaa
