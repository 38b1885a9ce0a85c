/- The helpers of the statements on the model: fit, Mod, awake; the model with lists in order. -/
import Derived.Test.YtnnpmpdlhojecaaModE
namespace Go.Proofs.Ytnnpmpdlhojecaa
open Go.RowKit Go.Maps
def fitL5 (b : List Wrt) : List Wrt := (b.take 5).map fitW
theorem fitL5_len (b : List Wrt) : (fitL5 b).length ≤ 5 := by simp [fitL5]; omega
set_option maxHeartbeats 1000000 in
set_option maxRecDepth 100000 in
theorem fit5_own (b : List Wrt) (hn : b.length ≤ 9223372036854775807) (bv : Value) (w : World) (hbv : Lst w bv b.length (wCs b)) :
    Calls Try.prog 17 #[bv] w fun e w' => ∃ u, e = .returned u ∧ OwnW w' w.heap.size u (fitL5 b) ∧ Keeps [] w w' := by
  obtain ⟨A, cap, bb, bo, rfl, hA, har⟩ := hbv
  obtain ⟨n, hnn⟩ : ∃ n, b.length = n := ⟨_, rfl⟩
  rw [hnn] at hA hn ⊢
  have Hn := Lib.hid hnn
  clear hnn
  go_enter Try.func17, Try.ntmps17
  go_wp2_with fail
  go_loopw [3, 4] (fun v i wr => ∃ (k : Nat), k ≤ n ∧ k ≤ 5 ∧ i = .int .i64 k ∧ OwnW wr w.heap.size v ((b.take k).map fitW) ∧ Keeps [] w wr) (fun _ i _ => 5 - (intOf i).toNat)
  case atStart => exact ⟨0, by omega, by omega, rfl, by simpa using OwnW.nil w w.heap.size, Keeps.refl _ _⟩
  case round =>
    obtain ⟨k, hk, hk30, rfl, ho, hkp⟩ := hrel
    by_cases hlt : k < n
    · by_cases h30 : k < 5
      · obtain rfl := hA (by omega)
        obtain ⟨y, hy⟩ : ∃ y, b[k]? = some y := ⟨_, List.getElem?_eq_getElem (by rw [Hn.out]; exact hlt)⟩
        obtain ⟨c0, c1, c2, c3⟩ := (har.keeps hkp (by simp)).wrt hy
        have E2 := Lib.hid (fit_snoc b k y hy)
        go_wp2_with fail
        go_region
        simp only [cut_min32, cut_min64]
        have hbx := (Blk.new wr [.string ⟨(y.k.take 32).toArray⟩, .string ⟨(y.v.take 64).toArray⟩, .bool y.d] 57).drew
        have kw := ((Keeps.refl [] wr).alloc (.cells #[.string ⟨(y.k.take 32).toArray⟩, .string ⟨(y.v.take 64).toArray⟩, .bool y.d] 57)).drew
        obtain ⟨W, hW⟩ : ∃ W, W = (wr.alloc (.cells #[.string ⟨(y.k.take 32).toArray⟩, .string ⟨(y.v.take 64).toArray⟩, .bool y.d] 57)).drew := ⟨_, rfl⟩
        rw [← hW] at hbx kw ⊢
        have hsW : wr.heap.size < W.heap.size := hbx.lt
        clear hW
        have ho2 := ho.keeps kw
        have kx := hkp.trans kw (by simp)
        have hl16 : ((b.take k).map fitW).length < 4096 := by rw [List.length_map, List.length_take]; omega
        have hsz := hkp.size
        have hge := World.ownsRow.lt ho
        cases hd : y.d with
        | false =>
          rw [hd] at hbx
          obtain ⟨d0, d1, d2, d3, d4⟩ := hbx.o3
          have hf : fitW y = ⟨y.k.take 32, y.v.take 64, false⟩ := by simp [fitW, hd]
          obtain ⟨v', w5, hr, ho5, k5, _⟩ := appendW ho2 hl16 ⟨y.k.take 32, y.v.take 64, false⟩ kx (Nat.le_refl _) (by omega)
          rw [← hf, ← E2.out] at ho5
          go_wp2_with (at_builtin; refine list_append_eq rfl _ _ 28 28 rfl _ _ rfl rfl hr ?_)
          exact ⟨⟨k + 1, by omega, by omega, by go_num, ho5, k5⟩, by simp [intOf]; omega⟩
        | true =>
          rw [hd] at hbx
          obtain ⟨d0, d1, d2, d3, d4⟩ := hbx.o3
          have hf : fitW y = ⟨y.k.take 32, [], true⟩ := by simp [fitW, hd]
          have kx2 := kx.setCell ⟨wr.heap.size, 1, none⟩ (.string ⟨#[]⟩) (.inr hsz)
          have kw2 := kw.setCell ⟨wr.heap.size, 1, none⟩ (.string ⟨#[]⟩) (.inr (Nat.le_refl _))
          have hs2 : (W.setCell ⟨wr.heap.size, 1, none⟩ (.string ⟨#[]⟩)).heap.size = W.heap.size := by simp
          obtain ⟨v', w5, hr, ho5, k5, _⟩ := appendW (ho.keeps kw2) hl16 ⟨y.k.take 32, [], true⟩ kx2 (Nat.le_refl _) (by omega)
          rw [← hf, ← E2.out] at ho5
          rw [hs2] at hr
          go_wp2_with (at_builtin; refine list_append_eq rfl _ _ 28 28 rfl _ _ rfl rfl hr ?_)
          exact ⟨⟨k + 1, by omega, by omega, by go_num, ho5, k5⟩, by simp [intOf]; omega⟩
      · obtain rfl : k = 5 := by omega
        go_wp2_with fail
        go_ret
        have hr : (b.take 5).map fitW = fitL5 b := rfl
        exact ⟨_, rfl, by rw [← hr]; exact ho, hkp⟩
    · obtain rfl : k = n := by omega
      have hr : (b.take k).map fitW = fitL5 b := by
        rw [fitL5, List.take_of_length_le (by rw [Hn.out]; omega), List.take_of_length_le (by rw [Hn.out]; omega)]
      have Hr := Lib.hid hr
      clear hr
      go_wp2_with fail
      go_ret
      exact ⟨_, rfl, by rw [← Hr.out]; exact ho, hkp⟩
theorem fit5_any (b : List Wrt) (hn : b.length ≤ 9223372036854775807) (bv : Value) (w : World) (hbv : Lst w bv b.length (wCs b)) :
    Calls Try.prog 17 #[bv] w fun e w' => ∃ u, e = .returned u ∧ Lst w' u (fitL5 b).length (wCs (fitL5 b)) ∧ Keeps [] w w' :=
  (fit5_own b hn bv w hbv).mono fun _ _ ⟨u, h1, h2, h3⟩ => ⟨u, h1, h2.lst, h3⟩
theorem tmod_neg (k n : Int) (hn : 1 ≤ n) (hk : k < 0) : (k.tmod n < 0 → k.tmod n + n = k % n) ∧ (0 ≤ k.tmod n → k.tmod n = k % n) ∧ -n < k.tmod n := by
  have e : k.tmod n = -((-k) % n) := by
    have := Int.neg_tmod (-k) n
    rw [Int.neg_neg] at this
    rw [this, Int.tmod_eq_emod_of_nonneg (by omega)]
  have a0 := Int.emod_nonneg k (show n ≠ 0 by omega)
  have a1 := Int.emod_lt_of_pos k (show 0 < n by omega)
  have b0 := Int.emod_nonneg (-k) (show n ≠ 0 by omega)
  have b1 := Int.emod_lt_of_pos (-k) (show 0 < n by omega)
  have d1 := Int.mul_ediv_add_emod k n
  have d2 := Int.mul_ediv_add_emod (-k) n
  rw [e]
  generalize hr : (-k) % n = r at *
  generalize hs : k % n = s at *
  generalize (-k) / n = u at *
  generalize k / n = v at *
  have hsum : n * (u + v) + (r + s) = 0 := by rw [Int.mul_add]; omega
  have ht : u + v = 0 ∨ u + v = -1 := by
    by_cases h : u + v < -1
    · have := Int.mul_le_mul_of_nonneg_left (show u + v ≤ -2 by omega) (show 0 ≤ n by omega)
      omega
    · by_cases h' : 0 < u + v
      · have := Int.mul_le_mul_of_nonneg_left (show 1 ≤ u + v by omega) (show 0 ≤ n by omega)
        omega
      · omega
  rcases ht with ht | ht <;> rw [ht] at hsum
  · refine ⟨fun h => by omega, fun h => by omega, by omega⟩
  · refine ⟨fun h => by omega, fun h => by omega, by omega⟩
theorem mod_any (k n : Int) (hk : -9223372036854775808 ≤ k) (hk' : k ≤ 9223372036854775807) (hn : 1 ≤ n) (hn' : n ≤ 4611686018427387904) (w : World) :
    Calls Try.prog 20 #[.int .i64 k, .int .i64 n] w fun e w' => e = .returned (.int .i64 (k % n)) ∧ w = w' := by
  have hm0 := Int.emod_nonneg k (show n ≠ 0 by omega)
  have hm1 := Int.emod_lt_of_pos k (show 0 < n by omega)
  by_cases h0 : 0 ≤ k
  · have e : k.tmod n = k % n := Int.tmod_eq_emod_of_nonneg h0
    go_enter Try.func20, Try.ntmps20
    go_wp2
    go_ret
    exact ⟨rfl, rfl⟩
  · obtain ⟨t1, t2, t3⟩ := tmod_neg k n hn (by omega)
    have T1 := Lib.hid t1
    have T2 := Lib.hid t2
    clear t1 t2
    go_enter Try.func20, Try.ntmps20
    go_wp2
    · have hl : k.tmod n < 0 := by assumption
      go_ret
      exact ⟨by simp [T1.out hl], rfl⟩
    · have hl : 0 ≤ k.tmod n := by assumption
      go_ret
      exact ⟨by simp [T2.out hl], rfl⟩
variable {w w' : World} {base m N F : Nat} {Q : List Nat} {St : List (List Ent)} {D : DataW Unit}
def GM (w : World) (base : Nat) (Q : List Nat) (m N : Nat) (St : List (List Ent)) (F : Nat) (D : DataW Unit) : Prop :=
  MOx w base Q m N St F D ∧ 0 < St.length ∧ ∀ l ∈ St, Asc l ∧ l.length ≤ 5 * St.length
theorem MOx.keeps (h : MOx w base Q m N St F D) (k : Keeps [] w w') : MOx w' base Q m N St F D := by
  obtain ⟨sb, cap, mb, nb, sv, rest, hn, h⟩ := h
  exact ⟨sb, cap, mb, nb, sv, rest, hn, h.keeps k⟩
theorem MOx.mono {N' : Nat} (h : MOx w base Q m N St F D) (hN : N ≤ N') : MOx w base Q m N' St F D := by
  obtain ⟨sb, cap, mb, nb, sv, rest, hn, h⟩ := h
  exact ⟨sb, cap, mb, nb, sv, rest, Nat.le_trans hn hN, h⟩
theorem GM.keeps (h : GM w base Q m N St F D) (k : Keeps [] w w') : GM w' base Q m N St F D := ⟨h.1.keeps k, h.2⟩
/-- The last state. -/
def lastS (St : List (List Ent)) : List Ent := (St[St.length - 1]?).getD []
theorem gm_apply (h : GM w base Q m N St F D) (hn : St.length ≤ 200) (b : List Wrt) (hb : b.length ≤ 5) (bv : Value) (hbv : Lst w bv b.length (wCs b)) :
    Calls Try.prog 16 #[.pointer (some ⟨m, 0, none⟩), bv] w fun e w' => e = .returned (.int .u64 ((St.length : Nat) : Int)) ∧ GM w' base Q m N (St ++ [applyR (lastS St) b]) F D ∧ Kp base Q w w' := by
  obtain ⟨⟨sb, cap, mb, nb, sv, rest, hnN, hM⟩, hp, hg⟩ := h
  have hl : St[St.length - 1]? = some (lastS St) := by
    unfold lastS
    rw [List.getElem?_eq_getElem (by omega)]; rfl
  obtain ⟨ha, hlen⟩ := hg _ (List.mem_of_getElem? hl)
  refine (mapply_any hM (by omega) (lastS St) hl ha b (by omega) bv hbv).mono ?_
  rintro e w' ⟨rfl, h1, h2⟩
  refine ⟨rfl, ⟨h1.mono hnN, by simp, fun x hx => ?_⟩, h2⟩
  rw [List.length_append, List.length_singleton]
  rcases List.mem_append.1 hx with hx | hx
  · exact ⟨(hg x hx).1, by have := (hg x hx).2; omega⟩
  · simp at hx; subst hx
    exact ⟨asc_applyR b ha, by have := length_applyR (lastS St) b; omega⟩
theorem gm_list (h : GM w base Q m N St F D) (hn : St.length ≤ 200) (T : Nat) (hT : T ≤ 18446744073709551615) :
    Calls Try.prog 18 #[.pointer (some ⟨m, 0, none⟩), .int .u64 (T : Int)] w fun e w' => ∃ v l, e = .returned v ∧ St[pick St T]? = some l ∧ Own w' w.heap.size v l ∧ Keeps [] w w' := by
  obtain ⟨⟨sb, cap, mb, nb, sv, rest, hnN, hM⟩, hp, hg⟩ := h
  exact mlist_any hM (by omega) (fun l hl => by have := (hg l hl).2; omega) T hT
theorem gm_get (h : GM w base Q m N St F D) (hn : St.length ≤ 200) (key : Str) (T : Nat) (hT : T ≤ 18446744073709551615) :
    Calls Try.prog 19 #[.pointer (some ⟨m, 0, none⟩), .string ⟨key.toArray⟩, .int .u64 (T : Int)] w fun e w' => ∃ l, e = .returned (.tuple #[.string ⟨((lk l key).getD []).toArray⟩, .bool (lk l key).isSome]) ∧ St[pick St T]? = some l ∧ Keeps [] w w' := by
  obtain ⟨⟨sb, cap, mb, nb, sv, rest, hnN, hM⟩, hp, hg⟩ := h
  exact mget_any hM (by omega) (fun l hl => ⟨by have := (hg l hl).2; omega, (hg l hl).1⟩) key T hT
theorem gm_time (h : GM w base Q m N St F D) (hn : St.length ≤ 200) :
    Calls Try.prog 24 #[.pointer (some ⟨m, 0, none⟩)] w fun e w' => e = .returned (.int .u64 ((St.length - 1 : Nat) : Int)) ∧ w' = w := by
  obtain ⟨⟨sb, cap, mb, nb, sv, rest, hnN, hM⟩, hp, hg⟩ := h
  exact time_any hM (by omega)
theorem gm_floor (h : GM w base Q m N St F D) :
    Calls Try.prog 28 #[.pointer (some ⟨m, 0, none⟩)] w fun e w' => e = .returned (.int .u64 (F : Int)) ∧ w' = w := by
  obtain ⟨⟨sb, cap, mb, nb, sv, rest, hnN, hM⟩, hp, hg⟩ := h
  exact floor_any hM
theorem gm_raise (h : GM w base Q m N St F D) (hn : St.length ≤ 200) (hsz : Maps.size D ≤ 12) (T : Nat) :
    Calls Try.prog 23 #[.pointer (some ⟨m, 0, none⟩), .int .u64 (T : Int)] w fun e w' => e = .returned (.bool (decide ((T : Int) ≤ wmk St D))) ∧ GM w' base Q m N St (if (T : Int) ≤ wmk St D then max F T else F) D ∧ Kp base Q w w' := by
  obtain ⟨⟨sb, cap, mb, nb, sv, rest, hnN, hM⟩, hp, hg⟩ := h
  refine (mraise_any hM (by omega) hsz T).mono ?_
  rintro e w' ⟨rfl, h1, h2⟩
  exact ⟨rfl, ⟨h1.mono hnN, hp, hg⟩, h2⟩
theorem gm_wm (h : GM w base Q m N St F D) (hn : St.length ≤ 200) (hsz : Maps.size D ≤ 12) :
    Calls Try.prog 27 #[.pointer (some ⟨m, 0, none⟩)] w fun e w' => e = .returned (.int .u64 (wmk St D)) ∧ Keeps [] w w' := by
  obtain ⟨⟨sb, cap, mb, nb, sv, rest, hnN, hM⟩, hp, hg⟩ := h
  exact mwm_any hM (by omega) hsz
theorem gm_open (h : GM w base Q m N St F D) (hn : St.length ≤ 200) (hN : N ≤ 4096) (t j : Nat) (k : Lit) (hk : IsKl t j k) :
    Calls Try.prog 21 #[.pointer (some ⟨m, 0, none⟩), .int .i64 (t : Int), .int .i64 (j : Int)] w fun e w' => e = .returned (.int .u64 ((St.length - 1 : Nat) : Int)) ∧ GM w' base Q m (N + 1) St F (D.put k (.lit (.int .u64 ((St.length - 1 : Nat) : Int)))) ∧ Kp base Q w w' := by
  obtain ⟨⟨sb, cap, mb, nb, sv, rest, hnN, hM⟩, hp, hg⟩ := h
  refine (mopen_any hM (by omega) (by omega) t j k hk).mono ?_
  rintro e w' ⟨rfl, h1, h2⟩
  exact ⟨rfl, ⟨h1.mono (by omega), hp, hg⟩, h2⟩
theorem gm_rel (h : GM w base Q m N St F D) (t j : Nat) (k : Lit) (hk : IsKl t j k) :
    Calls Try.prog 22 #[.pointer (some ⟨m, 0, none⟩), .int .i64 (t : Int), .int .i64 (j : Int)] w fun e w' => e = .returned (.tuple #[]) ∧ GM w' base Q m N St F (D.del k) ∧ Kp base Q w w' := by
  obtain ⟨⟨sb, cap, mb, nb, sv, rest, hnN, hM⟩, hp, hg⟩ := h
  refine (mrel_any hM t j k hk).mono ?_
  rintro e w' ⟨rfl, h1, h2⟩
  exact ⟨rfl, ⟨h1.mono hnN, hp, hg⟩, h2⟩
theorem gm_new (w : World) : Calls Try.prog 14 #[] w fun e w' => ∃ m, e = .returned (.pointer (some ⟨m, 0, none⟩)) ∧ GM w' w.heap.size [] m 0 [[]] 0 (.map []) ∧ Keeps [] w w' := by
  refine (mnew_any w).mono ?_
  rintro e w' ⟨m, rfl, h1, h2⟩
  exact ⟨m, rfl, ⟨h1, by simp, fun l hl => by simp at hl; subst hl; exact ⟨List.Pairwise.nil, by simp⟩⟩, h2⟩
theorem lk_b : lk (applyR (lastS [[]]) [⟨[97], [49], false⟩]) [97] = some [49] := by kernel_rfl
set_option maxHeartbeats 1000000 in
set_option maxRecDepth 100000 in
theorem awakeM_any (w : World) : Calls Try.prog 15 #[] w fun e w' => e = .returned (.bool true) ∧ Keeps [] w w' := by
  go_enter Try.func15, Try.ntmps15
  go_wp2_with fail
  refine (gm_new _).mono ?_
  rintro e w1 ⟨m, rfl, h1, k1⟩
  have hb1 : Blk (w1.alloc (.cells #[.string ⟨#[97]⟩, .string ⟨#[49]⟩, .bool false] 57)) w1.heap.size (wCs [⟨[97], [49], false⟩] ++ []) := Blk.new w1 [.string ⟨#[97]⟩, .string ⟨#[49]⟩, .bool false] 57
  have kb1 := (Keeps.refl [] w1).alloc (.cells #[.string ⟨#[97]⟩, .string ⟨#[49]⟩, .bool false] 57)
  have ha1 := gm_apply (h1.keeps kb1) (by simp) [⟨[97], [49], false⟩] (by simp) _ (Lst.blk (n := 1) (cap := 1) hb1)
  go_wp2_with fail
  refine ha1.mono ?_
  rintro e w2 ⟨rfl, h2, k2⟩
  have K2 := Kp.keeps (k1.trans kb1 (by simp)) k2 (Nat.le_refl _)
  have hb2 : Blk (w2.alloc (.cells #[.string ⟨#[97]⟩, .string ⟨#[50]⟩, .bool false] 57)) w2.heap.size (wCs [⟨[97], [50], false⟩] ++ []) := Blk.new w2 [.string ⟨#[97]⟩, .string ⟨#[50]⟩, .bool false] 57
  have kb2 := (Keeps.refl [] w2).alloc (.cells #[.string ⟨#[97]⟩, .string ⟨#[50]⟩, .bool false] 57)
  have ha2 := gm_apply (h2.keeps kb2) (by simp) [⟨[97], [50], false⟩] (by simp) _ (Lst.blk (n := 1) (cap := 1) hb2)
  go_wp2_with fail
  refine ha2.mono ?_
  rintro e w3 ⟨rfl, h3, k3⟩
  have K3 := Kp.keeps (K2.trans kb2 (by simp)) k3 (Nat.le_refl _)
  go_wp2_with fail
  refine (gm_get h3 (by simp) [97] 1 (by omega)).mono ?_
  rintro e w4 ⟨l, rfl, hl, k4⟩
  obtain ⟨x1, hx1⟩ : ∃ x1, applyR (lastS [[]]) [⟨[97], [49], false⟩] = x1 := ⟨_, rfl⟩
  obtain ⟨x2, hx2⟩ : ∃ x2, applyR (lastS ([[]] ++ [applyR (lastS [[]]) [⟨[97], [49], false⟩]])) [⟨[97], [50], false⟩] = x2 := ⟨_, rfl⟩
  rw [hx2] at h3 hl
  rw [hx1] at h3 hl
  have hl1 : x1 = l := by simpa [pick] using hl
  subst hl1
  have hlk : lk x1 [97] = some [49] := by rw [← hx1]; exact lk_b
  rw [hlk]
  have hwm : wmk ([[]] ++ [x1] ++ [x2]) (.map []) = 2 := by simp [wmk, snaps, isort, isortGo]
  have h4 := h3.keeps k4
  clear hb1 kb1 ha1 hb2 kb2 ha2 h1 h2 hl hx1 hx2 hlk
  go_wp2_with fail
  refine (gm_raise h4 (by simp) (by simp [Maps.size]) 1).mono ?_
  rintro e w5 ⟨rfl, h5, k5⟩
  rw [hwm] at h5 ⊢
  have h5' : GM w5 w.heap.size [] m 0 ([[]] ++ [x1] ++ [x2]) 1 (.map []) := by simpa using h5
  have hd1 : decide (((1 : Nat) : Int) ≤ 2) = true := by decide
  rw [hd1]
  go_wp2_with fail
  refine (gm_floor h5').mono ?_
  rintro e w6 ⟨rfl, rfl⟩
  go_wp2_with fail
  refine (gm_raise h5' (by simp) (by simp [Maps.size]) 3).mono ?_
  rintro e w7 ⟨rfl, h7, k7⟩
  rw [hwm]
  have hd3 : decide (((3 : Nat) : Int) ≤ 2) = false := by decide
  rw [hd3]
  go_wp2_with fail
  go_ret
  exact ⟨rfl, Kp.keeps (Kp.keeps (K3.trans k4 (by simp)) k5 (Nat.le_refl _)) k7 (Nat.le_refl _)⟩
end Go.Proofs.Ytnnpmpdlhojecaa
