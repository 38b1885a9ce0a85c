/- The contracts of list, fit, ref15.Apply and of both functions Check. -/
import Derived.Test.YtnnpmpdlhojecaaBatR
namespace Go.Proofs.Ytnnpmpdlhojecaa
open Go.RowKit
theorem putAll_snoc (raw l : List Ent) (k : Nat) (x : Ent) (h : raw[k]? = some x) : (raw.take (k + 1)).foldl (fun l e => putR e l) l = putR x ((raw.take k).foldl (fun l e => putR e l) l) := by
  rw [List.take_add_one, h]; simp [List.foldl_append]
set_option maxHeartbeats 1000000 in
set_option maxRecDepth 100000 in
theorem list_any (raw : List Ent) (hn : raw.length ≤ 9223372036854775807) (rv : Value) (w : World) (hrv : Lst w rv raw.length (eCs raw)) :
    Calls Try.prog 37 #[rv] w fun e w' => ∃ u, e = .returned u ∧ Lst w' u (listR raw).length (eCs (listR raw)) ∧ Keeps [] w w' := by
  obtain ⟨A, cap, b, o, rfl, hA, har⟩ := hrv
  obtain ⟨n, hnn⟩ : ∃ n, raw.length = n := ⟨_, rfl⟩
  rw [hnn] at hA hn ⊢
  have Hn := Lib.hid hnn
  clear hnn
  go_enter Try.func37, Try.ntmps37
  go_wp2_with fail
  go_loopw [3, 4] (fun v i wr => ∃ (k : Nat) (acc : List Ent), k ≤ n ∧ k ≤ 30 ∧ i = .int .i64 k ∧ Hid (acc = (raw.take k).foldl (fun l e => putR e l) []) ∧ Lst wr v acc.length (eCs acc) ∧ Keeps [] w wr) (fun _ i _ => 30 - (intOf i).toNat)
  case atStart => exact ⟨0, [], by omega, by omega, rfl, Lib.hid (by simp), Lst.nil w, Keeps.refl _ _⟩
  case round =>
    obtain ⟨k, acc, hk, hk30, rfl, hacc, hl, hkp⟩ := hrel
    by_cases hlt : k < n
    · by_cases h30 : k < 30
      · obtain rfl := hA (by omega)
        obtain ⟨y, hy⟩ : ∃ y, raw[k]? = some y := ⟨_, List.getElem?_eq_getElem (by rw [Hn.out]; exact hlt)⟩
        obtain ⟨c0, c1, c2⟩ := (har.keeps hkp (by simp)).ent hy
        have e2 := putAll_snoc raw [] k y hy
        rw [← hacc.out] at e2
        have E2 := Lib.hid e2
        have hlen : acc.length ≤ 30 := by
          have := length_foldl_put (raw.take k) []
          rw [← hacc.out, List.length_take] at this
          simp at this; omega
        clear e2
        go_wp2_with fail
        refine (put_any acc (by omega) y _ _ hl).mono ?_
        rintro e w2 ⟨u, rfl, ho, k2⟩
        go_wp2_with fail
        exact ⟨⟨k + 1, _, by omega, by omega, by go_num, Lib.hid E2.out.symm, ho.lst, hkp.trans k2 (by simp)⟩, by simp [intOf]; omega⟩
      · obtain rfl : k = 30 := by omega
        have hr : acc = listR raw := hacc.out
        have Hr := Lib.hid hr
        clear hr
        go_wp2_with fail
        go_ret
        exact ⟨_, rfl, by rw [← Hr.out]; exact hl, hkp⟩
    · obtain rfl : k = n := by omega
      have hr : acc = listR raw := by
        rw [hacc.out, listR, List.take_of_length_le (by rw [Hn.out]; omega), List.take_of_length_le (by rw [Hn.out]; omega)]
      have Hr := Lib.hid hr
      clear hr
      go_wp2_with fail
      go_ret
      exact ⟨_, rfl, by rw [← Hr.out]; exact hl, hkp⟩
set_option maxHeartbeats 1000000 in
set_option maxRecDepth 100000 in
theorem refApply_any (l : List Ent) (b : List Wrt) (hn : l.length + b.length ≤ 4000) (lv bv : Value) (w : World) (hlv : Lst w lv l.length (eCs l)) (hbv : Lst w bv b.length (wCs b)) :
    Calls Try.prog 43 #[lv, bv] w fun e w' => ∃ u, e = .returned u ∧ Lst w' u (applyR l b).length (eCs (applyR l b)) ∧ Keeps [] w w' := by
  obtain ⟨A, cap, bb, bo, rfl, hA, har⟩ := hbv
  obtain ⟨n, hnn⟩ : ∃ n, b.length = n := ⟨_, rfl⟩
  rw [hnn] at hA hn ⊢
  have Hn := Lib.hid hnn
  clear hnn
  go_enter Try.func43, Try.ntmps43
  go_wp2_with fail
  go_loopw [0, 5] (fun v i wr => ∃ (k : Nat) (acc : List Ent), k ≤ n ∧ i = .int .i64 k ∧ Hid (acc = applyR l (b.take k)) ∧ Lst wr v acc.length (eCs acc) ∧ Keeps [] w wr) (fun _ i _ => n - (intOf i).toNat)
  case atStart => exact ⟨0, l, by omega, rfl, Lib.hid (by simp [applyR]), hlv, Keeps.refl _ _⟩
  case round =>
    obtain ⟨k, acc, hk, rfl, hacc, hl, hkp⟩ := hrel
    by_cases hlt : k < n
    · obtain rfl := hA (by omega)
      obtain ⟨y, hy⟩ : ∃ y, b[k]? = some y := ⟨_, List.getElem?_eq_getElem (by rw [Hn.out]; exact hlt)⟩
      obtain ⟨c0, c1, c2, c3⟩ := (har.keeps hkp (by simp)).wrt hy
      have e2 := applyR_take_succ l b k y hy
      rw [← hacc.out] at e2
      have hlen : acc.length ≤ 4000 := by
        have := length_applyR l (b.take k)
        rw [← hacc.out, List.length_take] at this
        omega
      cases hd : y.d with
      | true =>
        rw [hd] at c2
        rw [stepR, if_pos hd] at e2
        have E2 := Lib.hid e2
        clear e2
        go_wp2_with fail
        refine (drop_any acc (by omega) y.k _ _ hl).mono ?_
        rintro e w2 ⟨u, rfl, ho, k2⟩
        go_wp2_with fail
        exact ⟨⟨k + 1, _, by omega, by go_num, Lib.hid E2.out.symm, ho.lst, hkp.trans k2 (by simp)⟩, by simp [intOf]; omega⟩
      | false =>
        rw [hd] at c2
        rw [stepR, if_neg (by simp [hd])] at e2
        have E2 := Lib.hid e2
        clear e2
        go_wp2_with fail
        have hld := hl.keeps ((Keeps.refl [] wr).drew)
        go_region_held3 (fun w' => w'.cell? ⟨bb, bo + k * 3, none⟩ = some (.string ⟨y.k.toArray⟩) ∧ w'.cell? ⟨bb, bo + k * 3 + 1, none⟩ = some (.string ⟨y.v.toArray⟩))
          (first
            | exact ⟨k2.cellEq c0 (by simp), k2.cellEq c1 (by simp)⟩
            | go_keep)
          ((go_at_call 57; refine (put_any acc (by omega) ⟨y.k, y.v⟩ _ _ hld).mono ?_; rintro e w2 ⟨u, rfl, ho, k2⟩))
        go_wp2_with fail
        exact ⟨⟨k + 1, _, by omega, by go_num, Lib.hid E2.out.symm, ho.lst, hkp.trans k2.undrew (by simp)⟩, by simp [intOf]; omega⟩
    · obtain rfl : k = n := by omega
      have hr : acc = applyR l b := by
        rw [hacc.out, List.take_of_length_le (by rw [Hn.out]; omega)]
      have Hr := Lib.hid hr
      clear hr
      go_wp2_with fail
      go_ret
      exact ⟨_, rfl, by rw [← Hr.out]; exact hl, hkp⟩
theorem validK_any (s : Str) (w : World) : Calls Try.prog 60 #[.string ⟨s.toArray⟩] w fun e w' => e = .returned (.bool (decide (s.length ≤ 32))) ∧ w' = w := by
  go_enter Try.func60, Try.ntmps60
  go_wp2
  go_ret
  exact ⟨by simp; omega, rfl⟩
theorem validV_any (s : Str) (w : World) : Calls Try.prog 61 #[.string ⟨s.toArray⟩] w fun e w' => e = .returned (.bool (decide (s.length ≤ 64))) ∧ w' = w := by
  go_enter Try.func61, Try.ntmps61
  go_wp2
  go_ret
  exact ⟨by simp; omega, rfl⟩
theorem kvalidK_any (s : Str) (w : World) : Calls Try.prog 62 #[.string ⟨s.toArray⟩] w fun e w' => e = .returned (.bool (decide (s.length ≤ 32))) ∧ w' = w := by
  go_enter Try.func62, Try.ntmps62
  go_wp2
  go_ret
  exact ⟨by simp; omega, rfl⟩
theorem kvalidV_any (s : Str) (w : World) : Calls Try.prog 63 #[.string ⟨s.toArray⟩] w fun e w' => e = .returned (.bool (decide (s.length ≤ 64))) ∧ w' = w := by
  go_enter Try.func63, Try.ntmps63
  go_wp2
  go_ret
  exact ⟨by simp; omega, rfl⟩
theorem all_snoc (f : Wrt → Bool) (b : List Wrt) (k : Nat) (x : Wrt) (h : b[k]? = some x) (h1 : (b.take k).all f = true) (h2 : f x = true) : (b.take (k + 1)).all f = true := by
  rw [List.take_add_one, h, List.all_append, h1]; simpa using h2
theorem all_not (f : Wrt → Bool) (b : List Wrt) (k : Nat) (x : Wrt) (h : b[k]? = some x) (h2 : f x = false) : b.all f = false := by
  rw [List.all_eq_false]
  exact ⟨x, List.mem_of_getElem? h, by simp [h2]⟩
set_option maxHeartbeats 1000000 in
set_option maxRecDepth 100000 in
theorem refCheck_any (b : List Wrt) (hn : b.length ≤ 9223372036854775807) (bv : Value) (w : World) (hbv : Lst w bv b.length (wCs b)) :
    Calls Try.prog 40 #[bv] w fun e w' => e = .returned (.int .i64 (checkR 8 1 b)) ∧ Keeps [] w w' := by
  obtain ⟨A, cap, bb, bo, rfl, hA, har⟩ := hbv
  obtain ⟨n, hnn⟩ : ∃ n, b.length = n := ⟨_, rfl⟩
  rw [hnn] at hA hn ⊢
  have Hn := Lib.hid hnn
  clear hnn
  by_cases h16 : 16 < n
  · have hr : checkR 8 1 b = 8 := by rw [checkR, Hn.out, if_pos h16]
    have Hr := Lib.hid hr
    clear hr
    go_enter Try.func40, Try.ntmps40
    go_wp2_with fail
    go_ret
    exact ⟨by rw [Hr.out]; rfl, Keeps.refl _ _⟩
  · go_enter Try.func40, Try.ntmps40
    go_wp2_with fail
    go_loopw [3] (fun i wr => ∃ (k : Nat), k ≤ n ∧ i = .int .i64 k ∧ Hid ((b.take k).all okW = true) ∧ Keeps [] w wr) (fun i _ => n - (intOf i).toNat)
    case atStart => exact ⟨0, by omega, rfl, Lib.hid (by simp), Keeps.refl _ _⟩
    case round =>
      obtain ⟨k, hk, rfl, hall, hkp⟩ := hrel
      by_cases hlt : k < n
      · obtain rfl := hA (by omega)
        obtain ⟨y, hy⟩ : ∃ y, b[k]? = some y := ⟨_, List.getElem?_eq_getElem (by rw [Hn.out]; exact hlt)⟩
        obtain ⟨c0, c1, c2, c3⟩ := (har.keeps hkp (by simp)).wrt hy
        have kx := hkp
        by_cases hk32 : y.k.length ≤ 32
        · have hd1 : decide (y.k.length ≤ 32) = true := by simpa using hk32
          by_cases hv64 : y.v.length ≤ 64
          · have hok : okW y = true := by simp [okW, hk32, hv64]
            have H2 := Lib.hid (all_snoc okW b k y hy hall.out hok)
            have hd2 : decide (y.v.length ≤ 64) = true := by simpa using hv64
            go_wp2_with fail
            refine (validK_any y.k _).mono ?_
            rintro e w2 ⟨rfl, rfl⟩
            rw [hd1]
            go_wp2_with fail
            refine (validV_any y.v _).mono ?_
            rintro e w3 ⟨rfl, rfl⟩
            rw [hd2]
            go_wp2_with fail
            exact ⟨⟨k + 1, by omega, by go_num, H2, kx⟩, by simp [intOf]; omega⟩
          · have hok : okW y = false := by simp [okW]; omega
            have hd2 : decide (y.v.length ≤ 64) = false := by simpa using hv64
            have hr : checkR 8 1 b = 8 := by rw [checkR, Hn.out, if_neg h16, all_not okW b k y hy hok]; simp
            have Hr := Lib.hid hr
            clear hr
            go_wp2_with fail
            refine (validK_any y.k _).mono ?_
            rintro e w2 ⟨rfl, rfl⟩
            rw [hd1]
            go_wp2_with fail
            refine (validV_any y.v _).mono ?_
            rintro e w3 ⟨rfl, rfl⟩
            rw [hd2]
            go_wp2_with fail
            go_ret
            exact ⟨by rw [Hr.out]; rfl, kx⟩
        · have hd1 : decide (y.k.length ≤ 32) = false := by simpa using hk32
          have hok : okW y = false := by simp [okW]; omega
          have hr : checkR 8 1 b = 8 := by rw [checkR, Hn.out, if_neg h16, all_not okW b k y hy hok]; simp
          have Hr := Lib.hid hr
          clear hr
          go_wp2_with fail
          refine (validK_any y.k _).mono ?_
          rintro e w2 ⟨rfl, rfl⟩
          rw [hd1]
          go_wp2_with fail
          go_ret
          exact ⟨by rw [Hr.out]; rfl, kx⟩
      · obtain rfl : k = n := by omega
        have hokb : b.all okW = true := by
          have := hall.out
          rwa [List.take_of_length_le (by rw [Hn.out]; omega)] at this
        have Hok := Lib.hid hokb
        clear hokb hall
        go_wp2_with fail
        go_loopw [4] (fun i wr => ∃ (j : Nat), j ≤ k ∧ i = .int .i64 j ∧ Hid ((b.take j).all okD = true) ∧ Keeps [] w wr) (fun i _ => k - (intOf i).toNat)
        case atStart => exact ⟨0, by omega, rfl, Lib.hid (by simp), hkp⟩
        case round =>
          clear hkp
          obtain ⟨j, hj, rfl, hall, hkp⟩ := hrel
          by_cases hlt : j < k
          · obtain rfl := hA (by omega)
            obtain ⟨y, hy⟩ : ∃ y, b[j]? = some y := ⟨_, List.getElem?_eq_getElem (by rw [Hn.out]; exact hlt)⟩
            obtain ⟨c0, c1, c2, c3⟩ := (har.keeps hkp (by simp)).wrt hy
            have kx := hkp
            cases hd : y.d with
            | false =>
              rw [hd] at c2
              have hok : okD y = true := by simp [okD, hd]
              have H2 := Lib.hid (all_snoc okD b j y hy hall.out hok)
              go_wp2_with fail
              exact ⟨⟨j + 1, by omega, by go_num, H2, kx⟩, by simp [intOf]; omega⟩
            | true =>
              rw [hd] at c2
              by_cases hv : y.v = []
              · have hok : okD y = true := by simp [okD, hv]
                have H2 := Lib.hid (all_snoc okD b j y hy hall.out hok)
                have hb : (y.v == []) = true := by simp [hv]
                go_wp2_with fail
                exact ⟨⟨j + 1, by omega, by go_num, H2, kx⟩, by simp [intOf]; omega⟩
              · have hok : okD y = false := by simp [okD, hd, hv]
                have hr : checkR 8 1 b = 1 := by rw [checkR, Hn.out, if_neg h16, Hok.out, all_not okD b j y hy hok]; simp
                have Hr := Lib.hid hr
                have hb : (y.v == []) = false := by simpa using hv
                clear hr
                go_wp2_with fail
                go_ret
                exact ⟨by rw [Hr.out]; rfl, kx⟩
          · obtain rfl : j = k := by omega
            have hokd : b.all okD = true := by
              have := hall.out
              rwa [List.take_of_length_le (by rw [Hn.out]; omega)] at this
            have hr : checkR 8 1 b = 0 := by rw [checkR, Hn.out, if_neg h16, Hok.out, hokd]; simp
            have Hr := Lib.hid hr
            clear hr hokd hall
            go_wp2_with fail
            go_ret
            exact ⟨by rw [Hr.out]; rfl, hkp⟩
set_option maxHeartbeats 1000000 in
set_option maxRecDepth 100000 in
theorem check_any (b : List Wrt) (hn : b.length ≤ 9223372036854775807) (bv : Value) (w : World) (hbv : Lst w bv b.length (wCs b)) :
    Calls Try.prog 41 #[bv] w fun e w' => e = .returned (.int .i64 (checkR 8 1 b)) ∧ Keeps [] w w' := by
  obtain ⟨A, cap, bb, bo, rfl, hA, har⟩ := hbv
  obtain ⟨n, hnn⟩ : ∃ n, b.length = n := ⟨_, rfl⟩
  rw [hnn] at hA hn ⊢
  have Hn := Lib.hid hnn
  clear hnn
  by_cases h16 : 16 < n
  · have hr : checkR 8 1 b = 8 := by rw [checkR, Hn.out, if_pos h16]
    have Hr := Lib.hid hr
    clear hr
    go_enter Try.func41, Try.ntmps41
    go_wp2_with fail
    go_ret
    exact ⟨by rw [Hr.out]; rfl, Keeps.refl _ _⟩
  · go_enter Try.func41, Try.ntmps41
    go_wp2_with fail
    go_loopw [12] (fun i wr => ∃ (k : Nat), k ≤ n ∧ i = .int .i64 k ∧ Hid ((b.take k).all okW = true) ∧ Keeps [] w wr) (fun i _ => n - (intOf i).toNat)
    case atStart => exact ⟨0, by omega, rfl, Lib.hid (by simp), Keeps.refl _ _⟩
    case round =>
      obtain ⟨k, hk, rfl, hall, hkp⟩ := hrel
      by_cases hlt : k < n
      · obtain rfl := hA (by omega)
        obtain ⟨y, hy⟩ : ∃ y, b[k]? = some y := ⟨_, List.getElem?_eq_getElem (by rw [Hn.out]; exact hlt)⟩
        obtain ⟨c0, c1, c2, c3⟩ := (har.keeps hkp (by simp)).wrt hy
        have kx := (hkp.alloc (.cells #[.string ⟨y.k.toArray⟩, .string ⟨y.v.toArray⟩, .bool y.d] 57))
        by_cases hk32 : y.k.length ≤ 32
        · have hd1 : decide (y.k.length ≤ 32) = true := by simpa using hk32
          by_cases hv64 : y.v.length ≤ 64
          · have hok : okW y = true := by simp [okW, hk32, hv64]
            have H2 := Lib.hid (all_snoc okW b k y hy hall.out hok)
            have hd2 : decide (y.v.length ≤ 64) = true := by simpa using hv64
            go_wp2_with fail
            refine (kvalidK_any y.k _).mono ?_
            rintro e w2 ⟨rfl, rfl⟩
            rw [hd1]
            go_wp2_with fail
            refine (kvalidV_any y.v _).mono ?_
            rintro e w3 ⟨rfl, rfl⟩
            rw [hd2]
            go_wp2_with fail
            exact ⟨⟨k + 1, by omega, by go_num, H2, kx⟩, by simp [intOf]; omega⟩
          · have hok : okW y = false := by simp [okW]; omega
            have hd2 : decide (y.v.length ≤ 64) = false := by simpa using hv64
            have hr : checkR 8 1 b = 8 := by rw [checkR, Hn.out, if_neg h16, all_not okW b k y hy hok]; simp
            have Hr := Lib.hid hr
            clear hr
            go_wp2_with fail
            refine (kvalidK_any y.k _).mono ?_
            rintro e w2 ⟨rfl, rfl⟩
            rw [hd1]
            go_wp2_with fail
            refine (kvalidV_any y.v _).mono ?_
            rintro e w3 ⟨rfl, rfl⟩
            rw [hd2]
            go_wp2_with fail
            go_ret
            exact ⟨by rw [Hr.out]; rfl, kx⟩
        · have hd1 : decide (y.k.length ≤ 32) = false := by simpa using hk32
          have hok : okW y = false := by simp [okW]; omega
          have hr : checkR 8 1 b = 8 := by rw [checkR, Hn.out, if_neg h16, all_not okW b k y hy hok]; simp
          have Hr := Lib.hid hr
          clear hr
          go_wp2_with fail
          refine (kvalidK_any y.k _).mono ?_
          rintro e w2 ⟨rfl, rfl⟩
          rw [hd1]
          go_wp2_with fail
          go_ret
          exact ⟨by rw [Hr.out]; rfl, kx⟩
      · obtain rfl : k = n := by omega
        have hokb : b.all okW = true := by
          have := hall.out
          rwa [List.take_of_length_le (by rw [Hn.out]; omega)] at this
        have Hok := Lib.hid hokb
        clear hokb hall
        go_wp2_with fail
        go_loopw [29] (fun i wr => ∃ (j : Nat), j ≤ k ∧ i = .int .i64 j ∧ Hid ((b.take j).all okD = true) ∧ Keeps [] w wr) (fun i _ => k - (intOf i).toNat)
        case atStart => exact ⟨0, by omega, rfl, Lib.hid (by simp), hkp⟩
        case round =>
          clear hkp
          obtain ⟨j, hj, rfl, hall, hkp⟩ := hrel
          by_cases hlt : j < k
          · obtain rfl := hA (by omega)
            obtain ⟨y, hy⟩ : ∃ y, b[j]? = some y := ⟨_, List.getElem?_eq_getElem (by rw [Hn.out]; exact hlt)⟩
            obtain ⟨c0, c1, c2, c3⟩ := (har.keeps hkp (by simp)).wrt hy
            have kx := (hkp.alloc (.cells #[.string ⟨y.k.toArray⟩, .string ⟨y.v.toArray⟩, .bool y.d] 57))
            cases hd : y.d with
            | false =>
              rw [hd] at c2 kx
              have hok : okD y = true := by simp [okD, hd]
              have H2 := Lib.hid (all_snoc okD b j y hy hall.out hok)
              go_wp2_with fail
              exact ⟨⟨j + 1, by omega, by go_num, H2, kx⟩, by simp [intOf]; omega⟩
            | true =>
              rw [hd] at c2 kx
              by_cases hv : y.v = []
              · have hok : okD y = true := by simp [okD, hv]
                have H2 := Lib.hid (all_snoc okD b j y hy hall.out hok)
                have hb : (y.v == []) = true := by simp [hv]
                rw [hv] at kx
                go_wp2_with fail
                exact ⟨⟨j + 1, by omega, by go_num, H2, kx⟩, by simp [intOf]; omega⟩
              · have hok : okD y = false := by simp [okD, hd, hv]
                have hr : checkR 8 1 b = 1 := by rw [checkR, Hn.out, if_neg h16, Hok.out, all_not okD b j y hy hok]; simp
                have Hr := Lib.hid hr
                have hb : (y.v == []) = false := by simpa using hv
                clear hr
                go_wp2_with fail
                go_ret
                exact ⟨by rw [Hr.out]; rfl, kx⟩
          · obtain rfl : j = k := by omega
            have hokd : b.all okD = true := by
              have := hall.out
              rwa [List.take_of_length_le (by rw [Hn.out]; omega)] at this
            have hr : checkR 8 1 b = 0 := by rw [checkR, Hn.out, if_neg h16, Hok.out, hokd]; simp
            have Hr := Lib.hid hr
            clear hr hokd hall
            go_wp2_with fail
            go_ret
            exact ⟨by rw [Hr.out]; rfl, hkp⟩
end Go.Proofs.Ytnnpmpdlhojecaa
