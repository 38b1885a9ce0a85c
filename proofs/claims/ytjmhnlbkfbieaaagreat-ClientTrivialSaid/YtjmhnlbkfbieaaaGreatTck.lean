/- batch.Check (from XBatF) and batch.Normalize at a batch that fails. -/
import Derived.Test.YtjmhnlbkfbieaaaGreatScrK
namespace Go.Proofs.YtjmhnlbkfbieaaaGreat
open Go.RowKit
set_option linter.unusedSectionVars false
set_option linter.unusedVariables false
set_option linter.unusedSimpArgs false
theorem kvalidK_any (s : Str) (w : World) : Calls Tryz.prog 34 #[.string ⟨s.toArray⟩] w fun e w' => e = .returned (.bool (decide (s.length ≤ 32))) ∧ w' = w := by
  go_enter Tryz.func34, Tryz.ntmps34
  go_wp2
  go_ret
  exact ⟨by simp; omega, rfl⟩
theorem kvalidV_any (s : Str) (w : World) : Calls Tryz.prog 98 #[.string ⟨s.toArray⟩] w fun e w' => e = .returned (.bool (decide (s.length ≤ 64))) ∧ w' = w := by
  go_enter Tryz.func98, Tryz.ntmps98
  go_wp2
  go_ret
  exact ⟨by simp; omega, rfl⟩
theorem all_snoc (f : Wrt → Bool) (b : List Wrt) (k : Nat) (x : Wrt) (h : b[k]? = some x) (h1 : (b.take k).all f = true) (h2 : f x = true) : (b.take (k + 1)).all f = true := by
  rw [List.take_add_one, h, List.all_append, h1]; simpa using h2
theorem all_not (f : Wrt → Bool) (b : List Wrt) (k : Nat) (x : Wrt) (h : b[k]? = some x) (h2 : f x = false) : b.all f = false := by
  rw [List.all_eq_false]
  exact ⟨x, List.mem_of_getElem? h, by simp [h2]⟩
set_option maxHeartbeats 1000000 in
set_option maxRecDepth 100000 in
theorem check_any (b : List Wrt) (hn : b.length ≤ 9223372036854775807) (bv : Value) (w : World) (hbv : Lst w bv b.length (wCs b)) :
    Calls Tryz.prog 62 #[bv] w fun e w' => e = .returned (.int .i64 (checkR 8 1 b)) ∧ Keeps [] w w' := by
  obtain ⟨A, cap, bb, bo, rfl, hA, har⟩ := hbv
  obtain ⟨n, hnn⟩ : ∃ n, b.length = n := ⟨_, rfl⟩
  rw [hnn] at hA hn ⊢
  have Hn := Lib.hid hnn
  clear hnn
  by_cases h16 : 16 < n
  · have hr : checkR 8 1 b = 8 := by rw [checkR, Hn.out, if_pos h16]
    have Hr := Lib.hid hr
    clear hr
    go_enter Tryz.func62, Tryz.ntmps62
    go_wp2_with fail
    go_ret
    exact ⟨by rw [Hr.out]; rfl, Keeps.refl _ _⟩
  · go_enter Tryz.func62, Tryz.ntmps62
    go_wp2_with fail
    go_loopw [12] (fun i wr => ∃ (k : Nat), k ≤ n ∧ i = .int .i64 k ∧ Hid ((b.take k).all okW = true) ∧ Keeps [] w wr) (fun i _ => n - (intOf i).toNat)
    case atStart => exact ⟨0, by omega, rfl, Lib.hid (by simp), Keeps.refl _ _⟩
    case round =>
      obtain ⟨k, hk, rfl, hall, hkp⟩ := hrel
      by_cases hlt : k < n
      · obtain rfl := hA (by omega)
        obtain ⟨y, hy⟩ : ∃ y, b[k]? = some y := ⟨_, List.getElem?_eq_getElem (by rw [Hn.out]; exact hlt)⟩
        obtain ⟨c0, c1, c2, c3⟩ := (har.keeps hkp (by simp)).wrt hy
        have kx := (hkp.alloc (.cells #[.string ⟨y.k.toArray⟩, .string ⟨y.v.toArray⟩, .bool y.d] 45))
        by_cases hk32 : y.k.length ≤ 32
        · have hd1 : decide (y.k.length ≤ 32) = true := by simpa using hk32
          by_cases hv64 : y.v.length ≤ 64
          · have hok : okW y = true := by simp [okW, hk32, hv64]
            have H2 := Lib.hid (all_snoc okW b k y hy hall.out hok)
            have hd2 : decide (y.v.length ≤ 64) = true := by simpa using hv64
            go_wp2_with fail
            refine (kvalidK_any y.k _).mono ?_
            rintro e w2 ⟨rfl, rfl⟩
            rw [hd1]
            go_wp2_with fail
            refine (kvalidV_any y.v _).mono ?_
            rintro e w3 ⟨rfl, rfl⟩
            rw [hd2]
            go_wp2_with fail
            exact ⟨⟨k + 1, by omega, by go_num, H2, kx⟩, by simp [intOf]; omega⟩
          · have hok : okW y = false := by simp [okW]; omega
            have hd2 : decide (y.v.length ≤ 64) = false := by simpa using hv64
            have hr : checkR 8 1 b = 8 := by rw [checkR, Hn.out, if_neg h16, all_not okW b k y hy hok]; simp
            have Hr := Lib.hid hr
            clear hr
            go_wp2_with fail
            refine (kvalidK_any y.k _).mono ?_
            rintro e w2 ⟨rfl, rfl⟩
            rw [hd1]
            go_wp2_with fail
            refine (kvalidV_any y.v _).mono ?_
            rintro e w3 ⟨rfl, rfl⟩
            rw [hd2]
            go_wp2_with fail
            go_ret
            exact ⟨by rw [Hr.out]; rfl, kx⟩
        · have hd1 : decide (y.k.length ≤ 32) = false := by simpa using hk32
          have hok : okW y = false := by simp [okW]; omega
          have hr : checkR 8 1 b = 8 := by rw [checkR, Hn.out, if_neg h16, all_not okW b k y hy hok]; simp
          have Hr := Lib.hid hr
          clear hr
          go_wp2_with fail
          refine (kvalidK_any y.k _).mono ?_
          rintro e w2 ⟨rfl, rfl⟩
          rw [hd1]
          go_wp2_with fail
          go_ret
          exact ⟨by rw [Hr.out]; rfl, kx⟩
      · obtain rfl : k = n := by omega
        have hokb : b.all okW = true := by
          have := hall.out
          rwa [List.take_of_length_le (by rw [Hn.out]; omega)] at this
        have Hok := Lib.hid hokb
        clear hokb hall
        go_wp2_with fail
        go_loopw [29] (fun i wr => ∃ (j : Nat), j ≤ k ∧ i = .int .i64 j ∧ Hid ((b.take j).all okD = true) ∧ Keeps [] w wr) (fun i _ => k - (intOf i).toNat)
        case atStart => exact ⟨0, by omega, rfl, Lib.hid (by simp), hkp⟩
        case round =>
          clear hkp
          obtain ⟨j, hj, rfl, hall, hkp⟩ := hrel
          by_cases hlt : j < k
          · obtain rfl := hA (by omega)
            obtain ⟨y, hy⟩ : ∃ y, b[j]? = some y := ⟨_, List.getElem?_eq_getElem (by rw [Hn.out]; exact hlt)⟩
            obtain ⟨c0, c1, c2, c3⟩ := (har.keeps hkp (by simp)).wrt hy
            have kx := (hkp.alloc (.cells #[.string ⟨y.k.toArray⟩, .string ⟨y.v.toArray⟩, .bool y.d] 45))
            cases hd : y.d with
            | false =>
              rw [hd] at c2 kx
              have hok : okD y = true := by simp [okD, hd]
              have H2 := Lib.hid (all_snoc okD b j y hy hall.out hok)
              go_wp2_with fail
              exact ⟨⟨j + 1, by omega, by go_num, H2, kx⟩, by simp [intOf]; omega⟩
            | true =>
              rw [hd] at c2 kx
              by_cases hv : y.v = []
              · have hok : okD y = true := by simp [okD, hv]
                have H2 := Lib.hid (all_snoc okD b j y hy hall.out hok)
                have hb : (y.v == []) = true := by simp [hv]
                rw [hv] at kx
                go_wp2_with fail
                exact ⟨⟨j + 1, by omega, by go_num, H2, kx⟩, by simp [intOf]; omega⟩
              · have hok : okD y = false := by simp [okD, hd, hv]
                have hr : checkR 8 1 b = 1 := by rw [checkR, Hn.out, if_neg h16, Hok.out, all_not okD b j y hy hok]; simp
                have Hr := Lib.hid hr
                have hb : (y.v == []) = false := by simpa using hv
                clear hr
                go_wp2_with fail
                go_ret
                exact ⟨by rw [Hr.out]; rfl, kx⟩
          · obtain rfl : j = k := by omega
            have hokd : b.all okD = true := by
              have := hall.out
              rwa [List.take_of_length_le (by rw [Hn.out]; omega)] at this
            have hr : checkR 8 1 b = 0 := by rw [checkR, Hn.out, if_neg h16, Hok.out, hokd]; simp
            have Hr := Lib.hid hr
            clear hr hokd hall
            go_wp2_with fail
            go_ret
            exact ⟨by rw [Hr.out]; rfl, hkp⟩
theorem norm_err (b : List Wrt) (hn : b.length ≤ 9223372036854775807) (bv : Value) (w : World) (hbv : Lst w bv b.length (wCs b)) (e : Int) (he : checkR 8 1 b = e) (h0 : e ≠ 0) :
    Calls Tryz.prog 38 #[bv] w fun q w' => q = .returned (.tuple #[.slice none 0 0, .int .i64 e]) ∧ Keeps [] w w' := by
  have hc := check_any b hn bv w hbv
  rw [he] at hc
  have hne : (e == 0) = false := by simp [h0]
  clear he
  go_enter Tryz.func38, Tryz.ntmps38
  go_wp2_with fail
  refine hc.mono ?_
  rintro q w1 ⟨rfl, k1⟩
  go_wp2_with fail
  go_ret2
  exact ⟨rfl, k1⟩
end Go.Proofs.YtjmhnlbkfbieaaaGreat
