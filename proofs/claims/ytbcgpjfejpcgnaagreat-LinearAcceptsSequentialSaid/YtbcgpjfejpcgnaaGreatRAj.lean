/- Lemmas on the way to LinearAcceptsSequential. No condition. -/
import Derived.Test.YtbcgpjfejpcgnaaGreatRAi
set_option linter.unusedSimpArgs false
set_option linter.unusedVariables false
set_option linter.unusedSectionVars false
section
namespace Go.Proofs.YtbcgpjfejpcgnaaGreat
open Go.RowKit
set_option maxRecDepth 100000
set_option linter.unusedSimpArgs false
set_option maxHeartbeats 2000000 in
theorem xspot_any (l : List Ent) (hn : l.length ≤ 4000) (pl : Nat) (hpl : pl ≤ 2) (at_ : Str) (mv : Nat) (hmv : mv ≤ 4) (key : Str) (lv : Value) (w : World) (hlv : Lst w lv l.length (eCs l)) :
    Calls Tryz.prog 53 #[lv, .int .i64 (pl : Int), .string ⟨at_.toArray⟩, .int .i64 (mv : Int), .string ⟨key.toArray⟩] w fun e w' => e = .returned (.int .i64 ((spot l pl at_ mv key : Nat) : Int)) ∧ w' = w := by
  obtain ⟨A, cap, b, o, rfl, hA, har⟩ := hlv
  obtain ⟨n, hnn⟩ : ∃ n, l.length = n := ⟨_, rfl⟩
  obtain ⟨res, hres⟩ : ∃ res, spot l pl at_ mv key = res := ⟨_, rfl⟩
  obtain ⟨nw, hnw⟩ : ∃ nw, now l pl at_ = nw := ⟨_, rfl⟩
  obtain ⟨ls, hls⟩ : ∃ ls, less l at_ = ls := ⟨_, rfl⟩
  obtain ⟨lk, hlk⟩ : ∃ lk, less l key = lk := ⟨_, rfl⟩
  have hlsn : ls ≤ n := by rw [← hls, ← hnn]; exact less_le _ _
  have hlkn : lk ≤ n := by rw [← hlk, ← hnn]; exact less_le _ _
  have hnw' : nw = if pl = 1 then ls + 1 else if pl = 2 then n + 1 else 0 := by rw [← hnw, ← hls, ← hnn]; rfl
  have hres' : res = if mv = 0 then lk + 1 else if mv = 1 then 1 else if mv = 2 then n else if mv = 3 then min (nw + 1) (n + 1) else nw - 1 := by
    rw [← hres, ← hlk, ← hnw, ← hnn]; rfl
  rw [hnn] at hA hn ⊢
  rw [hres]
  have Hn := Lib.hid hnn
  have Hls := Lib.hid hls
  have Hlk := Lib.hid hlk
  clear hnn hres hnw hls hlk
  have hpc : pl = 0 ∨ pl = 1 ∨ pl = 2 := by omega
  have hmc : mv = 0 ∨ mv = 1 ∨ mv = 2 ∨ mv = 3 ∨ mv = 4 := by omega
  rcases hmc with hm | hm | hm | hm | hm <;> rcases hpc with hp | hp | hp
  · obtain rfl : mv = 0 := hm
    obtain rfl : pl = 0 := hp
    have hr : res = lk + 1 := by simpa [hnw'] using hres'
    have Hr := Lib.hid hr
    clear hr hres' hnw' hpl hmv
    go_enter Tryz.func53, Tryz.ntmps53
    go_wp2_with fail
    go_loopw [11, 12] (fun c i wr => ∃ (k : Nat), k ≤ n ∧ c = .int .i64 ((less (l.take k) at_ : Nat) : Int) ∧ i = .int .i64 k ∧ wr = w) (fun _ i _ => n - (intOf i).toNat)
    case atStart => exact ⟨0, by omega, by simp [less], rfl, rfl⟩
    case round =>
      obtain ⟨k, hk, rfl, rfl, hwr⟩ := hrel
      obtain rfl : w = wr := hwr.symm
      by_cases hlt : k < n
      · obtain rfl := hA (by omega)
        obtain ⟨y, hy⟩ : ∃ y, l[k]? = some y := ⟨_, List.getElem?_eq_getElem (by rw [Hn.out]; exact hlt)⟩
        obtain ⟨c0, c1, c2⟩ := har.ent hy
        have hsn := less_snoc l at_ k y hy
        have hle := less_take l at_ k
        obtain ⟨x, hx⟩ : ∃ x, less (l.take k) at_ = x := ⟨_, rfl⟩
        rw [hx] at hsn hle ⊢
        clear hx
        by_cases hyx : y.k < at_
        · have hb := less_pos hyx
          rw [if_pos hyx] at hsn
          have Hsn := Lib.hid hsn
          clear hsn hyx hy
          go_wp2_with fail
          exact ⟨⟨k + 1, by omega, by rw [Hsn.out]; first | rfl | go_num, by go_num, by first | rfl | trivial⟩, by simp [intOf]; omega⟩
        · have hb := less_neg hyx
          rw [if_neg hyx] at hsn
          have Hsn := Lib.hid hsn
          clear hsn hyx hy
          go_wp2_with fail
          exact ⟨⟨k + 1, by omega, by rw [Hsn.out]; first | done | rfl, by go_num, by first | rfl | trivial⟩, by simp [intOf]; omega⟩
      · obtain rfl : k = n := by omega
        rw [List.take_of_length_le (by rw [Hn.out]; omega), Hls.out]
        go_wp2_with fail
        go_loopw [14, 15] (fun c i wr => ∃ (j : Nat), j ≤ k ∧ c = .int .i64 ((less (l.take j) key + 1 : Nat) : Int) ∧ i = .int .i64 j ∧ wr = w) (fun _ i _ => k - (intOf i).toNat)
        case atStart => exact ⟨0, by omega, by simp [less], rfl, rfl⟩
        case round =>
          obtain ⟨j, hj, rfl, rfl, hwr⟩ := hrel
          obtain rfl : w = wr := hwr.symm
          by_cases hlt : j < k
          · obtain rfl := hA (by omega)
            obtain ⟨y, hy⟩ : ∃ y, l[j]? = some y := ⟨_, List.getElem?_eq_getElem (by rw [Hn.out]; exact hlt)⟩
            obtain ⟨c0, c1, c2⟩ := har.ent hy
            have hsn := less_snoc l key j y hy
            have hle := less_take l key j
            obtain ⟨x, hx⟩ : ∃ x, less (l.take j) key = x := ⟨_, rfl⟩
            rw [hx] at hsn hle ⊢
            clear hx
            by_cases hyx : y.k < key
            · have hb := less_pos hyx
              rw [if_pos hyx] at hsn
              have Hsn := Lib.hid hsn
              clear hsn hyx hy
              go_wp2_with fail
              exact ⟨⟨j + 1, by omega, by rw [Hsn.out]; first | rfl | go_num, by go_num, by first | rfl | trivial⟩, by simp [intOf]; omega⟩
            · have hb := less_neg hyx
              rw [if_neg hyx] at hsn
              have Hsn := Lib.hid hsn
              clear hsn hyx hy
              go_wp2_with fail
              exact ⟨⟨j + 1, by omega, by rw [Hsn.out]; first | done | rfl, by go_num, by first | rfl | trivial⟩, by simp [intOf]; omega⟩
          · obtain rfl : j = k := by omega
            rw [List.take_of_length_le (by rw [Hn.out]; omega), Hlk.out]
            go_wp2_with fail
            go_ret
            exact ⟨by rw [Hr.out]; first | done | rfl, rfl⟩
  · obtain rfl : mv = 0 := hm
    obtain rfl : pl = 1 := hp
    have hr : res = lk + 1 := by simpa [hnw'] using hres'
    have Hr := Lib.hid hr
    clear hr hres' hnw' hpl hmv
    go_enter Tryz.func53, Tryz.ntmps53
    go_wp2_with fail
    go_loopw [11, 12] (fun c i wr => ∃ (k : Nat), k ≤ n ∧ c = .int .i64 ((less (l.take k) at_ : Nat) : Int) ∧ i = .int .i64 k ∧ wr = w) (fun _ i _ => n - (intOf i).toNat)
    case atStart => exact ⟨0, by omega, by simp [less], rfl, rfl⟩
    case round =>
      obtain ⟨k, hk, rfl, rfl, hwr⟩ := hrel
      obtain rfl : w = wr := hwr.symm
      by_cases hlt : k < n
      · obtain rfl := hA (by omega)
        obtain ⟨y, hy⟩ : ∃ y, l[k]? = some y := ⟨_, List.getElem?_eq_getElem (by rw [Hn.out]; exact hlt)⟩
        obtain ⟨c0, c1, c2⟩ := har.ent hy
        have hsn := less_snoc l at_ k y hy
        have hle := less_take l at_ k
        obtain ⟨x, hx⟩ : ∃ x, less (l.take k) at_ = x := ⟨_, rfl⟩
        rw [hx] at hsn hle ⊢
        clear hx
        by_cases hyx : y.k < at_
        · have hb := less_pos hyx
          rw [if_pos hyx] at hsn
          have Hsn := Lib.hid hsn
          clear hsn hyx hy
          go_wp2_with fail
          exact ⟨⟨k + 1, by omega, by rw [Hsn.out]; first | rfl | go_num, by go_num, by first | rfl | trivial⟩, by simp [intOf]; omega⟩
        · have hb := less_neg hyx
          rw [if_neg hyx] at hsn
          have Hsn := Lib.hid hsn
          clear hsn hyx hy
          go_wp2_with fail
          exact ⟨⟨k + 1, by omega, by rw [Hsn.out]; first | done | rfl, by go_num, by first | rfl | trivial⟩, by simp [intOf]; omega⟩
      · obtain rfl : k = n := by omega
        rw [List.take_of_length_le (by rw [Hn.out]; omega), Hls.out]
        go_wp2_with fail
        go_loopw [14, 15] (fun c i wr => ∃ (j : Nat), j ≤ k ∧ c = .int .i64 ((less (l.take j) key + 1 : Nat) : Int) ∧ i = .int .i64 j ∧ wr = w) (fun _ i _ => k - (intOf i).toNat)
        case atStart => exact ⟨0, by omega, by simp [less], rfl, rfl⟩
        case round =>
          obtain ⟨j, hj, rfl, rfl, hwr⟩ := hrel
          obtain rfl : w = wr := hwr.symm
          by_cases hlt : j < k
          · obtain rfl := hA (by omega)
            obtain ⟨y, hy⟩ : ∃ y, l[j]? = some y := ⟨_, List.getElem?_eq_getElem (by rw [Hn.out]; exact hlt)⟩
            obtain ⟨c0, c1, c2⟩ := har.ent hy
            have hsn := less_snoc l key j y hy
            have hle := less_take l key j
            obtain ⟨x, hx⟩ : ∃ x, less (l.take j) key = x := ⟨_, rfl⟩
            rw [hx] at hsn hle ⊢
            clear hx
            by_cases hyx : y.k < key
            · have hb := less_pos hyx
              rw [if_pos hyx] at hsn
              have Hsn := Lib.hid hsn
              clear hsn hyx hy
              go_wp2_with fail
              exact ⟨⟨j + 1, by omega, by rw [Hsn.out]; first | rfl | go_num, by go_num, by first | rfl | trivial⟩, by simp [intOf]; omega⟩
            · have hb := less_neg hyx
              rw [if_neg hyx] at hsn
              have Hsn := Lib.hid hsn
              clear hsn hyx hy
              go_wp2_with fail
              exact ⟨⟨j + 1, by omega, by rw [Hsn.out]; first | done | rfl, by go_num, by first | rfl | trivial⟩, by simp [intOf]; omega⟩
          · obtain rfl : j = k := by omega
            rw [List.take_of_length_le (by rw [Hn.out]; omega), Hlk.out]
            go_wp2_with fail
            go_ret
            exact ⟨by rw [Hr.out]; first | done | rfl, rfl⟩
  · obtain rfl : mv = 0 := hm
    obtain rfl : pl = 2 := hp
    have hr : res = lk + 1 := by simpa [hnw'] using hres'
    have Hr := Lib.hid hr
    clear hr hres' hnw' hpl hmv
    go_enter Tryz.func53, Tryz.ntmps53
    go_wp2_with fail
    go_loopw [11, 12] (fun c i wr => ∃ (k : Nat), k ≤ n ∧ c = .int .i64 ((less (l.take k) at_ : Nat) : Int) ∧ i = .int .i64 k ∧ wr = w) (fun _ i _ => n - (intOf i).toNat)
    case atStart => exact ⟨0, by omega, by simp [less], rfl, rfl⟩
    case round =>
      obtain ⟨k, hk, rfl, rfl, hwr⟩ := hrel
      obtain rfl : w = wr := hwr.symm
      by_cases hlt : k < n
      · obtain rfl := hA (by omega)
        obtain ⟨y, hy⟩ : ∃ y, l[k]? = some y := ⟨_, List.getElem?_eq_getElem (by rw [Hn.out]; exact hlt)⟩
        obtain ⟨c0, c1, c2⟩ := har.ent hy
        have hsn := less_snoc l at_ k y hy
        have hle := less_take l at_ k
        obtain ⟨x, hx⟩ : ∃ x, less (l.take k) at_ = x := ⟨_, rfl⟩
        rw [hx] at hsn hle ⊢
        clear hx
        by_cases hyx : y.k < at_
        · have hb := less_pos hyx
          rw [if_pos hyx] at hsn
          have Hsn := Lib.hid hsn
          clear hsn hyx hy
          go_wp2_with fail
          exact ⟨⟨k + 1, by omega, by rw [Hsn.out]; first | rfl | go_num, by go_num, by first | rfl | trivial⟩, by simp [intOf]; omega⟩
        · have hb := less_neg hyx
          rw [if_neg hyx] at hsn
          have Hsn := Lib.hid hsn
          clear hsn hyx hy
          go_wp2_with fail
          exact ⟨⟨k + 1, by omega, by rw [Hsn.out]; first | done | rfl, by go_num, by first | rfl | trivial⟩, by simp [intOf]; omega⟩
      · obtain rfl : k = n := by omega
        rw [List.take_of_length_le (by rw [Hn.out]; omega), Hls.out]
        go_wp2_with fail
        go_loopw [14, 15] (fun c i wr => ∃ (j : Nat), j ≤ k ∧ c = .int .i64 ((less (l.take j) key + 1 : Nat) : Int) ∧ i = .int .i64 j ∧ wr = w) (fun _ i _ => k - (intOf i).toNat)
        case atStart => exact ⟨0, by omega, by simp [less], rfl, rfl⟩
        case round =>
          obtain ⟨j, hj, rfl, rfl, hwr⟩ := hrel
          obtain rfl : w = wr := hwr.symm
          by_cases hlt : j < k
          · obtain rfl := hA (by omega)
            obtain ⟨y, hy⟩ : ∃ y, l[j]? = some y := ⟨_, List.getElem?_eq_getElem (by rw [Hn.out]; exact hlt)⟩
            obtain ⟨c0, c1, c2⟩ := har.ent hy
            have hsn := less_snoc l key j y hy
            have hle := less_take l key j
            obtain ⟨x, hx⟩ : ∃ x, less (l.take j) key = x := ⟨_, rfl⟩
            rw [hx] at hsn hle ⊢
            clear hx
            by_cases hyx : y.k < key
            · have hb := less_pos hyx
              rw [if_pos hyx] at hsn
              have Hsn := Lib.hid hsn
              clear hsn hyx hy
              go_wp2_with fail
              exact ⟨⟨j + 1, by omega, by rw [Hsn.out]; first | rfl | go_num, by go_num, by first | rfl | trivial⟩, by simp [intOf]; omega⟩
            · have hb := less_neg hyx
              rw [if_neg hyx] at hsn
              have Hsn := Lib.hid hsn
              clear hsn hyx hy
              go_wp2_with fail
              exact ⟨⟨j + 1, by omega, by rw [Hsn.out]; first | done | rfl, by go_num, by first | rfl | trivial⟩, by simp [intOf]; omega⟩
          · obtain rfl : j = k := by omega
            rw [List.take_of_length_le (by rw [Hn.out]; omega), Hlk.out]
            go_wp2_with fail
            go_ret
            exact ⟨by rw [Hr.out]; first | done | rfl, rfl⟩
  · obtain rfl : mv = 1 := hm
    obtain rfl : pl = 0 := hp
    have hr : res = 1 := by simpa [hnw'] using hres'
    have Hr := Lib.hid hr
    clear hr hres' hnw' hpl hmv
    go_enter Tryz.func53, Tryz.ntmps53
    go_wp2_with fail
    go_loopw [11, 12] (fun c i wr => ∃ (k : Nat), k ≤ n ∧ c = .int .i64 ((less (l.take k) at_ : Nat) : Int) ∧ i = .int .i64 k ∧ wr = w) (fun _ i _ => n - (intOf i).toNat)
    case atStart => exact ⟨0, by omega, by simp [less], rfl, rfl⟩
    case round =>
      obtain ⟨k, hk, rfl, rfl, hwr⟩ := hrel
      obtain rfl : w = wr := hwr.symm
      by_cases hlt : k < n
      · obtain rfl := hA (by omega)
        obtain ⟨y, hy⟩ : ∃ y, l[k]? = some y := ⟨_, List.getElem?_eq_getElem (by rw [Hn.out]; exact hlt)⟩
        obtain ⟨c0, c1, c2⟩ := har.ent hy
        have hsn := less_snoc l at_ k y hy
        have hle := less_take l at_ k
        obtain ⟨x, hx⟩ : ∃ x, less (l.take k) at_ = x := ⟨_, rfl⟩
        rw [hx] at hsn hle ⊢
        clear hx
        by_cases hyx : y.k < at_
        · have hb := less_pos hyx
          rw [if_pos hyx] at hsn
          have Hsn := Lib.hid hsn
          clear hsn hyx hy
          go_wp2_with fail
          exact ⟨⟨k + 1, by omega, by rw [Hsn.out]; first | rfl | go_num, by go_num, by first | rfl | trivial⟩, by simp [intOf]; omega⟩
        · have hb := less_neg hyx
          rw [if_neg hyx] at hsn
          have Hsn := Lib.hid hsn
          clear hsn hyx hy
          go_wp2_with fail
          exact ⟨⟨k + 1, by omega, by rw [Hsn.out]; first | done | rfl, by go_num, by first | rfl | trivial⟩, by simp [intOf]; omega⟩
      · obtain rfl : k = n := by omega
        rw [List.take_of_length_le (by rw [Hn.out]; omega), Hls.out]
        go_wp2_with fail
        go_ret
        exact ⟨by rw [Hr.out]; first | done | rfl, rfl⟩
  · obtain rfl : mv = 1 := hm
    obtain rfl : pl = 1 := hp
    have hr : res = 1 := by simpa [hnw'] using hres'
    have Hr := Lib.hid hr
    clear hr hres' hnw' hpl hmv
    go_enter Tryz.func53, Tryz.ntmps53
    go_wp2_with fail
    go_loopw [11, 12] (fun c i wr => ∃ (k : Nat), k ≤ n ∧ c = .int .i64 ((less (l.take k) at_ : Nat) : Int) ∧ i = .int .i64 k ∧ wr = w) (fun _ i _ => n - (intOf i).toNat)
    case atStart => exact ⟨0, by omega, by simp [less], rfl, rfl⟩
    case round =>
      obtain ⟨k, hk, rfl, rfl, hwr⟩ := hrel
      obtain rfl : w = wr := hwr.symm
      by_cases hlt : k < n
      · obtain rfl := hA (by omega)
        obtain ⟨y, hy⟩ : ∃ y, l[k]? = some y := ⟨_, List.getElem?_eq_getElem (by rw [Hn.out]; exact hlt)⟩
        obtain ⟨c0, c1, c2⟩ := har.ent hy
        have hsn := less_snoc l at_ k y hy
        have hle := less_take l at_ k
        obtain ⟨x, hx⟩ : ∃ x, less (l.take k) at_ = x := ⟨_, rfl⟩
        rw [hx] at hsn hle ⊢
        clear hx
        by_cases hyx : y.k < at_
        · have hb := less_pos hyx
          rw [if_pos hyx] at hsn
          have Hsn := Lib.hid hsn
          clear hsn hyx hy
          go_wp2_with fail
          exact ⟨⟨k + 1, by omega, by rw [Hsn.out]; first | rfl | go_num, by go_num, by first | rfl | trivial⟩, by simp [intOf]; omega⟩
        · have hb := less_neg hyx
          rw [if_neg hyx] at hsn
          have Hsn := Lib.hid hsn
          clear hsn hyx hy
          go_wp2_with fail
          exact ⟨⟨k + 1, by omega, by rw [Hsn.out]; first | done | rfl, by go_num, by first | rfl | trivial⟩, by simp [intOf]; omega⟩
      · obtain rfl : k = n := by omega
        rw [List.take_of_length_le (by rw [Hn.out]; omega), Hls.out]
        go_wp2_with fail
        go_ret
        exact ⟨by rw [Hr.out]; first | done | rfl, rfl⟩
  · obtain rfl : mv = 1 := hm
    obtain rfl : pl = 2 := hp
    have hr : res = 1 := by simpa [hnw'] using hres'
    have Hr := Lib.hid hr
    clear hr hres' hnw' hpl hmv
    go_enter Tryz.func53, Tryz.ntmps53
    go_wp2_with fail
    go_loopw [11, 12] (fun c i wr => ∃ (k : Nat), k ≤ n ∧ c = .int .i64 ((less (l.take k) at_ : Nat) : Int) ∧ i = .int .i64 k ∧ wr = w) (fun _ i _ => n - (intOf i).toNat)
    case atStart => exact ⟨0, by omega, by simp [less], rfl, rfl⟩
    case round =>
      obtain ⟨k, hk, rfl, rfl, hwr⟩ := hrel
      obtain rfl : w = wr := hwr.symm
      by_cases hlt : k < n
      · obtain rfl := hA (by omega)
        obtain ⟨y, hy⟩ : ∃ y, l[k]? = some y := ⟨_, List.getElem?_eq_getElem (by rw [Hn.out]; exact hlt)⟩
        obtain ⟨c0, c1, c2⟩ := har.ent hy
        have hsn := less_snoc l at_ k y hy
        have hle := less_take l at_ k
        obtain ⟨x, hx⟩ : ∃ x, less (l.take k) at_ = x := ⟨_, rfl⟩
        rw [hx] at hsn hle ⊢
        clear hx
        by_cases hyx : y.k < at_
        · have hb := less_pos hyx
          rw [if_pos hyx] at hsn
          have Hsn := Lib.hid hsn
          clear hsn hyx hy
          go_wp2_with fail
          exact ⟨⟨k + 1, by omega, by rw [Hsn.out]; first | rfl | go_num, by go_num, by first | rfl | trivial⟩, by simp [intOf]; omega⟩
        · have hb := less_neg hyx
          rw [if_neg hyx] at hsn
          have Hsn := Lib.hid hsn
          clear hsn hyx hy
          go_wp2_with fail
          exact ⟨⟨k + 1, by omega, by rw [Hsn.out]; first | done | rfl, by go_num, by first | rfl | trivial⟩, by simp [intOf]; omega⟩
      · obtain rfl : k = n := by omega
        rw [List.take_of_length_le (by rw [Hn.out]; omega), Hls.out]
        go_wp2_with fail
        go_ret
        exact ⟨by rw [Hr.out]; first | done | rfl, rfl⟩
  · obtain rfl : mv = 2 := hm
    obtain rfl : pl = 0 := hp
    have hr : res = n := by simpa [hnw'] using hres'
    have Hr := Lib.hid hr
    clear hr hres' hnw' hpl hmv
    go_enter Tryz.func53, Tryz.ntmps53
    go_wp2_with fail
    go_loopw [11, 12] (fun c i wr => ∃ (k : Nat), k ≤ n ∧ c = .int .i64 ((less (l.take k) at_ : Nat) : Int) ∧ i = .int .i64 k ∧ wr = w) (fun _ i _ => n - (intOf i).toNat)
    case atStart => exact ⟨0, by omega, by simp [less], rfl, rfl⟩
    case round =>
      obtain ⟨k, hk, rfl, rfl, hwr⟩ := hrel
      obtain rfl : w = wr := hwr.symm
      by_cases hlt : k < n
      · obtain rfl := hA (by omega)
        obtain ⟨y, hy⟩ : ∃ y, l[k]? = some y := ⟨_, List.getElem?_eq_getElem (by rw [Hn.out]; exact hlt)⟩
        obtain ⟨c0, c1, c2⟩ := har.ent hy
        have hsn := less_snoc l at_ k y hy
        have hle := less_take l at_ k
        obtain ⟨x, hx⟩ : ∃ x, less (l.take k) at_ = x := ⟨_, rfl⟩
        rw [hx] at hsn hle ⊢
        clear hx
        by_cases hyx : y.k < at_
        · have hb := less_pos hyx
          rw [if_pos hyx] at hsn
          have Hsn := Lib.hid hsn
          clear hsn hyx hy
          go_wp2_with fail
          exact ⟨⟨k + 1, by omega, by rw [Hsn.out]; first | rfl | go_num, by go_num, by first | rfl | trivial⟩, by simp [intOf]; omega⟩
        · have hb := less_neg hyx
          rw [if_neg hyx] at hsn
          have Hsn := Lib.hid hsn
          clear hsn hyx hy
          go_wp2_with fail
          exact ⟨⟨k + 1, by omega, by rw [Hsn.out]; first | done | rfl, by go_num, by first | rfl | trivial⟩, by simp [intOf]; omega⟩
      · obtain rfl : k = n := by omega
        rw [List.take_of_length_le (by rw [Hn.out]; omega), Hls.out]
        go_wp2_with fail
        go_ret
        exact ⟨by rw [Hr.out]; first | done | rfl, rfl⟩
  · obtain rfl : mv = 2 := hm
    obtain rfl : pl = 1 := hp
    have hr : res = n := by simpa [hnw'] using hres'
    have Hr := Lib.hid hr
    clear hr hres' hnw' hpl hmv
    go_enter Tryz.func53, Tryz.ntmps53
    go_wp2_with fail
    go_loopw [11, 12] (fun c i wr => ∃ (k : Nat), k ≤ n ∧ c = .int .i64 ((less (l.take k) at_ : Nat) : Int) ∧ i = .int .i64 k ∧ wr = w) (fun _ i _ => n - (intOf i).toNat)
    case atStart => exact ⟨0, by omega, by simp [less], rfl, rfl⟩
    case round =>
      obtain ⟨k, hk, rfl, rfl, hwr⟩ := hrel
      obtain rfl : w = wr := hwr.symm
      by_cases hlt : k < n
      · obtain rfl := hA (by omega)
        obtain ⟨y, hy⟩ : ∃ y, l[k]? = some y := ⟨_, List.getElem?_eq_getElem (by rw [Hn.out]; exact hlt)⟩
        obtain ⟨c0, c1, c2⟩ := har.ent hy
        have hsn := less_snoc l at_ k y hy
        have hle := less_take l at_ k
        obtain ⟨x, hx⟩ : ∃ x, less (l.take k) at_ = x := ⟨_, rfl⟩
        rw [hx] at hsn hle ⊢
        clear hx
        by_cases hyx : y.k < at_
        · have hb := less_pos hyx
          rw [if_pos hyx] at hsn
          have Hsn := Lib.hid hsn
          clear hsn hyx hy
          go_wp2_with fail
          exact ⟨⟨k + 1, by omega, by rw [Hsn.out]; first | rfl | go_num, by go_num, by first | rfl | trivial⟩, by simp [intOf]; omega⟩
        · have hb := less_neg hyx
          rw [if_neg hyx] at hsn
          have Hsn := Lib.hid hsn
          clear hsn hyx hy
          go_wp2_with fail
          exact ⟨⟨k + 1, by omega, by rw [Hsn.out]; first | done | rfl, by go_num, by first | rfl | trivial⟩, by simp [intOf]; omega⟩
      · obtain rfl : k = n := by omega
        rw [List.take_of_length_le (by rw [Hn.out]; omega), Hls.out]
        go_wp2_with fail
        go_ret
        exact ⟨by rw [Hr.out]; first | done | rfl, rfl⟩
  · obtain rfl : mv = 2 := hm
    obtain rfl : pl = 2 := hp
    have hr : res = n := by simpa [hnw'] using hres'
    have Hr := Lib.hid hr
    clear hr hres' hnw' hpl hmv
    go_enter Tryz.func53, Tryz.ntmps53
    go_wp2_with fail
    go_loopw [11, 12] (fun c i wr => ∃ (k : Nat), k ≤ n ∧ c = .int .i64 ((less (l.take k) at_ : Nat) : Int) ∧ i = .int .i64 k ∧ wr = w) (fun _ i _ => n - (intOf i).toNat)
    case atStart => exact ⟨0, by omega, by simp [less], rfl, rfl⟩
    case round =>
      obtain ⟨k, hk, rfl, rfl, hwr⟩ := hrel
      obtain rfl : w = wr := hwr.symm
      by_cases hlt : k < n
      · obtain rfl := hA (by omega)
        obtain ⟨y, hy⟩ : ∃ y, l[k]? = some y := ⟨_, List.getElem?_eq_getElem (by rw [Hn.out]; exact hlt)⟩
        obtain ⟨c0, c1, c2⟩ := har.ent hy
        have hsn := less_snoc l at_ k y hy
        have hle := less_take l at_ k
        obtain ⟨x, hx⟩ : ∃ x, less (l.take k) at_ = x := ⟨_, rfl⟩
        rw [hx] at hsn hle ⊢
        clear hx
        by_cases hyx : y.k < at_
        · have hb := less_pos hyx
          rw [if_pos hyx] at hsn
          have Hsn := Lib.hid hsn
          clear hsn hyx hy
          go_wp2_with fail
          exact ⟨⟨k + 1, by omega, by rw [Hsn.out]; first | rfl | go_num, by go_num, by first | rfl | trivial⟩, by simp [intOf]; omega⟩
        · have hb := less_neg hyx
          rw [if_neg hyx] at hsn
          have Hsn := Lib.hid hsn
          clear hsn hyx hy
          go_wp2_with fail
          exact ⟨⟨k + 1, by omega, by rw [Hsn.out]; first | done | rfl, by go_num, by first | rfl | trivial⟩, by simp [intOf]; omega⟩
      · obtain rfl : k = n := by omega
        rw [List.take_of_length_le (by rw [Hn.out]; omega), Hls.out]
        go_wp2_with fail
        go_ret
        exact ⟨by rw [Hr.out]; first | done | rfl, rfl⟩
  · obtain rfl : mv = 3 := hm
    obtain rfl : pl = 0 := hp
    have hr : res = min (0 + 1) (n + 1) := by simpa [hnw'] using hres'
    have Hr := Lib.hid hr
    clear hr hres' hnw' hpl hmv
    go_enter Tryz.func53, Tryz.ntmps53
    go_wp2_with fail
    go_loopw [11, 12] (fun c i wr => ∃ (k : Nat), k ≤ n ∧ c = .int .i64 ((less (l.take k) at_ : Nat) : Int) ∧ i = .int .i64 k ∧ wr = w) (fun _ i _ => n - (intOf i).toNat)
    case atStart => exact ⟨0, by omega, by simp [less], rfl, rfl⟩
    case round =>
      obtain ⟨k, hk, rfl, rfl, hwr⟩ := hrel
      obtain rfl : w = wr := hwr.symm
      by_cases hlt : k < n
      · obtain rfl := hA (by omega)
        obtain ⟨y, hy⟩ : ∃ y, l[k]? = some y := ⟨_, List.getElem?_eq_getElem (by rw [Hn.out]; exact hlt)⟩
        obtain ⟨c0, c1, c2⟩ := har.ent hy
        have hsn := less_snoc l at_ k y hy
        have hle := less_take l at_ k
        obtain ⟨x, hx⟩ : ∃ x, less (l.take k) at_ = x := ⟨_, rfl⟩
        rw [hx] at hsn hle ⊢
        clear hx
        by_cases hyx : y.k < at_
        · have hb := less_pos hyx
          rw [if_pos hyx] at hsn
          have Hsn := Lib.hid hsn
          clear hsn hyx hy
          go_wp2_with fail
          exact ⟨⟨k + 1, by omega, by rw [Hsn.out]; first | rfl | go_num, by go_num, by first | rfl | trivial⟩, by simp [intOf]; omega⟩
        · have hb := less_neg hyx
          rw [if_neg hyx] at hsn
          have Hsn := Lib.hid hsn
          clear hsn hyx hy
          go_wp2_with fail
          exact ⟨⟨k + 1, by omega, by rw [Hsn.out]; first | done | rfl, by go_num, by first | rfl | trivial⟩, by simp [intOf]; omega⟩
      · obtain rfl : k = n := by omega
        rw [List.take_of_length_le (by rw [Hn.out]; omega), Hls.out]
        go_wp2_with fail
        go_ret
        refine ⟨congrArg Ending.returned (congrArg (Value.int .i64) ?_), rfl⟩
        have e := Hr.out
        clear Hr Hls Hlk Hn hA har
        omega
  · obtain rfl : mv = 3 := hm
    obtain rfl : pl = 1 := hp
    have hr : res = min (ls + 1 + 1) (n + 1) := by simpa [hnw'] using hres'
    have Hr := Lib.hid hr
    clear hr hres' hnw' hpl hmv
    go_enter Tryz.func53, Tryz.ntmps53
    go_wp2_with fail
    go_loopw [11, 12] (fun c i wr => ∃ (k : Nat), k ≤ n ∧ c = .int .i64 ((less (l.take k) at_ : Nat) : Int) ∧ i = .int .i64 k ∧ wr = w) (fun _ i _ => n - (intOf i).toNat)
    case atStart => exact ⟨0, by omega, by simp [less], rfl, rfl⟩
    case round =>
      obtain ⟨k, hk, rfl, rfl, hwr⟩ := hrel
      obtain rfl : w = wr := hwr.symm
      by_cases hlt : k < n
      · obtain rfl := hA (by omega)
        obtain ⟨y, hy⟩ : ∃ y, l[k]? = some y := ⟨_, List.getElem?_eq_getElem (by rw [Hn.out]; exact hlt)⟩
        obtain ⟨c0, c1, c2⟩ := har.ent hy
        have hsn := less_snoc l at_ k y hy
        have hle := less_take l at_ k
        obtain ⟨x, hx⟩ : ∃ x, less (l.take k) at_ = x := ⟨_, rfl⟩
        rw [hx] at hsn hle ⊢
        clear hx
        by_cases hyx : y.k < at_
        · have hb := less_pos hyx
          rw [if_pos hyx] at hsn
          have Hsn := Lib.hid hsn
          clear hsn hyx hy
          go_wp2_with fail
          exact ⟨⟨k + 1, by omega, by rw [Hsn.out]; first | rfl | go_num, by go_num, by first | rfl | trivial⟩, by simp [intOf]; omega⟩
        · have hb := less_neg hyx
          rw [if_neg hyx] at hsn
          have Hsn := Lib.hid hsn
          clear hsn hyx hy
          go_wp2_with fail
          exact ⟨⟨k + 1, by omega, by rw [Hsn.out]; first | done | rfl, by go_num, by first | rfl | trivial⟩, by simp [intOf]; omega⟩
      · obtain rfl : k = n := by omega
        rw [List.take_of_length_le (by rw [Hn.out]; omega), Hls.out]
        go_wp2_with fail
        go_ret
        refine ⟨congrArg Ending.returned (congrArg (Value.int .i64) ?_), rfl⟩
        have e := Hr.out
        clear Hr Hls Hlk Hn hA har
        omega
  · obtain rfl : mv = 3 := hm
    obtain rfl : pl = 2 := hp
    have hr : res = min (n + 1 + 1) (n + 1) := by simpa [hnw'] using hres'
    have Hr := Lib.hid hr
    clear hr hres' hnw' hpl hmv
    go_enter Tryz.func53, Tryz.ntmps53
    go_wp2_with fail
    go_loopw [11, 12] (fun c i wr => ∃ (k : Nat), k ≤ n ∧ c = .int .i64 ((less (l.take k) at_ : Nat) : Int) ∧ i = .int .i64 k ∧ wr = w) (fun _ i _ => n - (intOf i).toNat)
    case atStart => exact ⟨0, by omega, by simp [less], rfl, rfl⟩
    case round =>
      obtain ⟨k, hk, rfl, rfl, hwr⟩ := hrel
      obtain rfl : w = wr := hwr.symm
      by_cases hlt : k < n
      · obtain rfl := hA (by omega)
        obtain ⟨y, hy⟩ : ∃ y, l[k]? = some y := ⟨_, List.getElem?_eq_getElem (by rw [Hn.out]; exact hlt)⟩
        obtain ⟨c0, c1, c2⟩ := har.ent hy
        have hsn := less_snoc l at_ k y hy
        have hle := less_take l at_ k
        obtain ⟨x, hx⟩ : ∃ x, less (l.take k) at_ = x := ⟨_, rfl⟩
        rw [hx] at hsn hle ⊢
        clear hx
        by_cases hyx : y.k < at_
        · have hb := less_pos hyx
          rw [if_pos hyx] at hsn
          have Hsn := Lib.hid hsn
          clear hsn hyx hy
          go_wp2_with fail
          exact ⟨⟨k + 1, by omega, by rw [Hsn.out]; first | rfl | go_num, by go_num, by first | rfl | trivial⟩, by simp [intOf]; omega⟩
        · have hb := less_neg hyx
          rw [if_neg hyx] at hsn
          have Hsn := Lib.hid hsn
          clear hsn hyx hy
          go_wp2_with fail
          exact ⟨⟨k + 1, by omega, by rw [Hsn.out]; first | done | rfl, by go_num, by first | rfl | trivial⟩, by simp [intOf]; omega⟩
      · obtain rfl : k = n := by omega
        rw [List.take_of_length_le (by rw [Hn.out]; omega), Hls.out]
        go_wp2_with fail
        go_ret
        refine ⟨congrArg Ending.returned (congrArg (Value.int .i64) ?_), rfl⟩
        have e := Hr.out
        clear Hr Hls Hlk Hn hA har
        omega
  · obtain rfl : mv = 4 := hm
    obtain rfl : pl = 0 := hp
    have hr : res = 0 - 1 := by simpa [hnw'] using hres'
    have Hr := Lib.hid hr
    clear hr hres' hnw' hpl hmv
    go_enter Tryz.func53, Tryz.ntmps53
    go_wp2_with fail
    go_loopw [11, 12] (fun c i wr => ∃ (k : Nat), k ≤ n ∧ c = .int .i64 ((less (l.take k) at_ : Nat) : Int) ∧ i = .int .i64 k ∧ wr = w) (fun _ i _ => n - (intOf i).toNat)
    case atStart => exact ⟨0, by omega, by simp [less], rfl, rfl⟩
    case round =>
      obtain ⟨k, hk, rfl, rfl, hwr⟩ := hrel
      obtain rfl : w = wr := hwr.symm
      by_cases hlt : k < n
      · obtain rfl := hA (by omega)
        obtain ⟨y, hy⟩ : ∃ y, l[k]? = some y := ⟨_, List.getElem?_eq_getElem (by rw [Hn.out]; exact hlt)⟩
        obtain ⟨c0, c1, c2⟩ := har.ent hy
        have hsn := less_snoc l at_ k y hy
        have hle := less_take l at_ k
        obtain ⟨x, hx⟩ : ∃ x, less (l.take k) at_ = x := ⟨_, rfl⟩
        rw [hx] at hsn hle ⊢
        clear hx
        by_cases hyx : y.k < at_
        · have hb := less_pos hyx
          rw [if_pos hyx] at hsn
          have Hsn := Lib.hid hsn
          clear hsn hyx hy
          go_wp2_with fail
          exact ⟨⟨k + 1, by omega, by rw [Hsn.out]; first | rfl | go_num, by go_num, by first | rfl | trivial⟩, by simp [intOf]; omega⟩
        · have hb := less_neg hyx
          rw [if_neg hyx] at hsn
          have Hsn := Lib.hid hsn
          clear hsn hyx hy
          go_wp2_with fail
          exact ⟨⟨k + 1, by omega, by rw [Hsn.out]; first | done | rfl, by go_num, by first | rfl | trivial⟩, by simp [intOf]; omega⟩
      · obtain rfl : k = n := by omega
        rw [List.take_of_length_le (by rw [Hn.out]; omega), Hls.out]
        go_wp2_with fail
        go_ret
        refine ⟨congrArg Ending.returned (congrArg (Value.int .i64) ?_), rfl⟩
        have e := Hr.out
        clear Hr Hls Hlk Hn hA har
        omega
  · obtain rfl : mv = 4 := hm
    obtain rfl : pl = 1 := hp
    have hr : res = ls + 1 - 1 := by simpa [hnw'] using hres'
    have Hr := Lib.hid hr
    clear hr hres' hnw' hpl hmv
    go_enter Tryz.func53, Tryz.ntmps53
    go_wp2_with fail
    go_loopw [11, 12] (fun c i wr => ∃ (k : Nat), k ≤ n ∧ c = .int .i64 ((less (l.take k) at_ : Nat) : Int) ∧ i = .int .i64 k ∧ wr = w) (fun _ i _ => n - (intOf i).toNat)
    case atStart => exact ⟨0, by omega, by simp [less], rfl, rfl⟩
    case round =>
      obtain ⟨k, hk, rfl, rfl, hwr⟩ := hrel
      obtain rfl : w = wr := hwr.symm
      by_cases hlt : k < n
      · obtain rfl := hA (by omega)
        obtain ⟨y, hy⟩ : ∃ y, l[k]? = some y := ⟨_, List.getElem?_eq_getElem (by rw [Hn.out]; exact hlt)⟩
        obtain ⟨c0, c1, c2⟩ := har.ent hy
        have hsn := less_snoc l at_ k y hy
        have hle := less_take l at_ k
        obtain ⟨x, hx⟩ : ∃ x, less (l.take k) at_ = x := ⟨_, rfl⟩
        rw [hx] at hsn hle ⊢
        clear hx
        by_cases hyx : y.k < at_
        · have hb := less_pos hyx
          rw [if_pos hyx] at hsn
          have Hsn := Lib.hid hsn
          clear hsn hyx hy
          go_wp2_with fail
          exact ⟨⟨k + 1, by omega, by rw [Hsn.out]; first | rfl | go_num, by go_num, by first | rfl | trivial⟩, by simp [intOf]; omega⟩
        · have hb := less_neg hyx
          rw [if_neg hyx] at hsn
          have Hsn := Lib.hid hsn
          clear hsn hyx hy
          go_wp2_with fail
          exact ⟨⟨k + 1, by omega, by rw [Hsn.out]; first | done | rfl, by go_num, by first | rfl | trivial⟩, by simp [intOf]; omega⟩
      · obtain rfl : k = n := by omega
        rw [List.take_of_length_le (by rw [Hn.out]; omega), Hls.out]
        go_wp2_with fail
        go_ret
        refine ⟨congrArg Ending.returned (congrArg (Value.int .i64) ?_), rfl⟩
        have e := Hr.out
        clear Hr Hls Hlk Hn hA har
        omega
  · obtain rfl : mv = 4 := hm
    obtain rfl : pl = 2 := hp
    have hr : res = n + 1 - 1 := by simpa [hnw'] using hres'
    have Hr := Lib.hid hr
    clear hr hres' hnw' hpl hmv
    go_enter Tryz.func53, Tryz.ntmps53
    go_wp2_with fail
    go_loopw [11, 12] (fun c i wr => ∃ (k : Nat), k ≤ n ∧ c = .int .i64 ((less (l.take k) at_ : Nat) : Int) ∧ i = .int .i64 k ∧ wr = w) (fun _ i _ => n - (intOf i).toNat)
    case atStart => exact ⟨0, by omega, by simp [less], rfl, rfl⟩
    case round =>
      obtain ⟨k, hk, rfl, rfl, hwr⟩ := hrel
      obtain rfl : w = wr := hwr.symm
      by_cases hlt : k < n
      · obtain rfl := hA (by omega)
        obtain ⟨y, hy⟩ : ∃ y, l[k]? = some y := ⟨_, List.getElem?_eq_getElem (by rw [Hn.out]; exact hlt)⟩
        obtain ⟨c0, c1, c2⟩ := har.ent hy
        have hsn := less_snoc l at_ k y hy
        have hle := less_take l at_ k
        obtain ⟨x, hx⟩ : ∃ x, less (l.take k) at_ = x := ⟨_, rfl⟩
        rw [hx] at hsn hle ⊢
        clear hx
        by_cases hyx : y.k < at_
        · have hb := less_pos hyx
          rw [if_pos hyx] at hsn
          have Hsn := Lib.hid hsn
          clear hsn hyx hy
          go_wp2_with fail
          exact ⟨⟨k + 1, by omega, by rw [Hsn.out]; first | rfl | go_num, by go_num, by first | rfl | trivial⟩, by simp [intOf]; omega⟩
        · have hb := less_neg hyx
          rw [if_neg hyx] at hsn
          have Hsn := Lib.hid hsn
          clear hsn hyx hy
          go_wp2_with fail
          exact ⟨⟨k + 1, by omega, by rw [Hsn.out]; first | done | rfl, by go_num, by first | rfl | trivial⟩, by simp [intOf]; omega⟩
      · obtain rfl : k = n := by omega
        rw [List.take_of_length_le (by rw [Hn.out]; omega), Hls.out]
        go_wp2_with fail
        go_ret
        refine ⟨congrArg Ending.returned (congrArg (Value.int .i64) ?_), rfl⟩
        have e := Hr.out
        clear Hr Hls Hlk Hn hA har
        omega
end Go.Proofs.YtbcgpjfejpcgnaaGreat
end
section
namespace Go.Proofs.YtbcgpjfejpcgnaaGreat
open Go.RowKit
set_option maxRecDepth 100000
set_option linter.unusedSimpArgs false
variable {w w' : World} {base ww : Nat} {bv sv cv : Value} {vs : List Value} {s : WS}
theorem eq_ans (a b : An) (w : World) : (binOp .eql 32 (ansV a) (ansV b)).run Tryz.prog w = .ok (.bool (anB a b)) w := by
  obtain ⟨e1, t1, k1, v1⟩ := a
  obtain ⟨e2, t2, k2, v2⟩ := b
  have ht : ((t1 : Int) == (t2 : Int)) = decide (t1 = t2) := Bool.eq_iff_iff.2 (by simp; omega)
  have he : (e1 == e2) = decide (e1 = e2) := Bool.eq_iff_iff.2 (by simp)
  unfold anB
  simp only
  rw [← ht, ← he]
  clear ht he
  cases h1 : (e1 == e2) <;> cases h2 : ((t1 : Int) == (t2 : Int)) <;> by_cases h3 : k1 = k2 <;> by_cases h4 : v1 = v2
  all_goals simp [go_sem, h1, h2, h3, h4]
end Go.Proofs.YtbcgpjfejpcgnaaGreat
end
