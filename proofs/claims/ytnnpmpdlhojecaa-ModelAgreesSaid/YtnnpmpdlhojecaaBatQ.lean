/- The contracts of blinktreekit.Same at entries and at writes, and of slices.Equal at writes. -/
import Derived.Test.YtnnpmpdlhojecaaBatR
namespace Go.Proofs.Ytnnpmpdlhojecaa
open Go.RowKit
set_option maxHeartbeats 1000000 in
set_option maxRecDepth 100000 in
theorem sameE_any (X Y : List Ent) (hn : X.length ≤ 4000) (hn' : Y.length ≤ 4000) (xv yv : Value) (w : World) (hx : Lst w xv X.length (eCs X)) (hy : Lst w yv Y.length (eCs Y)) :
    Calls Try.prog 35 #[xv, yv] w fun e w' => ∃ r : Bool, e = .returned (.bool r) ∧ (r = true ↔ X = Y) ∧ Keeps [] w w' := by
  obtain ⟨A, cap, b, o, rfl, hA, har⟩ := hx
  obtain ⟨A', cap', b', o', rfl, hA', har'⟩ := hy
  obtain ⟨n, hnn⟩ : ∃ n, X.length = n := ⟨_, rfl⟩
  obtain ⟨m, hmm⟩ : ∃ m, Y.length = m := ⟨_, rfl⟩
  rw [hnn] at hA hn ⊢
  rw [hmm] at hA' hn' ⊢
  have Hn := Lib.hid hnn
  have Hm := Lib.hid hmm
  clear hnn hmm
  by_cases hnm : n = m
  · subst hnm
    go_enter Try.func35, Try.ntmps35
    have hself : ((n : Int) != (n : Int)) = false := by simp
    go_wp2_with fail
    go_loopw [5] (fun i wr => ∃ k j : Nat, k ≤ n ∧ i = .int .i64 k ∧ Hid (X.take k = Y.take k) ∧ wr = w.drewN j) (fun i _ => n - (intOf i).toNat)
    case atStart => exact ⟨0, 0, by omega, rfl, Lib.hid (by simp), rfl⟩
    case round =>
      obtain ⟨k, j, hk, rfl, htk, rfl⟩ := hrel
      by_cases hlt : k < n
      · obtain rfl := hA (by omega)
        obtain rfl := hA' (by omega)
        obtain ⟨x, hx⟩ : ∃ x, X[k]? = some x := ⟨_, List.getElem?_eq_getElem (by rw [Hn.out]; exact hlt)⟩
        obtain ⟨y, hy⟩ : ∃ y, Y[k]? = some y := ⟨_, List.getElem?_eq_getElem (by rw [Hm.out]; exact hlt)⟩
        obtain ⟨c0, c1, cl⟩ := har.ent hx
        obtain ⟨g0, g1, gl⟩ := har'.ent hy
        have Hx := Lib.hid hx
        have Hy := Lib.hid hy
        clear hx hy
        by_cases hk : x.k = y.k
        · skip
          by_cases hv : x.v = y.v
          · skip
            have hxy : x = y := by cases x; cases y; simp_all
            subst hxy
            clear hk hv
            go_wp2_with fail
            go_quiet (fail)
            go_wp2_with fail
            go_roundw
            case rel => exact ⟨k + 1, _, by omega, by go_num, Lib.hid (by rw [List.take_add_one, List.take_add_one, Hx.out, Hy.out, htk.out]), rfl⟩
            case measure => simp [intOf]; omega
          · skip
            have hbk : (x.k == y.k) = true := by simpa using hk
            have hbv : (x.v == y.v) = false := by simpa using hv
            have hne : x ≠ y := fun e => hv (by rw [e])
            clear hv
            go_wp2_with fail
            go_quiet (fail)
            go_wp2_with fail
            go_ret
            refine ⟨false, rfl, ?_, ((Keeps.refl _ _).drewN _).drewN _⟩
            simp only [Bool.false_eq_true, false_iff]
            intro e
            subst e
            rw [Hx.out] at Hy
            exact hne (Option.some.inj Hy.out)
        · skip
          have hbk : (x.k == y.k) = false := by simpa using hk
          have hne : x ≠ y := fun e => hk (by rw [e])
          clear hk
          go_wp2_with fail
          go_quiet (fail)
          go_wp2_with fail
          go_ret
          refine ⟨false, rfl, ?_, ((Keeps.refl _ _).drewN _).drewN _⟩
          simp only [Bool.false_eq_true, false_iff]
          intro e
          subst e
          rw [Hx.out] at Hy
          exact hne (Option.some.inj Hy.out)
      · obtain rfl : k = n := by omega
        have hXY : X = Y := by
          have := htk.out
          rwa [List.take_of_length_le (by rw [Hn.out]; omega), List.take_of_length_le (by rw [Hm.out]; omega)] at this
        have HXY := Lib.hid hXY
        clear hXY
        go_wp2_with fail
        go_ret
        exact ⟨true, rfl, by simpa using HXY.out, (Keeps.refl _ _).drewN _⟩
  · have hb : ((n : Int) != (m : Int)) = true := by simp; omega
    have hne : X ≠ Y := fun e => hnm (by rw [← Hn.out, ← Hm.out, e])
    go_enter Try.func35, Try.ntmps35
    go_wp2_with fail
    go_ret
    exact ⟨false, rfl, by simpa using hne, Keeps.refl _ _⟩
set_option maxHeartbeats 1000000 in
set_option maxRecDepth 100000 in
theorem sameW_any (X Y : List Wrt) (hn : X.length ≤ 4000) (hn' : Y.length ≤ 4000) (xv yv : Value) (w : World) (hx : Lst w xv X.length (wCs X)) (hy : Lst w yv Y.length (wCs Y)) :
    Calls Try.prog 45 #[xv, yv] w fun e w' => ∃ r : Bool, e = .returned (.bool r) ∧ (r = true ↔ X = Y) ∧ Keeps [] w w' := by
  obtain ⟨A, cap, b, o, rfl, hA, har⟩ := hx
  obtain ⟨A', cap', b', o', rfl, hA', har'⟩ := hy
  obtain ⟨n, hnn⟩ : ∃ n, X.length = n := ⟨_, rfl⟩
  obtain ⟨m, hmm⟩ : ∃ m, Y.length = m := ⟨_, rfl⟩
  rw [hnn] at hA hn ⊢
  rw [hmm] at hA' hn' ⊢
  have Hn := Lib.hid hnn
  have Hm := Lib.hid hmm
  clear hnn hmm
  by_cases hnm : n = m
  · subst hnm
    go_enter Try.func45, Try.ntmps45
    have hself : ((n : Int) != (n : Int)) = false := by simp
    go_wp2_with fail
    go_loopw [5] (fun i wr => ∃ k j : Nat, k ≤ n ∧ i = .int .i64 k ∧ Hid (X.take k = Y.take k) ∧ wr = w.drewN j) (fun i _ => n - (intOf i).toNat)
    case atStart => exact ⟨0, 0, by omega, rfl, Lib.hid (by simp), rfl⟩
    case round =>
      obtain ⟨k, j, hk, rfl, htk, rfl⟩ := hrel
      by_cases hlt : k < n
      · obtain rfl := hA (by omega)
        obtain rfl := hA' (by omega)
        obtain ⟨x, hx⟩ : ∃ x, X[k]? = some x := ⟨_, List.getElem?_eq_getElem (by rw [Hn.out]; exact hlt)⟩
        obtain ⟨y, hy⟩ : ∃ y, Y[k]? = some y := ⟨_, List.getElem?_eq_getElem (by rw [Hm.out]; exact hlt)⟩
        obtain ⟨c0, c1, c2, cl⟩ := har.wrt hx
        obtain ⟨g0, g1, g2, gl⟩ := har'.wrt hy
        have Hx := Lib.hid hx
        have Hy := Lib.hid hy
        clear hx hy
        by_cases hk : x.k = y.k
        · skip
          by_cases hv : x.v = y.v
          · skip
            by_cases hd : x.d = y.d
            · skip
              have hxy : x = y := by cases x; cases y; simp_all
              subst hxy
              clear hk hv hd
              go_wp2_with fail
              go_quiet (fail)
              go_wp2_with fail
              go_roundw
              case rel => exact ⟨k + 1, _, by omega, by go_num, Lib.hid (by rw [List.take_add_one, List.take_add_one, Hx.out, Hy.out, htk.out]), rfl⟩
              case measure => simp [intOf]; omega
            · skip
              have hbk : (x.k == y.k) = true := by simpa using hk
              have hbv : (x.v == y.v) = true := by simpa using hv
              have hbd : (x.d == y.d) = false := by simpa using hd
              have hne : x ≠ y := fun e => hd (by rw [e])
              clear hd
              go_wp2_with fail
              go_quiet (fail)
              go_wp2_with fail
              go_ret
              refine ⟨false, rfl, ?_, ((Keeps.refl _ _).drewN _).drewN _⟩
              simp only [Bool.false_eq_true, false_iff]
              intro e
              subst e
              rw [Hx.out] at Hy
              exact hne (Option.some.inj Hy.out)
          · skip
            have hbk : (x.k == y.k) = true := by simpa using hk
            have hbv : (x.v == y.v) = false := by simpa using hv
            have hne : x ≠ y := fun e => hv (by rw [e])
            clear hv
            go_wp2_with fail
            go_quiet (fail)
            go_wp2_with fail
            go_ret
            refine ⟨false, rfl, ?_, ((Keeps.refl _ _).drewN _).drewN _⟩
            simp only [Bool.false_eq_true, false_iff]
            intro e
            subst e
            rw [Hx.out] at Hy
            exact hne (Option.some.inj Hy.out)
        · skip
          have hbk : (x.k == y.k) = false := by simpa using hk
          have hne : x ≠ y := fun e => hk (by rw [e])
          clear hk
          go_wp2_with fail
          go_quiet (fail)
          go_wp2_with fail
          go_ret
          refine ⟨false, rfl, ?_, ((Keeps.refl _ _).drewN _).drewN _⟩
          simp only [Bool.false_eq_true, false_iff]
          intro e
          subst e
          rw [Hx.out] at Hy
          exact hne (Option.some.inj Hy.out)
      · obtain rfl : k = n := by omega
        have hXY : X = Y := by
          have := htk.out
          rwa [List.take_of_length_le (by rw [Hn.out]; omega), List.take_of_length_le (by rw [Hm.out]; omega)] at this
        have HXY := Lib.hid hXY
        clear hXY
        go_wp2_with fail
        go_ret
        exact ⟨true, rfl, by simpa using HXY.out, (Keeps.refl _ _).drewN _⟩
  · have hb : ((n : Int) != (m : Int)) = true := by simp; omega
    have hne : X ≠ Y := fun e => hnm (by rw [← Hn.out, ← Hm.out, e])
    go_enter Try.func45, Try.ntmps45
    go_wp2_with fail
    go_ret
    exact ⟨false, rfl, by simpa using hne, Keeps.refl _ _⟩
set_option maxHeartbeats 1000000 in
set_option maxRecDepth 100000 in
theorem equalW_any (X Y : List Wrt) (hn : X.length ≤ 4000) (hn' : Y.length ≤ 4000) (xv yv : Value) (w : World) (hx : Lst w xv X.length (wCs X)) (hy : Lst w yv Y.length (wCs Y)) :
    Calls Try.prog 69 #[xv, yv] w fun e w' => ∃ r : Bool, e = .returned (.bool r) ∧ (r = true ↔ X = Y) ∧ Keeps [] w w' := by
  obtain ⟨A, cap, b, o, rfl, hA, har⟩ := hx
  obtain ⟨A', cap', b', o', rfl, hA', har'⟩ := hy
  obtain ⟨n, hnn⟩ : ∃ n, X.length = n := ⟨_, rfl⟩
  obtain ⟨m, hmm⟩ : ∃ m, Y.length = m := ⟨_, rfl⟩
  rw [hnn] at hA hn ⊢
  rw [hmm] at hA' hn' ⊢
  have Hn := Lib.hid hnn
  have Hm := Lib.hid hmm
  clear hnn hmm
  by_cases hnm : n = m
  · subst hnm
    go_enter Try.func69, Try.ntmps69
    have hself : ((n : Int) != (n : Int)) = false := by simp
    go_wp2_with fail
    go_loopw [13] (fun i wr => ∃ k j : Nat, k ≤ n ∧ i = .int .i64 k ∧ Hid (X.take k = Y.take k) ∧ wr = w.drewN j) (fun i _ => n - (intOf i).toNat)
    case atStart => exact ⟨0, 0, by omega, rfl, Lib.hid (by simp), rfl⟩
    case round =>
      obtain ⟨k, j, hk, rfl, htk, rfl⟩ := hrel
      by_cases hlt : k < n
      · obtain rfl := hA (by omega)
        obtain rfl := hA' (by omega)
        obtain ⟨x, hx⟩ : ∃ x, X[k]? = some x := ⟨_, List.getElem?_eq_getElem (by rw [Hn.out]; exact hlt)⟩
        obtain ⟨y, hy⟩ : ∃ y, Y[k]? = some y := ⟨_, List.getElem?_eq_getElem (by rw [Hm.out]; exact hlt)⟩
        obtain ⟨c0, c1, c2, cl⟩ := har.wrt hx
        obtain ⟨g0, g1, g2, gl⟩ := har'.wrt hy
        have Hx := Lib.hid hx
        have Hy := Lib.hid hy
        clear hx hy
        by_cases hk : x.k = y.k
        · skip
          by_cases hv : x.v = y.v
          · skip
            by_cases hd : x.d = y.d
            · skip
              have hxy : x = y := by cases x; cases y; simp_all
              subst hxy
              clear hk hv hd
              go_wp2_with fail
              go_quiet (fail)
              go_wp2_with fail
              go_roundw
              case rel => exact ⟨k + 1, _, by omega, by go_num, Lib.hid (by rw [List.take_add_one, List.take_add_one, Hx.out, Hy.out, htk.out]), rfl⟩
              case measure => simp [intOf]; omega
            · skip
              have hbk : (x.k == y.k) = true := by simpa using hk
              have hbv : (x.v == y.v) = true := by simpa using hv
              have hbd : (x.d == y.d) = false := by simpa using hd
              have hne : x ≠ y := fun e => hd (by rw [e])
              clear hd
              go_wp2_with fail
              go_quiet (fail)
              go_wp2_with fail
              go_ret
              refine ⟨false, rfl, ?_, ((Keeps.refl _ _).drewN _).drewN _⟩
              simp only [Bool.false_eq_true, false_iff]
              intro e
              subst e
              rw [Hx.out] at Hy
              exact hne (Option.some.inj Hy.out)
          · skip
            have hbk : (x.k == y.k) = true := by simpa using hk
            have hbv : (x.v == y.v) = false := by simpa using hv
            have hne : x ≠ y := fun e => hv (by rw [e])
            clear hv
            go_wp2_with fail
            go_quiet (fail)
            go_wp2_with fail
            go_ret
            refine ⟨false, rfl, ?_, ((Keeps.refl _ _).drewN _).drewN _⟩
            simp only [Bool.false_eq_true, false_iff]
            intro e
            subst e
            rw [Hx.out] at Hy
            exact hne (Option.some.inj Hy.out)
        · skip
          have hbk : (x.k == y.k) = false := by simpa using hk
          have hne : x ≠ y := fun e => hk (by rw [e])
          clear hk
          go_wp2_with fail
          go_quiet (fail)
          go_wp2_with fail
          go_ret
          refine ⟨false, rfl, ?_, ((Keeps.refl _ _).drewN _).drewN _⟩
          simp only [Bool.false_eq_true, false_iff]
          intro e
          subst e
          rw [Hx.out] at Hy
          exact hne (Option.some.inj Hy.out)
      · obtain rfl : k = n := by omega
        have hXY : X = Y := by
          have := htk.out
          rwa [List.take_of_length_le (by rw [Hn.out]; omega), List.take_of_length_le (by rw [Hm.out]; omega)] at this
        have HXY := Lib.hid hXY
        clear hXY
        go_wp2_with fail
        go_ret
        exact ⟨true, rfl, by simpa using HXY.out, (Keeps.refl _ _).drewN _⟩
  · have hb : ((n : Int) != (m : Int)) = true := by simp; omega
    have hne : X ≠ Y := fun e => hnm (by rw [← Hn.out, ← Hm.out, e])
    go_enter Try.func69, Try.ntmps69
    go_wp2_with fail
    go_ret
    exact ⟨false, rfl, by simpa using hne, Keeps.refl _ _⟩
end Go.Proofs.Ytnnpmpdlhojecaa
