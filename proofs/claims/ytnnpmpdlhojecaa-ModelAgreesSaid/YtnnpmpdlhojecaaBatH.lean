/- The contract of ref15.Normalize. -/
import Derived.Test.YtnnpmpdlhojecaaBatG
namespace Go.Proofs.Ytnnpmpdlhojecaa
open Go.RowKit
theorem keyL_snoc (b : List Wrt) (k : Nat) (x : Wrt) (h : b[k]? = some x) : keyL [] (b.take (k + 1)) = putR ⟨x.k, []⟩ (keyL [] (b.take k)) := by
  rw [List.take_add_one, h, keyL_append]; rfl
theorem lastW_at {b : List Wrt} {j : Nat} {x : Wrt} (h : b[j]? = some x) (hn : lastW (b.drop (j + 1)) x.k = none) : lastW b x.k = some x := by
  have e : b = b.take j ++ (x :: b.drop (j + 1)) := by rw [← drop_cons h, List.take_append_drop]
  rw [e, lastW_append, lastW, hn]
  simp
theorem lastW_skip {b : List Wrt} {j : Nat} {x : Wrt} {k : Str} (h : b[j]? = some x) (hk : x.k ≠ k) (hn : lastW (b.drop (j + 1)) k = none) : lastW (b.drop j) k = none := by
  rw [drop_cons h, lastW, hn]
  simp [hk]
theorem fm_some (b : List Wrt) (ks : List Str) (k : Nat) (s : Str) (x : Wrt) (h : ks[k]? = some s) (hx : lastW b s = some x) : (ks.take (k + 1)).filterMap (lastW b) = (ks.take k).filterMap (lastW b) ++ [x] := by
  rw [List.take_add_one, h, List.filterMap_append]; simp [hx]
theorem fm_none (b : List Wrt) (ks : List Str) (k : Nat) (s : Str) (h : ks[k]? = some s) (hx : lastW b s = none) : (ks.take (k + 1)).filterMap (lastW b) = (ks.take k).filterMap (lastW b) := by
  rw [List.take_add_one, h, List.filterMap_append]; simp [hx]
theorem fm_len (b : List Wrt) (ks : List Str) (k : Nat) : ((ks.take k).filterMap (lastW b)).length ≤ k := by
  have := List.length_filterMap_le (lastW b) (ks.take k)
  rw [List.length_take] at this; omega
theorem keyL_len (b : List Wrt) : (keyL [] b).length ≤ b.length := by
  have := firsts_le b b.length
  rw [← norm_length] at this
  have h2 := norm_keys b
  have := congrArg List.length h2
  rw [List.length_map, ksOf, List.length_map] at this
  omega
set_option maxHeartbeats 1000000 in
set_option maxRecDepth 100000 in
theorem refNorm_any (b : List Wrt) (hn : b.length ≤ 2000) (bv : Value) (w : World) (hbv : Lst w bv b.length (wCs b)) :
    Calls Try.prog 44 #[bv] w fun e w' => ∃ u, e = .returned u ∧ Lst w' u (norm b).length (wCs (norm b)) ∧ Keeps [] w w' := by
  obtain ⟨A, cap, bb, bo, rfl, hA, har⟩ := hbv
  obtain ⟨n, hnn⟩ : ∃ n, b.length = n := ⟨_, rfl⟩
  rw [hnn] at hA hn ⊢
  have Hn := Lib.hid hnn
  clear hnn
  go_enter Try.func44, Try.ntmps44
  go_wp2_with fail
  go_loopw [3, 4] (fun v i wr => ∃ (k : Nat) (acc : List Ent), k ≤ n ∧ i = .int .i64 k ∧ Hid (acc = keyL [] (b.take k)) ∧ Lst wr v acc.length (eCs acc) ∧ Keeps [] w wr) (fun _ i _ => n - (intOf i).toNat)
  case atStart => exact ⟨0, [], by omega, rfl, Lib.hid (by simp [keyL]), Lst.nil w, Keeps.refl _ _⟩
  case round =>
    obtain ⟨k, acc, hk, rfl, hacc, hl, hkp⟩ := hrel
    by_cases hlt : k < n
    · obtain rfl := hA (by omega)
      obtain ⟨y, hy⟩ : ∃ y, b[k]? = some y := ⟨_, List.getElem?_eq_getElem (by rw [Hn.out]; exact hlt)⟩
      obtain ⟨c0, c1, c2, c3⟩ := (har.keeps hkp (by simp)).wrt hy
      have e2 := keyL_snoc b k y hy
      rw [← hacc.out] at e2
      have E2 := Lib.hid e2
      have hlen : acc.length ≤ 2000 := by
        have := keyL_len (b.take k)
        rw [← hacc.out, List.length_take] at this
        omega
      clear e2
      go_wp2_with fail
      refine (put_any acc (by omega) ⟨y.k, []⟩ _ _ hl).mono ?_
      rintro e w2 ⟨u, rfl, ho, k2⟩
      go_wp2_with fail
      exact ⟨⟨k + 1, _, by omega, by go_num, Lib.hid E2.out.symm, ho.lst, hkp.trans k2 (by simp)⟩, by simp [intOf]; omega⟩
    · obtain rfl : k = n := by omega
      have hr : acc = keyL [] b := by
        rw [hacc.out, List.take_of_length_le (by rw [Hn.out]; omega)]
      have Hr := Lib.hid hr
      have hkl : acc.length ≤ k := by have := keyL_len b; rw [← hr, Hn.out] at this; exact this
      clear hr hacc
      obtain ⟨A', cap', b', o', rfl, hA', har'⟩ := hl
      obtain ⟨m, hmm⟩ : ∃ m, acc.length = m := ⟨_, rfl⟩
      rw [hmm] at hA' hkl ⊢
      have Hm := Lib.hid hmm
      clear hmm
      have hkp1 := hkp
      clear hkp
      obtain ⟨w0, rfl⟩ : ∃ w0, w0 = wr := ⟨_, rfl⟩
      go_wp2_with fail
      go_loopw [5, 6, 7] (fun v i _ wr' => ∃ (q : Nat), q ≤ m ∧ i = .int .i64 q ∧ OwnW wr' w0.heap.size v (((ksOf b).take q).filterMap (lastW b)) ∧ Keeps [] w0 wr') (fun _ i _ _ => m - (intOf i).toNat)
      case atStart => exact ⟨0, by omega, rfl, by simpa using OwnW.nil w0 w0.heap.size, Keeps.refl _ _⟩
      case round =>
        obtain ⟨q, hq, rfl, ho, hkp⟩ := hrel
        by_cases hlq : q < m
        · obtain rfl := hA' (by omega)
          obtain ⟨e, he⟩ : ∃ e, acc[q]? = some e := ⟨_, List.getElem?_eq_getElem (by rw [Hm.out]; exact hlq)⟩
          have hks : (ksOf b)[q]? = some e.k := by rw [ksOf, ← Hr.out, List.getElem?_map, he]; rfl
          have Hks := Lib.hid hks
          have Hkp := hkp
          obtain ⟨g0, g1, g2⟩ := (har'.keeps hkp (by simp)).ent he
          have hbr := har.keeps (hkp1.trans hkp (by simp)) (by simp)
          clear hks he
          have hfl := fm_len b (ksOf b) q
          obtain rfl := hA (by omega)
          have hwr := wr.heap.size
          go_wp2_with fail
          go_loopw [5, 7] (fun v i wz => ∃ (j z : Nat), j ≤ k ∧ v = u5 ∧ i = .int .i64 ((j : Int) - 1) ∧ Hid (lastW (b.drop j) e.k = none) ∧ wz = wr.drewN z) (fun _ i _ => (intOf i + 1).toNat)
          case atStart => exact ⟨k, 0, by omega, rfl, rfl, Lib.hid (by rw [List.drop_of_length_le (by rw [Hn.out]; omega)]; rfl), rfl⟩
          case round =>
            obtain ⟨j, z, hj, rfl, rfl, hnone, rfl⟩ := hrel
            by_cases hj0 : j = 0
            · subst hj0
              have e2 := fm_none b (ksOf b) q e.k Hks.out (by simpa using hnone.out)
              have E2 := Lib.hid e2
              clear e2
              go_wp2_with fail
              exact ⟨⟨q + 1, by omega, by go_num, by rw [E2.out]; exact ho.keeps ((Keeps.refl [] wr).drewN z), hkp.drewN z⟩, by simp [intOf]; omega⟩
            · obtain ⟨i, rfl⟩ : ∃ i, j = i + 1 := ⟨j - 1, by omega⟩
              obtain ⟨y, hy⟩ : ∃ y, b[i]? = some y := ⟨_, List.getElem?_eq_getElem (by rw [Hn.out]; omega)⟩
              obtain ⟨c0, c1, c2, c3⟩ := hbr.wrt hy
              have hi1 : ((i + 1 : Nat) : Int) - 1 = (i : Int) := by omega
              rw [hi1]
              have hik : (i : Int) < (k : Int) := by omega
              by_cases hyk : y.k = e.k
              · have hb : (y.k == e.k) = true := by simpa using hyk
                have hlast : lastW b e.k = some y := by rw [← hyk]; exact lastW_at hy (by rw [hyk]; exact hnone.out)
                have e2 := fm_some b (ksOf b) q e.k y Hks.out hlast
                have E2 := Lib.hid e2
                clear e2 hlast hyk
                have kz := (Keeps.refl [] wr).drewN (z + 1)
                have hsz := hkp.size
                obtain ⟨v', w5, hr, ho5, k5, _⟩ := appendW (wb := w0) (W := wr.drewN (z + 1)) (ho.keeps kz) (by omega) y (hkp.trans kz (by simp)) (Nat.le_refl _) hsz
                go_wp2_with fail
                go_region
                go_wp2_with (at_builtin; refine list_append_eq rfl _ _ 28 28 rfl _ _ rfl rfl hr ?_)
                exact ⟨⟨q + 1, by omega, by go_num, by rw [E2.out]; exact ho5, k5⟩, by simp [intOf]; omega⟩
              · have hb : (y.k == e.k) = false := by simpa using hyk
                have H2 := Lib.hid (lastW_skip hy hyk hnone.out)
                go_wp2_with fail
                go_region
                go_wp2_with fail
                exact ⟨⟨i, z + 1, by omega, rfl, by go_num, H2, rfl⟩, by simp [intOf] <;> omega⟩
        · obtain rfl : q = m := by omega
          have hr : ((ksOf b).take q).filterMap (lastW b) = norm b := by
            rw [List.take_of_length_le (by rw [ksOf, List.length_map, ← Hr.out, Hm.out]; omega)]; rfl
          have Hr2 := Lib.hid hr
          clear hr
          go_wp2_with fail
          go_ret
          exact ⟨_, rfl, by rw [← Hr2.out]; exact ho.lst, hkp1.trans hkp (by simp)⟩
end Go.Proofs.Ytnnpmpdlhojecaa
