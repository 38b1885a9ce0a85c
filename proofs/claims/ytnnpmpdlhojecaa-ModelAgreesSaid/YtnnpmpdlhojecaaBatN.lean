/- The contracts of batch.Normalize and batch.Normal. -/
import Derived.Test.YtnnpmpdlhojecaaBatH
import Derived.Test.YtnnpmpdlhojecaaBatQ
import Derived.Test.YtnnpmpdlhojecaaIter
import Derived.Maps.OwnOps
import Derived.Maps.OwnSet
namespace Go.Proofs.Ytnnpmpdlhojecaa
open Go.RowKit Go.Maps
def mapD (b : List Wrt) : Nat → DataW Unit
  | 0 => .map []
  | k + 1 => match b[k]? with
    | some x => (mapD b k).put (.string x.k) (.lit (.int .i64 (k : Int)))
    | none => mapD b k
theorem mapD_isMap (b : List Wrt) : ∀ k, IsMap (mapD b k)
  | 0 => isMap_empty
  | k + 1 => by
    rw [mapD]
    split
    · exact (mapD_isMap b k).put _ _
    · exact mapD_isMap b k
theorem keyLit (s : Str) : WideAt.IsKeyLit (.string s) := by simp [WideAt.IsKeyLit]
theorem mapD_has (b : List Wrt) (s : Str) : ∀ k, has (mapD b k) (.string s) = true ↔ s ∈ (b.take k).map (·.k)
  | 0 => by simp [mapD, has]
  | k + 1 => by
    rw [mapD, List.take_add_one]
    cases h : b[k]? with
    | none => simp only [Option.toList_none, List.append_nil]; exact mapD_has b s k
    | some x =>
      simp only [Option.toList_some, List.map_append, List.mem_append, List.map_cons, List.map_nil, List.mem_singleton]
      by_cases hs : s = x.k
      · subst hs
        simp [has_put_same (mapD_isMap b k) (keyLit x.k)]
      · rw [has_put_other (by simpa using hs), mapD_has b s k]
        simp [hs]
theorem mapD_at (b : List Wrt) (z : DataW Unit) (s : Str) (x : Wrt) : ∀ k, lastW (b.take k) s = some x → ∃ i : Nat, (mapD b k).atKey (.string s) z = .lit (.int .i64 (i : Int)) ∧ b[i]? = some x ∧ i < k
  | 0, h => by simp [lastW] at h
  | k + 1, h => by
    rw [List.take_add_one] at h
    rw [mapD]
    cases hb : b[k]? with
    | none =>
      rw [hb] at h
      simp only [Option.toList_none, List.append_nil] at h
      obtain ⟨i, h1, h2, h3⟩ := mapD_at b z s x k h
      exact ⟨i, h1, h2, by omega⟩
    | some y =>
      rw [hb] at h
      simp only [Option.toList_some] at h
      rw [lastW_append, lastW, lastW] at h
      by_cases hs : y.k = s
      · subst hs
        simp at h
        subst h
        exact ⟨k, atKey_put_same (mapD_isMap b k) (keyLit _) _ _, hb, by omega⟩
      · simp [hs] at h
        obtain ⟨i, h1, h2, h3⟩ := mapD_at b z s x k h
        exact ⟨i, by simp only; rw [atKey_put_other (by simpa using fun e => hs e.symm)]; exact h1, h2, by omega⟩
theorem ksOf_sorted {b : List Wrt} {ss : List Str} {D : DataW Unit} (hD : ss.Perm (Go.strKeys D)) (hp : (ksOf b).Perm (Go.strKeys D)) : ss.mergeSort (fun x y => decide (x ≤ y)) = ksOf b := by
  rw [Go.mergeSort_of_perm (hD.trans hp.symm)]
  refine List.mergeSort_of_pairwise ?_
  refine (asc_ksOf b).imp fun h => ?_
  simp only [decide_eq_true_eq]
  exact List.le_of_lt h
theorem keysZ (mb : Option Nat) (W : World) : Calls Try.prog 59 #[.map mb] W fun e w' => e = .returned (.func (.func 75) #[] #[.pointer (some ⟨W.heap.size, 0, none⟩)]) ∧ w' = W.alloc (.cells #[.map mb] 91) :=
  (callsIn_wide (n := 5)).1 (Try.maps_Keys_59 mb W)
theorem zeroI (w : World) : (zeroValue 3).run Try.prog w = .ok (.int .i64 0) w := by kernel_rfl
theorem lawS : Keyed Try.prog 9 := string_keyed Try.underlying9
theorem ownsMap_keeps {w w' : World} {M n : Nat} {D : DataW Unit} (h : w.ownsMap Try.prog 9 (plainElem Try.prog 3) M n D) (k : Keeps [] w w') : w'.ownsMap Try.prog 9 (plainElem Try.prog 3) M n D := by
  obtain ⟨es, clock, hb, F, hs, hD⟩ := h
  exact ⟨es, clock, by rw [k.block M (Array.getElem?_eq_some_iff.1 hb).1 (by simp)]; exact hb, F, hs, hD⟩
set_option maxHeartbeats 2000000 in
set_option maxRecDepth 100000 in
theorem normalize_any (b : List Wrt) (hn : b.length ≤ 9223372036854775807) (bv : Value) (w : World) (hbv : Lst w bv b.length (wCs b)) :
    Calls Try.prog 39 #[bv] w fun e w' => ∃ u, e = .returned (.tuple #[u, .int .i64 (checkR 8 1 b)]) ∧ Lst w' u (if checkR 8 1 b = 0 then norm b else []).length (wCs (if checkR 8 1 b = 0 then norm b else [])) ∧ Keeps [] w w' := by
  obtain ⟨c, hc⟩ : ∃ c, checkR 8 1 b = c := ⟨_, rfl⟩
  have Hc := Lib.hid hc
  by_cases hc0 : c = 0
  · subst hc0
    have hlen : b.length ≤ 16 := by
      rcases Nat.lt_or_ge 16 b.length with h | h
      · rw [checkR, if_pos h] at hc; exact absurd hc (by decide)
      · exact h
    have hokW : b.all okW = true := by
      cases h : b.all okW with
      | true => rfl
      | false => rw [checkR, if_neg (by omega), h] at hc; simp at hc
    rw [hc, if_pos rfl]
    clear hc
    have hbv0 := hbv
    obtain ⟨A, cap, bb, bo, rfl, hA, har⟩ := hbv
    obtain ⟨n, hnn⟩ : ∃ n, b.length = n := ⟨_, rfl⟩
    rw [hnn] at hA hn hlen ⊢
    have Hn := Lib.hid hnn
    have hchk := check_any b (by omega) _ w hbv0
    rw [hnn] at hchk
    clear hnn hbv0
    have hmm := @run_makeMap Try.prog
    go_enter Try.func39, Try.ntmps39
    go_wp2_with fail
    refine hchk.mono ?_
    rintro e w1 ⟨rfl, k1⟩
    rw [Hc.out]
    go_wp2_with fail
    go_loopw [19] (fun i wr => ∃ (k : Nat), k ≤ n ∧ i = .int .i64 k ∧ wr.ownsMap Try.prog 9 (plainElem Try.prog 3) w1.heap.size k (mapD b k) ∧ Keeps [] w wr) (fun i _ => n - (intOf i).toNat)
    case atStart => exact ⟨0, by omega, rfl, World.ownsMap_made _ _ _ _, k1.alloc _⟩
    case round =>
      obtain ⟨k, hk, rfl, hown, hkp⟩ := hrel
      by_cases hlt : k < n
      · obtain rfl := hA (by omega)
        obtain ⟨y, hy⟩ : ∃ y, b[k]? = some y := ⟨_, List.getElem?_eq_getElem (by rw [Hn.out]; exact hlt)⟩
        obtain ⟨c0, c1, c2, c3⟩ := (har.keeps hkp (by simp)).wrt hy
        have hyl : y.k.length ≤ 32 := by
          have := List.all_eq_true.1 hokW y (List.mem_of_getElem? hy)
          simp [okW] at this; exact this.1
        have hst : mapD b (k + 1) = (mapD b k).put (.string y.k) (.lit (.int .i64 (k : Int))) := by rw [mapD, hy]
        have Hst := Lib.hid hst
        have kx := hkp.alloc (.cells #[.string ⟨y.k.toArray⟩, .string ⟨y.v.toArray⟩, .bool y.d] 57)
        have hox := hown.alloc (.cells #[.string ⟨y.k.toArray⟩, .string ⟨y.v.toArray⟩, .bool y.d] 57)
        have hk1 := k1.size
        clear hst
        go_wp2_with (first
          | (at_mapUpdate; (refine wpList_mapUpdate_own _ rfl _ _ _ 91 rfl 9 3 lawS Try.underlying91 _ w1.heap.size k _ rfl hox (by unfold maxLen; omega) _ _ (.string y.k) rfl rfl (Go.WideMaps.keyOf_string_mk Try.underlying9 (by show y.k.toArray.size ≤ maxLen; unfold maxLen; simp; omega)) _ [] (plainElem_int Try.underlying3 (WalkArith.wf_i64 (by omega))) ?_); intro w5 hown5 hgr5))
        exact ⟨⟨k + 1, by omega, by go_num, by rw [Hst.out]; exact hown5, kx.trans (Keeps.of_grownBy hgr5 [w1.heap.size] (by simp)) (by simp; omega)⟩, by simp [intOf]; omega⟩
      · obtain rfl : k = n := by omega
        have hsz1 : Maps.size (mapD b k) ≤ k := hown.size_le
        have hperm : (ksOf b).Perm (Go.strKeys (mapD b k)) := by
          obtain ⟨es, hD, hpw, _⟩ := hown.entries lawS
          obtain ⟨es', hD', hko⟩ := hown.keysOf
          obtain rfl : es = es' := by rw [hD] at hD'; simpa using hD'
          have hh := mapD_has b
          rw [hD]
          refine Go.perm_strKeys hpw (fun p hp => by obtain ⟨v, hv⟩ := hko p hp; obtain ⟨x, _, hx, _⟩ := Maps.keyOf_str Try.underlying9 hv; exact ⟨x, hx⟩) ((asc_ksOf b).imp fun h => slt_ne h) (fun x => ?_)
          rw [← hD, hh x k, mem_ksOf, List.take_of_length_le (by rw [Hn.out]; omega)]
        have hks16 : (ksOf b).length ≤ k := by
          have := keyL_len b
          rw [ksOf, List.length_map]; rw [Hn.out] at this; exact this
        go_wp2_with fail
        refine (keysZ _ _).mono ?_
        rintro e w2 ⟨rfl, rfl⟩
        go_wp2_with fail
        refine ((callsIn_wide (n := 5)).1 (Try.slices_Sorted_keys_58_59 w1.heap.size k (mapD b k) (plainElem Try.prog 3) wr hown (by unfold maxLen; omega) (by omega))).mono ?_
        rintro e w3 ⟨v, ss, rfl, hS, hrow, hnil, hbl⟩
        have hsort := ksOf_sorted hS hperm
        rw [hsort] at hrow
        have hlen2 : ss.length = (ksOf b).length := (hS.trans hperm.symm).length_eq
        rw [hlen2] at hrow
        have k3 : Keeps [] wr w3 := ((Keeps.refl [] wr).alloc (.cells #[.map (some w1.heap.size)] 91)).trans (Keeps.of_below hbl []) (by simp)
        have hown3 := ownsMap_keeps hown k3
        have K3 := hkp.trans k3 (by simp)
        obtain ⟨A', cap', b', o', rfl, hA', har'⟩ := Lst.own hrow
        have har3 := har.keeps K3 (by simp)
        obtain ⟨m, hmm2⟩ : ∃ m, (ksOf b).length = m := ⟨_, rfl⟩
        rw [hmm2] at hA' hks16 ⊢
        have Hm := Lib.hid hmm2
        clear hmm2 hrow hS hnil hbl hlen2 hsort hperm hown hchk
        go_wp2_with fail
        go_loopw [8, 33] (fun v i wz => ∃ (q : Nat), q ≤ m ∧ i = .int .i64 q ∧ OwnW wz w3.heap.size v (((ksOf b).take q).filterMap (lastW b)) ∧ Keeps [] w3 wz) (fun _ i _ => m - (intOf i).toNat)
        case atStart => exact ⟨0, by omega, rfl, by simpa using OwnW.nil w3 w3.heap.size, Keeps.refl _ _⟩
        case round =>
          obtain ⟨q, hq, rfl, ho, hkq⟩ := hrel
          by_cases hlq : q < m
          · obtain rfl := hA' (by omega)
            obtain rfl := hA (by omega)
            obtain ⟨s, hs⟩ : ∃ s, (ksOf b)[q]? = some s := ⟨_, List.getElem?_eq_getElem (by rw [Hm.out]; exact hlq)⟩
            have hcs := (har'.keeps hkq (by simp)).cells q (by rw [List.length_map, Hm.out]; exact hlq)
            rw [List.getElem?_map, hs] at hcs
            simp only [Option.map_some] at hcs
            have hbl' := (har'.keeps hkq (by simp)).lt (by rw [List.length_map, Hm.out]; omega)
            obtain ⟨x, hx, hxk, _⟩ := lastW_of_mem_ks (List.mem_of_getElem? hs)
            obtain ⟨i, hat, hbi, hik⟩ := mapD_at b (.lit (.int .i64 0)) s x k (by rw [List.take_of_length_le (by rw [Hn.out]; omega)]; exact hx)
            obtain ⟨c0, c1, c2, c3⟩ := (har3.keeps hkq (by simp)).wrt hbi
            have hci : ∀ c : Int, (mapD b k).atKey (.string s) (.lit (.int .i64 0)) = .lit (.int .i64 c) → c = (i : Int) := fun c h => by
              rw [hat] at h; simpa using h.symm
            have hsl : s.length ≤ 32 := by
              rw [← hxk]
              have := List.all_eq_true.1 hokW x (List.mem_of_getElem? hbi)
              simp [okW] at this; exact this.1
            have e2 := fm_some b (ksOf b) q s x hs hx
            have E2 := Lib.hid e2
            have hfl := fm_len b (ksOf b) q
            have hik2 : (i : Int) < (k : Int) := by omega
            obtain ⟨v', w5, hr, ho5, k5, _⟩ := appendW (wb := w3) (W := wr) ho (by omega) x hkq (Nat.le_refl _) hkq.size
            have hownq := ownsMap_keeps hown3 hkq
            clear e2 hs hx hat hbi hxk
            go_wp2_with (first
              | (at_lookup; (refine wpList_lookup_own_int _ rfl _ _ 91 rfl 9 3 .i64 lawS Try.underlying91 Try.underlying3 (zeroI _) w1.heap.size k _ rfl hownq _ (.string s) rfl (Go.WideMaps.keyOf_string_mk Try.underlying9 (by show s.toArray.size ≤ maxLen; unfold maxLen; simp; omega)) ?_); intro c hatc hwc; obtain rfl := hci c hatc)
              | (at_builtin; (refine list_append_eq rfl _ _ 28 28 rfl _ _ rfl rfl hr ?_)))
            exact ⟨⟨q + 1, by omega, by go_num, by rw [E2.out]; exact ho5, k5⟩, by simp [intOf]; omega⟩
          · obtain rfl : q = m := by omega
            have hr : ((ksOf b).take q).filterMap (lastW b) = norm b := by
              rw [List.take_of_length_le (by rw [Hm.out]; omega)]; rfl
            have Hr2 := Lib.hid hr
            clear hr
            go_wp2_with fail
            go_ret2
            exact ⟨_, rfl, by rw [← Hr2.out]; exact ho.lst, K3.trans hkq (by simp)⟩
  · have hchk := check_any b (by omega) bv w hbv
    rw [hc, if_neg hc0]
    have hcb : (c != 0) = true := by simpa using hc0
    rw [hc] at hchk
    clear hbv hc
    go_enter Try.func39, Try.ntmps39
    go_wp2_with fail
    refine hchk.mono ?_
    rintro e w1 ⟨rfl, k1⟩
    go_wp2_with fail
    go_ret2
    exact ⟨_, rfl, Lst.nil _, k1⟩
end Go.Proofs.Ytnnpmpdlhojecaa
