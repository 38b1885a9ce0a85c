/- The statements BatchNormalForm and BatchTwice: their walks. -/
import Derived.Test.YtnnpmpdlhojecaaBatX
namespace Go.Proofs.Ytnnpmpdlhojecaa
open Go.RowKit
theorem normOk (b : List Wrt) (hc : checkR 8 1 b = 0) (bv : Value) (w : World) (hbv : Lst w bv b.length (wCs b)) :
    Calls Try.prog 39 #[bv] w fun e w' => ∃ u, e = .returned (.tuple #[u, .int .i64 0]) ∧ Lst w' u (norm b).length (wCs (norm b)) ∧ Keeps [] w w' := by
  have h := normalize_any b (by have := check_len hc; omega) bv w hbv
  rw [hc] at h
  simpa using h
set_option maxHeartbeats 1000000 in
set_option maxRecDepth 100000 in
theorem normalForm_any (raw : List Wrt) (ent : List Ent) (h1 : raw.length ≤ 9223372036854775807) (h3 : ent.length ≤ 9223372036854775807) (v0 v1 : Value) (w : World) (l0 : Lst w v0 raw.length (wCs raw)) (l1 : Lst w v1 ent.length (eCs ent)) :
    Calls Try.prog 9 #[v0, v1] w fun e w' => e = .returned (.bool true) ∧ Keeps [] w w' := by
  have asc := asc_listR ent
  have ll := length_listR ent
  have ck := checkR_fit 8 1 raw
  have cn := checkR_norm_fit 8 1 raw
  obtain ⟨l, hl⟩ : ∃ l, listR ent = l := ⟨_, rfl⟩
  obtain ⟨b, hb⟩ : ∃ b, fitL raw = b := ⟨_, rfl⟩
  have lb := fitL_len raw
  rw [hb] at lb ck cn
  rw [hl] at asc ll
  have ln := norm_le b
  have e1 := length_applyR l b
  go_enter Try.func9, Try.ntmps9
  go_wp2_with fail
  refine (fit_any raw h1 v0 _ l0).mono ?_
  rintro e w1 ⟨u1, rfl, m1, k1⟩
  rw [hb] at m1
  go_wp2_with fail
  refine (list_any ent h3 v1 _ (l1.keeps k1)).mono ?_
  rintro e w2 ⟨u2, rfl, m2, k2⟩
  rw [hl] at m2
  have K2 := k1.trans k2 (by simp)
  have m1 := m1.keeps k2
  go_wp2_with fail
  refine (normOk b ck u1 _ m1).mono ?_
  rintro e w3 ⟨u3, rfl, m3, k3⟩
  go_wp2_with fail
  refine (normOk (norm b) cn u3 _ m3).mono ?_
  rintro e w4 ⟨u4, rfl, m4, k4⟩
  rw [norm_norm] at m4
  go_wp2_with fail
  refine (awake_any _).mono ?_
  rintro e w5 ⟨rfl, k5⟩
  have m3 := (m3.keeps k4).keeps k5
  have m4 := m4.keeps k5
  have m1 := ((m1.keeps k3).keeps k4).keeps k5
  have m2 := ((m2.keeps k3).keeps k4).keeps k5
  have K5 := ((K2.trans k3 (by simp)).trans k4 (by simp)).trans k5 (by simp)
  go_wp2_with fail
  refine (sameW_any (norm b) (norm b) (by omega) (by omega) u3 u4 _ m3 m4).mono ?_
  rintro e w6 ⟨r, rfl, hr, k6⟩
  obtain rfl : r = true := by simpa using hr
  have m3 := m3.keeps k6
  go_wp2_with fail
  refine (normal_any (norm b) (by omega) u3 _ m3).mono ?_
  rintro e w7 ⟨r, rfl, hr, k7⟩
  obtain rfl : r = true := hr.2 ⟨cn, norm_norm b⟩
  have m1 := (m1.keeps k6).keeps k7
  have m2 := (m2.keeps k6).keeps k7
  have m3 := m3.keeps k7
  have K7 := (K5.trans k6 (by simp)).trans k7 (by simp)
  go_wp2_with fail
  refine (applyL l b asc (by omega) u2 u1 _ m2 m1).mono ?_
  rintro e w8 ⟨u8, rfl, m8, k8⟩
  go_wp2_with fail
  refine (applyL l (norm b) asc (by omega) u2 u3 _ (m2.keeps k8) (m3.keeps k8)).mono ?_
  rintro e w9 ⟨u9, rfl, m9, k9⟩
  rw [← applyR_norm b asc] at m9
  go_wp2_with fail
  refine (sameEt (applyR l b) (by omega) u8 u9 _ (m8.keeps k9) m9).mono ?_
  rintro e w10 ⟨rfl, k10⟩
  have m3 := ((m3.keeps k8).keeps k9).keeps k10
  have K10 := ((K7.trans k8 (by simp)).trans k9 (by simp)).trans k10 (by simp)
  have hna := norm_asc b
  obtain ⟨c, hc⟩ : ∃ c, norm b = c := ⟨_, rfl⟩
  rw [hc] at m3 hna ln
  clear hc m1 m2 m4 m8 m9 hr ck cn hb hl asc e1 k1 k2 k3 k4 k5 k6 k7 k8 k9 k10 K2 K5 K7 l0 l1
  obtain ⟨A, cap, ba, oa, rfl, hA, har⟩ := m3
  obtain ⟨n, hnn⟩ : ∃ n, c.length = n := ⟨_, rfl⟩
  rw [hnn] at hA ln ⊢
  have Hn := Lib.hid hnn
  clear hnn
  go_wp2_with fail
  go_loopw [11] (fun i wr => ∃ (k z : Nat), 1 ≤ k ∧ (k ≤ n ∨ k = 1) ∧ i = .int .i64 k ∧ wr = w10.drewN z) (fun i _ => n - (intOf i).toNat)
  case atStart => exact ⟨1, 0, by omega, by omega, rfl, rfl⟩
  case round =>
    obtain ⟨k, z, hk1, hk, rfl, rfl⟩ := hrel
    by_cases hlt : k < n
    · obtain rfl := hA (by omega)
      obtain ⟨j, rfl⟩ : ∃ j, k = j + 1 := ⟨k - 1, by omega⟩
      obtain ⟨x, hx⟩ : ∃ x, c[j + 1]? = some x := ⟨_, List.getElem?_eq_getElem (by rw [Hn.out]; exact hlt)⟩
      obtain ⟨y, hy⟩ : ∃ y, c[j]? = some y := ⟨_, List.getElem?_eq_getElem (by rw [Hn.out]; omega)⟩
      obtain ⟨c0, c1, c2, c3⟩ := har.wrt hx
      obtain ⟨d0, d1, d2, d3⟩ := har.wrt hy
      have hlt2 : y.k < x.k := by
        obtain ⟨p1, rfl⟩ := List.getElem?_eq_some_iff.1 hx
        obtain ⟨p2, rfl⟩ := List.getElem?_eq_some_iff.1 hy
        exact (List.pairwise_iff_getElem.1 hna) j (j + 1) p2 p1 (by omega)
      have hbl := less_neg (slt_asymm hlt2)
      have hbe : (x.k == y.k) = false := by simpa using fun e : x.k = y.k => slt_ne hlt2 e.symm
      have hj1 : ((j + 1 : Nat) : Int) - 1 = (j : Int) := by omega
      have hj2 : (j : Int) < (n : Int) := by omega
      have hj3 : ((j + 1 : Nat) : Int) < (n : Int) := by omega
      clear hx hy hlt2
      go_wp2_with fail
      go_region
      go_wp2_with fail
      exact ⟨⟨j + 1 + 1, z + 1, by omega, by omega, by go_num, rfl⟩, by simp [intOf]; omega⟩
    · go_wp2_with fail
      go_ret
      exact ⟨rfl, K10.drewN z⟩
theorem firsts_step (b : List Wrt) (k : Nat) (x : Wrt) (h : b[k]? = some x) : firsts b (k + 1) = firsts b k + (if (b.take k).any (fun y => decide (y.k = x.k)) then 0 else 1) := by
  rw [firsts, h]
  simp only
  congr 1
  have e : (x.k ∈ (b.take k).map (·.k)) ↔ (b.take k).any (fun y => decide (y.k = x.k)) = true := by
    rw [List.any_eq_true, List.mem_map]
    simp
  by_cases hh : x.k ∈ (b.take k).map (·.k)
  · rw [if_pos hh, if_pos (e.1 hh)]
  · rw [if_neg hh, if_neg (fun h2 => hh (e.2 h2))]
set_option maxHeartbeats 1000000 in
set_option maxRecDepth 100000 in
theorem twice_any (raw : List Wrt) (ent : List Ent) (h1 : raw.length ≤ 9223372036854775807) (h3 : ent.length ≤ 9223372036854775807) (v0 v1 : Value) (w : World) (l0 : Lst w v0 raw.length (wCs raw)) (l1 : Lst w v1 ent.length (eCs ent)) :
    Calls Try.prog 13 #[v0, v1] w fun e w' => e = .returned (.bool true) ∧ Keeps [] w w' := by
  have asc := asc_listR ent
  have ll := length_listR ent
  have ck := checkR_fit 8 1 raw
  obtain ⟨l, hl⟩ : ∃ l, listR ent = l := ⟨_, rfl⟩
  obtain ⟨b, hb⟩ : ∃ b, fitL raw = b := ⟨_, rfl⟩
  have lb := fitL_len raw
  rw [hb] at lb ck
  rw [hl] at asc ll
  have ln := norm_le b
  have e1 := length_applyR l b
  have nl := Lib.hid (norm_length b)
  go_enter Try.func13, Try.ntmps13
  go_wp2_with fail
  refine (fit_any raw h1 v0 _ l0).mono ?_
  rintro e w1 ⟨u1, rfl, m1, k1⟩
  rw [hb] at m1
  go_wp2_with fail
  refine (list_any ent h3 v1 _ (l1.keeps k1)).mono ?_
  rintro e w2 ⟨u2, rfl, m2, k2⟩
  rw [hl] at m2
  have K2 := k1.trans k2 (by simp)
  have m1 := m1.keeps k2
  go_wp2_with fail
  refine (applyL l b asc (by omega) u2 u1 _ m2 m1).mono ?_
  rintro e w3 ⟨u3, rfl, m3, k3⟩
  have m1 := m1.keeps k3
  go_wp2_with fail
  refine (normOk b ck u1 _ m1).mono ?_
  rintro e w4 ⟨u4, rfl, m4, k4⟩
  have m1 := m1.keeps k4
  have m3 := m3.keeps k4
  have K4 := (K2.trans k3 (by simp)).trans k4 (by simp)
  have M1 := m1
  clear hb hl m2 k1 k2 k3 k4 K2 l0 l1
  obtain ⟨A, cap, ba, oa, rfl, hA, har⟩ := m1
  obtain ⟨A', cap', bn, on, rfl, hA', har'⟩ := m4
  obtain ⟨n, hnn⟩ : ∃ n, b.length = n := ⟨_, rfl⟩
  obtain ⟨m, hmm⟩ : ∃ m, (norm b).length = m := ⟨_, rfl⟩
  have Hn := Lib.hid hnn
  have hmn : m = firsts b n := by rw [← hmm, nl.out, hnn]
  have hfle := firsts_le b
  rw [hnn] at hA M1 lb e1 ⊢
  rw [hmm] at hA' ⊢
  have Hmn := Lib.hid hmn
  clear hnn hmm hmn ln
  go_wp2_with fail
  go_loopw [10, 11] (fun c i wr => ∃ (k z : Nat), k ≤ n ∧ c = .int .i64 (firsts b k : Nat) ∧ i = .int .i64 k ∧ wr = w4.drewN z) (fun _ i _ => n - (intOf i).toNat)
  case atStart => exact ⟨0, 0, by omega, by simp [firsts], rfl, rfl⟩
  case round =>
    obtain ⟨k, z, hk, rfl, rfl, rfl⟩ := hrel
    by_cases hlt : k < n
    · obtain rfl := hA (by omega)
      obtain ⟨x, hx⟩ : ∃ x, b[k]? = some x := ⟨_, List.getElem?_eq_getElem (by rw [Hn.out]; exact hlt)⟩
      obtain ⟨c0, c1, c2, c3⟩ := har.wrt hx
      have E2 := Lib.hid (firsts_step b k x hx)
      have hfk := hfle k
      have hkn : (k : Int) < (n : Int) := by omega
      clear hx
      go_wp2_with fail
      go_loopw [12, 13] (fun d j wz => ∃ (i y : Nat), i ≤ k ∧ d = .bool (!((b.take i).any (fun y => decide (y.k = x.k)))) ∧ j = .int .i64 i ∧ wz = w4.drewN y) (fun _ j _ => k - (intOf j).toNat)
      case atStart => exact ⟨0, z, by omega, by simp, rfl, rfl⟩
      case round =>
        obtain ⟨i, z, hi, rfl, rfl, rfl⟩ := hrel
        by_cases hli : i < k
        · obtain ⟨y, hy⟩ : ∃ y, b[i]? = some y := ⟨_, List.getElem?_eq_getElem (by rw [Hn.out]; omega)⟩
          obtain ⟨d0, d1, d2, d3⟩ := har.wrt hy
          have hs := any_snoc b x.k i y hy
          have hin : (i : Int) < (n : Int) := by omega
          obtain ⟨t, ht⟩ : ∃ t, (b.take i).any (fun y => decide (y.k = x.k)) = t := ⟨_, rfl⟩
          rw [ht] at hs ⊢
          have Hs := Lib.hid hs
          clear hs ht hy
          cases t with
          | true =>
            simp only [Bool.not_true]
            go_wp2_with fail
            go_region
            go_wp2_with fail
            exact ⟨⟨i + 1, z + 1, by omega, by rw [Hs.out]; simp, by go_num, rfl⟩, by simp [intOf]; omega⟩
          | false =>
            simp only [Bool.not_false]
            by_cases hxy : y.k = x.k
            · have hb : (y.k == x.k) = true := by simpa using hxy
              have hd : decide (y.k = x.k) = true := by simpa using hxy
              have Hd := Lib.hid hd
              clear hxy hd
              go_wp2_with fail
              go_region
              go_wp2_with fail
              exact ⟨⟨i + 1, z + 1, by omega, by rw [Hs.out, Hd.out]; simp, by go_num, rfl⟩, by simp [intOf]; omega⟩
            · have hb : (y.k == x.k) = false := by simpa using hxy
              have hd : decide (y.k = x.k) = false := by simpa using hxy
              have Hd := Lib.hid hd
              clear hxy hd
              go_wp2_with fail
              go_region
              go_wp2_with fail
              exact ⟨⟨i + 1, z + 1, by omega, by rw [Hs.out, Hd.out]; simp, by go_num, rfl⟩, by simp [intOf]; omega⟩
        · obtain rfl : i = k := by omega
          have e2 := E2.out
          obtain ⟨t, ht⟩ : ∃ t, (b.take i).any (fun y => decide (y.k = x.k)) = t := ⟨_, rfl⟩
          rw [ht] at e2 ⊢
          clear ht
          cases t with
          | true =>
            simp only [Bool.not_true]
            have E3 : Hid (firsts b (i + 1) = firsts b i) := Lib.hid (by simpa using e2)
            clear e2
            go_wp2_with fail
            exact ⟨⟨i + 1, z, by omega, by rw [E3.out], by go_num, rfl⟩, by simp [intOf]; omega⟩
          | false =>
            simp only [Bool.not_false]
            have E3 : Hid (firsts b (i + 1) = firsts b i + 1) := Lib.hid (by simpa using e2)
            clear e2
            obtain ⟨f, hf⟩ : ∃ f, firsts b i = f := ⟨_, rfl⟩
            rw [hf] at hfk ⊢
            have Hf := Lib.hid hf
            clear hf
            go_wp2_with fail
            exact ⟨⟨i + 1, z, by omega, by rw [E3.out, Hf.out]; go_num, by go_num, rfl⟩, by simp [intOf]; omega⟩
    · obtain rfl : k = n := by omega
      rw [← Hmn.out]
      have kz := (Keeps.refl [] w4).drewN z
      have m1 := M1.keeps kz
      have m3 := m3.keeps kz
      have K5 := K4.trans kz (by simp)
      have tw := Lib.hid (applyR_twice b asc)
      have e2 := length_applyR (applyR l b) b
      rw [Hn.out] at e2
      have hself : ((m : Int) == (m : Int)) = true := by simp
      go_wp2_with fail
      refine (awake_any _).mono ?_
      rintro e w6 ⟨rfl, k6⟩
      go_wp2_with fail
      refine (applyL (applyR l b) b (asc_applyR b asc) (by rw [Hn.out]; omega) u3 _ _ (m3.keeps k6) (by rw [Hn.out]; exact m1.keeps k6)).mono ?_
      rintro e w7 ⟨u7, rfl, m7, k7⟩
      rw [tw.out] at m7
      go_wp2_with fail
      refine (sameEt (applyR l b) (by omega) u7 u3 _ m7 ((m3.keeps k6).keeps k7)).mono ?_
      rintro e w8 ⟨rfl, k8⟩
      go_wp2_with fail
      go_ret
      exact ⟨rfl, ((K5.trans k6 (by simp)).trans k7 (by simp)).trans k8 (by simp)⟩
end Go.Proofs.Ytnnpmpdlhojecaa
