/- The statements BatchNormalForm and BatchesCommute: their walks. -/
import Derived.Test.YtnnpmpdlhojecaaBatV
namespace Go.Proofs.Ytnnpmpdlhojecaa
open Go.RowKit
/-- The writes of b whose key is not among those of a. -/
def others (a b : List Wrt) : List Wrt := b.filter fun y => !(a.any fun x => decide (x.k = y.k))
theorem others_snoc (a b : List Wrt) (k : Nat) (y : Wrt) (h : b[k]? = some y) : others a (b.take (k + 1)) = others a (b.take k) ++ (if (a.any fun x => decide (x.k = y.k)) then [] else [y]) := by
  rw [List.take_add_one, h]
  unfold others
  rw [List.filter_append]
  cases hh : a.any fun x => decide (x.k = y.k) <;> simp [hh]
theorem others_apart (a b : List Wrt) : ∀ x ∈ a, ∀ y ∈ others a b, x.k ≠ y.k := by
  intro x hx y hy e
  have h := (List.mem_filter.1 hy).2
  simp only [Bool.not_eq_true', List.any_eq_false, decide_eq_true_eq] at h
  exact h x hx e
theorem others_len (a b : List Wrt) : (others a b).length ≤ b.length := List.length_filter_le _ _
theorem any_snoc (a : List Wrt) (s : Str) (j : Nat) (x : Wrt) (h : a[j]? = some x) : (a.take (j + 1)).any (fun x => decide (x.k = s)) = ((a.take j).any (fun x => decide (x.k = s)) || decide (x.k = s)) := by
  rw [List.take_add_one, h, List.any_append]; simp
set_option maxHeartbeats 2000000 in
set_option maxRecDepth 100000 in
theorem commute_any (raw other : List Wrt) (ent : List Ent) (h1 : raw.length ≤ 9223372036854775807) (h2 : other.length ≤ 9223372036854775807) (h3 : ent.length ≤ 9223372036854775807) (v0 v1 v2 : Value) (w : World) (l0 : Lst w v0 raw.length (wCs raw)) (l1 : Lst w v1 other.length (wCs other)) (l2 : Lst w v2 ent.length (eCs ent)) :
    Calls Try.prog 12 #[v0, v1, v2] w fun e w' => e = .returned (.bool true) ∧ Keeps [] w w' := by
  have asc := asc_listR ent
  have ll := length_listR ent
  obtain ⟨l, hl⟩ : ∃ l, listR ent = l := ⟨_, rfl⟩
  obtain ⟨a, ha⟩ : ∃ a, fitL raw = a := ⟨_, rfl⟩
  obtain ⟨b, hb⟩ : ∃ b, fitL other = b := ⟨_, rfl⟩
  have la := fitL_len raw
  have lb := fitL_len other
  rw [ha] at la
  rw [hb] at lb
  rw [hl] at asc ll
  go_enter Try.func12, Try.ntmps12
  go_wp2_with fail
  refine (fit_any raw h1 v0 _ l0).mono ?_
  rintro e w1 ⟨u1, rfl, m1, k1⟩
  rw [ha] at m1
  go_wp2_with fail
  refine (list_any ent h3 v2 _ (l2.keeps k1)).mono ?_
  rintro e w2 ⟨u2, rfl, m2, k2⟩
  rw [hl] at m2
  go_wp2_with fail
  refine (fit_any other h2 v1 _ ((l1.keeps k1).keeps k2)).mono ?_
  rintro e w3 ⟨u3, rfl, m3, k3⟩
  rw [hb] at m3
  have K3 := (k1.trans k2 (by simp)).trans k3 (by simp)
  have m1 := (m1.keeps k2).keeps k3
  have m2 := m2.keeps k3
  clear l0 l1 l2 k1 k2 k3 ha hb hl
  have M1 := m1
  obtain ⟨A, cap, ba, oa, rfl, hA, har⟩ := m1
  obtain ⟨A', cap', bb, ob, rfl, hA', har'⟩ := m3
  obtain ⟨n, hnn⟩ : ∃ n, a.length = n := ⟨_, rfl⟩
  obtain ⟨m, hmm⟩ : ∃ m, b.length = m := ⟨_, rfl⟩
  rw [hnn] at hA la M1 ⊢
  rw [hmm] at hA' lb ⊢
  have Hn := Lib.hid hnn
  have Hm := Lib.hid hmm
  clear hnn hmm
  go_wp2_with fail
  go_loopw [9, 21] (fun v i wr => ∃ (k : Nat), k ≤ m ∧ i = .int .i64 k ∧ OwnW wr w3.heap.size v (others a (b.take k)) ∧ Keeps [] w3 wr) (fun _ i _ => m - (intOf i).toNat)
  case atStart => exact ⟨0, by omega, rfl, by simpa [others] using OwnW.nil w3 w3.heap.size, Keeps.refl _ _⟩
  case round =>
    obtain ⟨k, hk, rfl, ho, hkp⟩ := hrel
    by_cases hlt : k < m
    · obtain rfl := hA' (by omega)
      obtain ⟨y, hy⟩ : ∃ y, b[k]? = some y := ⟨_, List.getElem?_eq_getElem (by rw [Hm.out]; exact hlt)⟩
      obtain ⟨c0, c1, c2, c3⟩ := (har'.keeps hkp (by simp)).wrt hy
      have E2 := Lib.hid (others_snoc a b k y hy)
      have hlo := others_len a (b.take k)
      rw [List.length_take] at hlo
      have hsz := hkp.size
      obtain ⟨wo, hwo⟩ : ∃ wo, wo = wr := ⟨_, rfl⟩
      have hbx : Blk (wr.alloc (.cells #[.string ⟨y.k.toArray⟩, .string ⟨y.v.toArray⟩, .bool y.d] 57)) wr.heap.size (wC y) := Blk.new wr [.string ⟨y.k.toArray⟩, .string ⟨y.v.toArray⟩, .bool y.d] 57
      have kx := (Keeps.refl [] wr).alloc (.cells #[.string ⟨y.k.toArray⟩, .string ⟨y.v.toArray⟩, .bool y.d] 57)
      go_wp2_with fail
      obtain ⟨wx, hwx⟩ : ∃ wx, wx = wr.alloc (.cells #[.string ⟨y.k.toArray⟩, .string ⟨y.v.toArray⟩, .bool y.d] 57) := ⟨_, rfl⟩
      rw [← hwx] at hbx kx ⊢
      have hox := ho.keeps kx
      have Kx := hkp.trans kx (by simp)
      have harx := har.keeps Kx (by simp)
      clear hwx hwo ho c0 c1 c2 c3
      go_loopw [12, 13] (fun d j wz => ∃ (i z : Nat), i ≤ n ∧ d = .bool ((a.take i).any (fun x => decide (x.k = y.k))) ∧ j = .int .i64 i ∧ wz = wx.drewN z) (fun _ j _ => n - (intOf j).toNat)
      case atStart => exact ⟨0, 0, by omega, by simp, rfl, rfl⟩
      case round =>
        obtain ⟨i, z, hi, rfl, rfl, rfl⟩ := hrel
        by_cases hli : i < n
        · obtain rfl := hA (by omega)
          obtain ⟨x, hx⟩ : ∃ x, a[i]? = some x := ⟨_, List.getElem?_eq_getElem (by rw [Hn.out]; exact hli)⟩
          obtain ⟨c0, c1, c2, c3⟩ := harx.wrt hx
          obtain ⟨d0, d1, d2, d3, d4⟩ := hbx.o3
          have hs := any_snoc a y.k i x hx
          obtain ⟨t, ht⟩ : ∃ t, (a.take i).any (fun x => decide (x.k = y.k)) = t := ⟨_, rfl⟩
          rw [ht] at hs ⊢
          have Hs := Lib.hid hs
          clear hs ht hx
          cases t with
          | true =>
            go_wp2_with fail
            go_region
            go_wp2_with fail
            exact ⟨⟨i + 1, z + 1, by omega, by rw [Hs.out]; simp, by go_num, rfl⟩, by simp [intOf]; omega⟩
          | false =>
            by_cases hxy : x.k = y.k
            · have hb : (x.k == y.k) = true := by simpa using hxy
              have hd : decide (x.k = y.k) = true := by simpa using hxy
              have Hd := Lib.hid hd
              clear hxy hd
              go_wp2_with fail
              go_region
              go_wp2_with fail
              exact ⟨⟨i + 1, z + 1, by omega, by rw [Hs.out, Hd.out]; simp, by go_num, rfl⟩, by simp [intOf]; omega⟩
            · have hb : (x.k == y.k) = false := by simpa using hxy
              have hd : decide (x.k = y.k) = false := by simpa using hxy
              have Hd := Lib.hid hd
              clear hxy hd
              go_wp2_with fail
              go_region
              go_wp2_with fail
              exact ⟨⟨i + 1, z + 1, by omega, by rw [Hs.out, Hd.out]; simp, by go_num, rfl⟩, by simp [intOf]; omega⟩
        · obtain rfl : i = n := by omega
          have ht : (a.take i).any (fun x => decide (x.k = y.k)) = a.any (fun x => decide (x.k = y.k)) := by rw [List.take_of_length_le (by rw [Hn.out]; omega)]
          rw [ht]
          have e2 := E2.out
          clear ht
          obtain ⟨t, ht⟩ : ∃ t, a.any (fun x => decide (x.k = y.k)) = t := ⟨_, rfl⟩
          rw [ht] at e2 ⊢
          clear ht
          have kz := (Keeps.refl [] wx).drewN z
          have hoz := hox.keeps kz
          have Kz := Kx.trans kz (by simp)
          cases t with
          | true =>
            have E3 : Hid (others a (b.take (k + 1)) = others a (b.take k)) := Lib.hid (by simpa using e2)
            clear e2
            go_wp2_with fail
            exact ⟨⟨k + 1, by omega, by go_num, by rw [E3.out]; exact hoz, Kz⟩, by simp [intOf]; omega⟩
          | false =>
            have E3 : Hid (others a (b.take (k + 1)) = others a (b.take k) ++ [y]) := Lib.hid (by simpa using e2)
            obtain ⟨d0, d1, d2, d3, d4⟩ := hbx.o3
            have hsx : w3.heap.size ≤ wx.heap.size := by omega
            obtain ⟨v', w5, hr, ho5, k5, _⟩ := appendW (wb := w3) (W := wx.drewN z) hoz (by omega) y Kz (Nat.le_refl _) hsx
            clear e2
            go_wp2_with (at_builtin; refine list_append_eq rfl _ _ 28 28 rfl _ _ rfl rfl hr ?_)
            exact ⟨⟨k + 1, by omega, by go_num, by rw [E3.out]; exact ho5, k5⟩, by simp [intOf]; omega⟩
    · obtain rfl : k = m := by omega
      rw [List.take_of_length_le (by rw [Hm.out]; omega)] at ho
      have hap := others_apart a b
      have hcl := others_len a b
      rw [Hm.out] at hcl
      obtain ⟨c, hc⟩ : ∃ c, others a b = c := ⟨_, rfl⟩
      rw [hc] at ho hap hcl
      have m1 := M1.keeps hkp
      rw [← Hn.out] at m1 la
      have m2 := m2.keeps hkp
      have m4 := ho.lst
      have e1 := length_applyR l a
      have e2 := length_applyR (applyR l a) c
      have e3 := length_applyR l c
      have K4 := K3.trans hkp (by simp)
      have hco := Lib.hid (applyR_commute a c asc hap)
      go_wp2_with fail
      refine (awake_any _).mono ?_
      rintro e w6 ⟨rfl, k6⟩
      have m1 := m1.keeps k6
      have m2 := m2.keeps k6
      have m4 := m4.keeps k6
      have K6 := K4.trans k6 (by simp)
      go_wp2_with fail
      refine (applyL l a asc (by omega) u2 _ _ m2 (by rw [← Hn.out]; exact m1)).mono ?_
      rintro e w7 ⟨u7, rfl, m7, k7⟩
      go_wp2_with fail
      refine (applyL (applyR l a) c (asc_applyR a asc) (by omega) u7 _ _ m7 (m4.keeps k7)).mono ?_
      rintro e w8 ⟨u8, rfl, m8, k8⟩
      go_wp2_with fail
      refine (applyL l c asc (by omega) u2 _ _ ((m2.keeps k7).keeps k8) ((m4.keeps k7).keeps k8)).mono ?_
      rintro e w9 ⟨u9, rfl, m9, k9⟩
      go_wp2_with fail
      refine (applyL (applyR l c) a (asc_applyR c asc) (by omega) u9 _ _ m9 (by rw [← Hn.out]; exact ((m1.keeps k7).keeps k8).keeps k9)).mono ?_
      rintro e w10 ⟨u10, rfl, m10, k10⟩
      rw [← hco.out] at m10
      go_wp2_with fail
      refine (sameEt (applyR (applyR l a) c) (by omega) u8 u10 _ ((m8.keeps k9).keeps k10) m10).mono ?_
      rintro e w11 ⟨rfl, k11⟩
      go_wp2_with fail
      go_ret
      exact ⟨rfl, ((((K6.trans k7 (by simp)).trans k8 (by simp)).trans k9 (by simp)).trans k10 (by simp)).trans k11 (by simp)⟩
end Go.Proofs.Ytnnpmpdlhojecaa
