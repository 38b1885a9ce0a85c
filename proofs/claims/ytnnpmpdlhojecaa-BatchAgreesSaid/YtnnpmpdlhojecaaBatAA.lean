/- The statement BatchAgrees: its walk. -/
import Derived.Test.YtnnpmpdlhojecaaBatY
namespace Go.Proofs.Ytnnpmpdlhojecaa
open Go.RowKit
set_option maxHeartbeats 2000000 in
set_option maxRecDepth 100000 in
theorem agrees_any (raw : List Wrt) (ent : List Ent) (h1 : raw.length ≤ 9223372036854775807) (h3 : ent.length ≤ 9223372036854775807) (v0 v1 : Value) (w : World) (l0 : Lst w v0 raw.length (wCs raw)) (l1 : Lst w v1 ent.length (eCs ent)) :
    Calls Try.prog 8 #[v0, v1] w fun e w' => e = .returned (.bool true) ∧ Keeps [] w w' := by
  have L0 := l0
  obtain ⟨A, cap, ba, oa, rfl, hA, har⟩ := l0
  obtain ⟨n, hnn⟩ : ∃ n, raw.length = n := ⟨_, rfl⟩
  rw [hnn] at hA h1 L0 ⊢
  have Hn := Lib.hid hnn
  by_cases h40 : 40 < n
  · clear hnn
    go_enter Try.func8, Try.ntmps8
    go_wp2_with fail
    refine (awake_any _).mono ?_
    rintro e w1 ⟨rfl, k1⟩
    go_wp2_with fail
    go_ret
    exact ⟨rfl, k1⟩
  · have asc := asc_listR ent
    have ll := length_listR ent
    have lb := fitL_len raw
    obtain ⟨l, hl⟩ : ∃ l, listR ent = l := ⟨_, rfl⟩
    rw [hl] at asc ll
    clear hnn
    go_enter Try.func8, Try.ntmps8
    go_wp2_with fail
    refine (list_any ent h3 v1 _ l1).mono ?_
    rintro e w1 ⟨u1, rfl, m1, k1⟩
    rw [hl] at m1
    go_wp2_with fail
    refine (fit_any raw (by rw [Hn.out]; exact h1) _ _ (by rw [Hn.out]; exact L0.keeps k1)).mono ?_
    rintro e w2 ⟨u2, rfl, m2, k2⟩
    obtain ⟨A2, cap2, b2, o2, rfl, hA2, har2⟩ := id m2
    have kb := (Keeps.refl [] w2).alloc (.cells #[.slice A n cap, .slice A2 (fitL raw).length cap2] 28)
    have hbb : Blk (w2.alloc (.cells #[.slice A n cap, .slice A2 (fitL raw).length cap2] 28)) w2.heap.size [.slice A n cap, .slice A2 (fitL raw).length cap2] := Blk.new w2 [.slice A n cap, .slice A2 (fitL raw).length cap2] 28
    have K2 := k1.trans k2 (by simp)
    have hsel : ∀ k : Nat, k < 2 → ∃ (b : List Wrt) (m : Nat) (B : Option Addr) (bc : Nat), [Value.slice A n cap, .slice A2 (fitL raw).length cap2][k]? = some (.slice B m bc) ∧ b.length = m ∧ m ≤ 40 ∧ Lst w2 (.slice B m bc) m (wCs b) := by
      intro k hk
      match k, hk with
      | 0, _ => exact ⟨raw, n, A, cap, rfl, Hn.out, by omega, (L0.keeps k1).keeps k2⟩
      | 1, _ => exact ⟨fitL raw, _, A2, cap2, rfl, rfl, by omega, m2⟩
    have Hsel := Lib.hid hsel
    have m1 := m1.keeps k2
    clear hsel hA hA2 har har2 L0 m2
    have kk := K2.trans kb (by simp)
    go_wp2_with fail
    go_loopw [23] (fun i wr => ∃ (k : Nat), k ≤ 2 ∧ i = .int .i64 k ∧ Keeps [] w2 wr ∧ Blk wr w2.heap.size [.slice A n cap, .slice A2 (fitL raw).length cap2]) (fun i _ => 2 - (intOf i).toNat)
    case atStart => exact ⟨0, by omega, rfl, kb, hbb⟩
    case round =>
      obtain ⟨k, hk, rfl, hkp, hbk⟩ := hrel
      by_cases hlt : k < 2
      · obtain ⟨b, m, B, bc, hcell, hbm, hm40, hlb⟩ := Hsel.out k hlt
        have hc0 := (hbk.cell k).trans hcell
        have hbl := hbk.lt
        have hk2 : (k : Int) < 2 := by omega
        have hbv := hlb.keeps hkp
        have m1 := m1.keeps hkp
        have Hbm := Lib.hid hbm
        have e1 := length_applyR l b
        rw [hbm] at e1
        have hbn := norm_le b
        rw [hbm] at hbn
        have hnz := normalize_any b (by omega) _ _ (by rw [hbm]; exact hbv)
        obtain ⟨c, hc⟩ : ∃ c, checkR 8 1 b = c := ⟨_, rfl⟩
        have Hc := Lib.hid hc
        have hself : (c != c) = false := by simp
        rw [hc] at hnz
        clear hbm hcell hc
        go_wp2_with fail
        refine hnz.mono ?_
        rintro e w3 ⟨u3, rfl, m3, k3⟩
        have hbv3 := hbv.keeps k3
        go_wp2_with fail
        refine (refCheck_any b (by rw [Hbm.out]; omega) _ _ (by rw [Hbm.out]; exact hbv3)).mono ?_
        rintro e w4 ⟨rfl, k4⟩
        rw [Hc.out]
        have hbv4 := hbv3.keeps k4
        go_wp2_with fail
        refine (check_any b (by rw [Hbm.out]; omega) _ _ (by rw [Hbm.out]; exact hbv4)).mono ?_
        rintro e w5 ⟨rfl, k5⟩
        rw [Hc.out]
        have hbv5 := hbv4.keeps k5
        have k35 := (k3.trans k4 (by simp)).trans k5 (by simp)
        have m1 := m1.keeps k35
        go_wp2_with fail
        refine (applyL l b asc (by rw [Hbm.out]; omega) u1 _ _ m1 (by rw [Hbm.out]; exact hbv5)).mono ?_
        rintro e w6 ⟨u6, rfl, m6, k6⟩
        have hbv6 := hbv5.keeps k6
        go_wp2_with fail
        refine (refApply_any l b (by rw [Hbm.out]; omega) u1 _ _ (m1.keeps k6) (by rw [Hbm.out]; exact hbv6)).mono ?_
        rintro e w7 ⟨u7, rfl, m7, k7⟩
        have hbv7 := hbv6.keeps k7
        go_wp2_with fail
        refine (sameEt (applyR l b) (by omega) u6 u7 _ (m6.keeps k7) m7).mono ?_
        rintro e w8 ⟨rfl, k8⟩
        have hbv8 := hbv7.keeps k8
        have k38 := ((k35.trans k6 (by simp)).trans k7 (by simp)).trans k8 (by simp)
        have M8 := (((((m3.keeps k4).keeps k5).keeps k6).keeps k7).keeps k8)
        clear m3 k3 k4 k5 k6 k7 k8 k35 hbv3 hbv4 hbv5 hbv6 hbv7 m6 m7 hnz
        by_cases hc0' : c = 0
        · subst hc0'
          simp only [if_true] at M8
          go_wp2_with fail
          refine (refNorm_any b (by rw [Hbm.out]; omega) _ _ (by rw [Hbm.out]; exact hbv8)).mono ?_
          rintro e w9 ⟨u9, rfl, m9, k9⟩
          have M9 := M8.keeps k9
          have hbv9 := hbv8.keeps k9
          go_wp2_with fail
          refine (sameW_any (norm b) (norm b) (by omega) (by omega) u3 u9 _ M9 m9).mono ?_
          rintro e w10 ⟨r, rfl, hr, k10⟩
          obtain rfl : r = true := by simpa using hr
          have m9 := m9.keeps k10
          have hbv10 := hbv9.keeps k10
          go_wp2_with fail
          refine (normal_any b (by rw [Hbm.out]; omega) _ _ (by rw [Hbm.out]; exact hbv10)).mono ?_
          rintro e w11 ⟨r, rfl, hr, k11⟩
          have m9 := m9.keeps k11
          have hbv11 := hbv10.keeps k11
          go_wp2_with fail
          refine (sameW_any b (norm b) (by rw [Hbm.out]; omega) (by omega) _ u9 _ (by rw [Hbm.out]; exact hbv11) m9).mono ?_
          rintro e w12 ⟨r2, rfl, hr2, k12⟩
          have hrr : r = r2 := by
            have h1 := Hc.out
            rw [h1] at hr
            have h2 : r = true ↔ r2 = true := hr.trans (by rw [hr2]; simp [eq_comm])
            cases r <;> cases r2 <;> simp_all
          subst hrr
          have hrb : (r != r) = false := by simp
          have kE := (((k38.trans k9 (by simp)).trans k10 (by simp)).trans k11 (by simp)).trans k12 (by simp)
          go_wp2_with fail
          exact ⟨⟨k + 1, by omega, by go_num, hkp.trans kE (by simp), kE.blk hbk (by simp)⟩, by simp [intOf]; omega⟩
        · rw [if_neg hc0'] at M8
          have hcb : (c == 0) = false := by simpa using hc0'
          go_wp2_with fail
          refine (sameW_any [] [] (by simp) (by simp) u3 _ _ M8 (Lst.nil _)).mono ?_
          rintro e w10 ⟨r, rfl, hr, k10⟩
          obtain rfl : r = true := by simpa using hr
          have hbv10 := hbv8.keeps k10
          go_wp2_with fail
          refine (normal_any b (by rw [Hbm.out]; omega) _ _ (by rw [Hbm.out]; exact hbv10)).mono ?_
          rintro e w11 ⟨r, rfl, hr, k11⟩
          have hrf : r = false := by
            cases r with
            | false => rfl
            | true => exact absurd ((hr.1 rfl).1) (by rw [Hc.out]; exact hc0')
          subst hrf
          have kE := (k38.trans k10 (by simp)).trans k11 (by simp)
          clear hr hbv10 M8 hbv8 hbn e1
          go_wp2_with fail
          exact ⟨⟨k + 1, by omega, by go_num, hkp.trans kE (by simp), kE.blk hbk (by simp)⟩, by simp [intOf]; omega⟩
      · obtain rfl : k = 2 := by omega
        go_wp2_with fail
        refine (awake_any _).mono ?_
        rintro e w3 ⟨rfl, k3⟩
        go_wp2_with fail
        go_ret
        exact ⟨rfl, (K2.trans hkp (by simp)).trans k3 (by simp)⟩
end Go.Proofs.Ytnnpmpdlhojecaa
