/- The contracts of Watermark, snap, Raise and List of the reference's world. -/
import Derived.Test.YtnnpmpdlhojecaaModO
namespace Go.Proofs.Ytnnpmpdlhojecaa
open Go.RowKit Go.Maps
variable {w w' : World} {Q : List Nat} {ww : Nat} {bv sv : Value} {vs : List Value} {Bs : List (List Wrt)} {F : Nat} {Ss : List (Nat × Nat)}
theorem Row.at3 {w : World} {v : Value} {l : List (Nat × Nat)} (h : Row w v l.length 3 (nCs l)) {i : Nat} {p : Nat × Nat} (hp : l[i]? = some p) :
    ∃ g cap, v = .slice (some ⟨g, 0, none⟩) l.length cap ∧ w.cell? ⟨g, i * 3, none⟩ = some (.int .i64 ((p.1 / 2 : Nat) : Int)) ∧ w.cell? ⟨g, i * 3 + 1, none⟩ = some (.int .i64 ((p.1 % 2 : Nat) : Int)) ∧ w.cell? ⟨g, i * 3 + 2, none⟩ = some (.int .u64 (p.2 : Int)) ∧ g < w.heap.size := by
  have hi := (List.getElem?_eq_some_iff.1 hp).1
  obtain ⟨h1, ⟨rfl, h0⟩ | ⟨g, cap, rest, rfl, hb, h2, h3, h4⟩⟩ := h
  · omega
  · refine ⟨g, cap, rfl, ?_, ?_, ?_, hb.lt⟩
    · rw [hb.cell]; exact nCs_cells l rest i p hp 0 (by omega)
    · rw [hb.cell]; exact nCs_cells l rest i p hp 1 (by omega)
    · rw [hb.cell]; exact nCs_cells l rest i p hp 2 (by omega)
def minS (Ss : List (Nat × Nat)) (n : Nat) : Nat := Ss.foldl (fun a p => min a p.2) n
theorem minS_snoc (Ss : List (Nat × Nat)) (n k : Nat) (p : Nat × Nat) (h : Ss[k]? = some p) : minS (Ss.take (k + 1)) n = min (minS (Ss.take k) n) p.2 := by
  unfold minS
  rw [List.take_add_one, h, List.foldl_append]
  rfl
set_option maxHeartbeats 1000000 in
set_option maxRecDepth 100000 in
theorem wwm_any (h : WR w Q ww bv vs Bs F sv Ss) (hn : Bs.length ≤ 4096) (hs : Ss.length ≤ 4096) :
    Calls Try.prog 55 #[.pointer (some ⟨ww, 0, none⟩)] w fun e w' => e = .returned (.int .u64 ((minS Ss Bs.length : Nat) : Int)) ∧ ∃ z, w' = w.drewN z := by
  have ht := wtime_any h hn
  obtain ⟨d0, d1, d2, d3, d4, d5⟩ := h.hw.o4
  obtain ⟨A, cap, rfl⟩ := h.hs.len
  have H := Lib.hid h
  obtain ⟨n, hn'⟩ : ∃ n, Bs.length = n := ⟨_, rfl⟩
  obtain ⟨q, hq⟩ : ∃ q, Ss.length = q := ⟨_, rfl⟩
  rw [hq] at hs d2
  rw [hn'] at ht ⊢
  have Hq := Lib.hid hq
  clear h hn hn' hq
  go_enter Try.func55, Try.ntmps55
  go_wp2_with fail
  refine ht.mono ?_
  rintro e w1 ⟨rfl, rfl⟩
  go_wp2_with fail
  go_loopw [3, 4] (fun l i wr => ∃ (k z : Nat), k ≤ q ∧ l = .int .u64 ((minS (Ss.take k) n : Nat) : Int) ∧ i = .int .i64 k ∧ wr = w1.drewN z) (fun _ i _ => q - (intOf i).toNat)
  case atStart => exact ⟨0, 0, by omega, by simp [minS], rfl, rfl⟩
  case round =>
    obtain ⟨k, z, hk, rfl, rfl, rfl⟩ := hrel
    by_cases hlt : k < q
    · obtain ⟨p, hp⟩ : ∃ p, Ss[k]? = some p := ⟨_, List.getElem?_eq_getElem (by rw [Hq.out]; exact hlt)⟩
      obtain ⟨g, cap', hv, c0, c1, c2, hg⟩ := H.out.hs.at3 hp
      rw [Hq.out] at hv
      injection hv with hA _ hcap
      subst hA
      have hsn := minS_snoc Ss n k p hp
      obtain ⟨x, hx⟩ : ∃ x, minS (Ss.take k) n = x := ⟨_, rfl⟩
      rw [hx] at hsn ⊢
      have Hsn := Lib.hid hsn
      have hkq : (k : Int) < (q : Int) := by omega
      have hmin : min (x : Int) (p.2 : Int) = ((min x p.2 : Nat) : Int) := by omega
      clear hsn hx hp c0 c1
      go_wp2_with fail
      exact ⟨⟨k + 1, z, by omega, by rw [Hsn.out], by go_num, rfl⟩, by simp [intOf]; omega⟩
    · obtain rfl : k = q := by omega
      have e : Ss.take k = Ss := List.take_of_length_le (by rw [Hq.out]; omega)
      rw [e]
      go_wp2_with fail
      go_ret
      exact ⟨rfl, z, rfl⟩
/-- Where the snapshot of number i lies. -/
def SnapAt (Ss : List (Nat × Nat)) (i : Nat) (r : Int) : Prop := (r = -1 ∧ ∀ p ∈ Ss, p.1 ≠ i) ∨ ∃ (k : Nat) (p : Nat × Nat), r = k ∧ Ss[k]? = some p ∧ p.1 = i
set_option maxHeartbeats 1000000 in
set_option maxRecDepth 100000 in
theorem wsnap_any (h : WR w Q ww bv vs Bs F sv Ss) (hs : Ss.length ≤ 4096) (t j : Nat) (hj : j < 2) :
    Calls Try.prog 54 #[.pointer (some ⟨ww, 0, none⟩), .int .i64 (t : Int), .int .i64 (j : Int)] w fun e w' => ∃ r : Int, e = .returned (.int .i64 r) ∧ SnapAt Ss (2 * t + j) r ∧ ∃ z, w' = w.drewN z := by
  obtain ⟨d0, d1, d2, d3, d4, d5⟩ := h.hw.o4
  obtain ⟨A, cap, rfl⟩ := h.hs.len
  have H := Lib.hid h
  obtain ⟨q, hq⟩ : ∃ q, Ss.length = q := ⟨_, rfl⟩
  rw [hq] at hs d2
  have Hq := Lib.hid hq
  clear h hq
  go_enter Try.func54, Try.ntmps54
  go_wp2_with fail
  go_loopw [7] (fun i wr => ∃ (k z : Nat), k ≤ q ∧ i = .int .i64 k ∧ Hid (∀ p ∈ Ss.take k, p.1 ≠ 2 * t + j) ∧ wr = w.drewN z) (fun i _ => q - (intOf i).toNat)
  case atStart => exact ⟨0, 0, by omega, rfl, Lib.hid (by simp), rfl⟩
  case round =>
    obtain ⟨k, z, hk, rfl, hno, rfl⟩ := hrel
    by_cases hlt : k < q
    · obtain ⟨p, hp⟩ : ∃ p, Ss[k]? = some p := ⟨_, List.getElem?_eq_getElem (by rw [Hq.out]; exact hlt)⟩
      obtain ⟨g, cap', hv, c0, c1, c2, hg⟩ := H.out.hs.at3 hp
      rw [Hq.out] at hv
      injection hv with hA _ hcap
      subst hA
      have hkq : (k : Int) < (q : Int) := by omega
      have Hp := Lib.hid hp
      obtain ⟨x, hx⟩ : ∃ x, p.1 / 2 = x := ⟨_, rfl⟩
      obtain ⟨y, hy⟩ : ∃ y, p.1 % 2 = y := ⟨_, rfl⟩
      rw [hx] at c0
      rw [hy] at c1
      have Hxy : Hid (p.1 = 2 * x + y ∧ y < 2) := Lib.hid (by omega)
      clear hp c2 hx hy
      by_cases h1 : x = t
      · have b1 : (((x : Nat) : Int) == (t : Int)) = true := by rw [beq_iff_eq]; omega
        by_cases h2 : y = j
        · have b2 : (((y : Nat) : Int) == (j : Int)) = true := by rw [beq_iff_eq]; omega
          have hpe : p.1 = 2 * t + j := by have := Hxy.out; omega
          have Hpe := Lib.hid hpe
          clear h1 h2 hpe
          go_wp2_with fail
          go_ret
          exact ⟨_, rfl, .inr ⟨k, p, rfl, Hp.out, Hpe.out⟩, _, rfl⟩
        · have b2 : (((y : Nat) : Int) == (j : Int)) = false := by rw [beq_eq_false_iff_ne]; omega
          have hpe : p.1 ≠ 2 * t + j := by have := Hxy.out; omega
          have Hpe := Lib.hid hpe
          clear h1 h2 hpe
          go_wp2_with fail
          refine ⟨⟨k + 1, _, by omega, by go_num, Lib.hid fun x hx => ?_, rfl⟩, by simp [intOf]; omega⟩
          rw [List.take_add_one, Hp.out] at hx
          rcases List.mem_append.1 hx with hx | hx
          · exact hno.out x hx
          · simp at hx; subst hx; exact Hpe.out
      · have b1 : (((x : Nat) : Int) == (t : Int)) = false := by rw [beq_eq_false_iff_ne]; omega
        have hpe : p.1 ≠ 2 * t + j := by have := Hxy.out; omega
        have Hpe := Lib.hid hpe
        clear h1 hpe
        go_wp2_with fail
        refine ⟨⟨k + 1, _, by omega, by go_num, Lib.hid fun x hx => ?_, rfl⟩, by simp [intOf]; omega⟩
        rw [List.take_add_one, Hp.out] at hx
        rcases List.mem_append.1 hx with hx | hx
        · exact hno.out x hx
        · simp at hx; subst hx; exact Hpe.out
    · obtain rfl : k = q := by omega
      have e := hno.out
      rw [List.take_of_length_le (by rw [Hq.out]; omega)] at e
      have He := Lib.hid e
      clear e hno
      go_wp2_with fail
      go_ret
      exact ⟨-1, rfl, .inl ⟨rfl, He.out⟩, z, rfl⟩
theorem WR.setFloor (h : WR w Q ww bv vs Bs F sv Ss) (F' : Nat) : WR (w.setCell ⟨ww, 1, none⟩ (.int .u64 (F' : Int))) Q ww bv vs Bs F' sv Ss := by
  have kk : Keeps [ww] w (w.setCell ⟨ww, 1, none⟩ (.int .u64 (F' : Int))) := (Keeps.refl [ww] w).setCell _ _ (.inl (by simp))
  exact ⟨h.hw.set 1 _, h.hb.keeps kk (fun g hg => by simpa using (h.hq.2 g (.inl hg)).2), fun i v b h1 h2 => ⟨(h.he i v b h1 h2).1.keeps kk (fun g hg => by simpa using ((h.he i v b h1 h2).2 g hg).1), (h.he i v b h1 h2).2⟩,
    h.hs.keeps kk (fun g hg => by simpa using (h.hq.2 g (.inr hg)).2), h.hq, h.hd⟩
set_option maxHeartbeats 1000000 in
set_option maxRecDepth 100000 in
theorem wraise_any (h : WR w Q ww bv vs Bs F sv Ss) (hn : Bs.length ≤ 4096) (hs : Ss.length ≤ 4096) (T : Nat) :
    Calls Try.prog 32 #[.pointer (some ⟨ww, 0, none⟩), .int .u64 (T : Int)] w fun e w' => e = .returned (.bool (decide (T ≤ minS Ss Bs.length))) ∧ WR w' Q ww bv vs Bs (if T ≤ minS Ss Bs.length then max F T else F) sv Ss ∧ Keeps [ww] w w' := by
  have hw := wwm_any h hn hs
  obtain ⟨M, hM⟩ : ∃ M, minS Ss Bs.length = M := ⟨_, rfl⟩
  rw [hM] at hw ⊢
  have H := Lib.hid h
  clear hM h
  by_cases hT : T ≤ M
  · rw [if_pos hT, decide_eq_true hT]
    go_enter Try.func32, Try.ntmps32
    go_wp2_with fail
    refine hw.mono ?_
    rintro e w1 ⟨rfl, z, rfl⟩
    have kz := (Keeps.refl [] w).drewN z
    have h1 := H.out.keeps kz
    obtain ⟨d0, d1, d2, d3, d4, d5⟩ := h1.hw.o4
    have hT2 : ¬ (M : Int) < (T : Int) := by omega
    have hmx : max (F : Int) (T : Int) = ((max F T : Nat) : Int) := by omega
    have K1 : Keeps [ww] w ((w.drewN z).setCell ⟨ww, 1, none⟩ (.int .u64 ((max F T : Nat) : Int))) := (kz.mono (by simp)).setCell _ _ (.inl (by simp))
    have h2 := h1.setFloor (max F T)
    clear hT
    go_wp2_with fail
    go_ret
    exact ⟨rfl, h2, K1⟩
  · rw [if_neg hT, decide_eq_false hT]
    go_enter Try.func32, Try.ntmps32
    go_wp2_with fail
    refine hw.mono ?_
    rintro e w1 ⟨rfl, z, rfl⟩
    have kz := (Keeps.refl [] w).drewN z
    have hT2 : (M : Int) < (T : Int) := by omega
    clear hT
    go_wp2_with fail
    go_ret
    exact ⟨rfl, H.out.keeps kz, kz.mono (by simp)⟩
/-- The states that the batches lead through. -/
def Pre (St : List (List Ent)) (Bs : List (List Wrt)) : Prop :=
  St.length = Bs.length + 1 ∧ St[0]? = some [] ∧ ∀ (i : Nat) (l : List Ent) (b : List Wrt), St[i]? = some l → Bs[i]? = some b → St[i + 1]? = some (applyR l b)
set_option maxHeartbeats 1000000 in
set_option maxRecDepth 100000 in
theorem wlist_any (h : WR w Q ww bv vs Bs F sv Ss) (hn : Bs.length ≤ 200) (St : List (List Ent)) (hP : Pre St Bs) (hl : ∀ l ∈ St, l.length ≤ 3000) (hb5 : ∀ b ∈ Bs, b.length ≤ 5) (T : Nat) (hT : T ≤ 18446744073709551615) :
    Calls Try.prog 56 #[.pointer (some ⟨ww, 0, none⟩), .int .u64 (T : Int)] w fun e w' => ∃ v l, e = .returned v ∧ St[pick St T]? = some l ∧ Lst w' v l.length (eCs l) ∧ Keeps [] w w' := by
  obtain ⟨A, cap, rfl⟩ := h.hb.len
  have H := Lib.hid h
  have HP := Lib.hid hP
  have Hl := Lib.hid hl
  have Hb := Lib.hid hb5
  have hpick : pick St T = min T Bs.length := by unfold pick; rw [hP.1]; omega
  rw [hpick]
  obtain ⟨n, hn'⟩ : ∃ n, Bs.length = n := ⟨_, rfl⟩
  have Hn := Lib.hid hn'
  rw [hn'] at hn ⊢
  clear h hP hl hb5 hpick hn'
  go_enter Try.func56, Try.ntmps56
  go_wp2_with fail
  go_loopw [5, 6] (fun v i wr => ∃ (k : Nat) (l : List Ent), k ≤ min T n ∧ i = .int .i64 k ∧ Hid (St[k]? = some l) ∧ Lst wr v l.length (eCs l) ∧ Keeps [] w wr) (fun _ i _ => n - (intOf i).toNat)
  case atStart => exact ⟨0, [], by omega, rfl, Lib.hid HP.out.2.1, Lst.nil w, Keeps.refl _ _⟩
  case round =>
    obtain ⟨k, l, hk, rfl, hst, hlv, kk⟩ := hrel
    have hW := (H.out.keeps kk).hw
    rw [Hn.out] at hW
    obtain ⟨d0, d1, d2, d3, d4, d5⟩ := hW.o4
    have hwk : IntKind.u64.wrap (k : Int) = (k : Int) := IntWalk.u64_in _ ⟨by omega, by omega⟩
    by_cases hlt : k < n
    · have hkn : (k : Int) < (n : Int) := by omega
      by_cases hkT : k < T
      · have hkT' : (k : Int) < (T : Int) := by omega
        obtain ⟨b, hb⟩ : ∃ b, Bs[k]? = some b := ⟨_, List.getElem?_eq_getElem (by rw [Hn.out]; exact hlt)⟩
        have hR := (H.out.keeps kk).hb
        obtain ⟨hvl, ⟨hv, h0⟩ | ⟨g, cap', rest, hv, hgb, h2, h3, h4⟩⟩ := hR
        · rw [Hn.out] at h0; omega
        · rw [Hn.out] at hv hvl
          injection hv with hA _ hcap
          subst hA
          subst hcap
          obtain ⟨y, hy⟩ : ∃ y, vs[k]? = some y := ⟨_, List.getElem?_eq_getElem (by rw [hvl]; omega)⟩
          have hc := hgb.cell k
          rw [List.getElem?_append_left (by rw [hvl]; omega), hy] at hc
          have hgl := hgb.lt
          have hyl := ((H.out.keeps kk).he k y b hy hb).1
          obtain ⟨yA, yc, rfl⟩ := hyl.len
          have hb5 := Hb.out b (List.mem_of_getElem? hb)
          have hl3 := Hl.out l (List.mem_of_getElem? hst.out)
          have hnx := HP.out.2.2 k l b hst.out hb
          have Hnx := Lib.hid hnx
          clear hnx hst hy hb hgb h2 h3 h4 hvl
          go_wp2_with fail
          refine (refApply_any l b (by omega) _ _ _ hlv hyl.lst).mono ?_
          rintro e w3 ⟨u, rfl, h3, k3⟩
          go_wp2_with fail
          exact ⟨⟨k + 1, _, by omega, by go_num, Hnx, h3, kk.trans k3 (by simp)⟩, by simp [intOf]; omega⟩
      · have hkT' : decide ((k : Int) < (T : Int)) = false := decide_eq_false (by omega)
        have hke : k = min T n := by omega
        have Hke := Lib.hid hke
        clear hke
        go_wp2_with fail
        go_ret
        exact ⟨_, l, rfl, by rw [← Hke.out]; exact hst.out, hlv, kk⟩
    · obtain rfl : k = n := by omega
      have hke : k = min T k := by omega
      have Hke := Lib.hid hke
      clear hke
      go_wp2_with fail
      go_ret
      exact ⟨_, l, rfl, by rw [← Hke.out]; exact hst.out, hlv, kk⟩
end Go.Proofs.Ytnnpmpdlhojecaa
