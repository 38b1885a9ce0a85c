/- The contracts of Release and Open of the reference's world. -/
import Derived.Test.YtnnpmpdlhojecaaModR
namespace Go.Proofs.Ytnnpmpdlhojecaa
open Go.RowKit Go.Maps
variable {w w' : World} {Q : List Nat} {ww : Nat} {bv sv : Value} {vs : List Value} {Bs : List (List Wrt)} {F : Nat} {Ss : List (Nat × Nat)}
theorem WR.setS (h : WR w Q ww bv vs Bs F sv Ss) {w2 : World} {v2 : Value} {Ss' : List (Nat × Nat)} (k2 : Keeps sv.ownBlock.toList w w2) (r2 : Row w2 v2 Ss'.length 3 (nCs Ss')) (f2 : ∀ g, v2.ownBlock = some g → sv.ownBlock = some g ∨ w.heap.size ≤ g) :
    WR (w2.setCell ⟨ww, 2, none⟩ v2) (Q ++ v2.ownBlock.toList) ww bv vs Bs F v2 Ss' ∧ Wq Q w (w2.setCell ⟨ww, 2, none⟩ v2) (Q ++ v2.ownBlock.toList) := by
  obtain ⟨s1, s2, s3⟩ := h.size
  have k3 : Keeps [ww] w2 (w2.setCell ⟨ww, 2, none⟩ v2) := (Keeps.refl [ww] w2).setCell _ _ (.inl (by simp))
  have nb : ∀ g, sv.ownBlock = some g → g ≠ ww := fun g hg => (h.hq.2 g (.inr hg)).2
  have n2 : ∀ g, v2.ownBlock = some g → g ≠ ww := fun g hg => by
    rcases f2 g hg with h1 | h1
    · exact nb g h1
    · omega
  refine ⟨⟨?_, ?_, ?_, ?_, ?_, ?_⟩, ⟨ww :: sv.ownBlock.toList, ?_, ?_⟩, ?_, ?_⟩
  · exact (k2.blk h.hw (fun hm => nb ww (by simpa using hm) rfl)).set 2 v2
  · exact (h.hb.keeps k2 (fun g hg hm => h.hd g hg (by simpa using hm))).keeps k3 (fun g hg => by simpa using (h.hq.2 g (.inl hg)).2)
  · intro i v c hv hc
    obtain ⟨g1, g2⟩ := h.he i v c hv hc
    refine ⟨(g1.keeps k2 (fun g hg hm => (g2 g hg).2.2.1 (by simpa using (by simpa using hm : sv.ownBlock = some g).symm))).keeps k3 (fun g hg => by simpa using (g2 g hg).1), fun g hg => ⟨(g2 g hg).1, (g2 g hg).2.1, ?_, by simp [(g2 g hg).2.2.2]⟩⟩
    intro e
    rcases f2 g e.symm with h1 | h1
    · exact (g2 g hg).2.2.1 h1.symm
    · have := g1.blk g hg; omega
  · exact r2.keeps k3 (fun g hg => by simpa using n2 g hg)
  · refine ⟨by simp [h.hq.1], fun g hg => ?_⟩
    rcases hg with hg | hg
    · exact ⟨by simp [(h.hq.2 g (.inl hg)).1], (h.hq.2 g (.inl hg)).2⟩
    · exact ⟨by simp [hg], n2 g hg⟩
  · intro g hg e
    rcases f2 g e with h1 | h1
    · exact h.hd g hg h1
    · have := s2 g hg; omega
  · intro s hs
    rcases List.mem_cons.1 hs with rfl | hs
    · exact h.hq.1
    · exact (h.hq.2 s (.inr (by simpa using hs))).1
  · exact (k2.mono (fun i hi => .inl (List.mem_cons_of_mem _ hi))).setCell _ _ (.inl (by simp))
  · intro q hq; simp [hq]
  · intro q hq
    have r2lt := r2.blk
    have hk2 := k2.size
    simp only [List.mem_append, Option.mem_toList] at hq
    rcases hq with hq | hq
    · exact .inl hq
    · rcases f2 q (by simpa using hq) with h1 | h1
      · exact .inl (h.hq.2 q (.inr h1)).1
      · right
        have := r2lt q (by simpa using hq)
        simp; omega
theorem WR.setC (h : WR w Q ww bv vs Bs F sv Ss) : WR (w.setCell ⟨ww, 3, none⟩ (.slice none 0 0)) Q ww bv vs Bs F sv Ss := by
  have kk : Keeps [ww] w (w.setCell ⟨ww, 3, none⟩ (.slice none 0 0)) := (Keeps.refl [ww] w).setCell _ _ (.inl (by simp))
  exact ⟨h.hw.set 3 _, h.hb.keeps kk (fun g hg => by simpa using (h.hq.2 g (.inl hg)).2), fun i v b h1 h2 => ⟨(h.he i v b h1 h2).1.keeps kk (fun g hg => by simpa using ((h.he i v b h1 h2).2 g hg).1), (h.he i v b h1 h2).2⟩,
    h.hs.keeps kk (fun g hg => by simpa using (h.hq.2 g (.inr hg)).2), h.hq, h.hd⟩
theorem Wq.refl {Q : List Nat} {w w' : World} (h : Keeps [] w w') : Wq Q w w' Q := ⟨⟨[], by simp, h⟩, fun _ h => h, fun _ h => .inl h⟩
theorem Wq.trans {Q Q' Q'' : List Nat} {a b c : World} (h : Wq Q a b Q') (k : Wq Q' b c Q'') : Wq Q a c Q'' := by
  obtain ⟨⟨S, s1, s2⟩, h2, h3⟩ := h
  obtain ⟨⟨S', s3, s4⟩, h5, h6⟩ := k
  have z1 := s2.size
  have z2 := s4.size
  refine ⟨⟨S ++ S'.filter (fun x => x ∈ Q), ?_, (s2.mono (fun i hi => .inl (List.mem_append_left _ hi))).trans s4 ?_⟩, fun q hq => h5 _ (h2 _ hq), fun q hq => ?_⟩
  · intro s hs
    rcases List.mem_append.1 hs with hs | hs
    · exact s1 s hs
    · simpa using (List.mem_filter.1 hs).2
  · intro i hi
    rcases h3 i (s3 i hi) with hq | hq
    · exact .inl (List.mem_append_right _ (List.mem_filter.2 ⟨hi, by simpa using hq⟩))
    · exact .inr hq.1
  · rcases h6 q hq with hq | hq
    · rcases h3 q hq with hq | hq
      · exact .inl hq
      · exact .inr ⟨hq.1, by omega⟩
    · exact .inr ⟨by omega, hq.2⟩
theorem Wq.setC {Q Q' : List Nat} {a b : World} (h : Wq Q a b Q') {ww : Nat} (hw : ww ∈ Q) (i : Nat) (v : Value) : Wq Q a (b.setCell ⟨ww, i, none⟩ v) Q' := by
  obtain ⟨⟨S, s1, s2⟩, h2, h3⟩ := h
  refine ⟨⟨ww :: S, ?_, (s2.mono (fun i hi => .inl (List.mem_cons_of_mem _ hi))).setCell _ _ (.inl (by simp))⟩, h2, fun q hq => by simpa using h3 q hq⟩
  intro s hs
  rcases List.mem_cons.1 hs with rfl | hs
  · exact hw
  · exact s1 s hs
def RelTo (Ss : List (Nat × Nat)) (i : Nat) (Ss' : List (Nat × Nat)) : Prop := (Ss' = Ss ∧ ∀ p ∈ Ss, p.1 ≠ i) ∨ ∃ (k : Nat) (p : Nat × Nat), Ss[k]? = some p ∧ p.1 = i ∧ Ss' = Ss.take k ++ Ss.drop (k + 1)
theorem nCs_append (a b : List (Nat × Nat)) : nCs (a ++ b) = nCs a ++ nCs b := by simp [nCs]
theorem nCs_one' {l : List (Nat × Nat)} {u : Value} (h : u ∈ nCs l) : u.oneCell' = true := by
  unfold nCs at h
  obtain ⟨p, _, h⟩ := List.mem_flatMap.1 h
  simp only [snC, List.mem_cons, List.mem_nil_iff, or_false] at h
  rcases h with rfl | rfl | rfl <;> rfl
set_option maxHeartbeats 2000000 in
set_option maxRecDepth 100000 in
theorem wrel_any (h : WR w Q ww bv vs Bs F sv Ss) (hs : Ss.length ≤ 4096) (t j : Nat) (hj : j < 2) :
    Calls Try.prog 30 #[.pointer (some ⟨ww, 0, none⟩), .int .i64 (t : Int), .int .i64 (j : Int)] w fun e w' => e = .returned (.tuple #[]) ∧ ∃ Q' sv' Ss', WR w' Q' ww bv vs Bs F sv' Ss' ∧ RelTo Ss (2 * t + j) Ss' ∧ Wq Q w w' Q' := by
  have hsn := wsnap_any h hs t j hj
  have H := Lib.hid h
  clear h
  go_enter Try.func30, Try.ntmps30
  go_wp2_with fail
  refine hsn.mono ?_
  rintro e w1 ⟨r, rfl, hr, z, rfl⟩
  have kz := (Keeps.refl [] w).drewN z
  have h1 := H.out.keeps kz
  rcases hr with ⟨hr1, hno⟩ | ⟨k, p, rfl, hp, hpi⟩
  · have Hno := Lib.hid hno
    have hr0 : r < 0 := by omega
    clear hno hr1
    go_wp2_with fail
    refine bodyPost_ret (results_none rfl _ _ _) rfl ?_
    exact ⟨rfl, Q, sv, Ss, h1, .inl ⟨rfl, Hno.out⟩, Wq.refl kz⟩
  · have hkl := (List.getElem?_eq_some_iff.1 hp).1
    obtain ⟨n, hn⟩ : ∃ n, Ss.length = k + 1 + n := ⟨Ss.length - (k + 1), by omega⟩
    obtain ⟨W, hW⟩ : ∃ W, W = w.drewN z := ⟨_, rfl⟩
    rw [← hW] at h1 kz ⊢
    obtain ⟨hl1, ⟨rfl, h0⟩ | ⟨g, cap, rest, rfl, hb, q2, q3, q4⟩⟩ := id h1.hs
    · omega
    rw [hn] at q2
    obtain ⟨i0, hi0, hz0, hz1, hz2⟩ := info_parts infoSN
    have ht1 : (nCs (Ss.take k)).length = k * 3 := by rw [nCs_len, List.length_take]; omega
    have ht2 : (nCs (Ss.drop (k + 1))).length = n * 3 := by rw [nCs_len, List.length_drop]; omega
    have hlst1 : Lst W.drew (.slice (some ⟨g, 0, none⟩) k cap) k (nCs (Ss.take k)) := by
      have : nCs Ss ++ rest = nCs (Ss.take k) ++ (nCs (Ss.drop k) ++ rest) := by rw [← List.append_assoc, ← nCs_append, List.take_append_drop]
      rw [this] at hb
      exact Lst.blk hb.drew
    have hwb := h1.hw
    have hWR := h1
    rw [hn] at h1
    have kd : Keeps [] W W.drew := (Keeps.refl [] W).drew
    obtain ⟨v1, w1, hr1, r1, k1, f1⟩ := row_nil (w := W.drew) 52 52 87 i0 _ 24 3 Try.underlying52 hi0 hz0 hz1 hz2 rfl (by decide) k _ (nCs (Ss.take k)) hlst1 ht1 (fun u hu => nCs_one' hu) (by omega) (by decide)
    obtain ⟨vA, vc, rfl⟩ := r1.len
    have hb1 := k1.blk hb.drew (by simp)
    obtain ⟨a, ha, hsrc⟩ : ∃ a : Addr, (if cap = k + 1 then (some ⟨g, 0, none⟩ : Option Addr) else some ⟨g, (k + 1) * 3, none⟩) = some a ∧ ∀ i u, (nCs (Ss.drop (k + 1)))[i]? = some u → w1.cell? (a.add i) = some u := by
      by_cases hc : cap = k + 1
      · refine ⟨_, by rw [if_pos hc], fun i u hi => ?_⟩
        have : (nCs (Ss.drop (k + 1))).length = 0 := by rw [ht2]; omega
        rw [List.eq_nil_of_length_eq_zero this] at hi; simp at hi
      · refine ⟨_, by rw [if_neg hc], fun i u hi => ?_⟩
        rw [Addr.add_lit, hb1.cell]
        have e : nCs Ss ++ rest = nCs (Ss.take (k + 1)) ++ (nCs (Ss.drop (k + 1)) ++ rest) := by rw [← List.append_assoc, ← nCs_append, List.take_append_drop]
        have ht3 : (nCs (Ss.take (k + 1))).length = (k + 1) * 3 := by rw [nCs_len, List.length_take]; omega
        rw [e, List.getElem?_append_right (by omega), ht3, Nat.add_sub_cancel_left, List.getElem?_append_left (List.getElem?_eq_some_iff.1 hi).1, hi]
    obtain ⟨v2, w2, hr2, r2, k2, f2⟩ := row_append r1 52 52 87 i0 _ 24 Try.underlying52 hi0 hz0 hz1 hz2 rfl (by decide) a n (cap - (k + 1)) (nCs (Ss.drop (k + 1))) ht2 hsrc (fun u hu => nCs_one' hu) (by omega) (by decide)
    obtain ⟨v2A, v2c, rfl⟩ := r2.len
    have K1 : Keeps [] W w1 := k1.undrew
    have K2 : Keeps [] W w2 := K1.trans k2 (fun i hi => .inr (f1 i (by simpa using hi)))
    have hlen : (Ss.take k ++ Ss.drop (k + 1)).length = k + n := by rw [List.length_append, List.length_take, List.length_drop]; omega
    obtain ⟨hWR2, hWq⟩ := hWR.setS (K2.mono (by simp)) (Ss' := Ss.take k ++ Ss.drop (k + 1)) (by rw [hlen, nCs_append]; exact r2) (fun x hx => .inr (by
      rcases f2 x hx with q | q
      · exact f1 x q
      · exact Nat.le_trans K1.size q))
    have hWR3 := hWR2.setC
    have hRT : RelTo Ss (2 * t + j) (Ss.take k ++ Ss.drop (k + 1)) := .inr ⟨k, p, hp, hpi, rfl⟩
    have hwq3 := (Wq.refl (Q := Q) kz).trans (hWq.setC hWR.hq.1 3 (.slice none 0 0))
    have HF := Lib.hid (⟨hWR3, hRT, hwq3⟩ : _ ∧ _ ∧ _)
    have e2 : W.cell? ⟨ww, 2, none⟩ = some (.slice (some ⟨g, 0, none⟩) (k + 1 + n) cap) := by rw [← hn]; exact hwb.o4.2.2.1
    have e2d := kd.cellEq e2 (by simp)
    have e3 := K1.cellEq e2 (by simp)
    have hb2 := K2.blk hwb (by simp)
    rw [hn] at hb2
    obtain ⟨g0, g1, g2, g3, g4, g5⟩ := hb2.o4
    obtain ⟨y0, y1, y2, y3, y4, y5⟩ := hWR2.hw.o4
    have hwl := hwb.lt
    have hca : k ≤ cap := by omega
    have hcb : k + 1 ≤ cap := by omega
    have hcc : k + 1 ≤ k + 1 + n := by omega
    have hcd : k + 1 + n - (k + 1) = n := by omega
    have hce : (0 : Int) ≤ (k : Int) + 1 := by omega
    have hcf : (k : Int) + 1 ≤ (k : Int) + 1 + (n : Int) := by omega
    have hcg : ((k : Int) + 1).toNat = k + 1 := by omega
    have hch : (k : Int) ≤ (k : Int) + 1 + (n : Int) := by omega
    have hci : ¬ cap = 0 := by omega
    have hcw : IntKind.i64.wrap ((k : Int) + 1) = (k : Int) + 1 := IntWalk.i64_in _ ⟨by omega, by omega⟩
    clear hWR2 hWq hWR3 hRT hwq3 r1 r2 f1 f2 hsrc hlst1 hb hb1 ht1 ht2 h1 hWR hwb hb2 kz hi0 hz0 hz1 hz2 hp hpi hl1 q2 q3 q4 hlen hkl hW K1 K2 k1 k2
    go_wp2_with fail
    go_region_law (first
      | (refine step_append_eq rfl _ _ 52 52 rfl (.slice none 0 0) (.slice (some ⟨g, 0, none⟩) k cap) (by simp [Act.eval, Act.put]) (by simp [Act.eval, Act.put]) hr1 ?_)
      | (refine step_append_eq rfl _ _ 52 52 rfl (.slice vA k vc) (.slice (some a) n (cap - (k + 1))) (by simp [Act.eval, Act.put]) (by simp [Act.eval, Act.put]) hr2 ?_))
    all_goals (
      obtain ⟨W3, hW3⟩ : ∃ W3, W3 = w2.setCell ⟨ww, 2, none⟩ (.slice v2A (k + n) v2c) := ⟨_, rfl⟩
      rw [← hW3] at HF y0 y1 y2 y3 y4 y5 ⊢
      clear hW3
      go_wp2_with fail
      go_loopw [7, 8] (fun l i wr => l = .slice none 0 0 ∧ i = .int .i64 0 ∧ wr = W3) (fun _ _ _ => 0)
      case atStart => exact ⟨rfl, rfl, rfl⟩
      case round =>
        obtain ⟨rfl, rfl, rfl⟩ := hrel
        go_wp2_with fail
        go_end0
        exact ⟨rfl, _, _, _, HF.out.1, HF.out.2.1, HF.out.2.2⟩)
set_option maxHeartbeats 2000000 in
set_option maxRecDepth 100000 in
theorem wopen_any (h : WR w Q ww bv vs Bs F sv Ss) (hn : Bs.length ≤ 200) (hs : Ss.length ≤ 4000) (t j : Nat) (hj : j < 2) :
    Calls Try.prog 29 #[.pointer (some ⟨ww, 0, none⟩), .int .i64 (t : Int), .int .i64 (j : Int)] w fun e w' => e = .returned (.int .u64 ((Bs.length : Nat) : Int)) ∧ ∃ Q' sv' Ss', WR w' Q' ww bv vs Bs F sv' (Ss' ++ [(2 * t + j, Bs.length)]) ∧ RelTo Ss (2 * t + j) Ss' ∧ Wq Q w w' Q' := by
  have hrl := wrel_any h (by omega) t j hj
  obtain ⟨T, hT⟩ : ∃ T, Bs.length = T := ⟨_, rfl⟩
  rw [hT]
  have HT := Lib.hid hT
  clear h hT
  go_enter Try.func29, Try.ntmps29
  go_wp2_with fail
  refine hrl.mono ?_
  rintro e w1 ⟨rfl, Q1, sv1, Ss1, h1, hrt, hq1⟩
  have hs1 : Ss1.length ≤ 4000 := by
    rcases hrt with ⟨rfl, _⟩ | ⟨k, p, _, _, rfl⟩
    · exact hs
    · rw [List.length_append, List.length_take, List.length_drop]; omega
  obtain ⟨sA, sc, rfl⟩ := h1.hs.len
  obtain ⟨i0, hi0, hz0, hz1, hz2⟩ := info_parts infoSN
  have kd : Keeps [] w1 w1.drew := (Keeps.refl [] w1).drew
  have ht := wtime_any (h1.keeps kd) (by omega)
  have kA := kd.alloc (.cells #[.int .i64 (t : Int), .int .i64 (j : Int), .int .u64 (T : Int)] 87)
  obtain ⟨v2, w2, hr2, r2, k2, f2⟩ := row_append (h1.hs.keeps kA (by simp)) 52 52 87 i0 _ 24 Try.underlying52 hi0 hz0 hz1 hz2 rfl (by decide) ⟨w1.drew.heap.size, 0, none⟩ 1 1 (snC (2 * t + j, T)) rfl
    (fun i u hi => by
      have e : snC (2 * t + j, T) = [.int .i64 (t : Int), .int .i64 (j : Int), .int .u64 (T : Int)] := by
        unfold snC
        rw [show (2 * t + j) / 2 = t by omega, show (2 * t + j) % 2 = j by omega]
      rw [e] at hi
      exact cells3_new w1.drew _ _ _ 87 i u hi) (fun u hu => nCs_one' (l := [(2 * t + j, T)]) (by simpa [nCs] using hu)) (by omega) (by decide)
  obtain ⟨v2A, v2c, rfl⟩ := r2.len
  have hlen : (Ss1 ++ [(2 * t + j, T)]).length = Ss1.length + 1 := by simp
  obtain ⟨hW, hWq⟩ := h1.setS (((kA.mono (by simp)).trans k2 (fun i hi => .inl hi))) (Ss' := Ss1 ++ [(2 * t + j, T)]) (by rw [hlen, nCs_append]; simpa [nCs] using r2) (fun g hg => by
    rcases f2 g hg with q | q
    · exact .inl q
    · exact .inr (Nat.le_trans kA.size q))
  have ht2 := wtime_any hW (by omega)
  have HF := Lib.hid (⟨hW, hrt, hq1.trans hWq⟩ : _ ∧ _ ∧ _)
  rw [HT.out] at ht ht2
  obtain ⟨d0, d1, d2, d3, d4, d5⟩ := h1.hw.o4
  have kd2 := kd.cellEq d2 (by simp)
  have ka2 := kA.cellEq d2 (by simp)
  have hb2 := (((kA.mono (S' := (Value.slice sA Ss1.length sc).ownBlock.toList) (by simp)).trans k2 (fun i hi => .inl hi))).blk h1.hw (fun hm => (h1.hq.2 ww (.inr (by simpa using hm))).2 rfl)
  obtain ⟨f0, f1', f2', f3, f4, f5⟩ := hb2.o4
  obtain ⟨N, hN⟩ : ∃ N, Ss1.length = N := ⟨_, rfl⟩
  rw [hN] at d2 kd2 ka2 f2' hr2
  rw [hN] at ht2 HF
  clear hi0 hz0 hz1 hz2 f2 r2 k2 hW hWq hrt hq1 hlen
  go_wp2_with fail
  go_region_law (first
    | (refine step_append_eq rfl _ _ 52 52 rfl (.slice sA N sc) (.slice (some ⟨w1.drew.heap.size, 0, none⟩) 1 1) (by simp [Act.eval, Act.put]) (by simp [Act.eval, Act.put]) hr2 ?_)
    | (go_simp
       go_at_call 31
       refine ht.mono ?_
       rintro e w6 ⟨rfl, rfl⟩))
  all_goals (
    go_wp2_with fail
    refine ht2.mono ?_
    rintro e w7 ⟨rfl, rfl⟩
    go_wp2_with fail
    go_ret
    exact ⟨rfl, _, _, _, HF.out.1, HF.out.2.1, HF.out.2.2⟩)
end Go.Proofs.Ytnnpmpdlhojecaa
