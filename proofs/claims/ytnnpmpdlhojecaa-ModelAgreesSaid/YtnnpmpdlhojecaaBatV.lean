/- The statements BatchesCompose and BatchNormalForm: their walks. -/
import Derived.Test.YtnnpmpdlhojecaaBatO
namespace Go.Proofs.Ytnnpmpdlhojecaa
open Go.RowKit
theorem applyL (l : List Ent) (b : List Wrt) (hl : Asc l) (hn : l.length + b.length ≤ 4000) (lv bv : Value) (w : World) (hlv : Lst w lv l.length (eCs l)) (hbv : Lst w bv b.length (wCs b)) :
    Calls Try.prog 42 #[lv, bv] w fun e w' => ∃ u, e = .returned u ∧ Lst w' u (applyR l b).length (eCs (applyR l b)) ∧ Keeps [] w w' :=
  (apply_any l b hl hn lv bv w hlv hbv).mono fun _ _ ⟨u, h1, h2, h3⟩ => ⟨u, h1, h2.lst, h3⟩
theorem sameEt (X : List Ent) (hn : X.length ≤ 4000) (xv yv : Value) (w : World) (hx : Lst w xv X.length (eCs X)) (hy : Lst w yv X.length (eCs X)) :
    Calls Try.prog 35 #[xv, yv] w fun e w' => e = .returned (.bool true) ∧ Keeps [] w w' :=
  (sameE_any X X hn hn xv yv w hx hy).mono fun _ _ ⟨r, h1, h2, h3⟩ => ⟨by rw [h1, h2.2 rfl], h3⟩
theorem Lst.src {w : World} {v : Value} {n k : Nat} {cs : List Value} (h : Lst w v n cs) (hl : cs.length = n * k) : (v = .slice none 0 0 ∧ n = 0) ∨ (∃ cap, v = .slice none 0 cap ∧ n = 0) ∨ ∃ a cap, v = .slice (some a) n cap ∧ ∀ j u, cs[j]? = some u → w.cell? (a.add j) = some u := by
  obtain ⟨A, cap, b, o, rfl, hA, har⟩ := h
  cases A with
  | none =>
    have h0 : n = 0 := by
      rcases Nat.eq_zero_or_pos n with h | h
      · exact h
      · exact absurd (hA h) (by simp)
    subst h0
    exact .inr (.inl ⟨cap, rfl, rfl⟩)
  | some a => exact .inr (.inr ⟨a, cap, rfl, Arr.src hA har hl⟩)
/-- append of a whole slice of writes onto one of the call's own. -/
theorem appendWs {wb W : World} {base : Nat} {v : Value} {acc : List Wrt} (ho : OwnW W base v acc) (x : List Wrt) (hn : acc.length + x.length < 4096) (xv : Value) (hxv : Lst W xv x.length (wCs x)) (hk : Keeps [] wb W) (hb : wb.heap.size ≤ base) (hbase : base ≤ W.heap.size) :
    ∃ v' w', (Builtin.append_ #[28, 28] 28 #[v, xv]).run Try.prog W = .ok v' w' ∧ OwnW w' base v' (acc ++ x) ∧ Keeps [] wb w' := by
  obtain ⟨i0, hi0, hz0, hz1, hz2⟩ := info_parts infoW
  have hlt := World.ownsRow.lt ho
  rcases hxv.src (wCs_length x) with ⟨rfl, h0⟩ | ⟨cap, rfl, h0⟩ | ⟨a, cap, rfl, hsrc⟩
  · have hx := List.eq_nil_of_length_eq_zero h0
    subst hx
    refine ⟨v, W, ?_, by rw [List.append_nil]; exact ho, hk⟩
    obtain ⟨h1, h2⟩ := ho
    rcases h2 with ⟨rfl, h3⟩ | ⟨g, c, cur, rfl, _, hg, hnc, _⟩
    · simp [Builtin.append_, run_underlying (P := Try.prog) Try.underlying28, sizeOf, typeInfo, hi0, Builtin.lenOf, Builtin.firstCells]
    · simp [Builtin.append_, run_underlying (P := Try.prog) Try.underlying28, sizeOf, typeInfo, hi0, Builtin.lenOf, Builtin.firstCells, storeCells, hnc]
  · have hx := List.eq_nil_of_length_eq_zero h0
    subst hx
    refine ⟨v, W, ?_, by rw [List.append_nil]; exact ho, hk⟩
    obtain ⟨h1, h2⟩ := ho
    rcases h2 with ⟨rfl, h3⟩ | ⟨g, c, cur, rfl, _, hg, hnc, _⟩
    · simp [Builtin.append_, run_underlying (P := Try.prog) Try.underlying28, sizeOf, typeInfo, hi0, Builtin.lenOf, Builtin.firstCells]
    · simp [Builtin.append_, run_underlying (P := Try.prog) Try.underlying28, sizeOf, typeInfo, hi0, Builtin.lenOf, Builtin.firstCells, storeCells, hnc]
  · obtain ⟨v', w', hr, h2, h3, _⟩ := run_append_own (P := Try.prog) W base 28 28 57 i0 _ 3 40 Try.underlying28 hi0 hz0 hz1 hz2 rfl (by decide) v acc.length (wCs acc) ho a x.length cap (wCs x) (wCs_length x) hsrc
      (fun u hu => wCs_one' hu) (by unfold maxLen; omega) (by omega) hbase
    refine ⟨v', w', hr, ?_, hk.trans (Keeps.of_grownBy h3 v.ownBlock.toList (fun g hg => by rw [hg]; simp)) (fun g hg => .inr ?_)⟩
    · unfold OwnW
      rw [List.length_append, wCs_append]; exact h2
    · have := (hlt g (by simpa using hg)).1; omega
set_option maxHeartbeats 1000000 in
set_option maxRecDepth 100000 in
theorem compose_any (raw other : List Wrt) (ent : List Ent) (h1 : raw.length ≤ 9223372036854775807) (h2 : other.length ≤ 9223372036854775807) (h3 : ent.length ≤ 9223372036854775807) (v0 v1 v2 : Value) (w : World) (l0 : Lst w v0 raw.length (wCs raw)) (l1 : Lst w v1 other.length (wCs other)) (l2 : Lst w v2 ent.length (eCs ent)) :
    Calls Try.prog 11 #[v0, v1, v2] w fun e w' => e = .returned (.bool true) ∧ Keeps [] w w' := by
  have asc := asc_listR ent
  have ll := length_listR ent
  obtain ⟨l, hl⟩ : ∃ l, listR ent = l := ⟨_, rfl⟩
  obtain ⟨a, ha⟩ : ∃ a, fitL raw = a := ⟨_, rfl⟩
  obtain ⟨b, hb⟩ : ∃ b, fitL other = b := ⟨_, rfl⟩
  have la := fitL_len raw
  have lb := fitL_len other
  rw [ha] at la
  rw [hb] at lb
  rw [hl] at asc ll
  have e1 := length_applyR l a
  have e2 := length_applyR (applyR l a) b
  go_enter Try.func11, Try.ntmps11
  go_wp2_with fail
  refine (fit_any raw h1 v0 _ l0).mono ?_
  rintro e w1 ⟨u1, rfl, m1, k1⟩
  rw [ha] at m1
  go_wp2_with fail
  refine (fit_any other h2 v1 _ (l1.keeps k1)).mono ?_
  rintro e w2 ⟨u2, rfl, m2, k2⟩
  rw [hb] at m2
  go_wp2_with fail
  refine (list_any ent h3 v2 _ ((l2.keeps k1).keeps k2)).mono ?_
  rintro e w3 ⟨u3, rfl, m3, k3⟩
  rw [hl] at m3
  have K3 := (k1.trans k2 (by simp)).trans k3 (by simp)
  have m1 := (m1.keeps k2).keeps k3
  have m2 := m2.keeps k3
  obtain ⟨v4, w4, r4, o4, k4⟩ := appendWs (wb := w3) (OwnW.nil w3 w3.heap.size) a (by simp; omega) u1 m1 (Keeps.refl _ _) (Nat.le_refl _) (Nat.le_refl _)
  obtain ⟨v5, w5, r5, o5, k5⟩ := appendWs (wb := w3) o4 b (by simp; omega) u2 (m2.keeps k4) k4 (Nat.le_refl _) k4.size
  rw [List.nil_append] at o5
  have m5 := o5.lst
  go_wp2_with (first
    | (at_builtin; refine list_append_eq rfl _ _ 28 28 rfl _ _ rfl rfl r4 ?_)
    | (at_builtin; refine list_append_eq rfl _ _ 28 28 rfl _ _ rfl rfl r5 ?_))
  refine (awake_any _).mono ?_
  rintro e w6 ⟨rfl, k6⟩
  have m1 := (m1.keeps k5).keeps k6
  have m2 := (m2.keeps k5).keeps k6
  have m3 := (m3.keeps k5).keeps k6
  have m5 := m5.keeps k6
  have K6 := (K3.trans k5 (by simp)).trans k6 (by simp)
  go_wp2_with fail
  refine (applyL l a asc (by omega) u3 u1 _ m3 m1).mono ?_
  rintro e w7 ⟨u7, rfl, m7, k7⟩
  go_wp2_with fail
  refine (applyL (applyR l a) b (asc_applyR a asc) (by omega) u7 u2 _ m7 (m2.keeps k7)).mono ?_
  rintro e w8 ⟨u8, rfl, m8, k8⟩
  go_wp2_with fail
  refine (applyL l (a ++ b) asc (by rw [List.length_append]; omega) u3 v5 _ ((m3.keeps k7).keeps k8) ((m5.keeps k7).keeps k8)).mono ?_
  rintro e w9 ⟨u9, rfl, m9, k9⟩
  rw [← applyR_compose] at m9
  go_wp2_with fail
  refine (sameEt (applyR (applyR l a) b) (by omega) u8 u9 _ (m8.keeps k9) m9).mono ?_
  rintro e w10 ⟨rfl, k10⟩
  have m3 := (((m3.keeps k7).keeps k8).keeps k9).keeps k10
  have K10 := (((K6.trans k7 (by simp)).trans k8 (by simp)).trans k9 (by simp)).trans k10 (by simp)
  go_wp2_with fail
  refine (applyL l [] asc (by simp; omega) u3 _ _ m3 (Lst.nil _)).mono ?_
  rintro e w11 ⟨u11, rfl, m11, k11⟩
  go_wp2_with fail
  refine (sameEt l (by omega) u11 u3 _ m11 (m3.keeps k11)).mono ?_
  rintro e w12 ⟨rfl, k12⟩
  go_wp2_with fail
  go_ret
  exact ⟨rfl, (K10.trans k11 (by simp)).trans k12 (by simp)⟩
end Go.Proofs.Ytnnpmpdlhojecaa
