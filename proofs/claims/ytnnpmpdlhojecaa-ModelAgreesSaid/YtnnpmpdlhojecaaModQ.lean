/- The contracts of Add, Open and Release of the reference's world. -/
import Derived.Test.YtnnpmpdlhojecaaModP
namespace Go.Proofs.Ytnnpmpdlhojecaa
open Go.RowKit Go.Maps
variable {w w' : World} {Q : List Nat} {ww : Nat} {bv sv : Value} {vs : List Value} {Bs : List (List Wrt)} {F : Nat} {Ss : List (Nat × Nat)}
set_option maxRecDepth 100000 in
theorem infoWS : (Try.prog.info? 28).map (fun i => (i.zero, i.size, i.bytes)) = some (some (.slice none 0 0), 1, 24) := by kernel_rfl
set_option maxRecDepth 100000 in
theorem infoSN : (Try.prog.info? 87).map (fun i => (i.zero, i.size, i.bytes)) = some (some (.agg #[.int .i64 0, .int .i64 0, .int .u64 0]), 3, 24) := by kernel_rfl
set_option maxRecDepth 100000 in
theorem infoWR : (Try.prog.info? 57).map (fun i => (i.zero, i.size, i.bytes)) = some (some (.agg #[.string ⟨#[]⟩, .string ⟨#[]⟩, .bool false]), 3, 40) := by kernel_rfl
set_option maxRecDepth 100000 in
theorem row_nil (t ty e : TypeId) (i : TypeInfo) (z : Value) (bytes k : Nat) (hu : Try.prog.underlying t = some (.slice e)) (hi : Try.prog.info? e = some i) (hz : i.zero = some z) (hs : i.size = k) (hby : i.bytes = bytes) (hzs : z.cells.size = k) (hk : 0 < k)
    (m : Nat) (xv : Value) (cs : List Value) (hx : Lst w xv m cs) (hl : cs.length = m * k) (hone : ∀ u ∈ cs, u.oneCell' = true) (hn : m ≤ 100000) (hb1 : bytes ≤ 1000) :
    ∃ v' w', (Builtin.append_ #[t, t] ty #[.slice none 0 0, xv]).run Try.prog w = .ok v' w' ∧ Row w' v' m k cs ∧ Keeps [] w w' ∧ ∀ g, v'.ownBlock = some g → w.heap.size ≤ g := by
  rcases hx.src hl with ⟨rfl, rfl⟩ | ⟨cap, rfl, rfl⟩ | ⟨a, cap, rfl, hsrc⟩
  · have : cs = [] := by simpa using hl
    subst this
    refine ⟨.slice none 0 0, w, ?_, Row.nil _ _, Keeps.refl _ _, fun g hg => by simp [Value.ownBlock] at hg⟩
    simp [Builtin.append_, run_underlying (P := Try.prog) hu, sizeOf, typeInfo, hi, Builtin.lenOf, Builtin.firstCells]
  · have : cs = [] := by simpa using hl
    subst this
    refine ⟨.slice none 0 0, w, ?_, Row.nil _ _, Keeps.refl _ _, fun g hg => by simp [Value.ownBlock] at hg⟩
    simp [Builtin.append_, run_underlying (P := Try.prog) hu, sizeOf, typeInfo, hi, Builtin.lenOf, Builtin.firstCells]
  · have hbb : (0 + m) * bytes ≤ 140737488355328 := by
      have := Nat.mul_le_mul hn hb1
      rw [Nat.zero_add]; omega
    obtain ⟨v', w', hr, h2, h3, _⟩ := run_append_own (P := Try.prog) w w.heap.size t ty e i z k bytes hu hi hz hs hby hzs hk (.slice none 0 0) 0 [] (World.ownsRow_nil _ _ _ _) a m cap cs hl hsrc hone (by unfold maxLen; omega) hbb (Nat.le_refl _)
    exact ⟨v', w', hr, by have := Row.of h2; rwa [Nat.zero_add, List.nil_append] at this, Keeps.of_grownBy h3 [] (by simp [Value.ownBlock]), fun g hg => (World.ownsRow.lt h2 g hg).1⟩
/-- What a call of the world may change. -/
def Wq (Q : List Nat) (w w' : World) (Q' : List Nat) : Prop := (∃ S, (∀ s ∈ S, s ∈ Q) ∧ Keeps S w w') ∧ (∀ q ∈ Q, q ∈ Q') ∧ ∀ q ∈ Q', q ∈ Q ∨ (w.heap.size ≤ q ∧ q < w'.heap.size)
theorem WR.size (h : WR w Q ww bv vs Bs F sv Ss) : ww < w.heap.size ∧ (∀ g, bv.ownBlock = some g → g < w.heap.size) ∧ (∀ g, sv.ownBlock = some g → g < w.heap.size) := ⟨h.hw.lt, h.hb.blk, h.hs.blk⟩
/-- A batch has been added. -/
theorem WR.add (h : WR w Q ww bv vs Bs F sv Ss) {w1 w2 : World} {v1 v2 : Value} {b : List Wrt} (k1 : Keeps [] w w1) (r1 : Row w1 v1 b.length 3 (wCs b)) (f1 : ∀ g, v1.ownBlock = some g → w.heap.size ≤ g)
    (k2 : Keeps bv.ownBlock.toList w1 w2) (r2 : Row w2 v2 (Bs.length + 1) 1 (vs ++ [v1])) (f2 : ∀ g, v2.ownBlock = some g → bv.ownBlock = some g ∨ w1.heap.size ≤ g) :
    WR (w2.setCell ⟨ww, 0, none⟩ v2) (Q ++ v1.ownBlock.toList ++ v2.ownBlock.toList) ww v2 (vs ++ [v1]) (Bs ++ [b]) F sv Ss ∧ Wq Q w (w2.setCell ⟨ww, 0, none⟩ v2) (Q ++ v1.ownBlock.toList ++ v2.ownBlock.toList) := by
  obtain ⟨s1, s2, s3⟩ := h.size
  have hk1 := k1.size
  have k3 : Keeps [ww] w2 (w2.setCell ⟨ww, 0, none⟩ v2) := (Keeps.refl [ww] w2).setCell _ _ (.inl (by simp))
  have nb : ∀ g, bv.ownBlock = some g → g ≠ ww := fun g hg => (h.hq.2 g (.inl hg)).2
  have n2 : ∀ g, v2.ownBlock = some g → g ≠ ww := fun g hg => by
    rcases f2 g hg with h1 | h1
    · exact nb g h1
    · omega
  refine ⟨⟨?_, ?_, ?_, ?_, ?_, ?_⟩, ⟨ww :: bv.ownBlock.toList, ?_, ?_⟩, ?_, ?_⟩
  · exact (k2.blk (k1.blk h.hw (by simp)) (fun hm => nb ww (by simpa using hm) rfl)).set 0 v2
  · have := r2.keeps k3 (fun g hg => by simpa using n2 g hg)
    rw [List.length_append]; exact this
  · intro i v c hv hc
    by_cases hi : i < Bs.length
    · have hi' : i < vs.length := by have := h.hb.1; omega
      rw [List.getElem?_append_left hi'] at hv
      rw [List.getElem?_append_left hi] at hc
      obtain ⟨g1, g2⟩ := h.he i v c hv hc
      refine ⟨((g1.keeps k1 (by simp)).keeps k2 (fun g hg hm => (g2 g hg).2.1 (by simpa using (by simpa using hm : bv.ownBlock = some g).symm))).keeps k3 (fun g hg => by simpa using (g2 g hg).1), fun g hg => ⟨(g2 g hg).1, ?_, (g2 g hg).2.2.1, by simp [(g2 g hg).2.2.2]⟩⟩
      intro e
      rcases f2 g e.symm with h1 | h1
      · exact (g2 g hg).2.1 h1.symm
      · have := g1.blk g hg; omega
    · have hlen := h.hb.1
      rw [List.getElem?_append_right (by omega)] at hv hc
      have hi0 : i - Bs.length = 0 := by
        have := (List.getElem?_eq_some_iff.1 hc).1
        simp at this; omega
      rw [hi0] at hc
      rw [show i - vs.length = 0 by omega] at hv
      simp at hv hc
      subst hv; subst hc
      have r1lt := r1.blk
      refine ⟨(r1.keeps k2 (fun g hg hm => ?_)).keeps k3 (fun g hg => by have := f1 g hg; simp; omega), fun g hg => ⟨by have := f1 g hg; omega, ?_, ?_, by simp [hg]⟩⟩
      · have := f1 g hg
        have := s2 g (by simpa using hm)
        omega
      · intro e
        have q1 := f1 g hg
        have q2 := r1lt g hg
        rcases f2 g e.symm with h1 | h1
        · have := s2 g h1; omega
        · omega
      · intro e
        have q1 := f1 g hg
        have := s3 g e.symm
        omega
  · exact ((h.hs.keeps k1 (by simp)).keeps k2 (fun g hg hm => h.hd g (by simpa using hm) hg)).keeps k3 (fun g hg => by simpa using (h.hq.2 g (.inr hg)).2)
  · refine ⟨by simp [h.hq.1], fun g hg => ?_⟩
    rcases hg with hg | hg
    · exact ⟨by simp [hg], n2 g hg⟩
    · exact ⟨by simp [(h.hq.2 g (.inr hg)).1], (h.hq.2 g (.inr hg)).2⟩
  · intro g hg e
    rcases f2 g hg with h1 | h1
    · exact h.hd g h1 e
    · have := s3 g e; omega
  · intro s hs
    rcases List.mem_cons.1 hs with rfl | hs
    · exact h.hq.1
    · exact (h.hq.2 s (.inl (by simpa using hs))).1
  · exact ((k1.mono (by simp)).trans k2 (fun i hi => .inl (List.mem_cons_of_mem _ hi))).setCell _ _ (.inl (by simp))
  · intro q hq; simp [hq]
  · intro q hq
    have r1lt := r1.blk
    have r2lt := r2.blk
    have hk2 := k2.size
    simp only [List.mem_append, Option.mem_toList] at hq
    rcases hq with (hq | hq) | hq
    · exact .inl hq
    · right
      have := f1 q (by simpa using hq)
      have := r1lt q (by simpa using hq)
      simp; omega
    · rcases f2 q (by simpa using hq) with h1 | h1
      · exact .inl (h.hq.2 q (.inl h1)).1
      · right
        have := r2lt q (by simpa using hq)
        simp; omega
end Go.Proofs.Ytnnpmpdlhojecaa
