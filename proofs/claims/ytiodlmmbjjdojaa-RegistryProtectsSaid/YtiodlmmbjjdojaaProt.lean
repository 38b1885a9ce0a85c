/- Machines of package registry with the blocks that they take: for schedules in which several run. -/
import Derived.Test.YtiodlmmbjjdojaaRelR
namespace Go.Proofs.Ytiodlmmbjjdojaa
open Go.RowKit
/-- An Open behind its first step; its blocks are in G. -/
def O1 (w : World) (ob : Nat) (G : List Nat) (T S N C R F K : Int) (i : Int) : Prop :=
  ∃ nb lb pb xb tb sb hb, OpenB w ob nb lb pb xb tb sb hb i T S N C R F K ∧ (ob ∈ G ∧ nb ∈ G ∧ lb ∈ G ∧ pb ∈ G ∧ xb ∈ G ∧ tb ∈ G ∧ sb ∈ G ∧ hb ∈ G) ∧ nb ≠ ob ∧ nb ≠ xb ∧ nb ≠ tb ∧ nb ≠ sb ∧ nb ≠ hb
/-- An Open that knows its time. -/
def O2 (w : World) (ob : Nat) (G : List Nat) (i t : Int) : Prop := ∃ nb, OpenC w ob nb (.func (.func 66) #[.pointer (some ⟨ob, 0, none⟩)] #[]) i t ∧ ob ∈ G ∧ nb ∈ G ∧ nb ≠ ob
/-- An Open that has finished. -/
def O3 (w : World) (ob : Nat) (G : List Nat) (i t : Int) : Prop := ∃ nb, OpenC w ob nb .nilFunc i t ∧ ob ∈ G ∧ nb ∈ G ∧ nb ≠ ob
/-- No block of G is among those of X. -/
def Apart (G X : List Nat) : Prop := ∀ b, b ∈ G → b ∉ X
theorem O1.keeps {w w' : World} {ob : Nat} {G X : List Nat} {T S N C R F K : Int} {i : Int} (h : O1 w ob G T S N C R F K i) (k : Keeps X w w') (g : Apart G X) : O1 w' ob G T S N C R F K i := by
  obtain ⟨nb, lb, pb, xb, tb, sb, hb, ⟨h1, h2, h3, h4, h5, h6⟩, ⟨a1, a2, a3, a4, a5, a6, a7, a8⟩, d⟩ := h
  exact ⟨nb, lb, pb, xb, tb, sb, hb, ⟨k.blk h1 (g _ a1), k.blk h2 (g _ a5), k.blk h3 (g _ a6), k.blk h4 (g _ a7), k.blk h5 (g _ a8), h6.keeps k (g _ a2) (g _ a3) (g _ a4)⟩, ⟨a1, a2, a3, a4, a5, a6, a7, a8⟩, d⟩
theorem O2.keeps {w w' : World} {ob : Nat} {G X : List Nat} {i t : Int} (h : O2 w ob G i t) (k : Keeps X w w') (g : Apart G X) : O2 w' ob G i t := by
  obtain ⟨nb, h1, a1, a2, d⟩ := h
  exact ⟨nb, ⟨k.blk h1.self (g _ a1), k.blk h1.now (g _ a2)⟩, a1, a2, d⟩
theorem O3.keeps {w w' : World} {ob : Nat} {G X : List Nat} {i t : Int} (h : O3 w ob G i t) (k : Keeps X w w') (g : Apart G X) : O3 w' ob G i t := by
  obtain ⟨nb, h1, a1, a2, d⟩ := h
  exact ⟨nb, ⟨k.blk h1.self (g _ a1), k.blk h1.now (g _ a2)⟩, a1, a2, d⟩
section
variable {w : World} {ob m c : Nat} {G : List Nat} {T S N C R F K : Int} {L : List C3} {n i t : Int}
/-- The first step of an Open that was just made. -/
theorem o0_step {wo : World} {oa : Nat} (h : Op0 w ob wo.heap.size T S N C R F K i) (hm : MemAt w m c L n) (n0 : 0 ≤ n) (n1 : n ≤ 4611686018427387904) (hmo : m < wo.heap.size) (hco : c < wo.heap.size) (K0 : Keeps [oa] wo w) :
    Calls Try.prog 26 #[.pointer (some ⟨ob, 0, none⟩), .pointer (some ⟨m, 0, none⟩)] w fun e w' => e = .returned (.bool false) ∧ ∃ G, O1 w' ob G T S N C R F K i ∧ (∀ b, b ∈ G → wo.heap.size ≤ b ∧ b < w'.heap.size) ∧ MemAt w' m c (memSet L i ⟨1, ⟨#[]⟩, 0⟩) (n + 1) ∧ Keeps [oa, m, c] wo w' ∧ (∀ (b : Nat) (cs : List Value), b < wo.heap.size → b ≠ m → b ≠ c → Blk w b cs → Blk w' b cs) := by
  have hs := K0.size
  obtain ⟨nb, lb, pb, h1, h2, ⟨a1, a2, a3, a4⟩, d1, d2, d3⟩ := h
  have l1 := h1.lt
  have l2 := h2.lt
  refine (openStep1 w ob nb lb pb m c L n i T S N C R F K h1 h2 hm n0 n1 (by omega) (by omega) (by omega)).mono ?_
  rintro e w' ⟨rfl, xb, tb, sb, hb, g1, g2, g3, g4, g5, g6, g7⟩
  have k1 := g1.x.lt
  have k2 := g1.t.lt
  have k3 := g1.s.lt
  have k4 := g1.h.lt
  have k5 := g7.size
  refine ⟨rfl, [ob, nb, lb, pb, xb, tb, sb, hb], ⟨nb, lb, pb, xb, tb, sb, hb, g1, by simp, d1, by omega, by omega, by omega, by omega⟩, ?_, g6, (K0.mono (S' := [oa, m, c]) (by simp)).trans g7 (by intro j hj; simp at hj ⊢; omega), fun b cs hb' e1 e2 hB => g7.blk hB (by simp; omega)⟩
  intro b hb'
  simp at hb'
  omega
theorem o1_step (h : O1 w ob G T S N C R F K i) (hm : MemAt w m c L n) (n0 : 0 ≤ n) (n1 : n ≤ 4611686018427387904) (g : Apart G [m, c]) :
    Calls Try.prog 26 #[.pointer (some ⟨ob, 0, none⟩), .pointer (some ⟨m, 0, none⟩)] w fun e w' => e = .returned (.bool false) ∧ O2 w' ob G i (memAt L 2).N ∧ MemAt w' m c L (n + 1) ∧ Keeps (m :: c :: G) w w' := by
  obtain ⟨nb, lb, pb, xb, tb, sb, hb, h1, ⟨a1, a2, a3, a4, a5, a6, a7, a8⟩, d1, d2, d3, d4, d5⟩ := h
  have e1 := g _ a1
  have e2 := g _ a2
  have e3 := g _ a3
  have e4 := g _ a4
  have e5 := g _ a5
  have e6 := g _ a6
  have e7 := g _ a7
  have e8 := g _ a8
  simp at e1 e2 e3 e4 e5 e6 e7 e8
  refine (openStep2 w ob nb lb pb xb tb sb hb m c L n i T S N C R F K h1 hm n0 n1 e1 ⟨e2.1, e3.1, e4.1, e2.2⟩ ⟨e5.1, e6.1, e7.1, e8.1⟩ ⟨d1, d2, d3, d4, d5⟩).mono ?_
  rintro e w' ⟨rfl, g1, g6, g7⟩
  refine ⟨rfl, ⟨nb, g1, a1, a2, d1⟩, g6, g7.mono ?_⟩
  intro j hj
  left
  simp at hj ⊢
  rcases hj with rfl | rfl | rfl
  · exact .inl rfl
  · exact .inr (.inr a2)
  · exact .inr (.inr a1)
theorem o2_step (h : O2 w ob G i t) (t0 : 0 ≤ t) (t1 : t ≤ 4611686018427387904) (hm : MemAt w m c L n) (n0 : 0 ≤ n) (n1 : n ≤ 4611686018427387904) (g : Apart G [m, c]) :
    Calls Try.prog 26 #[.pointer (some ⟨ob, 0, none⟩), .pointer (some ⟨m, 0, none⟩)] w fun e w' => e = .returned (.bool true) ∧ O3 w' ob G i t ∧ MemAt w' m c (memSet L i ⟨t + 1, ⟨#[]⟩, 0⟩) (n + 1) ∧ Keeps (m :: c :: G) w w' := by
  obtain ⟨nb, h1, a1, a2, d1⟩ := h
  have e1 := g _ a1
  have e2 := g _ a2
  simp at e1 e2
  refine (openStep3 w ob nb m c L n i t h1 t0 t1 hm n0 n1 e1 e2 d1).mono ?_
  rintro e w' ⟨rfl, g1, g6, g7⟩
  refine ⟨rfl, ⟨nb, g1, a1, a2, d1⟩, g6, g7.mono ?_⟩
  intro j hj
  left
  simp at hj ⊢
  rcases hj with rfl | rfl | rfl
  · exact .inl rfl
  · exact .inr (.inl rfl)
  · exact .inr (.inr a1)
theorem o3_time (h : O3 w ob G i t) :
    Calls Try.prog 24 #[.pointer (some ⟨ob, 0, none⟩)] w fun e w' => e = .returned (.int .u64 t) ∧ w = w' := by
  obtain ⟨nb, h1, _⟩ := h
  exact openTime_done w ob nb i t h1
end
/-- A Watermark ahead of its first step; its blocks are in G. -/
def W0 (w : World) (wm : Nat) (G : List Nat) (T S N C R F K : Int) : Prop :=
  ∃ nb lb pb xb tb sb nx wx, WmA w wm nb lb pb xb tb sb nx wx T S N C R F K ∧ (wm ∈ G ∧ nb ∈ G ∧ lb ∈ G ∧ pb ∈ G ∧ xb ∈ G ∧ tb ∈ G ∧ sb ∈ G ∧ nx ∈ G ∧ wx ∈ G) ∧ (nb ≠ wm ∧ nb ≠ tb ∧ nb ≠ nx ∧ nb ≠ wx) ∧ (wx ≠ wm ∧ nx ≠ wm)
/-- A Watermark that will load cell k next. -/
def W1 (w : World) (wm : Nat) (G : List Nat) (T S N C R F K : Int) (k t : Int) : Prop := ∃ ab kb, WmS w wm ab kb T S N C R F K k t ∧ wm ∈ G ∧ ab ∈ G ∧ kb ∈ G ∧ ab ≠ wm ∧ kb ≠ wm
theorem W0.keeps {w w' : World} {wm : Nat} {G X : List Nat} {T S N C R F K : Int} (h : W0 w wm G T S N C R F K) (k : Keeps X w w') (g : Apart G X) : W0 w' wm G T S N C R F K := by
  obtain ⟨nb, lb, pb, xb, tb, sb, nx, wx, ⟨h1, h2, h3, h4, h5, h6, h7⟩, ⟨a1, a2, a3, a4, a5, a6, a7, a8, a9⟩, d⟩ := h
  exact ⟨nb, lb, pb, xb, tb, sb, nx, wx, ⟨k.blk h1 (g _ a1), k.blk h2 (g _ a5), k.blk h3 (g _ a6), k.blk h4 (g _ a7), k.blk h5 (g _ a8), k.blk h6 (g _ a9), h7.keeps k (g _ a2) (g _ a3) (g _ a4)⟩, ⟨a1, a2, a3, a4, a5, a6, a7, a8, a9⟩, d⟩
theorem W1.keeps {w w' : World} {wm : Nat} {G X : List Nat} {T S N C R F K : Int} {j t : Int} (h : W1 w wm G T S N C R F K j t) (k : Keeps X w w') (g : Apart G X) : W1 w' wm G T S N C R F K j t := by
  obtain ⟨ab, kb, ⟨h1, h2, h3⟩, a1, a2, a3, d⟩ := h
  exact ⟨ab, kb, ⟨k.blk h1 (g _ a1), k.blk h2 (g _ a2), k.blk h3 (g _ a3)⟩, a1, a2, a3, d⟩
theorem w0_new (T S N C R F K : Int) (w : World) :
    Calls Try.prog 15 #[.agg #[.int .i64 T, .int .i64 S, .int .i64 N, .int .i64 C, .int .i64 R, .int .i64 F, .int .u64 K]] w fun e w' => ∃ wm G, e = .returned (.pointer (some ⟨wm, 0, none⟩)) ∧ W0 w' wm G T S N C R F K ∧ (∀ b, b ∈ G → w.heap.size ≤ b ∧ b < w'.heap.size) ∧ Keeps [] w w' := by
  refine (newWatermark_any T S N C R F K w).mono ?_
  rintro e w' ⟨wm, nb, lb, pb, xb, tb, sb, nx, wx, rfl, h, h1, h2, h3, h4, h5, h6, h7, h8, h9, d1, d2, d3, d4, d5, d6, k⟩
  have l1 := h.self.lt
  have l2 := h.x.lt
  have l3 := h.t.lt
  have l4 := h.s.lt
  have l5 := h.n.lt
  have l6 := h.w_.lt
  have l7 := h.now.lt
  refine ⟨wm, [wm, nb, lb, pb, xb, tb, sb, nx, wx], rfl, ⟨nb, lb, pb, xb, tb, sb, nx, wx, h, by simp, ⟨d1, d2, d3, d4⟩, d5, d6⟩, ?_, k⟩
  intro b hb
  simp at hb
  omega
section
variable {w : World} {wm m c : Nat} {G : List Nat} {T S N C R F K : Int} {L : List C3} {n : Int}
theorem w0_step (h : W0 w wm G T S N C R F K) (hm : MemAt w m c L n) (n0 : 0 ≤ n) (n1 : n ≤ 4611686018427387904) (g : Apart G [m, c]) :
    Calls Try.prog 16 #[.pointer (some ⟨wm, 0, none⟩), .pointer (some ⟨m, 0, none⟩)] w fun e w' => e = .returned (.bool false) ∧ ∃ G', W1 w' wm G' T S N C R F K 0 (memAt L 2).N ∧ (∀ b, b ∈ G' → b ∈ G ∨ w.heap.size ≤ b ∧ b < w'.heap.size) ∧ MemAt w' m c L (n + 1) ∧ Keeps (m :: c :: G) w w' := by
  obtain ⟨nb, lb, pb, xb, tb, sb, nx, wx, h1, ⟨a1, a2, a3, a4, a5, a6, a7, a8, a9⟩, d1, d2⟩ := h
  have e1 := g _ a1
  have e2 := g _ a2
  have e3 := g _ a3
  have e4 := g _ a4
  have e6 := g _ a6
  have e8 := g _ a8
  have e9 := g _ a9
  simp at e1 e2 e3 e4 e6 e8 e9
  have hl := h1.self.lt
  refine (wmStep0 w wm nb lb pb xb tb sb nx wx m c L n T S N C R F K h1 hm n0 n1 e1 ⟨e2.1, e3.1, e4.1, e2.2⟩ ⟨e6.1, e8.1, e9.1⟩ d1 d2).mono ?_
  rintro e w' ⟨rfl, ab, kb, g1, g2, g3, g4, g5⟩
  have l2 := g1.a.lt
  have l3 := g1.k_.lt
  refine ⟨rfl, [wm, ab, kb], ⟨ab, kb, g1, by simp, by simp, by simp, by omega, by omega⟩, ?_, g4, g5.mono ?_⟩
  · intro b hb
    simp at hb
    rcases hb with rfl | rfl | rfl
    · exact .inl a1
    · exact .inr ⟨g2, l2⟩
    · exact .inr ⟨g3, l3⟩
  · intro j hj
    left
    simp at hj ⊢
    rcases hj with rfl | rfl | rfl
    · exact .inl rfl
    · exact .inr (.inr a2)
    · exact .inr (.inr a1)
theorem w1_more (hc : CfgOK T S N C R F K) {k t : Int} (h : W1 w wm G T S N C R F K k t) (k0 : 0 ≤ k) (hl : k + 1 < T * S) (hm : MemAt w m c L n) (n0 : 0 ≤ n) (n1 : n ≤ 4611686018427387904) (g : Apart G [m, c]) (x0 : 0 ≤ (memAt L (8 + k)).N) (x1 : (memAt L (8 + k)).N ≤ 18446744073709551615) :
    Calls Try.prog 16 #[.pointer (some ⟨wm, 0, none⟩), .pointer (some ⟨m, 0, none⟩)] w fun e w' => e = .returned (.bool false) ∧ ∃ G', W1 w' wm G' T S N C R F K (k + 1) (wmin t (memAt L (8 + k)).N) ∧ (∀ b, b ∈ G' → b ∈ G ∨ w.heap.size ≤ b ∧ b < w'.heap.size) ∧ MemAt w' m c L (n + 1) ∧ Keeps (m :: c :: G) w w' := by
  obtain ⟨ab, kb, h1, a1, a2, a3, d1, d2⟩ := h
  have e1 := g _ a1
  have e2 := g _ a2
  have e3 := g _ a3
  simp at e1 e2 e3
  have hw := h1.self.lt
  refine (wmStep_more w wm ab kb m c L n T S N C R F K k t hc h1 k0 (by omega) hm n0 n1 ⟨e1.1, e1.2, e2.1, e3.1, d1, d2⟩ x0 x1 hl).mono ?_
  rintro e w' ⟨rfl, ab', kb', g1, g2, g3, g4, g5⟩
  have l2 := g1.a.lt
  have l3 := g1.k_.lt
  refine ⟨rfl, [wm, ab', kb'], ⟨ab', kb', g1, by simp, by simp, by simp, by omega, by omega⟩, ?_, g4, g5.mono ?_⟩
  · intro b hb
    simp at hb
    rcases hb with rfl | rfl | rfl
    · exact .inl a1
    · exact .inr ⟨g2, l2⟩
    · exact .inr ⟨g3, l3⟩
  · intro j hj
    left
    simp at hj ⊢
    rcases hj with rfl | rfl
    · exact .inl rfl
    · exact .inr (.inr a1)
theorem w1_last (hc : CfgOK T S N C R F K) {k t : Int} (h : W1 w wm G T S N C R F K k t) (k0 : 0 ≤ k) (hl : k + 1 = T * S) (hm : MemAt w m c L n) (n0 : 0 ≤ n) (n1 : n ≤ 4611686018427387904) (g : Apart G [m, c]) (x0 : 0 ≤ (memAt L (8 + k)).N) (x1 : (memAt L (8 + k)).N ≤ 18446744073709551615) :
    Calls Try.prog 16 #[.pointer (some ⟨wm, 0, none⟩), .pointer (some ⟨m, 0, none⟩)] w fun e w' => e = .returned (.bool true) ∧ WmD w' wm T S N C R F K (wmin t (memAt L (8 + k)).N) ∧ MemAt w' m c L (n + 1) ∧ Keeps (m :: c :: G) w w' := by
  obtain ⟨ab, kb, h1, a1, a2, a3, d1, d2⟩ := h
  have e1 := g _ a1
  have e2 := g _ a2
  have e3 := g _ a3
  simp at e1 e2 e3
  refine (wmStep_last w wm ab kb m c L n T S N C R F K k t hc h1 k0 (by omega) hm n0 n1 ⟨e1.1, e1.2, e2.1, e3.1, d1, d2⟩ x0 x1 hl).mono ?_
  rintro e w' ⟨rfl, g1, g4, g5⟩
  refine ⟨rfl, g1, g4, g5.mono ?_⟩
  intro j hj
  left
  simp at hj ⊢
  rcases hj with rfl | rfl
  · exact .inl rfl
  · exact .inr (.inr a1)
end
end Go.Proofs.Ytiodlmmbjjdojaa
