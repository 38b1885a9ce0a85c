/- The contracts of package registry: Release. -/
import Derived.Test.YtjmhnlbkfbieaaaGreatReg
namespace Go.Proofs.YtjmhnlbkfbieaaaGreat
open Go.RowKit
theorem Blk.o10 {w : World} {b : Nat} {x0 x1 x2 x3 x4 x5 x6 x7 x8 x9 : Value} (h : Blk w b [x0, x1, x2, x3, x4, x5, x6, x7, x8, x9]) : w.cell? ⟨b, 0, none⟩ = some x0 ∧ w.cell? ⟨b, 1, none⟩ = some x1 ∧ w.cell? ⟨b, 2, none⟩ = some x2 ∧ w.cell? ⟨b, 3, none⟩ = some x3 ∧ w.cell? ⟨b, 4, none⟩ = some x4 ∧ w.cell? ⟨b, 5, none⟩ = some x5 ∧ w.cell? ⟨b, 6, none⟩ = some x6 ∧ w.cell? ⟨b, 7, none⟩ = some x7 ∧ w.cell? ⟨b, 8, none⟩ = some x8 ∧ w.cell? ⟨b, 9, none⟩ = some x9 ∧ (∀ j, w.frozen? ⟨b, j, none⟩ = false) ∧ b < w.heap.size :=
  ⟨h.cell 0, h.cell 1, h.cell 2, h.cell 3, h.cell 4, h.cell 5, h.cell 6, h.cell 7, h.cell 8, h.cell 9, h.frozen, h.lt⟩
/-- Block rb is a registry.Release ahead of its step. -/
structure RegRel (w : World) (rb lb tb jb : Nat) (T S N C R F K : Int) (t j : Int) : Prop where
  self : Blk w rb [.func (.func 68) #[] #[.pointer (some ⟨lb, 0, none⟩), .pointer (some ⟨tb, 0, none⟩), .pointer (some ⟨jb, 0, none⟩)], .bool true]
  lay : Blk w lb [.int .i64 T, .int .i64 S, .int .i64 N, .int .i64 C, .int .i64 R, .int .i64 F, .int .u64 K]
  t : Blk w tb [.int .i64 t]
  j : Blk w jb [.int .i64 j]
set_option maxHeartbeats 400000 in
theorem newRegRel_any (T S N C R F K : Int) (t j : Int) (w : World) :
    Calls Tryz.prog 41 #[.agg #[.int .i64 T, .int .i64 S, .int .i64 N, .int .i64 C, .int .i64 R, .int .i64 F, .int .u64 K], .int .i64 t, .int .i64 j] w fun e w' => ∃ rb lb tb jb, e = .returned (.pointer (some ⟨rb, 0, none⟩)) ∧ RegRel w' rb lb tb jb T S N C R F K t j ∧ w.heap.size ≤ rb ∧ w.heap.size ≤ lb ∧ w.heap.size ≤ tb ∧ w.heap.size ≤ jb ∧ rb ≠ lb ∧ rb ≠ tb ∧ rb ≠ jb ∧ Keeps [] w w' := by
  go_enter Tryz.func41, Tryz.ntmps41
  go_wp2_with fail
  refine (stepsBegin_any _ _ _ _).mono ?_
  rintro e w1 ⟨rfl, k1⟩
  have s1 := k1.size
  simp at s1
  go_wp2_with fail
  go_ret
  exact ⟨w1.heap.size, w.heap.size, w.heap.size + 1, w.heap.size + 1 + 1, rfl, ⟨Blk.new _ _ _, (k1.blk (((Blk.new _ _ _).alloc _).alloc _) (by simp)).alloc _, (k1.blk ((Blk.new_at _ _ _ _ (by simp)).alloc _) (by simp)).alloc _, (k1.blk (Blk.new_at _ _ _ _ (by simp)) (by simp)).alloc _⟩,
    by omega, by omega, by omega, by omega, by omega, by omega, by omega, ((((Keeps.refl [] w).alloc _).alloc _).alloc _ |>.trans k1 (by simp)).alloc _⟩
set_option maxHeartbeats 1000000 in
theorem regRelStep (w : World) (rb lb tb jb m c : Nat) (L : List C3) (n t j : Int) (T S N C R F K : Int) (hc : CfgOK T S N C R F K) (h : RegRel w rb lb tb jb T S N C R F K t j) (t0 : 0 ≤ t) (t1 : t < T) (j0 : 0 ≤ j) (j1 : j < S)
    (hm : MemAt w m c L n) (n0 : 0 ≤ n) (n1 : n ≤ 4611686018427387904) (ha : rb ≠ m ∧ rb ≠ c) :
    Calls Tryz.prog 356 #[.pointer (some ⟨rb, 0, none⟩), .pointer (some ⟨m, 0, none⟩)] w fun e w' => e = .returned (.bool true) ∧
      MemAt w' m c (memSet L (8 + t * S + j) ⟨0, ⟨#[]⟩, 0⟩) (n + 1) ∧ Keeps [m, c, rb] w w' := by
  obtain ⟨h1, h2, h3, h4⟩ := h
  have h1o := h1.o2
  have h2o := h2.o7
  have h3o := h3.o1
  have h4o := h4.o1
  go_enter Tryz.func356, Tryz.ntmps356
  go_wp2_with fail
  go_in
  go_wp2_with fail
  go_in
  go_wp2_with fail
  refine (snapshot_yes T S N C R F K hc t j t0 t1 j0 j1 _).mono ?_
  rintro e w4 ⟨rfl, k4⟩
  go_wp2_with fail
  refine (store_any _ m c L n (hm.keeps k4 (by simp) (by simp)) (8 + t * S + j) 0 0 ⟨#[]⟩ n0 n1).mono ?_
  rintro e w5 ⟨rfl, h5, k5⟩
  have K5 := (k4.mono (S' := [m, c]) (by simp)).trans k5 (by simp)
  have g1 := K5.blk h1 (by simp; omega)
  have g1o := g1.o2
  clear h1o h2o h3o h4o
  go_wp2_with fail
  go_ret
  exact ⟨rfl, h5.other _ _ (by simp; omega) (by simp; omega), (K5.mono (S' := [m, c, rb]) (by intro j hj; left; simp at hj ⊢; omega)).setCell _ _ (.inl (by simp))⟩
end Go.Proofs.YtjmhnlbkfbieaaaGreat
