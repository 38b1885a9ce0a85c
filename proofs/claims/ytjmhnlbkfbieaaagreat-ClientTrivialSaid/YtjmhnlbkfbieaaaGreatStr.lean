/- client: start at an OpSnapshot of a snapshot that is not open. -/
import Derived.Test.YtjmhnlbkfbieaaaGreatStp
import Derived.Test.YtjmhnlbkfbieaaaGreatOpRun
import Derived.Deep.RegionHeld3
namespace Go.Proofs.YtjmhnlbkfbieaaaGreat
open Go.RowKit
set_option linter.unusedSectionVars false
set_option linter.unusedVariables false
set_option linter.unusedSimpArgs false
set_option maxRecDepth 100000
set_option maxHeartbeats 4000000
theorem Op0.keeps {w w' : World} {ob lo lo' : Nat} {T S N C R F K i : Int} {X : List Nat} (h : Op0 w ob lo T S N C R F K i) (k : Keeps X w w') (hg : ∀ g ∈ X, g < lo) (hl : lo' ≤ lo) : Op0 w' ob lo' T S N C R F K i := by
  obtain ⟨nb, lb, pb, h1, h2, ⟨a1, a2, a3, a4⟩, d1, d2, d3⟩ := h
  have n1 : ∀ j, lo ≤ j → j ∉ X := fun j hj hm => by have := hg j hm; omega
  exact ⟨nb, lb, pb, k.blk h1 (n1 _ a1), h2.keeps k (n1 _ a2) (n1 _ a3) (n1 _ a4), ⟨by omega, by omega, by omega, by omega⟩, d1, d2, d3⟩
theorem zero4 {w : World} {g : Nat} (h : Blk w g [.int .i64 0, .int .u64 0, .string ⟨#[]⟩, .string ⟨#[]⟩]) :
    Blk ((((w.setCell ⟨g, 0, none⟩ (.int .i64 0)).setCell ⟨g, 1, none⟩ (.int .u64 0)).setCell ⟨g, 2, none⟩ (.string ⟨#[]⟩)).setCell ⟨g, 3, none⟩ (.string ⟨#[]⟩)) g [.int .i64 0, .int .u64 0, .string ⟨#[]⟩, .string ⟨#[]⟩] ∧
    Keeps [g] w ((((w.setCell ⟨g, 0, none⟩ (.int .i64 0)).setCell ⟨g, 1, none⟩ (.int .u64 0)).setCell ⟨g, 2, none⟩ (.string ⟨#[]⟩)).setCell ⟨g, 3, none⟩ (.string ⟨#[]⟩)) := by
  refine ⟨?_, ((((Keeps.refl [g] w).setCell _ _ (.inl (by simp))).setCell _ _ (.inl (by simp))).setCell _ _ (.inl (by simp))).setCell _ _ (.inl (by simp))⟩
  have := (((h.set 0 (.int .i64 0)).set 1 (.int .u64 0)).set 2 (.string ⟨#[]⟩)).set 3 (.string ⟨#[]⟩)
  simpa only [List.set_cons_zero, List.set_cons_succ] using this
theorem start_snap (w : World) (gc gs s h : Nat) (cs sn : List Value) (A : Option Addr) (n c : Nat) (T S N C R F K : Int) (hc : CfgOK T S N C R F K) (t : Int) (t0 : 0 ≤ t) (t1 : t < T) (b1 : Blk w gc cs) (b2 : Blk w gs sn) (hs : (s : Int) = S) (hh : h < s)
    (hL : cs[0]? = some (.int .i64 T) ∧ cs[1]? = some (.int .i64 S) ∧ cs[2]? = some (.int .i64 N) ∧ cs[3]? = some (.int .i64 C) ∧ cs[4]? = some (.int .i64 R) ∧ cs[5]? = some (.int .i64 F) ∧ cs[6]? = some (.int .u64 K)) (h7 : cs[7]? = some (.int .i64 t)) (h15 : cs[15]? = some (.slice (some ⟨gs, 0, none⟩) s s)) (h2 : sn[h * 2]? = some (.bool false)) :
    Calls Tryz.prog 25 #[.pointer (some ⟨gc, 0, none⟩), .agg #[.int .i64 4, .string ⟨#[]⟩, .int .u64 0, .slice A n c, .int .i64 h, .int .i64 0, .int .i64 0]] w fun q w' => ∃ ob, q = .returned (.tuple #[.iface 109 (.agg #[.pointer (some ⟨ob, 0, none⟩), .int .i64 h]), .agg #[.int .i64 0, .int .u64 0, .string ⟨#[]⟩, .string ⟨#[]⟩]]) ∧ Op0 w' ob w.heap.size T S N C R F K (8 + t * S + h) ∧ Keeps [] w w' := by
  have kw := ((Keeps.refl [] w).alloc (.cells #[.int .i64 4, .string ⟨#[]⟩, .int .u64 0, .slice A n c, .int .i64 h, .int .i64 0, .int .i64 0] 25)).alloc (.cells #[.int .i64 0, .int .u64 0, .string ⟨#[]⟩, .string ⟨#[]⟩] 52)
  have bO := (Blk.new w [.int .i64 4, .string ⟨#[]⟩, .int .u64 0, .slice A n c, .int .i64 h, .int .i64 0, .int .i64 0] 25).alloc (.cells #[.int .i64 0, .int .u64 0, .string ⟨#[]⟩, .string ⟨#[]⟩] 52)
  have bA := Blk.new_at (w.alloc (.cells #[.int .i64 4, .string ⟨#[]⟩, .int .u64 0, .slice A n c, .int .i64 h, .int .i64 0, .int .i64 0] 25)) (w.heap.size + 1) [.int .i64 0, .int .u64 0, .string ⟨#[]⟩, .string ⟨#[]⟩] 52 (by simp)
  change Blk ((w.alloc (.cells #[.int .i64 4, .string ⟨#[]⟩, .int .u64 0, .slice A n c, .int .i64 h, .int .i64 0, .int .i64 0] 25)).alloc (.cells #[.int .i64 0, .int .u64 0, .string ⟨#[]⟩, .string ⟨#[]⟩] 52)) _ _ at bO bA
  have c1 := kw.blk b1 (by simp)
  have c2 := kw.blk b2 (by simp)
  go_enter Tryz.func25, Tryz.ntmps25
  go_upto_region 15 with fail
  obtain ⟨W, hW⟩ : ∃ W, (w.alloc (.cells #[.int .i64 4, .string ⟨#[]⟩, .int .u64 0, .slice A n c, .int .i64 h, .int .i64 0, .int .i64 0] 25)).alloc (.cells #[.int .i64 0, .int .u64 0, .string ⟨#[]⟩, .string ⟨#[]⟩] 52) = W := ⟨_, rfl⟩
  obtain ⟨gO, hgO⟩ : ∃ gO, w.heap.size = gO := ⟨_, rfl⟩
  obtain ⟨gA, hgA⟩ : ∃ gA, w.heap.size + 1 = gA := ⟨_, rfl⟩
  have HG : Hid (gO = w.heap.size ∧ gA = w.heap.size + 1 ∧ gc < w.heap.size) := Lib.hid ⟨hgO.symm, hgA.symm, b1.lt⟩
  rw [hW] at kw bO bA c1 c2 ⊢
  rw [hgA] at bA ⊢
  rw [hgO] at bO ⊢
  clear hW hgO hgA b1 b2
  obtain ⟨p0, p1, p2, p3, p4, p5, p6, pf, pl⟩ := bO.o7
  have f15 : W.cell? ⟨gc, 15, none⟩ = some (.slice (some ⟨gs, 0, none⟩) s s) := by rw [c1.cell]; exact h15
  have f2 : W.cell? ⟨gs, h * 2, none⟩ = some (.bool false) := by rw [c2.cell]; exact h2
  have hsI : (h : Int) < (s : Int) := by omega
  have hhI : (0 : Int) ≤ (h : Int) := by omega
  go_quiet (fail)
  go_upto_region 17 with fail
  have hhS : (h : Int) < S := by omega
  obtain ⟨l0, l1, l2, l3, l4, l5, l6⟩ := hL
  have d0 := (c1.cell 0).trans l0
  have d1 := (c1.cell 1).trans l1
  have d2 := (c1.cell 2).trans l2
  have d3 := (c1.cell 3).trans l3
  have d4 := (c1.cell 4).trans l4
  have d5 := (c1.cell 5).trans l5
  have d6 := (c1.cell 6).trans l6
  have d7 := (c1.cell 7).trans h7
  clear hsI h15 h2 f15 f2 p0 p1 p2 p3 p5 p6 l0 l1 l2 l3 l4 l5 l6
  obtain ⟨a0, a1, a2, a3, af, al⟩ := bA.o4
  have hgc : gc ∉ [gA] := by have := HG.out; simp; omega
  have hgo : gO ∉ [gA] := by have := HG.out; simp; omega
  have Hs := Lib.hid hs
  clear hs
  go_region_held3 (fun w' => w'.cell? ⟨gc, 0, none⟩ = some (.int .i64 T) ∧ w'.cell? ⟨gc, 1, none⟩ = some (.int .i64 S) ∧ w'.cell? ⟨gc, 2, none⟩ = some (.int .i64 N) ∧ w'.cell? ⟨gc, 3, none⟩ = some (.int .i64 C) ∧ w'.cell? ⟨gc, 4, none⟩ = some (.int .i64 R) ∧ w'.cell? ⟨gc, 5, none⟩ = some (.int .i64 F) ∧ w'.cell? ⟨gc, 6, none⟩ = some (.int .u64 K) ∧ w'.cell? ⟨gc, 7, none⟩ = some (.int .i64 t) ∧ w'.cell? ⟨gO, 4, none⟩ = some (.int .i64 h) ∧ w'.cell? ⟨gA, 0, none⟩ = some (.int .i64 0) ∧ w'.cell? ⟨gA, 1, none⟩ = some (.int .u64 0) ∧ w'.cell? ⟨gA, 2, none⟩ = some (.string ⟨#[]⟩) ∧ w'.cell? ⟨gA, 3, none⟩ = some (.string ⟨#[]⟩) ∧ (∀ j, w'.frozen? ⟨gA, j, none⟩ = false) ∧ gA < w'.heap.size)
    (first
      | (with_reducible exact ⟨d0, d1, d2, d3, d4, d5, d6, d7, p4, a0, a1, a2, a3, af, al⟩)
      | exact ⟨k5.cellEq d0 (by simp), k5.cellEq d1 (by simp), k5.cellEq d2 (by simp), k5.cellEq d3 (by simp), k5.cellEq d4 (by simp), k5.cellEq d5 (by simp), k5.cellEq d6 (by simp), k5.cellEq d7 (by simp), k5.cellEq p4 (by simp), (k5.blk bA (by simp)).o4⟩
      | exact ⟨(zero4 (k5.blk bA (by simp))).2.cellEq (k5.cellEq d0 (by simp)) hgc, (zero4 (k5.blk bA (by simp))).2.cellEq (k5.cellEq d1 (by simp)) hgc, (zero4 (k5.blk bA (by simp))).2.cellEq (k5.cellEq d2 (by simp)) hgc, (zero4 (k5.blk bA (by simp))).2.cellEq (k5.cellEq d3 (by simp)) hgc, (zero4 (k5.blk bA (by simp))).2.cellEq (k5.cellEq d4 (by simp)) hgc, (zero4 (k5.blk bA (by simp))).2.cellEq (k5.cellEq d5 (by simp)) hgc, (zero4 (k5.blk bA (by simp))).2.cellEq (k5.cellEq d6 (by simp)) hgc, (zero4 (k5.blk bA (by simp))).2.cellEq (k5.cellEq d7 (by simp)) hgc, (zero4 (k5.blk bA (by simp))).2.cellEq (k5.cellEq p4 (by simp)) hgo, (zero4 (k5.blk bA (by simp))).1.o4⟩
      | go_keep)
    ((go_at_call 40; refine (op0_new T S N C R F K hc t h t0 t1 hhI hhS _).mono ?_; rintro e w5 ⟨ob, rfl, o5, k5⟩))
  have hb5 := k5.blk bA (by simp)
  have z := zero4 hb5
  have kf := (kw.trans ((Keeps.refl [] W).drewN (nq + 1)) (by simp)).trans k5 (by simp)
  have kz := kf.trans z.2 (by have := HG.out; simp; omega)
  have hW := kw.size
  have oz := o5.keeps (lo' := w.heap.size) z.2 (by intro g hg; simp at hg; subst hg; exact al) (by simpa using hW)
  clear d0 d1 d2 d3 d4 d5 d6 d7 p4 a0 a1 a2 a3 af o5 k5 hb5 kf
  go_wp2_with fail
  refine bodyPost_ret (results_tmp_cell (cs := [.int .i64 0, .int .u64 0, .string ⟨#[]⟩, .string ⟨#[]⟩]) rfl _ _ gA _ rfl z.1 Tryz.underlying52 sizA) rfl ?_
  exact ⟨ob, rfl, oz, kz⟩
end Go.Proofs.YtjmhnlbkfbieaaaGreat
