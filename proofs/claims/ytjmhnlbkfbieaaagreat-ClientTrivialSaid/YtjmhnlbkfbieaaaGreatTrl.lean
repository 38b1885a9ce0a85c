/- client: the task that releases a snapshot (written by gen_trl.py). -/
import Derived.Test.YtjmhnlbkfbieaaaGreatTop
import Derived.Test.YtjmhnlbkfbieaaaGreatClm
import Derived.Deep.RegionHeld3
import Derived.StillTailTactics
namespace Go.Proofs.YtjmhnlbkfbieaaaGreat
open Go.RowKit
set_option linter.unusedSectionVars false
set_option linter.unusedVariables false
set_option linter.unusedSimpArgs false
set_option maxRecDepth 100000
set_option maxHeartbeats 4000000
theorem start_rel (w : World) (gc gs s h : Nat) (cs sn : List Value) (A : Option Addr) (n c : Nat) (T S N C R F K : Int) (t : Int) (b1 : Blk w gc cs) (b2 : Blk w gs sn) (hs : (s : Int) = S) (hh : h < s)
    (hL : cs[0]? = some (.int .i64 T) ∧ cs[1]? = some (.int .i64 S) ∧ cs[2]? = some (.int .i64 N) ∧ cs[3]? = some (.int .i64 C) ∧ cs[4]? = some (.int .i64 R) ∧ cs[5]? = some (.int .i64 F) ∧ cs[6]? = some (.int .u64 K)) (h7 : cs[7]? = some (.int .i64 t)) (h15 : cs[15]? = some (.slice (some ⟨gs, 0, none⟩) s s)) (h2 : sn[h * 2]? = some (.bool true)) :
    Calls Tryz.prog 25 #[.pointer (some ⟨gc, 0, none⟩), .agg #[.int .i64 5, .string ⟨#[]⟩, .int .u64 0, .slice A n c, .int .i64 h, .int .i64 0, .int .i64 0]] w fun q w' => ∃ rl rb lb tb jb, q = .returned (.tuple #[.iface 110 (.pointer (some ⟨rl, 0, none⟩)), .agg #[.int .i64 0, .int .u64 0, .string ⟨#[]⟩, .string ⟨#[]⟩]]) ∧ Blk w' rl [.int .i64 0, .pointer (some ⟨rb, 0, none⟩), .int .i64 h] ∧ RegRel w' rb lb tb jb T S N C R F K t h ∧ (w.heap.size ≤ rl ∧ w.heap.size ≤ rb ∧ w.heap.size ≤ lb ∧ w.heap.size ≤ tb ∧ w.heap.size ≤ jb) ∧ (rb ≠ lb ∧ rb ≠ tb ∧ rb ≠ jb) ∧ (rl ≠ rb ∧ rl ≠ lb ∧ rl ≠ tb ∧ rl ≠ jb) ∧ Keeps [] w w' := by
  have kw := ((Keeps.refl [] w).alloc (.cells #[.int .i64 5, .string ⟨#[]⟩, .int .u64 0, .slice A n c, .int .i64 h, .int .i64 0, .int .i64 0] 25)).alloc (.cells #[.int .i64 0, .int .u64 0, .string ⟨#[]⟩, .string ⟨#[]⟩] 52)
  have bO := (Blk.new w [.int .i64 5, .string ⟨#[]⟩, .int .u64 0, .slice A n c, .int .i64 h, .int .i64 0, .int .i64 0] 25).alloc (.cells #[.int .i64 0, .int .u64 0, .string ⟨#[]⟩, .string ⟨#[]⟩] 52)
  have bA := Blk.new_at (w.alloc (.cells #[.int .i64 5, .string ⟨#[]⟩, .int .u64 0, .slice A n c, .int .i64 h, .int .i64 0, .int .i64 0] 25)) (w.heap.size + 1) [.int .i64 0, .int .u64 0, .string ⟨#[]⟩, .string ⟨#[]⟩] 52 (by simp)
  change Blk ((w.alloc (.cells #[.int .i64 5, .string ⟨#[]⟩, .int .u64 0, .slice A n c, .int .i64 h, .int .i64 0, .int .i64 0] 25)).alloc (.cells #[.int .i64 0, .int .u64 0, .string ⟨#[]⟩, .string ⟨#[]⟩] 52)) _ _ at bO bA
  have c1 := kw.blk b1 (by simp)
  have c2 := kw.blk b2 (by simp)
  go_enter Tryz.func25, Tryz.ntmps25
  go_upto_region 19 with fail
  obtain ⟨W, hW⟩ : ∃ W, (w.alloc (.cells #[.int .i64 5, .string ⟨#[]⟩, .int .u64 0, .slice A n c, .int .i64 h, .int .i64 0, .int .i64 0] 25)).alloc (.cells #[.int .i64 0, .int .u64 0, .string ⟨#[]⟩, .string ⟨#[]⟩] 52) = W := ⟨_, rfl⟩
  obtain ⟨gO, hgO⟩ : ∃ gO, w.heap.size = gO := ⟨_, rfl⟩
  obtain ⟨gA, hgA⟩ : ∃ gA, w.heap.size + 1 = gA := ⟨_, rfl⟩
  have HG : Hid (gO = w.heap.size ∧ gA = w.heap.size + 1 ∧ gc < w.heap.size) := Lib.hid ⟨hgO.symm, hgA.symm, b1.lt⟩
  rw [hW] at kw bO bA c1 c2 ⊢
  rw [hgA] at bA ⊢
  rw [hgO] at bO ⊢
  clear hW hgO hgA b1 b2
  obtain ⟨p0, p1, p2, p3, p4, p5, p6, pf, pl⟩ := bO.o7
  have f15 : W.cell? ⟨gc, 15, none⟩ = some (.slice (some ⟨gs, 0, none⟩) s s) := by rw [c1.cell]; exact h15
  have f2 : W.cell? ⟨gs, h * 2, none⟩ = some (.bool true) := by rw [c2.cell]; exact h2
  have hsI : (h : Int) < (s : Int) := by omega
  have hhI : (0 : Int) ≤ (h : Int) := by omega
  go_quiet (fail)
  go_upto_region 21 with fail
  obtain ⟨l0, l1, l2, l3, l4, l5, l6⟩ := hL
  have d0 := (c1.cell 0).trans l0
  have d1 := (c1.cell 1).trans l1
  have d2 := (c1.cell 2).trans l2
  have d3 := (c1.cell 3).trans l3
  have d4 := (c1.cell 4).trans l4
  have d5 := (c1.cell 5).trans l5
  have d6 := (c1.cell 6).trans l6
  have d7 := (c1.cell 7).trans h7
  clear hsI h15 h2 f15 f2 p0 p1 p2 p3 p5 p6 l0 l1 l2 l3 l4 l5 l6
  obtain ⟨a0, a1, a2, a3, af, al⟩ := bA.o4
  have hgc : gc ∉ [gA] := by have := HG.out; simp; omega
  have hgo : gO ∉ [gA] := by have := HG.out; simp; omega
  have Hs := Lib.hid hs
  clear hs
  go_region_held3 (fun w' => w'.cell? ⟨gc, 0, none⟩ = some (.int .i64 T) ∧ w'.cell? ⟨gc, 1, none⟩ = some (.int .i64 S) ∧ w'.cell? ⟨gc, 2, none⟩ = some (.int .i64 N) ∧ w'.cell? ⟨gc, 3, none⟩ = some (.int .i64 C) ∧ w'.cell? ⟨gc, 4, none⟩ = some (.int .i64 R) ∧ w'.cell? ⟨gc, 5, none⟩ = some (.int .i64 F) ∧ w'.cell? ⟨gc, 6, none⟩ = some (.int .u64 K) ∧ w'.cell? ⟨gc, 7, none⟩ = some (.int .i64 t) ∧ w'.cell? ⟨gO, 4, none⟩ = some (.int .i64 h) ∧ w'.cell? ⟨gA, 0, none⟩ = some (.int .i64 0) ∧ w'.cell? ⟨gA, 1, none⟩ = some (.int .u64 0) ∧ w'.cell? ⟨gA, 2, none⟩ = some (.string ⟨#[]⟩) ∧ w'.cell? ⟨gA, 3, none⟩ = some (.string ⟨#[]⟩) ∧ (∀ j, w'.frozen? ⟨gA, j, none⟩ = false) ∧ gA < w'.heap.size)
    (first
      | (with_reducible exact ⟨d0, d1, d2, d3, d4, d5, d6, d7, p4, a0, a1, a2, a3, af, al⟩)
      | (with_reducible exact ⟨k5.cellEq d0 (by simp), k5.cellEq d1 (by simp), k5.cellEq d2 (by simp), k5.cellEq d3 (by simp), k5.cellEq d4 (by simp), k5.cellEq d5 (by simp), k5.cellEq d6 (by simp), k5.cellEq d7 (by simp), k5.cellEq p4 (by simp), (k5.blk bA (by simp)).o4⟩)
      | (with_reducible exact ⟨(k5.alloc _).cellEq d0 (by simp), (k5.alloc _).cellEq d1 (by simp), (k5.alloc _).cellEq d2 (by simp), (k5.alloc _).cellEq d3 (by simp), (k5.alloc _).cellEq d4 (by simp), (k5.alloc _).cellEq d5 (by simp), (k5.alloc _).cellEq d6 (by simp), (k5.alloc _).cellEq d7 (by simp), (k5.alloc _).cellEq p4 (by simp), ((k5.alloc _).blk bA (by simp)).o4⟩)
      | (with_reducible exact ⟨(zero4 ((k5.alloc _).blk bA (by simp))).2.cellEq ((k5.alloc _).cellEq d0 (by simp)) hgc, (zero4 ((k5.alloc _).blk bA (by simp))).2.cellEq ((k5.alloc _).cellEq d1 (by simp)) hgc, (zero4 ((k5.alloc _).blk bA (by simp))).2.cellEq ((k5.alloc _).cellEq d2 (by simp)) hgc, (zero4 ((k5.alloc _).blk bA (by simp))).2.cellEq ((k5.alloc _).cellEq d3 (by simp)) hgc, (zero4 ((k5.alloc _).blk bA (by simp))).2.cellEq ((k5.alloc _).cellEq d4 (by simp)) hgc, (zero4 ((k5.alloc _).blk bA (by simp))).2.cellEq ((k5.alloc _).cellEq d5 (by simp)) hgc, (zero4 ((k5.alloc _).blk bA (by simp))).2.cellEq ((k5.alloc _).cellEq d6 (by simp)) hgc, (zero4 ((k5.alloc _).blk bA (by simp))).2.cellEq ((k5.alloc _).cellEq d7 (by simp)) hgc, (zero4 ((k5.alloc _).blk bA (by simp))).2.cellEq ((k5.alloc _).cellEq p4 (by simp)) hgo, (zero4 ((k5.alloc _).blk bA (by simp))).1.o4⟩)
      | (with_reducible exact ⟨(zero4 (k5.blk bA (by simp))).2.cellEq (k5.cellEq d0 (by simp)) hgc, (zero4 (k5.blk bA (by simp))).2.cellEq (k5.cellEq d1 (by simp)) hgc, (zero4 (k5.blk bA (by simp))).2.cellEq (k5.cellEq d2 (by simp)) hgc, (zero4 (k5.blk bA (by simp))).2.cellEq (k5.cellEq d3 (by simp)) hgc, (zero4 (k5.blk bA (by simp))).2.cellEq (k5.cellEq d4 (by simp)) hgc, (zero4 (k5.blk bA (by simp))).2.cellEq (k5.cellEq d5 (by simp)) hgc, (zero4 (k5.blk bA (by simp))).2.cellEq (k5.cellEq d6 (by simp)) hgc, (zero4 (k5.blk bA (by simp))).2.cellEq (k5.cellEq d7 (by simp)) hgc, (zero4 (k5.blk bA (by simp))).2.cellEq (k5.cellEq p4 (by simp)) hgo, (zero4 (k5.blk bA (by simp))).1.o4⟩)
      | (with_reducible exact ⟨((zero4 (k5.blk bA (by simp))).2.alloc _).cellEq (k5.cellEq d0 (by simp)) hgc, ((zero4 (k5.blk bA (by simp))).2.alloc _).cellEq (k5.cellEq d1 (by simp)) hgc, ((zero4 (k5.blk bA (by simp))).2.alloc _).cellEq (k5.cellEq d2 (by simp)) hgc, ((zero4 (k5.blk bA (by simp))).2.alloc _).cellEq (k5.cellEq d3 (by simp)) hgc, ((zero4 (k5.blk bA (by simp))).2.alloc _).cellEq (k5.cellEq d4 (by simp)) hgc, ((zero4 (k5.blk bA (by simp))).2.alloc _).cellEq (k5.cellEq d5 (by simp)) hgc, ((zero4 (k5.blk bA (by simp))).2.alloc _).cellEq (k5.cellEq d6 (by simp)) hgc, ((zero4 (k5.blk bA (by simp))).2.alloc _).cellEq (k5.cellEq d7 (by simp)) hgc, ((zero4 (k5.blk bA (by simp))).2.alloc _).cellEq (k5.cellEq p4 (by simp)) hgo, ((zero4 (k5.blk bA (by simp))).1.alloc _).o4⟩)
      | (with_reducible go_keep))
    ((go_at_call 41; refine (newRegRel_any T S N C R F K t h _).mono ?_; rintro e w5 ⟨rb, lb, tb, jb, rfl, o5, g1, g2, g3, g4, g5, g6, g7, k5⟩; replace k5 := k5.undrewN))
  have hr5 := o5.self.lt
  have hl5 := o5.lay.lt
  have ht5 := o5.t.lt
  have hj5 := o5.j.lt
  have HR : Hid (w.heap.size ≤ w5.heap.size ∧ w5.heap.size ≠ gA ∧ w5.heap.size ≠ gO ∧ (w5.heap.size ≠ rb ∧ w5.heap.size ≠ lb ∧ w5.heap.size ≠ tb ∧ w5.heap.size ≠ jb) ∧ (w.heap.size ≤ rb ∧ w.heap.size ≤ lb ∧ w.heap.size ≤ tb ∧ w.heap.size ≤ jb) ∧ (rb ≠ gA ∧ lb ≠ gA ∧ tb ≠ gA ∧ jb ≠ gA)) := Lib.hid (by have h5 := k5.size; have hw := kw.size; simp at h5 g1 g2 g3 g4; have := HG.out; have := bA.lt; omega)
  have kB := (Keeps.refl [] w5).alloc (.cells #[.int .i64 0, .pointer (some ⟨rb, 0, none⟩), .int .i64 h] 116)
  have bR := Blk.new w5 [.int .i64 0, .pointer (some ⟨rb, 0, none⟩), .int .i64 h] 116
  have hb5 := kB.blk (k5.blk bA (by simp)) (by simp)
  have z := zero4 hb5
  have kf := (kw.trans k5 (by simp)).trans kB (by simp)
  have kz := kf.trans z.2 (by have := HG.out; simp; omega)
  have bR2 := z.2.blk bR (by have := HR.out; simp; omega)
  have oz : RegRel _ rb lb tb jb T S N C R F K t h := ⟨z.2.blk (kB.blk o5.self (by simp)) (by have := HR.out; simp; omega), z.2.blk (kB.blk o5.lay (by simp)) (by have := HR.out; simp; omega), z.2.blk (kB.blk o5.t (by simp)) (by have := HR.out; simp; omega), z.2.blk (kB.blk o5.j (by simp)) (by have := HR.out; simp; omega)⟩
  clear d0 d1 d2 d3 d4 d5 d6 d7 p4 a0 a1 a2 a3 af o5 k5 hb5 kf hr5 hl5 ht5 hj5 g1 g2 g3 g4
  go_wp2_with fail
  refine bodyPost_ret (results_tmp_cell (cs := [.int .i64 0, .int .u64 0, .string ⟨#[]⟩, .string ⟨#[]⟩]) rfl _ _ gA _ rfl z.1 Tryz.underlying52 sizA) rfl ?_
  exact ⟨w5.heap.size, rb, lb, tb, jb, rfl, bR2, oz, ⟨HR.out.1, HR.out.2.2.2.2.1⟩, ⟨g5, g6, g7⟩, HR.out.2.2.2.1, kz⟩
@[go_sem] theorem rmeth_Marks (rl : Nat) (w : World) : (method 484 110 (.pointer (some ⟨rl, 0, none⟩)) "Marks").run Tryz.prog w = .ok (353, .pointer (some ⟨rl, 0, none⟩)) w := by kernel_rfl
@[go_sem] theorem rahead_Marks (rl : Nat) (w : World) : (nilAhead 484 110 (.pointer (some ⟨rl, 0, none⟩)) "Marks").run Tryz.prog w = .ok (some false) w := by kernel_rfl
@[go_sem] theorem rmeth_Step (rl : Nat) (w : World) : (method 484 110 (.pointer (some ⟨rl, 0, none⟩)) "Step").run Tryz.prog w = .ok (354, .pointer (some ⟨rl, 0, none⟩)) w := by kernel_rfl
@[go_sem] theorem rahead_Step (rl : Nat) (w : World) : (nilAhead 484 110 (.pointer (some ⟨rl, 0, none⟩)) "Step").run Tryz.prog w = .ok (some false) w := by kernel_rfl
@[go_sem] theorem rmeth_Early (rl : Nat) (w : World) : (method 484 110 (.pointer (some ⟨rl, 0, none⟩)) "Early").run Tryz.prog w = .ok (351, .pointer (some ⟨rl, 0, none⟩)) w := by kernel_rfl
@[go_sem] theorem rahead_Early (rl : Nat) (w : World) : (nilAhead 484 110 (.pointer (some ⟨rl, 0, none⟩)) "Early").run Tryz.prog w = .ok (some false) w := by kernel_rfl
@[go_sem] theorem rmeth_Finish (rl : Nat) (w : World) : (method 484 110 (.pointer (some ⟨rl, 0, none⟩)) "Finish").run Tryz.prog w = .ok (352, .pointer (some ⟨rl, 0, none⟩)) w := by kernel_rfl
@[go_sem] theorem rahead_Finish (rl : Nat) (w : World) : (nilAhead 484 110 (.pointer (some ⟨rl, 0, none⟩)) "Finish").run Tryz.prog w = .ok (some false) w := by kernel_rfl
theorem rmarks_any (w : World) (rl rb : Nat) (v h : Int) (b : Blk w rl [.int .i64 v, .pointer (some ⟨rb, 0, none⟩), .int .i64 h]) : Calls Tryz.prog 353 #[.pointer (some ⟨rl, 0, none⟩)] w fun q w' => q = .returned (.int .i64 v) ∧ w = w' := by
  have bo := b.o3
  go_enter Tryz.func353, Tryz.ntmps353
  go_wp2_with fail
  go_ret
  exact ⟨rfl, rfl⟩
theorem rearly_any (w : World) (rl : Nat) : Calls Tryz.prog 351 #[.pointer (some ⟨rl, 0, none⟩)] w fun q w' => q = .returned (.agg #[.int .i64 0, .int .u64 0, .string ⟨#[]⟩, .string ⟨#[]⟩]) ∧ Keeps [] w w' := by
  go_enter Tryz.func351, Tryz.ntmps351
  go_wp2_with fail
  refine bodyPost_ret (results_blk (cs := [.int .i64 0, .int .u64 0, .string ⟨#[]⟩, .string ⟨#[]⟩]) rfl _ _ w.heap.size _ rfl (Blk.new w [.int .i64 0, .int .u64 0, .string ⟨#[]⟩, .string ⟨#[]⟩] 52) Tryz.underlying52 sizA) rfl ?_
  exact ⟨rfl, (Keeps.refl _ _).alloc _⟩
theorem rend_any (w : World) (rl rb : Nat) (v h : Int) (b : Blk w rl [.int .i64 v, .pointer (some ⟨rb, 0, none⟩), .int .i64 h]) : Calls Tryz.prog 355 #[.pointer (some ⟨rl, 0, none⟩), .bool true] w fun q w' => q = .returned (.bool true) ∧ Blk w' rl [.int .i64 1, .pointer (some ⟨rb, 0, none⟩), .int .i64 h] ∧ Keeps [rl] w w' := by
  have bo := b.o3
  go_enter Tryz.func355, Tryz.ntmps355
  go_wp2_with fail
  go_ret
  have := b.set 0 (.int .i64 1)
  simp only [List.set_cons_zero] at this
  exact ⟨rfl, this, (Keeps.refl _ _).setCell _ _ (.inl (by simp))⟩
theorem rstep_any (w : World) (rl rb lb tb jb m c : Nat) (h : Int) (L : List C3) (na t j : Int) (T S N C R F K : Int) (hc : CfgOK T S N C R F K) (b : Blk w rl [.int .i64 0, .pointer (some ⟨rb, 0, none⟩), .int .i64 h]) (o : RegRel w rb lb tb jb T S N C R F K t j) (t0 : 0 ≤ t) (t1 : t < T) (j0 : 0 ≤ j) (j1 : j < S) (hm : MemAt w m c L na) (n0 : 0 ≤ na) (n1 : na ≤ 4611686018427387904) (ha : rb ≠ m ∧ rb ≠ c) (hr : rl ≠ m ∧ rl ≠ c ∧ rl ≠ rb) :
    Calls Tryz.prog 354 #[.pointer (some ⟨rl, 0, none⟩), .pointer (some ⟨m, 0, none⟩)] w fun q w' => q = .returned (.bool true) ∧ Blk w' rl [.int .i64 1, .pointer (some ⟨rb, 0, none⟩), .int .i64 h] ∧ MemAt w' m c (memSet L (8 + t * S + j) ⟨0, ⟨#[]⟩, 0⟩) (na + 1) ∧ Keeps [m, c, rb, rl] w w' := by
  have bo := b.o3
  have hq := fun u (k : Keeps [] w u) => regRelStep u rb lb tb jb m c L na t j T S N C R F K hc ⟨k.blk o.self (by simp), k.blk o.lay (by simp), k.blk o.t (by simp), k.blk o.j (by simp)⟩ t0 t1 j0 j1 (hm.keeps k (by simp) (by simp)) n0 n1 ha
  go_enter Tryz.func354, Tryz.ntmps354
  go_upto_region 1 with fail
  have bo1 := bo.2.1
  have hrn : rl ∉ [m, c, rb] := by simp; omega
  clear bo
  go_region_held3 (fun w' => w'.cell? ⟨rl, 1, none⟩ = some (.pointer (some ⟨rb, 0, none⟩)))
    (first
      | (with_reducible exact bo1)
      | (with_reducible exact c3)
      | (with_reducible exact c2)
      | (with_reducible go_keep))
    ((first
      | (go_at_call 356; refine (hq _ (Keeps.refl [] w).drew).mono ?_; rintro q w2 ⟨rfl, hm2, k2⟩; replace k2 := k2.undrew; have b2 := k2.blk b hrn; have c2 : w2.cell? ⟨rl, 1, none⟩ = some (.pointer (some ⟨rb, 0, none⟩)) := b2.cell 1)
      | (go_at_call 355; refine (rend_any _ rl rb 0 h b2).mono ?_; rintro q w3 ⟨rfl, b3, k3⟩; have c3 : w3.cell? ⟨rl, 1, none⟩ = some (.pointer (some ⟨rb, 0, none⟩)) := b3.cell 1)))
  go_wp2_with fail
  go_ret
  exact ⟨rfl, b3, hm2.keeps k3 (by simp; omega) (by simp; omega), (k2.mono (S' := [m, c, rb, rl]) (by intro j hj; left; simp at hj ⊢; omega)).trans k3 (by simp)⟩
end Go.Proofs.YtjmhnlbkfbieaaaGreat
