/- client: startCursor and start at operations that are answered at once (written by gen_tst.py). -/
import Derived.Test.YtjmhnlbkfbieaaaGreatStp
import Derived.Deep.RegionHeld3
namespace Go.Proofs.YtjmhnlbkfbieaaaGreat
open Go.RowKit
set_option linter.unusedSectionVars false
set_option linter.unusedVariables false
set_option linter.unusedSimpArgs false
set_option maxRecDepth 100000
set_option maxHeartbeats 4000000
/-- An operation's start that is answered at once: error e, time t, the client's cells behind it. -/
def StQ (gc : Nat) (cs2 : List Value) (e t : Int) (w : World) (q : Ending) (w' : World) : Prop :=
  q = .returned (.tuple #[.nilIface, .agg #[.int .i64 e, .int .u64 t, .string ⟨#[]⟩, .string ⟨#[]⟩]]) ∧ Blk w' gc cs2 ∧ Keeps [gc] w w'
theorem scu_opcl (w : World) (gc gs s : Nat) (cs sn : List Value) (A : Option Addr) (n c : Nat) (ky : Array UInt8) (tm om : Int) (h u : Nat) (hu : u < 8) (hs : h < s) (b1 : Blk w gc cs) (b2 : Blk w gs sn) (h1 : cs[15]? = some (.slice (some ⟨gs, 0, none⟩) s s)) (h2 : sn[h * 2]? = some (.bool false)) :
    Calls Tryz.prog 43 #[.pointer (some ⟨gc, 0, none⟩), .agg #[.int .i64 6, .string ⟨ky⟩, .int .u64 tm, .slice A n c, .int .i64 h, .int .i64 u, .int .i64 om]] w (StQ gc cs 6 0 w) := by
  have kw := ((Keeps.refl [] w).alloc (.cells #[.int .i64 6, .string ⟨ky⟩, .int .u64 tm, .slice A n c, .int .i64 h, .int .i64 u, .int .i64 om] 25)).alloc (.cells #[.int .i64 0, .int .u64 0, .string ⟨#[]⟩, .string ⟨#[]⟩] 52)
  have bO := (Blk.new w [.int .i64 6, .string ⟨ky⟩, .int .u64 tm, .slice A n c, .int .i64 h, .int .i64 u, .int .i64 om] 25).alloc (.cells #[.int .i64 0, .int .u64 0, .string ⟨#[]⟩, .string ⟨#[]⟩] 52)
  have bA := Blk.new_at (w.alloc (.cells #[.int .i64 6, .string ⟨ky⟩, .int .u64 tm, .slice A n c, .int .i64 h, .int .i64 u, .int .i64 om] 25)) (w.heap.size + 1) [.int .i64 0, .int .u64 0, .string ⟨#[]⟩, .string ⟨#[]⟩] 52 (by simp)
  change Blk ((w.alloc (.cells #[.int .i64 6, .string ⟨ky⟩, .int .u64 tm, .slice A n c, .int .i64 h, .int .i64 u, .int .i64 om] 25)).alloc (.cells #[.int .i64 0, .int .u64 0, .string ⟨#[]⟩, .string ⟨#[]⟩] 52)) _ _ at bO bA
  have c1 := kw.blk b1 (by simp)
  have c2 := kw.blk b2 (by simp)
  have hgc := b1.lt
  go_enter Tryz.func43, Tryz.ntmps43
  go_upto_region 1 with fail
  obtain ⟨W, hW⟩ : ∃ W, (w.alloc (.cells #[.int .i64 6, .string ⟨ky⟩, .int .u64 tm, .slice A n c, .int .i64 h, .int .i64 u, .int .i64 om] 25)).alloc (.cells #[.int .i64 0, .int .u64 0, .string ⟨#[]⟩, .string ⟨#[]⟩] 52) = W := ⟨_, rfl⟩
  obtain ⟨gO, hgO⟩ : ∃ gO, w.heap.size = gO := ⟨_, rfl⟩
  obtain ⟨gA, hgA⟩ : ∃ gA, w.heap.size + 1 = gA := ⟨_, rfl⟩
  have HG : Hid (w.heap.size ≤ gA ∧ gc ≠ gA ∧ gc < gA ∧ gO ≠ gA ∧ gO ≠ gc) := Lib.hid (by omega)
  rw [hW] at kw bO bA c1 c2 ⊢
  rw [hgA] at bA ⊢
  rw [hgO] at bO ⊢
  clear hW hgO hgA b1 b2 hgc
  obtain ⟨p0, p1, p2, p3, p4, p5, p6, pf, pl⟩ := bO.o7
  have f1 : W.cell? ⟨gc, 15, none⟩ = some (.slice (some ⟨gs, 0, none⟩) s s) := by rw [c1.cell]; exact h1
  have f2 : W.cell? ⟨gs, h * 2, none⟩ = some (.bool false) := by rw [c2.cell]; exact h2
  have huI : (u : Int) < 8 := by omega
  have hu0 : (0 : Int) ≤ (u : Int) := by omega
  have hsI : (h : Int) < (s : Int) := by omega
  have hh0 : (0 : Int) ≤ (h : Int) := by omega
  go_quiet (fail)
  go_wp2_with fail
  go_quiet (fail)
  go_wp2_with fail
  refine (failed_any 6 _).mono ?_
  rintro q w3 ⟨rfl, k3⟩
  have K3 := (kw.trans ((Keeps.refl [] W).drewN _) (by simp)).trans k3 (by simp)
  have c3 := k3.blk (c1.drewN _) (by simp)
  have bA3 := k3.blk (bA.drewN _) (by simp)
  try clear c1
  try clear c2 f1 f2 
  try clear x0 x1 x2 x3 xf xl
  clear p0 p1 p2 p3 p4 p5 p6 pf pl
  obtain ⟨a0, a1, a2, a3, af, al⟩ := bA3.o4
  have kS := ((((Keeps.refl [gA] w3).setCell ⟨gA, 0, none⟩ (.int .i64 6) (.inl (by simp))).setCell ⟨gA, 1, none⟩ (.int .u64 0) (.inl (by simp))).setCell ⟨gA, 2, none⟩ (.string ⟨#[]⟩) (.inl (by simp))).setCell ⟨gA, 3, none⟩ (.string ⟨#[]⟩) (.inl (by simp))
  have bS := (((bA3.set 0 (.int .i64 6)).set 1 (.int .u64 0)).set 2 (.string ⟨#[]⟩)).set 3 (.string ⟨#[]⟩)
  simp only [List.set_cons_zero, List.set_cons_succ] at bS
  have KF : Keeps [gc] w _ := (K3.mono (S' := [gc]) (by simp)).trans kS (by have := HG.out; simp; omega)
  have cF := kS.blk c3 (by have := HG.out; simp; omega)
  go_wp2_with fail
  refine bodyPost_ret (results_tmp_cell (cs := [.int .i64 6, .int .u64 0, .string ⟨#[]⟩, .string ⟨#[]⟩]) rfl _ _ gA _ rfl bS Tryz.underlying52 sizA) rfl ?_
  exact ⟨rfl, cF, KF⟩
theorem scu_opop (w : World) (gc gs s : Nat) (cs sn : List Value) (A : Option Addr) (n c : Nat) (ky : Array UInt8) (tm om : Int) (h u : Nat) (hu : u < 8) (hs : h < s) (b1 : Blk w gc cs) (b2 : Blk w gs sn) (h1 : cs[15]? = some (.slice (some ⟨gs, 0, none⟩) s s)) (h2 : sn[h * 2]? = some (.bool true)) (h3 : cs[16 + u * 4]? = some (.bool true)) :
    Calls Tryz.prog 43 #[.pointer (some ⟨gc, 0, none⟩), .agg #[.int .i64 6, .string ⟨ky⟩, .int .u64 tm, .slice A n c, .int .i64 h, .int .i64 u, .int .i64 om]] w (StQ gc cs 7 0 w) := by
  have kw := ((Keeps.refl [] w).alloc (.cells #[.int .i64 6, .string ⟨ky⟩, .int .u64 tm, .slice A n c, .int .i64 h, .int .i64 u, .int .i64 om] 25)).alloc (.cells #[.int .i64 0, .int .u64 0, .string ⟨#[]⟩, .string ⟨#[]⟩] 52)
  have bO := (Blk.new w [.int .i64 6, .string ⟨ky⟩, .int .u64 tm, .slice A n c, .int .i64 h, .int .i64 u, .int .i64 om] 25).alloc (.cells #[.int .i64 0, .int .u64 0, .string ⟨#[]⟩, .string ⟨#[]⟩] 52)
  have bA := Blk.new_at (w.alloc (.cells #[.int .i64 6, .string ⟨ky⟩, .int .u64 tm, .slice A n c, .int .i64 h, .int .i64 u, .int .i64 om] 25)) (w.heap.size + 1) [.int .i64 0, .int .u64 0, .string ⟨#[]⟩, .string ⟨#[]⟩] 52 (by simp)
  change Blk ((w.alloc (.cells #[.int .i64 6, .string ⟨ky⟩, .int .u64 tm, .slice A n c, .int .i64 h, .int .i64 u, .int .i64 om] 25)).alloc (.cells #[.int .i64 0, .int .u64 0, .string ⟨#[]⟩, .string ⟨#[]⟩] 52)) _ _ at bO bA
  have c1 := kw.blk b1 (by simp)
  have c2 := kw.blk b2 (by simp)
  have hgc := b1.lt
  go_enter Tryz.func43, Tryz.ntmps43
  go_upto_region 1 with fail
  obtain ⟨W, hW⟩ : ∃ W, (w.alloc (.cells #[.int .i64 6, .string ⟨ky⟩, .int .u64 tm, .slice A n c, .int .i64 h, .int .i64 u, .int .i64 om] 25)).alloc (.cells #[.int .i64 0, .int .u64 0, .string ⟨#[]⟩, .string ⟨#[]⟩] 52) = W := ⟨_, rfl⟩
  obtain ⟨gO, hgO⟩ : ∃ gO, w.heap.size = gO := ⟨_, rfl⟩
  obtain ⟨gA, hgA⟩ : ∃ gA, w.heap.size + 1 = gA := ⟨_, rfl⟩
  have HG : Hid (w.heap.size ≤ gA ∧ gc ≠ gA ∧ gc < gA ∧ gO ≠ gA ∧ gO ≠ gc) := Lib.hid (by omega)
  rw [hW] at kw bO bA c1 c2 ⊢
  rw [hgA] at bA ⊢
  rw [hgO] at bO ⊢
  clear hW hgO hgA b1 b2 hgc
  obtain ⟨p0, p1, p2, p3, p4, p5, p6, pf, pl⟩ := bO.o7
  have f1 : W.cell? ⟨gc, 15, none⟩ = some (.slice (some ⟨gs, 0, none⟩) s s) := by rw [c1.cell]; exact h1
  have f2 : W.cell? ⟨gs, h * 2, none⟩ = some (.bool true) := by rw [c2.cell]; exact h2
  have x0 : W.cell? ⟨gc, 16 + u * 4, none⟩ = some (.bool true) := by rw [c1.cell]; exact h3
  have huI : (u : Int) < 8 := by omega
  have hu0 : (0 : Int) ≤ (u : Int) := by omega
  have hsI : (h : Int) < (s : Int) := by omega
  have hh0 : (0 : Int) ≤ (h : Int) := by omega
  go_quiet (fail)
  go_wp2_with fail
  go_quiet (fail)
  go_wp2_with fail
  refine (failed_any 7 _).mono ?_
  rintro q w3 ⟨rfl, k3⟩
  have K3 := (kw.trans ((Keeps.refl [] W).drewN _) (by simp)).trans k3 (by simp)
  have c3 := k3.blk (c1.drewN _) (by simp)
  have bA3 := k3.blk (bA.drewN _) (by simp)
  try clear c1
  try clear c2 f1 f2 
  try clear x0 x1 x2 x3 xf xl
  clear p0 p1 p2 p3 p4 p5 p6 pf pl
  obtain ⟨a0, a1, a2, a3, af, al⟩ := bA3.o4
  have kS := ((((Keeps.refl [gA] w3).setCell ⟨gA, 0, none⟩ (.int .i64 7) (.inl (by simp))).setCell ⟨gA, 1, none⟩ (.int .u64 0) (.inl (by simp))).setCell ⟨gA, 2, none⟩ (.string ⟨#[]⟩) (.inl (by simp))).setCell ⟨gA, 3, none⟩ (.string ⟨#[]⟩) (.inl (by simp))
  have bS := (((bA3.set 0 (.int .i64 7)).set 1 (.int .u64 0)).set 2 (.string ⟨#[]⟩)).set 3 (.string ⟨#[]⟩)
  simp only [List.set_cons_zero, List.set_cons_succ] at bS
  have KF : Keeps [gc] w _ := (K3.mono (S' := [gc]) (by simp)).trans kS (by have := HG.out; simp; omega)
  have cF := kS.blk c3 (by have := HG.out; simp; omega)
  go_wp2_with fail
  refine bodyPost_ret (results_tmp_cell (cs := [.int .i64 7, .int .u64 0, .string ⟨#[]⟩, .string ⟨#[]⟩]) rfl _ _ gA _ rfl bS Tryz.underlying52 sizA) rfl ?_
  exact ⟨rfl, cF, KF⟩
theorem scu_cl7 (w : World) (gc gs s : Nat) (cs sn : List Value) (A : Option Addr) (n c : Nat) (ky : Array UInt8) (tm om : Int) (oh : Int) (u : Nat) (hu : u < 8) (b1 : Blk w gc cs) (b2 : Blk w gs sn) (h3 : cs[16 + u * 4]? = some (.bool false)) :
    Calls Tryz.prog 43 #[.pointer (some ⟨gc, 0, none⟩), .agg #[.int .i64 7, .string ⟨ky⟩, .int .u64 tm, .slice A n c, .int .i64 oh, .int .i64 u, .int .i64 om]] w (StQ gc cs 6 0 w) := by
  have kw := ((Keeps.refl [] w).alloc (.cells #[.int .i64 7, .string ⟨ky⟩, .int .u64 tm, .slice A n c, .int .i64 oh, .int .i64 u, .int .i64 om] 25)).alloc (.cells #[.int .i64 0, .int .u64 0, .string ⟨#[]⟩, .string ⟨#[]⟩] 52)
  have bO := (Blk.new w [.int .i64 7, .string ⟨ky⟩, .int .u64 tm, .slice A n c, .int .i64 oh, .int .i64 u, .int .i64 om] 25).alloc (.cells #[.int .i64 0, .int .u64 0, .string ⟨#[]⟩, .string ⟨#[]⟩] 52)
  have bA := Blk.new_at (w.alloc (.cells #[.int .i64 7, .string ⟨ky⟩, .int .u64 tm, .slice A n c, .int .i64 oh, .int .i64 u, .int .i64 om] 25)) (w.heap.size + 1) [.int .i64 0, .int .u64 0, .string ⟨#[]⟩, .string ⟨#[]⟩] 52 (by simp)
  change Blk ((w.alloc (.cells #[.int .i64 7, .string ⟨ky⟩, .int .u64 tm, .slice A n c, .int .i64 oh, .int .i64 u, .int .i64 om] 25)).alloc (.cells #[.int .i64 0, .int .u64 0, .string ⟨#[]⟩, .string ⟨#[]⟩] 52)) _ _ at bO bA
  have c1 := kw.blk b1 (by simp)
  have c2 := kw.blk b2 (by simp)
  have hgc := b1.lt
  go_enter Tryz.func43, Tryz.ntmps43
  go_upto_region 1 with fail
  obtain ⟨W, hW⟩ : ∃ W, (w.alloc (.cells #[.int .i64 7, .string ⟨ky⟩, .int .u64 tm, .slice A n c, .int .i64 oh, .int .i64 u, .int .i64 om] 25)).alloc (.cells #[.int .i64 0, .int .u64 0, .string ⟨#[]⟩, .string ⟨#[]⟩] 52) = W := ⟨_, rfl⟩
  obtain ⟨gO, hgO⟩ : ∃ gO, w.heap.size = gO := ⟨_, rfl⟩
  obtain ⟨gA, hgA⟩ : ∃ gA, w.heap.size + 1 = gA := ⟨_, rfl⟩
  have HG : Hid (w.heap.size ≤ gA ∧ gc ≠ gA ∧ gc < gA ∧ gO ≠ gA ∧ gO ≠ gc) := Lib.hid (by omega)
  rw [hW] at kw bO bA c1 c2 ⊢
  rw [hgA] at bA ⊢
  rw [hgO] at bO ⊢
  clear hW hgO hgA b1 b2 hgc
  obtain ⟨p0, p1, p2, p3, p4, p5, p6, pf, pl⟩ := bO.o7
  have x0 : W.cell? ⟨gc, 16 + u * 4, none⟩ = some (.bool false) := by rw [c1.cell]; exact h3
  have huI : (u : Int) < 8 := by omega
  have hu0 : (0 : Int) ≤ (u : Int) := by omega
  go_quiet (fail)
  go_wp2_with fail
  go_quiet (fail)
  go_wp2_with fail
  refine (failed_any 6 _).mono ?_
  rintro q w3 ⟨rfl, k3⟩
  have K3 := (kw.trans ((Keeps.refl [] W).drewN _) (by simp)).trans k3 (by simp)
  have c3 := k3.blk (c1.drewN _) (by simp)
  have bA3 := k3.blk (bA.drewN _) (by simp)
  try clear c1
  try clear c2 f1 f2 
  try clear x0 x1 x2 x3 xf xl
  clear p0 p1 p2 p3 p4 p5 p6 pf pl
  obtain ⟨a0, a1, a2, a3, af, al⟩ := bA3.o4
  have kS := ((((Keeps.refl [gA] w3).setCell ⟨gA, 0, none⟩ (.int .i64 6) (.inl (by simp))).setCell ⟨gA, 1, none⟩ (.int .u64 0) (.inl (by simp))).setCell ⟨gA, 2, none⟩ (.string ⟨#[]⟩) (.inl (by simp))).setCell ⟨gA, 3, none⟩ (.string ⟨#[]⟩) (.inl (by simp))
  have bS := (((bA3.set 0 (.int .i64 6)).set 1 (.int .u64 0)).set 2 (.string ⟨#[]⟩)).set 3 (.string ⟨#[]⟩)
  simp only [List.set_cons_zero, List.set_cons_succ] at bS
  have KF : Keeps [gc] w _ := (K3.mono (S' := [gc]) (by simp)).trans kS (by have := HG.out; simp; omega)
  have cF := kS.blk c3 (by have := HG.out; simp; omega)
  go_wp2_with fail
  refine bodyPost_ret (results_tmp_cell (cs := [.int .i64 6, .int .u64 0, .string ⟨#[]⟩, .string ⟨#[]⟩]) rfl _ _ gA _ rfl bS Tryz.underlying52 sizA) rfl ?_
  exact ⟨rfl, cF, KF⟩
theorem scu_cl8 (w : World) (gc gs s : Nat) (cs sn : List Value) (A : Option Addr) (n c : Nat) (ky : Array UInt8) (tm om : Int) (oh : Int) (u : Nat) (hu : u < 8) (b1 : Blk w gc cs) (b2 : Blk w gs sn) (h3 : cs[16 + u * 4]? = some (.bool false)) :
    Calls Tryz.prog 43 #[.pointer (some ⟨gc, 0, none⟩), .agg #[.int .i64 8, .string ⟨ky⟩, .int .u64 tm, .slice A n c, .int .i64 oh, .int .i64 u, .int .i64 om]] w (StQ gc cs 6 0 w) := by
  have kw := ((Keeps.refl [] w).alloc (.cells #[.int .i64 8, .string ⟨ky⟩, .int .u64 tm, .slice A n c, .int .i64 oh, .int .i64 u, .int .i64 om] 25)).alloc (.cells #[.int .i64 0, .int .u64 0, .string ⟨#[]⟩, .string ⟨#[]⟩] 52)
  have bO := (Blk.new w [.int .i64 8, .string ⟨ky⟩, .int .u64 tm, .slice A n c, .int .i64 oh, .int .i64 u, .int .i64 om] 25).alloc (.cells #[.int .i64 0, .int .u64 0, .string ⟨#[]⟩, .string ⟨#[]⟩] 52)
  have bA := Blk.new_at (w.alloc (.cells #[.int .i64 8, .string ⟨ky⟩, .int .u64 tm, .slice A n c, .int .i64 oh, .int .i64 u, .int .i64 om] 25)) (w.heap.size + 1) [.int .i64 0, .int .u64 0, .string ⟨#[]⟩, .string ⟨#[]⟩] 52 (by simp)
  change Blk ((w.alloc (.cells #[.int .i64 8, .string ⟨ky⟩, .int .u64 tm, .slice A n c, .int .i64 oh, .int .i64 u, .int .i64 om] 25)).alloc (.cells #[.int .i64 0, .int .u64 0, .string ⟨#[]⟩, .string ⟨#[]⟩] 52)) _ _ at bO bA
  have c1 := kw.blk b1 (by simp)
  have c2 := kw.blk b2 (by simp)
  have hgc := b1.lt
  go_enter Tryz.func43, Tryz.ntmps43
  go_upto_region 1 with fail
  obtain ⟨W, hW⟩ : ∃ W, (w.alloc (.cells #[.int .i64 8, .string ⟨ky⟩, .int .u64 tm, .slice A n c, .int .i64 oh, .int .i64 u, .int .i64 om] 25)).alloc (.cells #[.int .i64 0, .int .u64 0, .string ⟨#[]⟩, .string ⟨#[]⟩] 52) = W := ⟨_, rfl⟩
  obtain ⟨gO, hgO⟩ : ∃ gO, w.heap.size = gO := ⟨_, rfl⟩
  obtain ⟨gA, hgA⟩ : ∃ gA, w.heap.size + 1 = gA := ⟨_, rfl⟩
  have HG : Hid (w.heap.size ≤ gA ∧ gc ≠ gA ∧ gc < gA ∧ gO ≠ gA ∧ gO ≠ gc) := Lib.hid (by omega)
  rw [hW] at kw bO bA c1 c2 ⊢
  rw [hgA] at bA ⊢
  rw [hgO] at bO ⊢
  clear hW hgO hgA b1 b2 hgc
  obtain ⟨p0, p1, p2, p3, p4, p5, p6, pf, pl⟩ := bO.o7
  have x0 : W.cell? ⟨gc, 16 + u * 4, none⟩ = some (.bool false) := by rw [c1.cell]; exact h3
  have huI : (u : Int) < 8 := by omega
  have hu0 : (0 : Int) ≤ (u : Int) := by omega
  go_quiet (fail)
  go_wp2_with fail
  go_quiet (fail)
  go_wp2_with fail
  refine (failed_any 6 _).mono ?_
  rintro q w3 ⟨rfl, k3⟩
  have K3 := (kw.trans ((Keeps.refl [] W).drewN _) (by simp)).trans k3 (by simp)
  have c3 := k3.blk (c1.drewN _) (by simp)
  have bA3 := k3.blk (bA.drewN _) (by simp)
  try clear c1
  try clear c2 f1 f2 
  try clear x0 x1 x2 x3 xf xl
  clear p0 p1 p2 p3 p4 p5 p6 pf pl
  obtain ⟨a0, a1, a2, a3, af, al⟩ := bA3.o4
  have kS := ((((Keeps.refl [gA] w3).setCell ⟨gA, 0, none⟩ (.int .i64 6) (.inl (by simp))).setCell ⟨gA, 1, none⟩ (.int .u64 0) (.inl (by simp))).setCell ⟨gA, 2, none⟩ (.string ⟨#[]⟩) (.inl (by simp))).setCell ⟨gA, 3, none⟩ (.string ⟨#[]⟩) (.inl (by simp))
  have bS := (((bA3.set 0 (.int .i64 6)).set 1 (.int .u64 0)).set 2 (.string ⟨#[]⟩)).set 3 (.string ⟨#[]⟩)
  simp only [List.set_cons_zero, List.set_cons_succ] at bS
  have KF : Keeps [gc] w _ := (K3.mono (S' := [gc]) (by simp)).trans kS (by have := HG.out; simp; omega)
  have cF := kS.blk c3 (by have := HG.out; simp; omega)
  go_wp2_with fail
  refine bodyPost_ret (results_tmp_cell (cs := [.int .i64 6, .int .u64 0, .string ⟨#[]⟩, .string ⟨#[]⟩]) rfl _ _ gA _ rfl bS Tryz.underlying52 sizA) rfl ?_
  exact ⟨rfl, cF, KF⟩
theorem vk_any (ky : Array UInt8) (w : World) : Calls Tryz.prog 34 #[.string ⟨ky⟩] w fun q w' => q = .returned (.bool (decide (ky.size ≤ 32))) ∧ w = w' := by
  go_enter Tryz.func34, Tryz.ntmps34
  go_wp2_with fail
  go_ret
  exact ⟨by simp <;> omega, rfl⟩
theorem scu_long (w : World) (gc gs s : Nat) (cs sn : List Value) (A : Option Addr) (n c : Nat) (ky : Array UInt8) (tm om : Int) (oh : Int) (u hh : Nat) (t : Int) (hu : u < 8) (hs : hh < s) (hk : 32 < ky.size) (b1 : Blk w gc cs) (b2 : Blk w gs sn) (h1 : cs[15]? = some (.slice (some ⟨gs, 0, none⟩) s s)) (h3 : cs[16 + u * 4]? = some (.bool true)) (h4 : cs[16 + u * 4 + 1]? = some (.int .i64 hh)) (h2 : sn[hh * 2 + 1]? = some (.int .u64 t)) :
    Calls Tryz.prog 43 #[.pointer (some ⟨gc, 0, none⟩), .agg #[.int .i64 7, .string ⟨ky⟩, .int .u64 tm, .slice A n c, .int .i64 oh, .int .i64 u, .int .i64 om]] w (StQ gc cs 8 0 w) := by
  have kw := ((Keeps.refl [] w).alloc (.cells #[.int .i64 7, .string ⟨ky⟩, .int .u64 tm, .slice A n c, .int .i64 oh, .int .i64 u, .int .i64 om] 25)).alloc (.cells #[.int .i64 0, .int .u64 0, .string ⟨#[]⟩, .string ⟨#[]⟩] 52)
  have bO := (Blk.new w [.int .i64 7, .string ⟨ky⟩, .int .u64 tm, .slice A n c, .int .i64 oh, .int .i64 u, .int .i64 om] 25).alloc (.cells #[.int .i64 0, .int .u64 0, .string ⟨#[]⟩, .string ⟨#[]⟩] 52)
  have bA := Blk.new_at (w.alloc (.cells #[.int .i64 7, .string ⟨ky⟩, .int .u64 tm, .slice A n c, .int .i64 oh, .int .i64 u, .int .i64 om] 25)) (w.heap.size + 1) [.int .i64 0, .int .u64 0, .string ⟨#[]⟩, .string ⟨#[]⟩] 52 (by simp)
  change Blk ((w.alloc (.cells #[.int .i64 7, .string ⟨ky⟩, .int .u64 tm, .slice A n c, .int .i64 oh, .int .i64 u, .int .i64 om] 25)).alloc (.cells #[.int .i64 0, .int .u64 0, .string ⟨#[]⟩, .string ⟨#[]⟩] 52)) _ _ at bO bA
  have c1 := kw.blk b1 (by simp)
  have c2 := kw.blk b2 (by simp)
  have hgc := b1.lt
  go_enter Tryz.func43, Tryz.ntmps43
  go_upto_region 1 with fail
  obtain ⟨W, hW⟩ : ∃ W, (w.alloc (.cells #[.int .i64 7, .string ⟨ky⟩, .int .u64 tm, .slice A n c, .int .i64 oh, .int .i64 u, .int .i64 om] 25)).alloc (.cells #[.int .i64 0, .int .u64 0, .string ⟨#[]⟩, .string ⟨#[]⟩] 52) = W := ⟨_, rfl⟩
  obtain ⟨gO, hgO⟩ : ∃ gO, w.heap.size = gO := ⟨_, rfl⟩
  obtain ⟨gA, hgA⟩ : ∃ gA, w.heap.size + 1 = gA := ⟨_, rfl⟩
  have HG : Hid (w.heap.size ≤ gA ∧ gc ≠ gA ∧ gc < gA ∧ gO ≠ gA ∧ gO ≠ gc) := Lib.hid (by omega)
  rw [hW] at kw bO bA c1 c2 ⊢
  rw [hgA] at bA ⊢
  rw [hgO] at bO ⊢
  clear hW hgO hgA b1 b2 hgc
  obtain ⟨p0, p1, p2, p3, p4, p5, p6, pf, pl⟩ := bO.o7
  have f1 : W.cell? ⟨gc, 15, none⟩ = some (.slice (some ⟨gs, 0, none⟩) s s) := by rw [c1.cell]; exact h1
  have x0 : W.cell? ⟨gc, 16 + u * 4, none⟩ = some (.bool true) := by rw [c1.cell]; exact h3
  have x1 : W.cell? ⟨gc, 16 + u * 4 + 1, none⟩ = some (.int .i64 hh) := by rw [c1.cell]; exact h4
  have f2 : W.cell? ⟨gs, hh * 2 + 1, none⟩ = some (.int .u64 t) := by rw [c2.cell]; exact h2
  have huI : (u : Int) < 8 := by omega
  have hu0 : (0 : Int) ≤ (u : Int) := by omega
  have hsI : (hh : Int) < (s : Int) := by omega
  have hh0 : (0 : Int) ≤ (hh : Int) := by omega
  have hvk : decide (ky.size ≤ 32) = false := by simp; omega
  go_quiet (fail)
  go_wp2_with fail
  go_quiet (fail)
  go_wp2_with fail
  go_quiet (fail)
  go_wp2_with fail
  refine (vk_any ky _).mono ?_
  rintro q wv ⟨rfl, rfl⟩
  rw [hvk]
  go_wp2_with fail
  refine (failed_any 8 _).mono ?_
  rintro q w3 ⟨rfl, k3⟩
  have K3 := (kw.trans ((Keeps.refl [] W).drewN _) (by simp)).trans k3 (by simp)
  have c3 := k3.blk (c1.drewN _) (by simp)
  have bA3 := k3.blk (bA.drewN _) (by simp)
  try clear c1
  try clear c2 f1 f2 
  try clear x0 x1 x2 x3 xf xl
  clear p0 p1 p2 p3 p4 p5 p6 pf pl
  obtain ⟨a0, a1, a2, a3, af, al⟩ := bA3.o4
  have kS := ((((Keeps.refl [gA] w3).setCell ⟨gA, 0, none⟩ (.int .i64 8) (.inl (by simp))).setCell ⟨gA, 1, none⟩ (.int .u64 0) (.inl (by simp))).setCell ⟨gA, 2, none⟩ (.string ⟨#[]⟩) (.inl (by simp))).setCell ⟨gA, 3, none⟩ (.string ⟨#[]⟩) (.inl (by simp))
  have bS := (((bA3.set 0 (.int .i64 8)).set 1 (.int .u64 0)).set 2 (.string ⟨#[]⟩)).set 3 (.string ⟨#[]⟩)
  simp only [List.set_cons_zero, List.set_cons_succ] at bS
  have KF : Keeps [gc] w _ := (K3.mono (S' := [gc]) (by simp)).trans kS (by have := HG.out; simp; omega)
  have cF := kS.blk c3 (by have := HG.out; simp; omega)
  go_wp2_with fail
  refine bodyPost_ret (results_tmp_cell (cs := [.int .i64 8, .int .u64 0, .string ⟨#[]⟩, .string ⟨#[]⟩]) rfl _ _ gA _ rfl bS Tryz.underlying52 sizA) rfl ?_
  exact ⟨rfl, cF, KF⟩
theorem scu_opok (w : World) (gc gs s : Nat) (cs sn : List Value) (A : Option Addr) (n c : Nat) (ky : Array UInt8) (tm om : Int) (h u : Nat) (t : Int) (v1 v2 v3 : Value) (hu : u < 8) (hs : h < s) (hne : gs ≠ gc) (b1 : Blk w gc cs) (b2 : Blk w gs sn) (h1 : cs[15]? = some (.slice (some ⟨gs, 0, none⟩) s s)) (h2 : sn[h * 2]? = some (.bool true) ∧ sn[h * 2 + 1]? = some (.int .u64 t)) (h3 : cs[16 + u * 4]? = some (.bool false)) (h4 : cs[16 + u * 4 + 1]? = some v1) (h5 : cs[16 + u * 4 + 2]? = some v2) (h6 : cs[16 + u * 4 + 3]? = some v3) :
    Calls Tryz.prog 43 #[.pointer (some ⟨gc, 0, none⟩), .agg #[.int .i64 6, .string ⟨ky⟩, .int .u64 tm, .slice A n c, .int .i64 h, .int .i64 u, .int .i64 om]] w (StQ gc ((((cs.set (16 + u * 4) (.bool true)).set (16 + u * 4 + 1) (.int .i64 h)).set (16 + u * 4 + 2) (.int .i64 0)).set (16 + u * 4 + 3) (.string ⟨#[]⟩)) 0 t w) := by
  have kw := ((Keeps.refl [] w).alloc (.cells #[.int .i64 6, .string ⟨ky⟩, .int .u64 tm, .slice A n c, .int .i64 h, .int .i64 u, .int .i64 om] 25)).alloc (.cells #[.int .i64 0, .int .u64 0, .string ⟨#[]⟩, .string ⟨#[]⟩] 52)
  have bO := (Blk.new w [.int .i64 6, .string ⟨ky⟩, .int .u64 tm, .slice A n c, .int .i64 h, .int .i64 u, .int .i64 om] 25).alloc (.cells #[.int .i64 0, .int .u64 0, .string ⟨#[]⟩, .string ⟨#[]⟩] 52)
  have bA := Blk.new_at (w.alloc (.cells #[.int .i64 6, .string ⟨ky⟩, .int .u64 tm, .slice A n c, .int .i64 h, .int .i64 u, .int .i64 om] 25)) (w.heap.size + 1) [.int .i64 0, .int .u64 0, .string ⟨#[]⟩, .string ⟨#[]⟩] 52 (by simp)
  change Blk ((w.alloc (.cells #[.int .i64 6, .string ⟨ky⟩, .int .u64 tm, .slice A n c, .int .i64 h, .int .i64 u, .int .i64 om] 25)).alloc (.cells #[.int .i64 0, .int .u64 0, .string ⟨#[]⟩, .string ⟨#[]⟩] 52)) _ _ at bO bA
  have c1 := kw.blk b1 (by simp)
  have c2 := kw.blk b2 (by simp)
  have hgc := b1.lt
  go_enter Tryz.func43, Tryz.ntmps43
  go_upto_region 1 with fail
  obtain ⟨W, hW⟩ : ∃ W, (w.alloc (.cells #[.int .i64 6, .string ⟨ky⟩, .int .u64 tm, .slice A n c, .int .i64 h, .int .i64 u, .int .i64 om] 25)).alloc (.cells #[.int .i64 0, .int .u64 0, .string ⟨#[]⟩, .string ⟨#[]⟩] 52) = W := ⟨_, rfl⟩
  obtain ⟨gO, hgO⟩ : ∃ gO, w.heap.size = gO := ⟨_, rfl⟩
  obtain ⟨gA, hgA⟩ : ∃ gA, w.heap.size + 1 = gA := ⟨_, rfl⟩
  have HG : Hid (w.heap.size ≤ gA ∧ gc ≠ gA ∧ gc < gA ∧ gO ≠ gA ∧ gO ≠ gc) := Lib.hid (by omega)
  rw [hW] at kw bO bA c1 c2 ⊢
  rw [hgA] at bA ⊢
  rw [hgO] at bO ⊢
  clear hW hgO hgA b1 b2 hgc
  obtain ⟨p0, p1, p2, p3, p4, p5, p6, pf, pl⟩ := bO.o7
  have f1 : W.cell? ⟨gc, 15, none⟩ = some (.slice (some ⟨gs, 0, none⟩) s s) := by rw [c1.cell]; exact h1
  have f2 : W.cell? ⟨gs, h * 2, none⟩ = some (.bool true) := by rw [c2.cell]; exact h2.1
  have x0 : W.cell? ⟨gc, 16 + u * 4, none⟩ = some (.bool false) := by rw [c1.cell]; exact h3
  have x1 : W.cell? ⟨gc, 16 + u * 4 + 1, none⟩ = some v1 := by rw [c1.cell]; exact h4
  have x2 : W.cell? ⟨gc, 16 + u * 4 + 2, none⟩ = some v2 := by rw [c1.cell]; exact h5
  have x3 : W.cell? ⟨gc, 16 + u * 4 + 3, none⟩ = some v3 := by rw [c1.cell]; exact h6
  have xf := c1.frozen
  have xl := c1.lt
  have huI : (u : Int) < 8 := by omega
  have hu0 : (0 : Int) ≤ (u : Int) := by omega
  have hsI : (h : Int) < (s : Int) := by omega
  have hh0 : (0 : Int) ≤ (h : Int) := by omega
  go_quiet (fail)
  obtain ⟨nA, rfl⟩ : ∃ nA, nA = nq := ⟨_, rfl⟩
  go_wp2_with fail
  go_quiet (fail)
  go_upto_region 8 with fail
  have kX := ((((Keeps.refl [gc] (W.drewN (nA + nq))).setCell ⟨gc, 16 + u * 4, none⟩ (.bool true) (.inl (by simp))).setCell ⟨gc, 16 + u * 4 + 1, none⟩ (.int .i64 h) (.inl (by simp))).setCell ⟨gc, 16 + u * 4 + 2, none⟩ (.int .i64 0) (.inl (by simp))).setCell ⟨gc, 16 + u * 4 + 3, none⟩ (.string ⟨#[]⟩) (.inl (by simp))
  have cX := ((((c1.drewN (nA + nq)).set (16 + u * 4) (.bool true)).set (16 + u * 4 + 1) (.int .i64 h)).set (16 + u * 4 + 2) (.int .i64 0)).set (16 + u * 4 + 3) (.string ⟨#[]⟩)
  have KX := ((kw.trans ((Keeps.refl [] W).drewN (nA + nq)) (by simp)).mono (S' := [gc]) (by simp)).trans kX (by simp)
  obtain ⟨W8, hW8⟩ : ∃ W8, (((((W.drewN (nA + nq)).setCell ⟨gc, 16 + u * 4, none⟩ (.bool true)).setCell ⟨gc, 16 + u * 4 + 1, none⟩ (.int .i64 h)).setCell ⟨gc, 16 + u * 4 + 2, none⟩ (.int .i64 0)).setCell ⟨gc, 16 + u * 4 + 3, none⟩ (.string ⟨#[]⟩)) = W8 := ⟨_, rfl⟩
  rw [hW8] at kX cX KX ⊢
  have c28 := kX.blk (c2.drewN (nA + nq)) (by simp; exact hne)
  have bO8 := kX.blk (bO.drewN (nA + nq)) (by have := HG.out; simp; omega)
  have bA8 := kX.blk (bA.drewN (nA + nq)) (by have := HG.out; simp; omega)
  clear hW8 kX kw x0 x1 x2 x3 xf xl p0 p1 p2 p3 p4 p5 p6 pf pl f1 c1 bO bA f2
  have f15 := (cX.cell 15).trans (((List.getElem?_set_ne (by omega)).trans ((List.getElem?_set_ne (by omega)).trans ((List.getElem?_set_ne (by omega)).trans (List.getElem?_set_ne (by omega))))).trans h1)
  have p4 := bO8.cell 4
  have f2 : W8.cell? ⟨gs, h * 2 + 1, none⟩ = some (.int .u64 t) := by rw [c28.cell]; exact h2.2
  obtain ⟨a0, a1, a2, a3, af, al⟩ := bA8.o4
  go_region
  have kS := ((((Keeps.refl [gA] W8).setCell ⟨gA, 0, none⟩ (.int .i64 0) (.inl (by simp))).setCell ⟨gA, 1, none⟩ (.int .u64 t) (.inl (by simp))).setCell ⟨gA, 2, none⟩ (.string ⟨#[]⟩) (.inl (by simp))).setCell ⟨gA, 3, none⟩ (.string ⟨#[]⟩) (.inl (by simp))
  have bS := (((bA8.set 0 (.int .i64 0)).set 1 (.int .u64 t)).set 2 (.string ⟨#[]⟩)).set 3 (.string ⟨#[]⟩)
  simp only [List.set_cons_zero, List.set_cons_succ] at bS
  have KF : Keeps [gc] w _ := KX.trans kS (by have := HG.out; simp; omega)
  have cF := kS.blk cX (by have := HG.out; simp; omega)
  go_wp2_with fail
  refine bodyPost_ret (results_tmp_cell (cs := [.int .i64 0, .int .u64 t, .string ⟨#[]⟩, .string ⟨#[]⟩]) rfl _ _ gA _ rfl bS.drew Tryz.underlying52 sizA) rfl ?_
  exact ⟨rfl, cF.drew, KF.drew⟩
theorem scu_close (w : World) (gc gs s : Nat) (cs sn : List Value) (A : Option Addr) (n c : Nat) (ky : Array UInt8) (tm om : Int) (oh : Int) (u hh : Nat) (t : Int) (v2 v3 : Value) (hu : u < 8) (hs : hh < s) (hne : gs ≠ gc) (b1 : Blk w gc cs) (b2 : Blk w gs sn) (h1 : cs[15]? = some (.slice (some ⟨gs, 0, none⟩) s s)) (h3 : cs[16 + u * 4]? = some (.bool true)) (h4 : cs[16 + u * 4 + 1]? = some (.int .i64 hh)) (h5 : cs[16 + u * 4 + 2]? = some v2) (h6 : cs[16 + u * 4 + 3]? = some v3) (h2 : sn[hh * 2 + 1]? = some (.int .u64 t)) :
    Calls Tryz.prog 43 #[.pointer (some ⟨gc, 0, none⟩), .agg #[.int .i64 8, .string ⟨ky⟩, .int .u64 tm, .slice A n c, .int .i64 oh, .int .i64 u, .int .i64 om]] w (StQ gc ((((cs.set (16 + u * 4) (.bool false)).set (16 + u * 4 + 1) (.int .i64 0)).set (16 + u * 4 + 2) (.int .i64 0)).set (16 + u * 4 + 3) (.string ⟨#[]⟩)) 0 t w) := by
  have kw := ((Keeps.refl [] w).alloc (.cells #[.int .i64 8, .string ⟨ky⟩, .int .u64 tm, .slice A n c, .int .i64 oh, .int .i64 u, .int .i64 om] 25)).alloc (.cells #[.int .i64 0, .int .u64 0, .string ⟨#[]⟩, .string ⟨#[]⟩] 52)
  have bO := (Blk.new w [.int .i64 8, .string ⟨ky⟩, .int .u64 tm, .slice A n c, .int .i64 oh, .int .i64 u, .int .i64 om] 25).alloc (.cells #[.int .i64 0, .int .u64 0, .string ⟨#[]⟩, .string ⟨#[]⟩] 52)
  have bA := Blk.new_at (w.alloc (.cells #[.int .i64 8, .string ⟨ky⟩, .int .u64 tm, .slice A n c, .int .i64 oh, .int .i64 u, .int .i64 om] 25)) (w.heap.size + 1) [.int .i64 0, .int .u64 0, .string ⟨#[]⟩, .string ⟨#[]⟩] 52 (by simp)
  change Blk ((w.alloc (.cells #[.int .i64 8, .string ⟨ky⟩, .int .u64 tm, .slice A n c, .int .i64 oh, .int .i64 u, .int .i64 om] 25)).alloc (.cells #[.int .i64 0, .int .u64 0, .string ⟨#[]⟩, .string ⟨#[]⟩] 52)) _ _ at bO bA
  have c1 := kw.blk b1 (by simp)
  have c2 := kw.blk b2 (by simp)
  have hgc := b1.lt
  go_enter Tryz.func43, Tryz.ntmps43
  go_upto_region 1 with fail
  obtain ⟨W, hW⟩ : ∃ W, (w.alloc (.cells #[.int .i64 8, .string ⟨ky⟩, .int .u64 tm, .slice A n c, .int .i64 oh, .int .i64 u, .int .i64 om] 25)).alloc (.cells #[.int .i64 0, .int .u64 0, .string ⟨#[]⟩, .string ⟨#[]⟩] 52) = W := ⟨_, rfl⟩
  obtain ⟨gO, hgO⟩ : ∃ gO, w.heap.size = gO := ⟨_, rfl⟩
  obtain ⟨gA, hgA⟩ : ∃ gA, w.heap.size + 1 = gA := ⟨_, rfl⟩
  have HG : Hid (w.heap.size ≤ gA ∧ gc ≠ gA ∧ gc < gA ∧ gO ≠ gA ∧ gO ≠ gc) := Lib.hid (by omega)
  rw [hW] at kw bO bA c1 c2 ⊢
  rw [hgA] at bA ⊢
  rw [hgO] at bO ⊢
  clear hW hgO hgA b1 b2 hgc
  obtain ⟨p0, p1, p2, p3, p4, p5, p6, pf, pl⟩ := bO.o7
  have f1 : W.cell? ⟨gc, 15, none⟩ = some (.slice (some ⟨gs, 0, none⟩) s s) := by rw [c1.cell]; exact h1
  have f2 : W.cell? ⟨gs, hh * 2 + 1, none⟩ = some (.int .u64 t) := by rw [c2.cell]; exact h2
  have x0 : W.cell? ⟨gc, 16 + u * 4, none⟩ = some (.bool true) := by rw [c1.cell]; exact h3
  have x1 : W.cell? ⟨gc, 16 + u * 4 + 1, none⟩ = some (.int .i64 hh) := by rw [c1.cell]; exact h4
  have x2 : W.cell? ⟨gc, 16 + u * 4 + 2, none⟩ = some v2 := by rw [c1.cell]; exact h5
  have x3 : W.cell? ⟨gc, 16 + u * 4 + 3, none⟩ = some v3 := by rw [c1.cell]; exact h6
  have xf := c1.frozen
  have xl := c1.lt
  have huI : (u : Int) < 8 := by omega
  have hu0 : (0 : Int) ≤ (u : Int) := by omega
  have hsI : (hh : Int) < (s : Int) := by omega
  have hh0 : (0 : Int) ≤ (hh : Int) := by omega
  go_quiet (fail)
  obtain ⟨nA, rfl⟩ : ∃ nA, nA = nq := ⟨_, rfl⟩
  go_wp2_with fail
  go_quiet (fail)
  obtain ⟨nB, rfl⟩ : ∃ nB, nB = nq := ⟨_, rfl⟩
  go_wp2_with fail
  go_quiet (fail)
  go_upto_region 14 with fail
  have kX := ((((Keeps.refl [gc] (W.drewN (nA + nB + nq))).setCell ⟨gc, 16 + u * 4, none⟩ (.bool false) (.inl (by simp))).setCell ⟨gc, 16 + u * 4 + 1, none⟩ (.int .i64 0) (.inl (by simp))).setCell ⟨gc, 16 + u * 4 + 2, none⟩ (.int .i64 0) (.inl (by simp))).setCell ⟨gc, 16 + u * 4 + 3, none⟩ (.string ⟨#[]⟩) (.inl (by simp))
  have cX := ((((c1.drewN (nA + nB + nq)).set (16 + u * 4) (.bool false)).set (16 + u * 4 + 1) (.int .i64 0)).set (16 + u * 4 + 2) (.int .i64 0)).set (16 + u * 4 + 3) (.string ⟨#[]⟩)
  have KX := ((kw.trans ((Keeps.refl [] W).drewN (nA + nB + nq)) (by simp)).mono (S' := [gc]) (by simp)).trans kX (by simp)
  obtain ⟨W8, hW8⟩ : ∃ W8, (((((W.drewN (nA + nB + nq)).setCell ⟨gc, 16 + u * 4, none⟩ (.bool false)).setCell ⟨gc, 16 + u * 4 + 1, none⟩ (.int .i64 0)).setCell ⟨gc, 16 + u * 4 + 2, none⟩ (.int .i64 0)).setCell ⟨gc, 16 + u * 4 + 3, none⟩ (.string ⟨#[]⟩)) = W8 := ⟨_, rfl⟩
  rw [hW8] at kX cX KX ⊢
  have c28 := kX.blk (c2.drewN (nA + nB + nq)) (by simp; exact hne)
  have bO8 := kX.blk (bO.drewN (nA + nB + nq)) (by have := HG.out; simp; omega)
  have bA8 := kX.blk (bA.drewN (nA + nB + nq)) (by have := HG.out; simp; omega)
  clear hW8 kX kw x0 x1 x2 x3 xf xl p0 p1 p2 p3 p4 p5 p6 pf pl f1 c1 bO bA f2
  obtain ⟨a0, a1, a2, a3, af, al⟩ := bA8.o4
  have kS := ((((Keeps.refl [gA] W8).setCell ⟨gA, 0, none⟩ (.int .i64 0) (.inl (by simp))).setCell ⟨gA, 1, none⟩ (.int .u64 t) (.inl (by simp))).setCell ⟨gA, 2, none⟩ (.string ⟨#[]⟩) (.inl (by simp))).setCell ⟨gA, 3, none⟩ (.string ⟨#[]⟩) (.inl (by simp))
  have bS := (((bA8.set 0 (.int .i64 0)).set 1 (.int .u64 t)).set 2 (.string ⟨#[]⟩)).set 3 (.string ⟨#[]⟩)
  simp only [List.set_cons_zero, List.set_cons_succ] at bS
  have KF : Keeps [gc] w _ := KX.trans kS (by have := HG.out; simp; omega)
  have cF := kS.blk cX (by have := HG.out; simp; omega)
  go_wp2_with fail
  refine bodyPost_ret (results_tmp_cell (cs := [.int .i64 0, .int .u64 t, .string ⟨#[]⟩, .string ⟨#[]⟩]) rfl _ _ gA _ rfl bS Tryz.underlying52 sizA) rfl ?_
  exact ⟨rfl, cF, KF⟩
theorem start_cur6 (w : World) (gc gs s : Nat) (cs sn : List Value) (A : Option Addr) (n c : Nat) (ky : Array UInt8) (tm om : Int) (oh ou e t : Int) (cs2 : List Value) (b1 : Blk w gc cs) (b2 : Blk w gs sn)
    (hq : ∀ W, Keeps [] w W → Calls Tryz.prog 43 #[.pointer (some ⟨gc, 0, none⟩), .agg #[.int .i64 6, .string ⟨ky⟩, .int .u64 tm, .slice A n c, .int .i64 oh, .int .i64 ou, .int .i64 om]] W (StQ gc cs2 e t W)) :
    Calls Tryz.prog 25 #[.pointer (some ⟨gc, 0, none⟩), .agg #[.int .i64 6, .string ⟨ky⟩, .int .u64 tm, .slice A n c, .int .i64 oh, .int .i64 ou, .int .i64 om]] w (StQ gc cs2 e t w) := by
  have kw := ((Keeps.refl [] w).alloc (.cells #[.int .i64 6, .string ⟨ky⟩, .int .u64 tm, .slice A n c, .int .i64 oh, .int .i64 ou, .int .i64 om] 25)).alloc (.cells #[.int .i64 0, .int .u64 0, .string ⟨#[]⟩, .string ⟨#[]⟩] 52)
  have bO := (Blk.new w [.int .i64 6, .string ⟨ky⟩, .int .u64 tm, .slice A n c, .int .i64 oh, .int .i64 ou, .int .i64 om] 25).alloc (.cells #[.int .i64 0, .int .u64 0, .string ⟨#[]⟩, .string ⟨#[]⟩] 52)
  have bA := Blk.new_at (w.alloc (.cells #[.int .i64 6, .string ⟨ky⟩, .int .u64 tm, .slice A n c, .int .i64 oh, .int .i64 ou, .int .i64 om] 25)) (w.heap.size + 1) [.int .i64 0, .int .u64 0, .string ⟨#[]⟩, .string ⟨#[]⟩] 52 (by simp)
  change Blk ((w.alloc (.cells #[.int .i64 6, .string ⟨ky⟩, .int .u64 tm, .slice A n c, .int .i64 oh, .int .i64 ou, .int .i64 om] 25)).alloc (.cells #[.int .i64 0, .int .u64 0, .string ⟨#[]⟩, .string ⟨#[]⟩] 52)) _ _ at bO bA
  have c1 := kw.blk b1 (by simp)
  have c2 := kw.blk b2 (by simp)
  have hgc := b1.lt
  go_enter Tryz.func25, Tryz.ntmps25
  go_upto_region 1 with fail
  obtain ⟨W, hW⟩ : ∃ W, (w.alloc (.cells #[.int .i64 6, .string ⟨ky⟩, .int .u64 tm, .slice A n c, .int .i64 oh, .int .i64 ou, .int .i64 om] 25)).alloc (.cells #[.int .i64 0, .int .u64 0, .string ⟨#[]⟩, .string ⟨#[]⟩] 52) = W := ⟨_, rfl⟩
  obtain ⟨gO, hgO⟩ : ∃ gO, w.heap.size = gO := ⟨_, rfl⟩
  obtain ⟨gA, hgA⟩ : ∃ gA, w.heap.size + 1 = gA := ⟨_, rfl⟩
  have HG : Hid (w.heap.size ≤ gA ∧ gc ≠ gA ∧ gc < gA ∧ gO ≠ gA ∧ gO ≠ gc) := Lib.hid (by omega)
  rw [hW] at kw bO bA c1 c2 ⊢
  rw [hgA] at bA ⊢
  rw [hgO] at bO ⊢
  clear hW hgO hgA b1 b2 hgc
  obtain ⟨p0, p1, p2, p3, p4, p5, p6, pf, pl⟩ := bO.o7
  have HQ := hq W kw
  clear hq
  go_wp2_with fail
  refine HQ.mono ?_
  clear HQ
  rintro q w3 ⟨rfl, c3, k3⟩
  have K3 := (kw.mono (S' := [gc]) (by simp)).trans k3 (by simp)
  have bA3 := k3.blk bA (by have := HG.out; simp; omega)
  try clear c1
  try clear c2 f1 f2 
  try clear x0 x1 x2 x3 xf xl
  clear p0 p1 p2 p3 p4 p5 p6 pf pl
  obtain ⟨a0, a1, a2, a3, af, al⟩ := bA3.o4
  have kS := ((((Keeps.refl [gA] w3).setCell ⟨gA, 0, none⟩ (.int .i64 e) (.inl (by simp))).setCell ⟨gA, 1, none⟩ (.int .u64 t) (.inl (by simp))).setCell ⟨gA, 2, none⟩ (.string ⟨#[]⟩) (.inl (by simp))).setCell ⟨gA, 3, none⟩ (.string ⟨#[]⟩) (.inl (by simp))
  have bS := (((bA3.set 0 (.int .i64 e)).set 1 (.int .u64 t)).set 2 (.string ⟨#[]⟩)).set 3 (.string ⟨#[]⟩)
  simp only [List.set_cons_zero, List.set_cons_succ] at bS
  have KF : Keeps [gc] w _ := (K3.mono (S' := [gc]) (by simp)).trans kS (by have := HG.out; simp; omega)
  have cF := kS.blk c3 (by have := HG.out; simp; omega)
  go_wp2_with fail
  refine bodyPost_ret (results_tmp_cell (cs := [.int .i64 e, .int .u64 t, .string ⟨#[]⟩, .string ⟨#[]⟩]) rfl _ _ gA _ rfl bS Tryz.underlying52 sizA) rfl ?_
  exact ⟨rfl, cF, KF⟩
theorem start_cur7 (w : World) (gc gs s : Nat) (cs sn : List Value) (A : Option Addr) (n c : Nat) (ky : Array UInt8) (tm om : Int) (oh ou e t : Int) (cs2 : List Value) (b1 : Blk w gc cs) (b2 : Blk w gs sn)
    (hq : ∀ W, Keeps [] w W → Calls Tryz.prog 43 #[.pointer (some ⟨gc, 0, none⟩), .agg #[.int .i64 7, .string ⟨ky⟩, .int .u64 tm, .slice A n c, .int .i64 oh, .int .i64 ou, .int .i64 om]] W (StQ gc cs2 e t W)) :
    Calls Tryz.prog 25 #[.pointer (some ⟨gc, 0, none⟩), .agg #[.int .i64 7, .string ⟨ky⟩, .int .u64 tm, .slice A n c, .int .i64 oh, .int .i64 ou, .int .i64 om]] w (StQ gc cs2 e t w) := by
  have kw := ((Keeps.refl [] w).alloc (.cells #[.int .i64 7, .string ⟨ky⟩, .int .u64 tm, .slice A n c, .int .i64 oh, .int .i64 ou, .int .i64 om] 25)).alloc (.cells #[.int .i64 0, .int .u64 0, .string ⟨#[]⟩, .string ⟨#[]⟩] 52)
  have bO := (Blk.new w [.int .i64 7, .string ⟨ky⟩, .int .u64 tm, .slice A n c, .int .i64 oh, .int .i64 ou, .int .i64 om] 25).alloc (.cells #[.int .i64 0, .int .u64 0, .string ⟨#[]⟩, .string ⟨#[]⟩] 52)
  have bA := Blk.new_at (w.alloc (.cells #[.int .i64 7, .string ⟨ky⟩, .int .u64 tm, .slice A n c, .int .i64 oh, .int .i64 ou, .int .i64 om] 25)) (w.heap.size + 1) [.int .i64 0, .int .u64 0, .string ⟨#[]⟩, .string ⟨#[]⟩] 52 (by simp)
  change Blk ((w.alloc (.cells #[.int .i64 7, .string ⟨ky⟩, .int .u64 tm, .slice A n c, .int .i64 oh, .int .i64 ou, .int .i64 om] 25)).alloc (.cells #[.int .i64 0, .int .u64 0, .string ⟨#[]⟩, .string ⟨#[]⟩] 52)) _ _ at bO bA
  have c1 := kw.blk b1 (by simp)
  have c2 := kw.blk b2 (by simp)
  have hgc := b1.lt
  go_enter Tryz.func25, Tryz.ntmps25
  go_upto_region 1 with fail
  obtain ⟨W, hW⟩ : ∃ W, (w.alloc (.cells #[.int .i64 7, .string ⟨ky⟩, .int .u64 tm, .slice A n c, .int .i64 oh, .int .i64 ou, .int .i64 om] 25)).alloc (.cells #[.int .i64 0, .int .u64 0, .string ⟨#[]⟩, .string ⟨#[]⟩] 52) = W := ⟨_, rfl⟩
  obtain ⟨gO, hgO⟩ : ∃ gO, w.heap.size = gO := ⟨_, rfl⟩
  obtain ⟨gA, hgA⟩ : ∃ gA, w.heap.size + 1 = gA := ⟨_, rfl⟩
  have HG : Hid (w.heap.size ≤ gA ∧ gc ≠ gA ∧ gc < gA ∧ gO ≠ gA ∧ gO ≠ gc) := Lib.hid (by omega)
  rw [hW] at kw bO bA c1 c2 ⊢
  rw [hgA] at bA ⊢
  rw [hgO] at bO ⊢
  clear hW hgO hgA b1 b2 hgc
  obtain ⟨p0, p1, p2, p3, p4, p5, p6, pf, pl⟩ := bO.o7
  have HQ := hq W kw
  clear hq
  go_wp2_with fail
  refine HQ.mono ?_
  clear HQ
  rintro q w3 ⟨rfl, c3, k3⟩
  have K3 := (kw.mono (S' := [gc]) (by simp)).trans k3 (by simp)
  have bA3 := k3.blk bA (by have := HG.out; simp; omega)
  try clear c1
  try clear c2 f1 f2 
  try clear x0 x1 x2 x3 xf xl
  clear p0 p1 p2 p3 p4 p5 p6 pf pl
  obtain ⟨a0, a1, a2, a3, af, al⟩ := bA3.o4
  have kS := ((((Keeps.refl [gA] w3).setCell ⟨gA, 0, none⟩ (.int .i64 e) (.inl (by simp))).setCell ⟨gA, 1, none⟩ (.int .u64 t) (.inl (by simp))).setCell ⟨gA, 2, none⟩ (.string ⟨#[]⟩) (.inl (by simp))).setCell ⟨gA, 3, none⟩ (.string ⟨#[]⟩) (.inl (by simp))
  have bS := (((bA3.set 0 (.int .i64 e)).set 1 (.int .u64 t)).set 2 (.string ⟨#[]⟩)).set 3 (.string ⟨#[]⟩)
  simp only [List.set_cons_zero, List.set_cons_succ] at bS
  have KF : Keeps [gc] w _ := (K3.mono (S' := [gc]) (by simp)).trans kS (by have := HG.out; simp; omega)
  have cF := kS.blk c3 (by have := HG.out; simp; omega)
  go_wp2_with fail
  refine bodyPost_ret (results_tmp_cell (cs := [.int .i64 e, .int .u64 t, .string ⟨#[]⟩, .string ⟨#[]⟩]) rfl _ _ gA _ rfl bS Tryz.underlying52 sizA) rfl ?_
  exact ⟨rfl, cF, KF⟩
theorem start_cur8 (w : World) (gc gs s : Nat) (cs sn : List Value) (A : Option Addr) (n c : Nat) (ky : Array UInt8) (tm om : Int) (oh ou e t : Int) (cs2 : List Value) (b1 : Blk w gc cs) (b2 : Blk w gs sn)
    (hq : ∀ W, Keeps [] w W → Calls Tryz.prog 43 #[.pointer (some ⟨gc, 0, none⟩), .agg #[.int .i64 8, .string ⟨ky⟩, .int .u64 tm, .slice A n c, .int .i64 oh, .int .i64 ou, .int .i64 om]] W (StQ gc cs2 e t W)) :
    Calls Tryz.prog 25 #[.pointer (some ⟨gc, 0, none⟩), .agg #[.int .i64 8, .string ⟨ky⟩, .int .u64 tm, .slice A n c, .int .i64 oh, .int .i64 ou, .int .i64 om]] w (StQ gc cs2 e t w) := by
  have kw := ((Keeps.refl [] w).alloc (.cells #[.int .i64 8, .string ⟨ky⟩, .int .u64 tm, .slice A n c, .int .i64 oh, .int .i64 ou, .int .i64 om] 25)).alloc (.cells #[.int .i64 0, .int .u64 0, .string ⟨#[]⟩, .string ⟨#[]⟩] 52)
  have bO := (Blk.new w [.int .i64 8, .string ⟨ky⟩, .int .u64 tm, .slice A n c, .int .i64 oh, .int .i64 ou, .int .i64 om] 25).alloc (.cells #[.int .i64 0, .int .u64 0, .string ⟨#[]⟩, .string ⟨#[]⟩] 52)
  have bA := Blk.new_at (w.alloc (.cells #[.int .i64 8, .string ⟨ky⟩, .int .u64 tm, .slice A n c, .int .i64 oh, .int .i64 ou, .int .i64 om] 25)) (w.heap.size + 1) [.int .i64 0, .int .u64 0, .string ⟨#[]⟩, .string ⟨#[]⟩] 52 (by simp)
  change Blk ((w.alloc (.cells #[.int .i64 8, .string ⟨ky⟩, .int .u64 tm, .slice A n c, .int .i64 oh, .int .i64 ou, .int .i64 om] 25)).alloc (.cells #[.int .i64 0, .int .u64 0, .string ⟨#[]⟩, .string ⟨#[]⟩] 52)) _ _ at bO bA
  have c1 := kw.blk b1 (by simp)
  have c2 := kw.blk b2 (by simp)
  have hgc := b1.lt
  go_enter Tryz.func25, Tryz.ntmps25
  go_upto_region 1 with fail
  obtain ⟨W, hW⟩ : ∃ W, (w.alloc (.cells #[.int .i64 8, .string ⟨ky⟩, .int .u64 tm, .slice A n c, .int .i64 oh, .int .i64 ou, .int .i64 om] 25)).alloc (.cells #[.int .i64 0, .int .u64 0, .string ⟨#[]⟩, .string ⟨#[]⟩] 52) = W := ⟨_, rfl⟩
  obtain ⟨gO, hgO⟩ : ∃ gO, w.heap.size = gO := ⟨_, rfl⟩
  obtain ⟨gA, hgA⟩ : ∃ gA, w.heap.size + 1 = gA := ⟨_, rfl⟩
  have HG : Hid (w.heap.size ≤ gA ∧ gc ≠ gA ∧ gc < gA ∧ gO ≠ gA ∧ gO ≠ gc) := Lib.hid (by omega)
  rw [hW] at kw bO bA c1 c2 ⊢
  rw [hgA] at bA ⊢
  rw [hgO] at bO ⊢
  clear hW hgO hgA b1 b2 hgc
  obtain ⟨p0, p1, p2, p3, p4, p5, p6, pf, pl⟩ := bO.o7
  have HQ := hq W kw
  clear hq
  go_wp2_with fail
  refine HQ.mono ?_
  clear HQ
  rintro q w3 ⟨rfl, c3, k3⟩
  have K3 := (kw.mono (S' := [gc]) (by simp)).trans k3 (by simp)
  have bA3 := k3.blk bA (by have := HG.out; simp; omega)
  try clear c1
  try clear c2 f1 f2 
  try clear x0 x1 x2 x3 xf xl
  clear p0 p1 p2 p3 p4 p5 p6 pf pl
  obtain ⟨a0, a1, a2, a3, af, al⟩ := bA3.o4
  have kS := ((((Keeps.refl [gA] w3).setCell ⟨gA, 0, none⟩ (.int .i64 e) (.inl (by simp))).setCell ⟨gA, 1, none⟩ (.int .u64 t) (.inl (by simp))).setCell ⟨gA, 2, none⟩ (.string ⟨#[]⟩) (.inl (by simp))).setCell ⟨gA, 3, none⟩ (.string ⟨#[]⟩) (.inl (by simp))
  have bS := (((bA3.set 0 (.int .i64 e)).set 1 (.int .u64 t)).set 2 (.string ⟨#[]⟩)).set 3 (.string ⟨#[]⟩)
  simp only [List.set_cons_zero, List.set_cons_succ] at bS
  have KF : Keeps [gc] w _ := (K3.mono (S' := [gc]) (by simp)).trans kS (by have := HG.out; simp; omega)
  have cF := kS.blk c3 (by have := HG.out; simp; omega)
  go_wp2_with fail
  refine bodyPost_ret (results_tmp_cell (cs := [.int .i64 e, .int .u64 t, .string ⟨#[]⟩, .string ⟨#[]⟩]) rfl _ _ gA _ rfl bS Tryz.underlying52 sizA) rfl ?_
  exact ⟨rfl, cF, KF⟩
theorem start_get1 (w : World) (gc gs s : Nat) (cs sn : List Value) (A : Option Addr) (n c : Nat) (ky : Array UInt8) (tm om : Int) (oh ou : Int) (hk : 32 < ky.size) (b1 : Blk w gc cs) (b2 : Blk w gs sn) :
    Calls Tryz.prog 25 #[.pointer (some ⟨gc, 0, none⟩), .agg #[.int .i64 1, .string ⟨ky⟩, .int .u64 tm, .slice A n c, .int .i64 oh, .int .i64 ou, .int .i64 om]] w (StQ gc cs 8 0 w) := by
  have kw := ((Keeps.refl [] w).alloc (.cells #[.int .i64 1, .string ⟨ky⟩, .int .u64 tm, .slice A n c, .int .i64 oh, .int .i64 ou, .int .i64 om] 25)).alloc (.cells #[.int .i64 0, .int .u64 0, .string ⟨#[]⟩, .string ⟨#[]⟩] 52)
  have bO := (Blk.new w [.int .i64 1, .string ⟨ky⟩, .int .u64 tm, .slice A n c, .int .i64 oh, .int .i64 ou, .int .i64 om] 25).alloc (.cells #[.int .i64 0, .int .u64 0, .string ⟨#[]⟩, .string ⟨#[]⟩] 52)
  have bA := Blk.new_at (w.alloc (.cells #[.int .i64 1, .string ⟨ky⟩, .int .u64 tm, .slice A n c, .int .i64 oh, .int .i64 ou, .int .i64 om] 25)) (w.heap.size + 1) [.int .i64 0, .int .u64 0, .string ⟨#[]⟩, .string ⟨#[]⟩] 52 (by simp)
  change Blk ((w.alloc (.cells #[.int .i64 1, .string ⟨ky⟩, .int .u64 tm, .slice A n c, .int .i64 oh, .int .i64 ou, .int .i64 om] 25)).alloc (.cells #[.int .i64 0, .int .u64 0, .string ⟨#[]⟩, .string ⟨#[]⟩] 52)) _ _ at bO bA
  have c1 := kw.blk b1 (by simp)
  have c2 := kw.blk b2 (by simp)
  have hgc := b1.lt
  go_enter Tryz.func25, Tryz.ntmps25
  go_upto_region 1 with fail
  obtain ⟨W, hW⟩ : ∃ W, (w.alloc (.cells #[.int .i64 1, .string ⟨ky⟩, .int .u64 tm, .slice A n c, .int .i64 oh, .int .i64 ou, .int .i64 om] 25)).alloc (.cells #[.int .i64 0, .int .u64 0, .string ⟨#[]⟩, .string ⟨#[]⟩] 52) = W := ⟨_, rfl⟩
  obtain ⟨gO, hgO⟩ : ∃ gO, w.heap.size = gO := ⟨_, rfl⟩
  obtain ⟨gA, hgA⟩ : ∃ gA, w.heap.size + 1 = gA := ⟨_, rfl⟩
  have HG : Hid (w.heap.size ≤ gA ∧ gc ≠ gA ∧ gc < gA ∧ gO ≠ gA ∧ gO ≠ gc) := Lib.hid (by omega)
  rw [hW] at kw bO bA c1 c2 ⊢
  rw [hgA] at bA ⊢
  rw [hgO] at bO ⊢
  clear hW hgO hgA b1 b2 hgc
  obtain ⟨p0, p1, p2, p3, p4, p5, p6, pf, pl⟩ := bO.o7
  have hvk : decide (ky.size ≤ 32) = false := by simp; omega
  go_wp2_with fail
  refine (vk_any ky _).mono ?_
  rintro q wv ⟨rfl, rfl⟩
  rw [hvk]
  go_wp2_with fail
  refine (failed_any 8 _).mono ?_
  rintro q w3 ⟨rfl, k3⟩
  have K3 := (kw.trans ((Keeps.refl [] W).drewN 0) (by simp)).trans k3 (by simp)
  have c3 := k3.blk (c1.drewN 0) (by simp)
  have bA3 := k3.blk (bA.drewN 0) (by simp)
  try clear c1
  try clear c2 f1 f2 
  try clear x0 x1 x2 x3 xf xl
  clear p0 p1 p2 p3 p4 p5 p6 pf pl
  obtain ⟨a0, a1, a2, a3, af, al⟩ := bA3.o4
  have kS := ((((Keeps.refl [gA] w3).setCell ⟨gA, 0, none⟩ (.int .i64 8) (.inl (by simp))).setCell ⟨gA, 1, none⟩ (.int .u64 0) (.inl (by simp))).setCell ⟨gA, 2, none⟩ (.string ⟨#[]⟩) (.inl (by simp))).setCell ⟨gA, 3, none⟩ (.string ⟨#[]⟩) (.inl (by simp))
  have bS := (((bA3.set 0 (.int .i64 8)).set 1 (.int .u64 0)).set 2 (.string ⟨#[]⟩)).set 3 (.string ⟨#[]⟩)
  simp only [List.set_cons_zero, List.set_cons_succ] at bS
  have KF : Keeps [gc] w _ := (K3.mono (S' := [gc]) (by simp)).trans kS (by have := HG.out; simp; omega)
  have cF := kS.blk c3 (by have := HG.out; simp; omega)
  go_wp2_with fail
  refine bodyPost_ret (results_tmp_cell (cs := [.int .i64 8, .int .u64 0, .string ⟨#[]⟩, .string ⟨#[]⟩]) rfl _ _ gA _ rfl bS Tryz.underlying52 sizA) rfl ?_
  exact ⟨rfl, cF, KF⟩
theorem start_get2 (w : World) (gc gs s : Nat) (cs sn : List Value) (A : Option Addr) (n c : Nat) (ky : Array UInt8) (tm om : Int) (oh ou : Int) (hk : 32 < ky.size) (b1 : Blk w gc cs) (b2 : Blk w gs sn) :
    Calls Tryz.prog 25 #[.pointer (some ⟨gc, 0, none⟩), .agg #[.int .i64 2, .string ⟨ky⟩, .int .u64 tm, .slice A n c, .int .i64 oh, .int .i64 ou, .int .i64 om]] w (StQ gc cs 8 0 w) := by
  have kw := ((Keeps.refl [] w).alloc (.cells #[.int .i64 2, .string ⟨ky⟩, .int .u64 tm, .slice A n c, .int .i64 oh, .int .i64 ou, .int .i64 om] 25)).alloc (.cells #[.int .i64 0, .int .u64 0, .string ⟨#[]⟩, .string ⟨#[]⟩] 52)
  have bO := (Blk.new w [.int .i64 2, .string ⟨ky⟩, .int .u64 tm, .slice A n c, .int .i64 oh, .int .i64 ou, .int .i64 om] 25).alloc (.cells #[.int .i64 0, .int .u64 0, .string ⟨#[]⟩, .string ⟨#[]⟩] 52)
  have bA := Blk.new_at (w.alloc (.cells #[.int .i64 2, .string ⟨ky⟩, .int .u64 tm, .slice A n c, .int .i64 oh, .int .i64 ou, .int .i64 om] 25)) (w.heap.size + 1) [.int .i64 0, .int .u64 0, .string ⟨#[]⟩, .string ⟨#[]⟩] 52 (by simp)
  change Blk ((w.alloc (.cells #[.int .i64 2, .string ⟨ky⟩, .int .u64 tm, .slice A n c, .int .i64 oh, .int .i64 ou, .int .i64 om] 25)).alloc (.cells #[.int .i64 0, .int .u64 0, .string ⟨#[]⟩, .string ⟨#[]⟩] 52)) _ _ at bO bA
  have c1 := kw.blk b1 (by simp)
  have c2 := kw.blk b2 (by simp)
  have hgc := b1.lt
  go_enter Tryz.func25, Tryz.ntmps25
  go_upto_region 1 with fail
  obtain ⟨W, hW⟩ : ∃ W, (w.alloc (.cells #[.int .i64 2, .string ⟨ky⟩, .int .u64 tm, .slice A n c, .int .i64 oh, .int .i64 ou, .int .i64 om] 25)).alloc (.cells #[.int .i64 0, .int .u64 0, .string ⟨#[]⟩, .string ⟨#[]⟩] 52) = W := ⟨_, rfl⟩
  obtain ⟨gO, hgO⟩ : ∃ gO, w.heap.size = gO := ⟨_, rfl⟩
  obtain ⟨gA, hgA⟩ : ∃ gA, w.heap.size + 1 = gA := ⟨_, rfl⟩
  have HG : Hid (w.heap.size ≤ gA ∧ gc ≠ gA ∧ gc < gA ∧ gO ≠ gA ∧ gO ≠ gc) := Lib.hid (by omega)
  rw [hW] at kw bO bA c1 c2 ⊢
  rw [hgA] at bA ⊢
  rw [hgO] at bO ⊢
  clear hW hgO hgA b1 b2 hgc
  obtain ⟨p0, p1, p2, p3, p4, p5, p6, pf, pl⟩ := bO.o7
  have hvk : decide (ky.size ≤ 32) = false := by simp; omega
  go_wp2_with fail
  refine (vk_any ky _).mono ?_
  rintro q wv ⟨rfl, rfl⟩
  rw [hvk]
  go_wp2_with fail
  refine (failed_any 8 _).mono ?_
  rintro q w3 ⟨rfl, k3⟩
  have K3 := (kw.trans ((Keeps.refl [] W).drewN 0) (by simp)).trans k3 (by simp)
  have c3 := k3.blk (c1.drewN 0) (by simp)
  have bA3 := k3.blk (bA.drewN 0) (by simp)
  try clear c1
  try clear c2 f1 f2 
  try clear x0 x1 x2 x3 xf xl
  clear p0 p1 p2 p3 p4 p5 p6 pf pl
  obtain ⟨a0, a1, a2, a3, af, al⟩ := bA3.o4
  have kS := ((((Keeps.refl [gA] w3).setCell ⟨gA, 0, none⟩ (.int .i64 8) (.inl (by simp))).setCell ⟨gA, 1, none⟩ (.int .u64 0) (.inl (by simp))).setCell ⟨gA, 2, none⟩ (.string ⟨#[]⟩) (.inl (by simp))).setCell ⟨gA, 3, none⟩ (.string ⟨#[]⟩) (.inl (by simp))
  have bS := (((bA3.set 0 (.int .i64 8)).set 1 (.int .u64 0)).set 2 (.string ⟨#[]⟩)).set 3 (.string ⟨#[]⟩)
  simp only [List.set_cons_zero, List.set_cons_succ] at bS
  have KF : Keeps [gc] w _ := (K3.mono (S' := [gc]) (by simp)).trans kS (by have := HG.out; simp; omega)
  have cF := kS.blk c3 (by have := HG.out; simp; omega)
  go_wp2_with fail
  refine bodyPost_ret (results_tmp_cell (cs := [.int .i64 8, .int .u64 0, .string ⟨#[]⟩, .string ⟨#[]⟩]) rfl _ _ gA _ rfl bS Tryz.underlying52 sizA) rfl ?_
  exact ⟨rfl, cF, KF⟩
theorem start_apply (w : World) (gc gs s : Nat) (cs sn : List Value) (A : Option Addr) (n c : Nat) (ky : Array UInt8) (tm om : Int) (oh ou e : Int) (h0 : e ≠ 0) (b1 : Blk w gc cs) (b2 : Blk w gs sn)
    (hq : ∀ W, Keeps [] w W → Calls Tryz.prog 38 #[.slice A n c] W fun q w' => q = .returned (.tuple #[.slice none 0 0, .int .i64 e]) ∧ Keeps [] W w') :
    Calls Tryz.prog 25 #[.pointer (some ⟨gc, 0, none⟩), .agg #[.int .i64 3, .string ⟨ky⟩, .int .u64 tm, .slice A n c, .int .i64 oh, .int .i64 ou, .int .i64 om]] w (StQ gc cs e 0 w) := by
  have kw := ((Keeps.refl [] w).alloc (.cells #[.int .i64 3, .string ⟨ky⟩, .int .u64 tm, .slice A n c, .int .i64 oh, .int .i64 ou, .int .i64 om] 25)).alloc (.cells #[.int .i64 0, .int .u64 0, .string ⟨#[]⟩, .string ⟨#[]⟩] 52)
  have bO := (Blk.new w [.int .i64 3, .string ⟨ky⟩, .int .u64 tm, .slice A n c, .int .i64 oh, .int .i64 ou, .int .i64 om] 25).alloc (.cells #[.int .i64 0, .int .u64 0, .string ⟨#[]⟩, .string ⟨#[]⟩] 52)
  have bA := Blk.new_at (w.alloc (.cells #[.int .i64 3, .string ⟨ky⟩, .int .u64 tm, .slice A n c, .int .i64 oh, .int .i64 ou, .int .i64 om] 25)) (w.heap.size + 1) [.int .i64 0, .int .u64 0, .string ⟨#[]⟩, .string ⟨#[]⟩] 52 (by simp)
  change Blk ((w.alloc (.cells #[.int .i64 3, .string ⟨ky⟩, .int .u64 tm, .slice A n c, .int .i64 oh, .int .i64 ou, .int .i64 om] 25)).alloc (.cells #[.int .i64 0, .int .u64 0, .string ⟨#[]⟩, .string ⟨#[]⟩] 52)) _ _ at bO bA
  have c1 := kw.blk b1 (by simp)
  have c2 := kw.blk b2 (by simp)
  have hgc := b1.lt
  go_enter Tryz.func25, Tryz.ntmps25
  go_upto_region 1 with fail
  obtain ⟨W, hW⟩ : ∃ W, (w.alloc (.cells #[.int .i64 3, .string ⟨ky⟩, .int .u64 tm, .slice A n c, .int .i64 oh, .int .i64 ou, .int .i64 om] 25)).alloc (.cells #[.int .i64 0, .int .u64 0, .string ⟨#[]⟩, .string ⟨#[]⟩] 52) = W := ⟨_, rfl⟩
  obtain ⟨gO, hgO⟩ : ∃ gO, w.heap.size = gO := ⟨_, rfl⟩
  obtain ⟨gA, hgA⟩ : ∃ gA, w.heap.size + 1 = gA := ⟨_, rfl⟩
  have HG : Hid (w.heap.size ≤ gA ∧ gc ≠ gA ∧ gc < gA ∧ gO ≠ gA ∧ gO ≠ gc) := Lib.hid (by omega)
  rw [hW] at kw bO bA c1 c2 ⊢
  rw [hgA] at bA ⊢
  rw [hgO] at bO ⊢
  clear hW hgO hgA b1 b2 hgc
  obtain ⟨p0, p1, p2, p3, p4, p5, p6, pf, pl⟩ := bO.o7
  have HQ := hq W kw
  have hne : (e == 0) = false := by simp [h0]
  clear hq
  go_wp2_with fail
  refine HQ.mono ?_
  clear HQ
  rintro q w2 ⟨rfl, k2⟩
  have c1' := k2.blk c1 (by simp)
  have bA' := k2.blk bA (by simp)
  have kw' := kw.trans k2 (by simp)
  clear c1 bA kw
  have c1 := c1'
  have bA := bA'
  have kw := kw'
  clear c1' bA' kw'
  go_wp2_with fail
  refine (failed_any e _).mono ?_
  rintro q w3 ⟨rfl, k3⟩
  have K3 := (kw.trans ((Keeps.refl [] w2).drewN 0) (by simp)).trans k3 (by simp)
  have c3 := k3.blk (c1.drewN 0) (by simp)
  have bA3 := k3.blk (bA.drewN 0) (by simp)
  try clear c1
  try clear c2 f1 f2 
  try clear x0 x1 x2 x3 xf xl
  clear p0 p1 p2 p3 p4 p5 p6 pf pl
  obtain ⟨a0, a1, a2, a3, af, al⟩ := bA3.o4
  have kS := ((((Keeps.refl [gA] w3).setCell ⟨gA, 0, none⟩ (.int .i64 e) (.inl (by simp))).setCell ⟨gA, 1, none⟩ (.int .u64 0) (.inl (by simp))).setCell ⟨gA, 2, none⟩ (.string ⟨#[]⟩) (.inl (by simp))).setCell ⟨gA, 3, none⟩ (.string ⟨#[]⟩) (.inl (by simp))
  have bS := (((bA3.set 0 (.int .i64 e)).set 1 (.int .u64 0)).set 2 (.string ⟨#[]⟩)).set 3 (.string ⟨#[]⟩)
  simp only [List.set_cons_zero, List.set_cons_succ] at bS
  have KF : Keeps [gc] w _ := (K3.mono (S' := [gc]) (by simp)).trans kS (by have := HG.out; simp; omega)
  have cF := kS.blk c3 (by have := HG.out; simp; omega)
  go_wp2_with fail
  refine bodyPost_ret (results_tmp_cell (cs := [.int .i64 e, .int .u64 0, .string ⟨#[]⟩, .string ⟨#[]⟩]) rfl _ _ gA _ rfl bS Tryz.underlying52 sizA) rfl ?_
  exact ⟨rfl, cF, KF⟩
theorem start_snop (w : World) (gc gs s : Nat) (cs sn : List Value) (A : Option Addr) (n c : Nat) (ky : Array UInt8) (tm om : Int) (h : Nat) (ou : Int) (hs : h < s) (b1 : Blk w gc cs) (b2 : Blk w gs sn) (h1 : cs[15]? = some (.slice (some ⟨gs, 0, none⟩) s s)) (h2 : sn[h * 2]? = some (.bool true)) :
    Calls Tryz.prog 25 #[.pointer (some ⟨gc, 0, none⟩), .agg #[.int .i64 4, .string ⟨ky⟩, .int .u64 tm, .slice A n c, .int .i64 h, .int .i64 ou, .int .i64 om]] w (StQ gc cs 7 0 w) := by
  have kw := ((Keeps.refl [] w).alloc (.cells #[.int .i64 4, .string ⟨ky⟩, .int .u64 tm, .slice A n c, .int .i64 h, .int .i64 ou, .int .i64 om] 25)).alloc (.cells #[.int .i64 0, .int .u64 0, .string ⟨#[]⟩, .string ⟨#[]⟩] 52)
  have bO := (Blk.new w [.int .i64 4, .string ⟨ky⟩, .int .u64 tm, .slice A n c, .int .i64 h, .int .i64 ou, .int .i64 om] 25).alloc (.cells #[.int .i64 0, .int .u64 0, .string ⟨#[]⟩, .string ⟨#[]⟩] 52)
  have bA := Blk.new_at (w.alloc (.cells #[.int .i64 4, .string ⟨ky⟩, .int .u64 tm, .slice A n c, .int .i64 h, .int .i64 ou, .int .i64 om] 25)) (w.heap.size + 1) [.int .i64 0, .int .u64 0, .string ⟨#[]⟩, .string ⟨#[]⟩] 52 (by simp)
  change Blk ((w.alloc (.cells #[.int .i64 4, .string ⟨ky⟩, .int .u64 tm, .slice A n c, .int .i64 h, .int .i64 ou, .int .i64 om] 25)).alloc (.cells #[.int .i64 0, .int .u64 0, .string ⟨#[]⟩, .string ⟨#[]⟩] 52)) _ _ at bO bA
  have c1 := kw.blk b1 (by simp)
  have c2 := kw.blk b2 (by simp)
  have hgc := b1.lt
  go_enter Tryz.func25, Tryz.ntmps25
  go_upto_region 1 with fail
  obtain ⟨W, hW⟩ : ∃ W, (w.alloc (.cells #[.int .i64 4, .string ⟨ky⟩, .int .u64 tm, .slice A n c, .int .i64 h, .int .i64 ou, .int .i64 om] 25)).alloc (.cells #[.int .i64 0, .int .u64 0, .string ⟨#[]⟩, .string ⟨#[]⟩] 52) = W := ⟨_, rfl⟩
  obtain ⟨gO, hgO⟩ : ∃ gO, w.heap.size = gO := ⟨_, rfl⟩
  obtain ⟨gA, hgA⟩ : ∃ gA, w.heap.size + 1 = gA := ⟨_, rfl⟩
  have HG : Hid (w.heap.size ≤ gA ∧ gc ≠ gA ∧ gc < gA ∧ gO ≠ gA ∧ gO ≠ gc) := Lib.hid (by omega)
  rw [hW] at kw bO bA c1 c2 ⊢
  rw [hgA] at bA ⊢
  rw [hgO] at bO ⊢
  clear hW hgO hgA b1 b2 hgc
  obtain ⟨p0, p1, p2, p3, p4, p5, p6, pf, pl⟩ := bO.o7
  have f1 : W.cell? ⟨gc, 15, none⟩ = some (.slice (some ⟨gs, 0, none⟩) s s) := by rw [c1.cell]; exact h1
  have f2 : W.cell? ⟨gs, h * 2, none⟩ = some (.bool true) := by rw [c2.cell]; exact h2
  have hsI : (h : Int) < (s : Int) := by omega
  have hh0 : (0 : Int) ≤ (h : Int) := by omega
  go_wp2_with fail
  go_quiet (fail)
  go_wp2_with fail
  refine (failed_any 7 _).mono ?_
  rintro q w3 ⟨rfl, k3⟩
  have K3 := (kw.trans ((Keeps.refl [] W).drewN _) (by simp)).trans k3 (by simp)
  have c3 := k3.blk (c1.drewN _) (by simp)
  have bA3 := k3.blk (bA.drewN _) (by simp)
  try clear c1
  try clear c2 f1 f2 
  try clear x0 x1 x2 x3 xf xl
  clear p0 p1 p2 p3 p4 p5 p6 pf pl
  obtain ⟨a0, a1, a2, a3, af, al⟩ := bA3.o4
  have kS := ((((Keeps.refl [gA] w3).setCell ⟨gA, 0, none⟩ (.int .i64 7) (.inl (by simp))).setCell ⟨gA, 1, none⟩ (.int .u64 0) (.inl (by simp))).setCell ⟨gA, 2, none⟩ (.string ⟨#[]⟩) (.inl (by simp))).setCell ⟨gA, 3, none⟩ (.string ⟨#[]⟩) (.inl (by simp))
  have bS := (((bA3.set 0 (.int .i64 7)).set 1 (.int .u64 0)).set 2 (.string ⟨#[]⟩)).set 3 (.string ⟨#[]⟩)
  simp only [List.set_cons_zero, List.set_cons_succ] at bS
  have KF : Keeps [gc] w _ := (K3.mono (S' := [gc]) (by simp)).trans kS (by have := HG.out; simp; omega)
  have cF := kS.blk c3 (by have := HG.out; simp; omega)
  go_wp2_with fail
  refine bodyPost_ret (results_tmp_cell (cs := [.int .i64 7, .int .u64 0, .string ⟨#[]⟩, .string ⟨#[]⟩]) rfl _ _ gA _ rfl bS Tryz.underlying52 sizA) rfl ?_
  exact ⟨rfl, cF, KF⟩
theorem start_rlcl (w : World) (gc gs s : Nat) (cs sn : List Value) (A : Option Addr) (n c : Nat) (ky : Array UInt8) (tm om : Int) (h : Nat) (ou : Int) (hs : h < s) (b1 : Blk w gc cs) (b2 : Blk w gs sn) (h1 : cs[15]? = some (.slice (some ⟨gs, 0, none⟩) s s)) (h2 : sn[h * 2]? = some (.bool false)) :
    Calls Tryz.prog 25 #[.pointer (some ⟨gc, 0, none⟩), .agg #[.int .i64 5, .string ⟨ky⟩, .int .u64 tm, .slice A n c, .int .i64 h, .int .i64 ou, .int .i64 om]] w (StQ gc cs 6 0 w) := by
  have kw := ((Keeps.refl [] w).alloc (.cells #[.int .i64 5, .string ⟨ky⟩, .int .u64 tm, .slice A n c, .int .i64 h, .int .i64 ou, .int .i64 om] 25)).alloc (.cells #[.int .i64 0, .int .u64 0, .string ⟨#[]⟩, .string ⟨#[]⟩] 52)
  have bO := (Blk.new w [.int .i64 5, .string ⟨ky⟩, .int .u64 tm, .slice A n c, .int .i64 h, .int .i64 ou, .int .i64 om] 25).alloc (.cells #[.int .i64 0, .int .u64 0, .string ⟨#[]⟩, .string ⟨#[]⟩] 52)
  have bA := Blk.new_at (w.alloc (.cells #[.int .i64 5, .string ⟨ky⟩, .int .u64 tm, .slice A n c, .int .i64 h, .int .i64 ou, .int .i64 om] 25)) (w.heap.size + 1) [.int .i64 0, .int .u64 0, .string ⟨#[]⟩, .string ⟨#[]⟩] 52 (by simp)
  change Blk ((w.alloc (.cells #[.int .i64 5, .string ⟨ky⟩, .int .u64 tm, .slice A n c, .int .i64 h, .int .i64 ou, .int .i64 om] 25)).alloc (.cells #[.int .i64 0, .int .u64 0, .string ⟨#[]⟩, .string ⟨#[]⟩] 52)) _ _ at bO bA
  have c1 := kw.blk b1 (by simp)
  have c2 := kw.blk b2 (by simp)
  have hgc := b1.lt
  go_enter Tryz.func25, Tryz.ntmps25
  go_upto_region 1 with fail
  obtain ⟨W, hW⟩ : ∃ W, (w.alloc (.cells #[.int .i64 5, .string ⟨ky⟩, .int .u64 tm, .slice A n c, .int .i64 h, .int .i64 ou, .int .i64 om] 25)).alloc (.cells #[.int .i64 0, .int .u64 0, .string ⟨#[]⟩, .string ⟨#[]⟩] 52) = W := ⟨_, rfl⟩
  obtain ⟨gO, hgO⟩ : ∃ gO, w.heap.size = gO := ⟨_, rfl⟩
  obtain ⟨gA, hgA⟩ : ∃ gA, w.heap.size + 1 = gA := ⟨_, rfl⟩
  have HG : Hid (w.heap.size ≤ gA ∧ gc ≠ gA ∧ gc < gA ∧ gO ≠ gA ∧ gO ≠ gc) := Lib.hid (by omega)
  rw [hW] at kw bO bA c1 c2 ⊢
  rw [hgA] at bA ⊢
  rw [hgO] at bO ⊢
  clear hW hgO hgA b1 b2 hgc
  obtain ⟨p0, p1, p2, p3, p4, p5, p6, pf, pl⟩ := bO.o7
  have f1 : W.cell? ⟨gc, 15, none⟩ = some (.slice (some ⟨gs, 0, none⟩) s s) := by rw [c1.cell]; exact h1
  have f2 : W.cell? ⟨gs, h * 2, none⟩ = some (.bool false) := by rw [c2.cell]; exact h2
  have hsI : (h : Int) < (s : Int) := by omega
  have hh0 : (0 : Int) ≤ (h : Int) := by omega
  go_wp2_with fail
  go_quiet (fail)
  go_wp2_with fail
  refine (failed_any 6 _).mono ?_
  rintro q w3 ⟨rfl, k3⟩
  have K3 := (kw.trans ((Keeps.refl [] W).drewN _) (by simp)).trans k3 (by simp)
  have c3 := k3.blk (c1.drewN _) (by simp)
  have bA3 := k3.blk (bA.drewN _) (by simp)
  try clear c1
  try clear c2 f1 f2 
  try clear x0 x1 x2 x3 xf xl
  clear p0 p1 p2 p3 p4 p5 p6 pf pl
  obtain ⟨a0, a1, a2, a3, af, al⟩ := bA3.o4
  have kS := ((((Keeps.refl [gA] w3).setCell ⟨gA, 0, none⟩ (.int .i64 6) (.inl (by simp))).setCell ⟨gA, 1, none⟩ (.int .u64 0) (.inl (by simp))).setCell ⟨gA, 2, none⟩ (.string ⟨#[]⟩) (.inl (by simp))).setCell ⟨gA, 3, none⟩ (.string ⟨#[]⟩) (.inl (by simp))
  have bS := (((bA3.set 0 (.int .i64 6)).set 1 (.int .u64 0)).set 2 (.string ⟨#[]⟩)).set 3 (.string ⟨#[]⟩)
  simp only [List.set_cons_zero, List.set_cons_succ] at bS
  have KF : Keeps [gc] w _ := (K3.mono (S' := [gc]) (by simp)).trans kS (by have := HG.out; simp; omega)
  have cF := kS.blk c3 (by have := HG.out; simp; omega)
  go_wp2_with fail
  refine bodyPost_ret (results_tmp_cell (cs := [.int .i64 6, .int .u64 0, .string ⟨#[]⟩, .string ⟨#[]⟩]) rfl _ _ gA _ rfl bS Tryz.underlying52 sizA) rfl ?_
  exact ⟨rfl, cF, KF⟩
end Go.Proofs.YtjmhnlbkfbieaaaGreat
