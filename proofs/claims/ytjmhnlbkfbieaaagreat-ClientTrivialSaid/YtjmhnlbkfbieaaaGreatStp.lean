/- client: failed, startCursor at an OpOpen of a snapshot that is not open. -/
import Derived.Test.YtjmhnlbkfbieaaaGreatScrK
import Derived.BigQuiet
import Derived.Laws.ResultCell
namespace Go.Proofs.YtjmhnlbkfbieaaaGreat
open Go.RowKit
set_option linter.unusedSectionVars false
set_option linter.unusedVariables false
set_option linter.unusedSimpArgs false
set_option maxRecDepth 100000
set_option maxHeartbeats 4000000
theorem results_tmp_cell {fn : Func} {p u : Tmp} {ty : TypeId} (h : fn.results = #[.tmp u, .cell p ty]) (tmps : Array Value) (w : World) (g : Nat) (cs : List Value) (d : Array Field)
    (hp : tmps.getD p undef = .pointer (some ⟨g, 0, none⟩)) (hb : Blk w g cs) (hu : Tryz.prog.underlying ty = some (.struct d)) (hi : (Tryz.prog.info? ty).map (·.size) = some cs.length) :
    (results fn tmps).run Tryz.prog w = .ok (.tuple #[tmps.getD u undef, .agg cs.toArray]) w := by
  obtain ⟨T, ht⟩ := hb
  have := run_loadVar_row (P := Tryz.prog) w g T ty cs.toArray _ (.struct d) ht hu rfl (by simpa using hi)
  have e : (results fn tmps).run Tryz.prog w = ((asAddr (tmps.getD p undef)).run Tryz.prog w).andThen fun a w₁ => ((loadVar ty a).run Tryz.prog w₁).andThen fun v w₂ => .ok (.tuple #[tmps.getD u undef, v]) w₂ := by
    simp only [results, h]
    simp [Sem.run_bind, Result.andThen]
  rw [e, hp]
  simp [asAddr, Result.andThen, this]
theorem sizA : (Tryz.prog.info? 52).map (·.size) = some 4 := by kernel_rfl
theorem failed_any (e : Int) (w : World) : Calls Tryz.prog 35 #[.int .i64 e] w fun q w' => q = .returned (.tuple #[.nilIface, .agg #[.int .i64 e, .int .u64 0, .string ⟨#[]⟩, .string ⟨#[]⟩]]) ∧ Keeps [] w w' := by
  go_enter Tryz.func35, Tryz.ntmps35
  go_wp2_with fail
  refine bodyPost_ret (results_tmp_cell (cs := [.int .i64 e, .int .u64 0, .string ⟨#[]⟩, .string ⟨#[]⟩]) rfl _ _ w.heap.size _ rfl (Blk.new w [.int .i64 e, .int .u64 0, .string ⟨#[]⟩, .string ⟨#[]⟩] 52) Tryz.underlying52 sizA) rfl ?_
  exact ⟨rfl, (Keeps.refl _ _).alloc _⟩
theorem scu_closed (w : World) (gc gs s : Nat) (cs sn : List Value) (A : Option Addr) (n c : Nat) (hs : 1 ≤ s) (b1 : Blk w gc cs) (b2 : Blk w gs sn) (h1 : cs[15]? = some (.slice (some ⟨gs, 0, none⟩) s s)) (h2 : sn[0]? = some (.bool false)) :
    Calls Tryz.prog 43 #[.pointer (some ⟨gc, 0, none⟩), .agg #[.int .i64 6, .string ⟨#[]⟩, .int .u64 0, .slice A n c, .int .i64 0, .int .i64 0, .int .i64 0]] w fun q w' => q = .returned (.tuple #[.nilIface, .agg #[.int .i64 6, .int .u64 0, .string ⟨#[]⟩, .string ⟨#[]⟩]]) ∧ Keeps [] w w' := by
  have kw := ((Keeps.refl [] w).alloc (.cells #[.int .i64 6, .string ⟨#[]⟩, .int .u64 0, .slice A n c, .int .i64 0, .int .i64 0, .int .i64 0] 25)).alloc (.cells #[.int .i64 0, .int .u64 0, .string ⟨#[]⟩, .string ⟨#[]⟩] 52)
  have bO := (Blk.new w [.int .i64 6, .string ⟨#[]⟩, .int .u64 0, .slice A n c, .int .i64 0, .int .i64 0, .int .i64 0] 25).alloc (.cells #[.int .i64 0, .int .u64 0, .string ⟨#[]⟩, .string ⟨#[]⟩] 52)
  have bA := Blk.new_at (w.alloc (.cells #[.int .i64 6, .string ⟨#[]⟩, .int .u64 0, .slice A n c, .int .i64 0, .int .i64 0, .int .i64 0] 25)) (w.heap.size + 1) [.int .i64 0, .int .u64 0, .string ⟨#[]⟩, .string ⟨#[]⟩] 52 (by simp)
  change Blk ((w.alloc (.cells #[.int .i64 6, .string ⟨#[]⟩, .int .u64 0, .slice A n c, .int .i64 0, .int .i64 0, .int .i64 0] 25)).alloc (.cells #[.int .i64 0, .int .u64 0, .string ⟨#[]⟩, .string ⟨#[]⟩] 52)) _ _ at bO bA
  have c1 := kw.blk b1 (by simp)
  have c2 := kw.blk b2 (by simp)
  go_enter Tryz.func43, Tryz.ntmps43
  go_upto_region 1 with fail
  obtain ⟨W, hW⟩ : ∃ W, (w.alloc (.cells #[.int .i64 6, .string ⟨#[]⟩, .int .u64 0, .slice A n c, .int .i64 0, .int .i64 0, .int .i64 0] 25)).alloc (.cells #[.int .i64 0, .int .u64 0, .string ⟨#[]⟩, .string ⟨#[]⟩] 52) = W := ⟨_, rfl⟩
  obtain ⟨gO, hgO⟩ : ∃ gO, w.heap.size = gO := ⟨_, rfl⟩
  obtain ⟨gA, hgA⟩ : ∃ gA, w.heap.size + 1 = gA := ⟨_, rfl⟩
  rw [hW] at kw bO bA c1 c2 ⊢
  rw [hgA] at bA ⊢
  rw [hgO] at bO ⊢
  have hgAw : w.heap.size ≤ gA := by omega
  clear hW hgO hgA b1 b2
  obtain ⟨p0, p1, p2, p3, p4, p5, p6, pf, pl⟩ := bO.o7
  have f1 : W.cell? ⟨gc, 15, none⟩ = some (.slice (some ⟨gs, 0, none⟩) s s) := by rw [c1.cell]; exact h1
  have f2 : W.cell? ⟨gs, 0, none⟩ = some (.bool false) := by rw [c2.cell]; exact h2
  have hsI : (0 : Int) < (s : Int) := by omega
  go_quiet (fail)
  go_wp2_with fail
  go_quiet (fail)
  go_wp2_with fail
  refine (failed_any 6 _).mono ?_
  rintro q w3 ⟨rfl, k3⟩
  have K3 := (kw.trans ((Keeps.refl [] W).drewN _) (by simp)).trans k3 (by simp)
  have bA3 := k3.blk (bA.drewN _) (by simp)
  clear c1 c2 f1 f2 p0 p1 p2 p3 p4 p5 p6 pf pl bO bA
  obtain ⟨a0, a1, a2, a3, af, al⟩ := bA3.o4
  have kS := ((((Keeps.refl [gA] w3).setCell ⟨gA, 0, none⟩ (.int .i64 6) (.inl (by simp))).setCell ⟨gA, 1, none⟩ (.int .u64 0) (.inl (by simp))).setCell ⟨gA, 2, none⟩ (.string ⟨#[]⟩) (.inl (by simp))).setCell ⟨gA, 3, none⟩ (.string ⟨#[]⟩) (.inl (by simp))
  have bS := (((bA3.set 0 (.int .i64 6)).set 1 (.int .u64 0)).set 2 (.string ⟨#[]⟩)).set 3 (.string ⟨#[]⟩)
  simp only [List.set_cons_zero, List.set_cons_succ] at bS
  have KF := K3.trans kS (by simp; omega)
  go_wp2_with fail
  refine bodyPost_ret (results_tmp_cell (cs := [.int .i64 6, .int .u64 0, .string ⟨#[]⟩, .string ⟨#[]⟩]) rfl _ _ gA _ rfl bS Tryz.underlying52 sizA) rfl ?_
  exact ⟨rfl, KF⟩
theorem start_closed (w : World) (gc gs s : Nat) (cs sn : List Value) (A : Option Addr) (n c : Nat) (hs : 1 ≤ s) (b1 : Blk w gc cs) (b2 : Blk w gs sn) (h1 : cs[15]? = some (.slice (some ⟨gs, 0, none⟩) s s)) (h2 : sn[0]? = some (.bool false)) :
    Calls Tryz.prog 25 #[.pointer (some ⟨gc, 0, none⟩), .agg #[.int .i64 6, .string ⟨#[]⟩, .int .u64 0, .slice A n c, .int .i64 0, .int .i64 0, .int .i64 0]] w fun q w' => q = .returned (.tuple #[.nilIface, .agg #[.int .i64 6, .int .u64 0, .string ⟨#[]⟩, .string ⟨#[]⟩]]) ∧ Keeps [] w w' := by
  have kw := ((Keeps.refl [] w).alloc (.cells #[.int .i64 6, .string ⟨#[]⟩, .int .u64 0, .slice A n c, .int .i64 0, .int .i64 0, .int .i64 0] 25)).alloc (.cells #[.int .i64 0, .int .u64 0, .string ⟨#[]⟩, .string ⟨#[]⟩] 52)
  have bA := Blk.new_at (w.alloc (.cells #[.int .i64 6, .string ⟨#[]⟩, .int .u64 0, .slice A n c, .int .i64 0, .int .i64 0, .int .i64 0] 25)) (w.heap.size + 1) [.int .i64 0, .int .u64 0, .string ⟨#[]⟩, .string ⟨#[]⟩] 52 (by simp)
  change Blk ((w.alloc (.cells #[.int .i64 6, .string ⟨#[]⟩, .int .u64 0, .slice A n c, .int .i64 0, .int .i64 0, .int .i64 0] 25)).alloc (.cells #[.int .i64 0, .int .u64 0, .string ⟨#[]⟩, .string ⟨#[]⟩] 52)) _ _ at bA
  have hq := scu_closed _ gc gs s cs sn A n c hs (kw.blk b1 (by simp)) (kw.blk b2 (by simp)) h1 h2
  go_enter Tryz.func25, Tryz.ntmps25
  go_wp2_with fail
  refine hq.mono ?_
  rintro q w3 ⟨rfl, k3⟩
  have K3 := kw.trans k3 (by simp)
  have bA3 := k3.blk bA (by simp)
  obtain ⟨gA, hgA⟩ : ∃ gA, w.heap.size + 1 = gA := ⟨_, rfl⟩
  have hgAw : w.heap.size ≤ gA := by omega
  rw [hgA] at bA3 ⊢
  clear hq b1 b2 bA kw k3 hgA
  obtain ⟨a0, a1, a2, a3, af, al⟩ := bA3.o4
  have kS := ((((Keeps.refl [gA] w3).setCell ⟨gA, 0, none⟩ (.int .i64 6) (.inl (by simp))).setCell ⟨gA, 1, none⟩ (.int .u64 0) (.inl (by simp))).setCell ⟨gA, 2, none⟩ (.string ⟨#[]⟩) (.inl (by simp))).setCell ⟨gA, 3, none⟩ (.string ⟨#[]⟩) (.inl (by simp))
  have bS := (((bA3.set 0 (.int .i64 6)).set 1 (.int .u64 0)).set 2 (.string ⟨#[]⟩)).set 3 (.string ⟨#[]⟩)
  simp only [List.set_cons_zero, List.set_cons_succ] at bS
  have KF := K3.trans kS (by simp; omega)
  go_wp2_with fail
  refine bodyPost_ret (results_tmp_cell (cs := [.int .i64 6, .int .u64 0, .string ⟨#[]⟩, .string ⟨#[]⟩]) rfl _ _ gA _ rfl bS Tryz.underlying52 sizA) rfl ?_
  exact ⟨rfl, KF⟩
end Go.Proofs.YtjmhnlbkfbieaaaGreat
