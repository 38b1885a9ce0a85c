/- client: Step at an operation that begins a task of opening. -/
import Derived.Test.YtjmhnlbkfbieaaaGreatStq
import Derived.Test.YtjmhnlbkfbieaaaGreatStr
import Derived.Deep.RegionHeld3
namespace Go.Proofs.YtjmhnlbkfbieaaaGreat
open Go.RowKit
set_option linter.unusedSectionVars false
set_option linter.unusedVariables false
set_option linter.unusedSimpArgs false
set_option maxRecDepth 100000
set_option maxHeartbeats 4000000
/-- The methods of opening in the task's interface (484: the program's types and the depth that the model adds). -/
@[go_sem] theorem meth_marks (ob : Nat) (h : Int) (w : World) : (method 484 109 (.agg #[.pointer (some ⟨ob, 0, none⟩), .int .i64 h]) "Marks").run Tryz.prog w = .ok (346, .pointer (some ⟨ob, 0, none⟩)) w := by kernel_rfl
@[go_sem] theorem meth_step (ob : Nat) (h : Int) (w : World) : (method 484 109 (.agg #[.pointer (some ⟨ob, 0, none⟩), .int .i64 h]) "Step").run Tryz.prog w = .ok (347, .pointer (some ⟨ob, 0, none⟩)) w := by kernel_rfl
@[go_sem] theorem meth_early (ob : Nat) (h : Int) (w : World) : (method 484 109 (.agg #[.pointer (some ⟨ob, 0, none⟩), .int .i64 h]) "Early").run Tryz.prog w = .ok (348, .agg #[.pointer (some ⟨ob, 0, none⟩), .int .i64 h]) w := by kernel_rfl
theorem early_any (ob : Nat) (h : Int) (w : World) : Calls Tryz.prog 348 #[.agg #[.pointer (some ⟨ob, 0, none⟩), .int .i64 h]] w fun q w' => q = .returned (.agg #[.int .i64 0, .int .u64 0, .string ⟨#[]⟩, .string ⟨#[]⟩]) ∧ Keeps [] w w' := by
  go_enter Tryz.func348, Tryz.ntmps348
  go_wp2_with fail
  refine bodyPost_ret (results_blk (cs := [.int .i64 0, .int .u64 0, .string ⟨#[]⟩, .string ⟨#[]⟩]) rfl _ _ (w.heap.size + 1) _ rfl (Blk.new_at _ _ [.int .i64 0, .int .u64 0, .string ⟨#[]⟩, .string ⟨#[]⟩] 52 (by simp)) Tryz.underlying52 sizA) rfl ?_
  exact ⟨rfl, ((Keeps.refl _ _).alloc _).alloc _⟩
theorem OpenB.keeps {w w' : World} {ob nb lb pb xb tb sb hb : Nat} {i : Int} {T S N C R F K : Int} (h : OpenB w ob nb lb pb xb tb sb hb i T S N C R F K) {X : List Nat} (k : Keeps X w w') (h1 : ob ∉ X) (h2 : nb ∉ X) (h3 : lb ∉ X) (h4 : pb ∉ X) (h5 : xb ∉ X) (h6 : tb ∉ X) (h7 : sb ∉ X) (h8 : hb ∉ X) : OpenB w' ob nb lb pb xb tb sb hb i T S N C R F K :=
  ⟨k.blk h.self h1, k.blk h.x h5, k.blk h.t h6, k.blk h.s h7, k.blk h.h h8, h.now.keeps k h2 h3 h4⟩
theorem step_open (w : World) (gc gp gs s n cap ix h : Nat) (cs sn : List Value) (A : Option Addr) (m c : Nat) (T S N C R F K : Int) (hc : CfgOK T S N C R F K) (t : Int) (ht : 0 ≤ t ∧ t < T) (mb mc : Nat) (L : List C3) (na : Int) (hm : MemAt w mb mc L na) (hna : 0 ≤ na ∧ na ≤ 4611686018427387904) (hmg : mb ≠ gc ∧ mc ≠ gc) (b1 : Blk w gc cs) (b2 : Blk w gs sn) (hgs : gs ≠ gc) (hl : 16 ≤ cs.length) (hs : (s : Int) = S ∧ h < s)
    (hL : cs[0]? = some (.int .i64 T) ∧ cs[1]? = some (.int .i64 S) ∧ cs[2]? = some (.int .i64 N) ∧ cs[3]? = some (.int .i64 C) ∧ cs[4]? = some (.int .i64 R) ∧ cs[5]? = some (.int .i64 F) ∧ cs[6]? = some (.int .u64 K)) (h7 : cs[7]? = some (.int .i64 t)) (h15 : cs[15]? = some (.slice (some ⟨gs, 0, none⟩) s s)) (h2 : sn[h * 2]? = some (.bool false))
    (h8 : cs[8]? = some (.slice (some ⟨gp, 0, none⟩) n cap)) (h9 : cs[9]? = some (.int .i64 (ix : Int))) (h10 : cs[10]? = some .nilIface) (hix : ix < n) (hn : n ≤ 4096) (hgp : gp ≠ gc)
    (hop : w.cell? ⟨gp, ix * 7, none⟩ = some (.int .i64 4) ∧ w.cell? ⟨gp, ix * 7 + 1, none⟩ = some (.string ⟨#[]⟩) ∧ w.cell? ⟨gp, ix * 7 + 2, none⟩ = some (.int .u64 0) ∧ w.cell? ⟨gp, ix * 7 + 3, none⟩ = some (.slice A m c) ∧ w.cell? ⟨gp, ix * 7 + 4, none⟩ = some (.int .i64 h) ∧ w.cell? ⟨gp, ix * 7 + 5, none⟩ = some (.int .i64 0) ∧ w.cell? ⟨gp, ix * 7 + 6, none⟩ = some (.int .i64 0)) :
    Calls Tryz.prog 14 #[.pointer (some ⟨gc, 0, none⟩), .pointer (some ⟨mb, 0, none⟩)] w fun q w' => q = .returned (.agg #[.bool true, .bool false, .bool false]) ∧ Keeps [gc, mb, mc] w w' ∧ ∃ ob, Blk w' gc (ans ((stp0 cs ix).set 10 (.iface 109 (.agg #[.pointer (some ⟨ob, 0, none⟩), .int .i64 h]))) 0 0) ∧ Op1 w' ob w.heap.size T S N C R F K (8 + t * S + h) ∧ MemAt w' mb mc (memSet L (8 + t * S + h) ⟨1, ⟨#[]⟩, 0⟩) (na + 1) := by
  have HLL := Lib.hid (And.intro hL (And.intro h7 (And.intro h15 h2)))
  have HM := Lib.hid (And.intro hm (And.intro hna hmg))
  have HS := Lib.hid (And.intro hs (And.intro ht (And.intro hc hgs)))
  have Hl := Lib.hid hl
  have B2 := Lib.hid b2
  clear hL h7 h15 h2 hm hna hmg hs ht hc hgs hl b2
  have k0 := ((Keeps.refl [] w).alloc (.cells #[.bool false, .bool false, .bool false] 49)).alloc (.cells #[.bool false, .bool false, .bool false] 49)
  go_enter Tryz.func14, Tryz.ntmps14
  go_upto_region 2 with fail
  obtain ⟨W, hW⟩ : ∃ W, (w.alloc (.cells #[.bool false, .bool false, .bool false] 49)).alloc (.cells #[.bool false, .bool false, .bool false] 49) = W := ⟨_, rfl⟩
  have be4 := (Blk.new w [.bool false, .bool false, .bool false] 49).alloc (.cells #[.bool false, .bool false, .bool false] 49)
  have be5 := Blk.new_at (w.alloc (.cells #[.bool false, .bool false, .bool false] 49)) (w.heap.size + 1) [.bool false, .bool false, .bool false] 49 (by simp)
  change Blk ((w.alloc (.cells #[.bool false, .bool false, .bool false] 49)).alloc (.cells #[.bool false, .bool false, .bool false] 49)) _ _ at be4 be5
  obtain ⟨g4, hg4⟩ : ∃ g4, w.heap.size = g4 := ⟨_, rfl⟩
  obtain ⟨g5, hg5⟩ : ∃ g5, w.heap.size + 1 = g5 := ⟨_, rfl⟩
  have Hlt : Hid (gc < g4 ∧ g4 = w.heap.size ∧ g5 = w.heap.size + 1) := Lib.hid ⟨by rw [← hg4]; exact b1.lt, hg4.symm, hg5.symm⟩
  rw [hW] at k0 be4 be5 ⊢
  rw [hg5] at be5 ⊢
  rw [hg4] at be4 ⊢
  have c1 := k0.blk b1 (by simp)
  have HW : Hid (g4 < W.heap.size ∧ g5 < W.heap.size) := Lib.hid ⟨be4.lt, be5.lt⟩
  have f8 := (c1.cell 8).trans h8
  have f9 := (c1.cell 9).trans h9
  have f10 := (c1.cell 10).trans h10
  have ff := c1.frozen
  have fl := c1.lt
  obtain ⟨o0, o1, o2, o3, o4, o5, o6⟩ := hop
  have q0 := k0.cellEq o0 (by simp)
  have q1 := k0.cellEq o1 (by simp)
  have q2 := k0.cellEq o2 (by simp)
  have q3 := k0.cellEq o3 (by simp)
  have q4 := k0.cellEq o4 (by simp)
  have q5 := k0.cellEq o5 (by simp)
  have q6 := k0.cellEq o6 (by simp)
  clear hW hg5 hg4 o0 o1 o2 o3 o4 o5 o6
  have hne1 : ¬ ((ix : Int) = (n : Int)) := by omega
  have hltI : (ix : Int) < (n : Int) := by omega
  go_wp2_with fail
  go_quiet (fail)
  go_upto_region 5 with fail
  have hbe : ((ix : Int) == (n : Int)) = false := by simp; omega
  rw [hbe]
  clear hbe
  go_cut [6] from 26 to 35 (fun s6 wx => ∃ g6 : Nat, s6 = .pointer (some ⟨g6, 0, none⟩) ∧ Blk wx g6 [.int .i64 4, .string ⟨#[]⟩, .int .u64 0, .slice A m c, .int .i64 h, .int .i64 0, .int .i64 0] ∧ W.heap.size ≤ g6 ∧ Keeps [] W wx)
  case first =>
    have ixI : (0 : Int) ≤ (ix : Int) := by omega
    have bn := Blk.new (W.drewN (nq + 1)) [.int .i64 0, .string ⟨#[]⟩, .int .u64 0, .slice none 0 0, .int .i64 0, .int .i64 0, .int .i64 0] 25
    change Blk ((W.drewN (nq + 1)).alloc (.cells #[.int .i64 0, .string ⟨#[]⟩, .int .u64 0, .slice none 0 0, .int .i64 0, .int .i64 0, .int .i64 0] 25)) W.heap.size _ at bn
    obtain ⟨n0, n1, n2, n3, n4, n5, n6, nf, nl⟩ := bn.o7
    have gpl : gp < W.heap.size := World.block_lt_of_cell? (w := W) (a := ⟨gp, ix * 7, none⟩) q0
    have kst := ((((((((Keeps.refl [W.heap.size] ((W.drewN (nq + 1)).alloc (.cells #[.int .i64 0, .string ⟨#[]⟩, .int .u64 0, .slice none 0 0, .int .i64 0, .int .i64 0, .int .i64 0] 25))).setCell ⟨W.heap.size, 0, none⟩ (.int .i64 4) (.inl (by simp))).setCell ⟨W.heap.size, 1, none⟩ (.string ⟨#[]⟩) (.inl (by simp))).setCell ⟨W.heap.size, 2, none⟩ (.int .u64 0) (.inl (by simp))).setCell ⟨W.heap.size, 3, none⟩ (.slice A m c) (.inl (by simp))).setCell ⟨W.heap.size, 4, none⟩ (.int .i64 h) (.inl (by simp))).setCell ⟨W.heap.size, 5, none⟩ (.int .i64 0) (.inl (by simp))).setCell ⟨W.heap.size, 6, none⟩ (.int .i64 0) (.inl (by simp)))
    have hg1 : gc ∉ [W.heap.size] := by simp; omega
    have hg2 : gp ∉ [W.heap.size] := by simp; omega
    have f8e := kst.cellEq (Lib.cell?_alloc_some (W := W.drewN (nq + 1)) (.cells #[.int .i64 0, .string ⟨#[]⟩, .int .u64 0, .slice none 0 0, .int .i64 0, .int .i64 0, .int .i64 0] 25) f8) hg1
    have f9e := kst.cellEq (Lib.cell?_alloc_some (W := W.drewN (nq + 1)) (.cells #[.int .i64 0, .string ⟨#[]⟩, .int .u64 0, .slice none 0 0, .int .i64 0, .int .i64 0, .int .i64 0] 25) f9) hg1
    have q0e := kst.cellEq (Lib.cell?_alloc_some (W := W.drewN (nq + 1)) (.cells #[.int .i64 0, .string ⟨#[]⟩, .int .u64 0, .slice none 0 0, .int .i64 0, .int .i64 0, .int .i64 0] 25) q0) hg2
    have q1e := kst.cellEq (Lib.cell?_alloc_some (W := W.drewN (nq + 1)) (.cells #[.int .i64 0, .string ⟨#[]⟩, .int .u64 0, .slice none 0 0, .int .i64 0, .int .i64 0, .int .i64 0] 25) q1) hg2
    have q2e := kst.cellEq (Lib.cell?_alloc_some (W := W.drewN (nq + 1)) (.cells #[.int .i64 0, .string ⟨#[]⟩, .int .u64 0, .slice none 0 0, .int .i64 0, .int .i64 0, .int .i64 0] 25) q2) hg2
    have q3e := kst.cellEq (Lib.cell?_alloc_some (W := W.drewN (nq + 1)) (.cells #[.int .i64 0, .string ⟨#[]⟩, .int .u64 0, .slice none 0 0, .int .i64 0, .int .i64 0, .int .i64 0] 25) q3) hg2
    have q4e := kst.cellEq (Lib.cell?_alloc_some (W := W.drewN (nq + 1)) (.cells #[.int .i64 0, .string ⟨#[]⟩, .int .u64 0, .slice none 0 0, .int .i64 0, .int .i64 0, .int .i64 0] 25) q4) hg2
    have q5e := kst.cellEq (Lib.cell?_alloc_some (W := W.drewN (nq + 1)) (.cells #[.int .i64 0, .string ⟨#[]⟩, .int .u64 0, .slice none 0 0, .int .i64 0, .int .i64 0, .int .i64 0] 25) q5) hg2
    have q6e := kst.cellEq (Lib.cell?_alloc_some (W := W.drewN (nq + 1)) (.cells #[.int .i64 0, .string ⟨#[]⟩, .int .u64 0, .slice none 0 0, .int .i64 0, .int .i64 0, .int .i64 0] 25) q6) hg2
    go_region_held3 (fun w' => w'.cell? ⟨gc, 8, none⟩ = some (.slice (some ⟨gp, 0, none⟩) n cap) ∧ w'.cell? ⟨gc, 9, none⟩ = some (.int .i64 (ix : Int)) ∧ w'.cell? ⟨gp, ix * 7, none⟩ = some (.int .i64 4) ∧ w'.cell? ⟨gp, ix * 7 + 1, none⟩ = some (.string ⟨#[]⟩) ∧ w'.cell? ⟨gp, ix * 7 + 2, none⟩ = some (.int .u64 0) ∧ w'.cell? ⟨gp, ix * 7 + 3, none⟩ = some (.slice A m c) ∧ w'.cell? ⟨gp, ix * 7 + 4, none⟩ = some (.int .i64 h) ∧ w'.cell? ⟨gp, ix * 7 + 5, none⟩ = some (.int .i64 0) ∧ w'.cell? ⟨gp, ix * 7 + 6, none⟩ = some (.int .i64 0))
      (first | (with_reducible exact ⟨f8, f9, q0, q1, q2, q3, q4, q5, q6⟩) | (with_reducible exact ⟨f8e, f9e, q0e, q1e, q2e, q3e, q4e, q5e, q6e⟩) | go_keep)
      (fail)
    all_goals
      go_wp2_with fail
      go_meet
      first
        | exact ⟨W.heap.size, rfl, by have := (((((((bn.set 0 (.int .i64 4)).set 1 (.string ⟨#[]⟩)).set 2 (.int .u64 0)).set 3 (.slice A m c)).set 4 (.int .i64 h)).set 5 (.int .i64 0)).set 6 (.int .i64 0)); simp only [List.set_cons_zero, List.set_cons_succ] at this; exact this, Nat.le_refl _, (((Keeps.refl [] W).drewN _).alloc _).trans kst (by simp)⟩
        | exact ⟨W.heap.size, rfl, Blk.new (W.drewN (nq + 1)) [.int .i64 4, .string ⟨#[]⟩, .int .u64 0, .slice A m c, .int .i64 h, .int .i64 0, .int .i64 0] 25, Nat.le_refl _, ((Keeps.refl [] W).drewN _).alloc _⟩
        | exact ⟨W.heap.size, rfl, Blk.new (W.drewN _) [.int .i64 4, .string ⟨#[]⟩, .int .u64 0, .slice A m c, .int .i64 h, .int .i64 0, .int .i64 0] 25, Nat.le_refl _, ((Keeps.refl [] W).drewN _).alloc _⟩
  case rest =>
    obtain ⟨g6, rfl, b6, hg6, k6⟩ := hcut
    have d1 := k6.blk c1 (by simp)
    have e4 := k6.blk be4 (by simp)
    have e5 := k6.blk be5 (by simp)
    have K6 := k0.trans k6 (by simp)
    have f9c := (d1.cell 9).trans h9
    have dfc := d1.frozen
    have dlc := d1.lt
    obtain ⟨u0, u1, u2, uf, ul⟩ := e5.o3
    clear f8 f9 f10 ff fl q0 q1 q2 q3 q4 q5 q6 c1 be4 be5 k0 k6
    have hwr : wrap64 ((ix : Int) + 1) = (ix : Int) + 1 := IntWalk.wrap64_in _ ⟨by omega, by omega⟩
    go_upto_region 8 with fail
    have HN : Hid (gc ≠ g4 ∧ gc ≠ g5 ∧ gc ≠ g6 ∧ g4 ≠ g5 ∧ g4 ≠ g6 ∧ g5 ≠ g6 ∧ w.heap.size ≤ g4 ∧ w.heap.size ≤ g5 ∧ w.heap.size ≤ g6) := Lib.hid (by have := Hlt.out; have := HW.out; omega)
    have kA := ((Keeps.refl [gc, g5] wc).setCell ⟨gc, 9, none⟩ (.int .i64 ((ix : Int) + 1)) (.inl (by simp))).setCell ⟨g5, 0, none⟩ (.bool true) (.inl (by simp))
    have dA := (d1.set 9 (.int .i64 ((ix : Int) + 1))).other ⟨g5, 0, none⟩ (.bool true) HN.out.2.1
    have eA := kA.blk e4 (by have := HN.out; simp; omega)
    have e5A := (e5.other ⟨gc, 9, none⟩ (.int .i64 ((ix : Int) + 1)) (by have := HN.out; simp; omega)).set 0 (.bool true)
    have b6A := kA.blk b6 (by have := HN.out; simp; omega)
    obtain ⟨W8, hW8⟩ : ∃ W8, (wc.setCell ⟨gc, 9, none⟩ (.int .i64 ((ix : Int) + 1))).setCell ⟨g5, 0, none⟩ (.bool true) = W8 := ⟨_, rfl⟩
    rw [hW8] at kA dA eA e5A b6A ⊢
    have K8 : Keeps [gc] w W8 := (K6.mono (S' := [gc]) (by simp)).trans kA (by have := HN.out; simp; omega)
    clear hW8 d1 e4 e5 b6 f9c dfc dlc u0 u1 u2 uf ul hwr kA K6
    simp only [List.set_cons_zero] at e5A
    have hl2 := Hl.out
    obtain ⟨v11, hv11⟩ : ∃ v, cs[11]? = some v := ⟨cs[11], by simp⟩
    obtain ⟨v12, hv12⟩ : ∃ v, cs[12]? = some v := ⟨cs[12], by simp⟩
    obtain ⟨v13, hv13⟩ : ∃ v, cs[13]? = some v := ⟨cs[13], by simp⟩
    obtain ⟨v14, hv14⟩ : ∃ v, cs[14]? = some v := ⟨cs[14], by simp⟩
    have f11 := (dA.cell 11).trans ((List.getElem?_set_ne (by omega)).trans hv11)
    have f12 := (dA.cell 12).trans ((List.getElem?_set_ne (by omega)).trans hv12)
    have f13 := (dA.cell 13).trans ((List.getElem?_set_ne (by omega)).trans hv13)
    have f14 := (dA.cell 14).trans ((List.getElem?_set_ne (by omega)).trans hv14)
    have dAf := dA.frozen
    have dAl := dA.lt
    have kB := ((((Keeps.refl [gc] W8).setCell ⟨gc, 11, none⟩ (.int .i64 0) (.inl (by simp))).setCell ⟨gc, 12, none⟩ (.int .u64 0) (.inl (by simp))).setCell ⟨gc, 13, none⟩ (.string ⟨#[]⟩) (.inl (by simp))).setCell ⟨gc, 14, none⟩ (.string ⟨#[]⟩) (.inl (by simp))
    have dB := (((dA.set 11 (.int .i64 0)).set 12 (.int .u64 0)).set 13 (.string ⟨#[]⟩)).set 14 (.string ⟨#[]⟩)
    clear hl2
    go_upto_region 9 with fail
    obtain ⟨W9, hW9⟩ : ∃ W9, ((((W8.setCell ⟨gc, 11, none⟩ (.int .i64 0)).setCell ⟨gc, 12, none⟩ (.int .u64 0)).setCell ⟨gc, 13, none⟩ (.string ⟨#[]⟩)).setCell ⟨gc, 14, none⟩ (.string ⟨#[]⟩)) = W9 := ⟨_, rfl⟩
    rw [hW9] at kB dB ⊢
    clear hW9 f11 f12 f13 f14 hv11 hv12 hv13 hv14 dAf dAl
    have eB := kB.blk eA (by have := HN.out; simp; omega)
    have e5B := kB.blk e5A (by have := HN.out; simp; omega)
    have b6B := kB.blk b6A (by have := HN.out; simp; omega)
    have K9 : Keeps [gc] w W9 := K8.trans kB (by simp)
    change Blk W9 gc (stp0 cs ix) at dB
    clear eA e5A b6A dA kB K8
    obtain ⟨p0, p1, p2, p3, p4, p5, p6, pf, pl⟩ := b6B.o7
    obtain ⟨⟨z0, z1, z2, z3, z4, z5, z6⟩, z7, z15, zs⟩ := HLL.out
    obtain ⟨⟨hs1, hs2⟩, ⟨ht1, ht2⟩, hcc, hgs⟩ := HS.out
    have hb2 : Blk W9 gs sn := K9.blk B2.out (by simp; exact hgs)
    have hs := start_snap W9 gc gs s h (stp0 cs ix) sn A m c T S N C R F K hcc t ht1 ht2 dB hb2 hs1 hs2
      ⟨by rw [stp0_get _ _ _ (by omega) (by omega) (by omega) (by omega) (by omega)]; exact z0, by rw [stp0_get _ _ _ (by omega) (by omega) (by omega) (by omega) (by omega)]; exact z1, by rw [stp0_get _ _ _ (by omega) (by omega) (by omega) (by omega) (by omega)]; exact z2, by rw [stp0_get _ _ _ (by omega) (by omega) (by omega) (by omega) (by omega)]; exact z3, by rw [stp0_get _ _ _ (by omega) (by omega) (by omega) (by omega) (by omega)]; exact z4, by rw [stp0_get _ _ _ (by omega) (by omega) (by omega) (by omega) (by omega)]; exact z5, by rw [stp0_get _ _ _ (by omega) (by omega) (by omega) (by omega) (by omega)]; exact z6⟩
      (by rw [stp0_get _ _ _ (by omega) (by omega) (by omega) (by omega) (by omega)]; exact z7) (by rw [stp0_get _ _ _ (by omega) (by omega) (by omega) (by omega) (by omega)]; exact z15) zs
    clear z0 z1 z2 z3 z4 z5 z6 z7 z15 zs hs1 hs2 ht1 ht2 hcc hgs hb2
    go_wp2_with fail
    refine hs.mono ?_
    rintro q w3 ⟨ob, rfl, o3, k3⟩
    have e3 := k3.blk eB (by simp)
    have e53 := k3.blk e5B (by simp)
    have d3 := k3.blk dB (by simp)
    have K3 : Keeps [gc] w w3 := K9.trans k3 (by simp)
    obtain ⟨nb, lb, pb, oA, oB, oC, oD, oE, oF⟩ := o3
    have HO : Hid (W9.heap.size ≤ ob ∧ W9.heap.size ≤ nb ∧ W9.heap.size ≤ lb ∧ W9.heap.size ≤ pb ∧ g4 < W9.heap.size ∧ g5 < W9.heap.size ∧ gc < W9.heap.size ∧ w.heap.size ≤ W9.heap.size ∧ nb ≠ ob ∧ ob ≠ lb ∧ ob ≠ pb) := Lib.hid ⟨oC.1, oC.2.1, oC.2.2.1, oC.2.2.2, eB.lt, e5B.lt, dB.lt, K9.size, oD, oE, oF⟩
    clear oC oD oE oF
    have ka := (Keeps.refl [] w3).alloc (.cells #[.int .i64 0, .int .u64 0, .string ⟨#[]⟩, .string ⟨#[]⟩] 52)
    clear p0 p1 p2 p3 p4 p5 p6 pf pl hs eB e5B b6B dB k3
    have f10 : w3.cell? ⟨gc, 10, none⟩ = some .nilIface := by rw [d3.cell, stp0_get _ _ _ (by omega) (by omega) (by omega) (by omega) (by omega)]; exact h10
    have fgf := d3.frozen
    have fgl := d3.lt
    go_upto_region 13 with fail
    obtain ⟨W10, hW10⟩ : ∃ W10, w3.alloc (.cells #[.int .i64 0, .int .u64 0, .string ⟨#[]⟩, .string ⟨#[]⟩] 52) = W10 := ⟨_, rfl⟩
    obtain ⟨g8, hg8⟩ : ∃ g8, w3.heap.size = g8 := ⟨_, rfl⟩
    rw [hW10] at ka ⊢
    rw [hg8]
    have d10 := ka.blk d3 (by simp)
    have e10 := ka.blk e3 (by simp)
    have e510 := ka.blk e53 (by simp)
    have K10 : Keeps [gc] w W10 := K3.trans ka (by simp)
    have oA10 := ka.blk oA (by simp)
    have oB10 := oB.keeps ka (by simp) (by simp) (by simp)
    clear hW10 hg8 d3 e3 e53 K3 ka oA oB f10 fgf fgl
    have f10 : W10.cell? ⟨gc, 10, none⟩ = some .nilIface := by rw [d10.cell, stp0_get _ _ _ (by omega) (by omega) (by omega) (by omega) (by omega)]; exact h10
    have fgf := d10.frozen
    have fgl := d10.lt
    have kC := (Keeps.refl [gc] W10).setCell ⟨gc, 10, none⟩ (.iface 109 (.agg #[.pointer (some ⟨ob, 0, none⟩), .int .i64 h])) (.inl (by simp))
    have dC := d10.set 10 (.iface 109 (.agg #[.pointer (some ⟨ob, 0, none⟩), .int .i64 h]))
    go_upto_region 14 with fail
    obtain ⟨W11, hW11⟩ : ∃ W11, W10.setCell ⟨gc, 10, none⟩ (.iface 109 (.agg #[.pointer (some ⟨ob, 0, none⟩), .int .i64 h])) = W11 := ⟨_, rfl⟩
    rw [hW11] at kC dC ⊢
    have e11 := kC.blk e10 (by have := HN.out; simp; omega)
    have e511 := kC.blk e510 (by have := HN.out; simp; omega)
    have K11 : Keeps [gc] w W11 := K10.trans kC (by simp)
    have oA11 := kC.blk oA10 (by have := HO.out; simp; omega)
    have oB11 := oB10.keeps kC (by have := HO.out; simp; omega) (by have := HO.out; simp; omega) (by have := HO.out; simp; omega)
    clear hW11 d10 e10 e510 K10 kC f10 fgf fgl oA10 oB10
    have f10 : W11.cell? ⟨gc, 10, none⟩ = some (.iface 109 (.agg #[.pointer (some ⟨ob, 0, none⟩), .int .i64 h])) := by rw [dC.cell, List.getElem?_set_self (by rw [stp0_len]; have := Hl.out; omega)]
    have fgf := dC.frozen
    have fgl := dC.lt
    go_wp2_with fail
    refine (op0_marks (wo := w) ⟨nb, lb, pb, oA11, oB11, by have := HO.out; omega, by have := HO.out; omega, by have := HO.out; omega, by have := HO.out; omega⟩).mono ?_
    rintro q w12 ⟨rfl, rfl⟩
    have hm11 := HM.out.1.keeps K11 (by have := HM.out; simp; omega) (by have := HM.out; simp; omega)
    have Hml : Hid (mb < w.heap.size ∧ mc < w.heap.size) := Lib.hid ⟨HM.out.1.lt.1, HM.out.1.lt.2⟩
    go_wp2_with fail
    refine (openStep1 W11 ob nb lb pb mb mc L na (8 + t * S + h) T S N C R F K oA11 oB11 hm11 HM.out.2.1.1 HM.out.2.1.2 (by have := Hml.out; have := HO.out; omega) (by have := Hml.out; have := HO.out; omega) (by have := HO.out; omega)).mono ?_
    rintro q w13 ⟨rfl, xb, tb, sb, hb, oP, x1, x2, x3, x4, hm13, k13⟩
    have HZ : Hid (gc ∉ [mb, mc, ob] ∧ g4 ∉ [mb, mc, ob] ∧ g5 ∉ [mb, mc, ob]) := Lib.hid (by have := HO.out; have := HM.out; have := Hml.out; have := HN.out; simp; omega)
    have dD := k13.blk dC HZ.out.1
    have eD := k13.blk e11 HZ.out.2.1
    have e5D := k13.blk e511 HZ.out.2.2
    have K13 : Keeps [gc, mb, mc] w w13 := (K11.mono (S' := [gc, mb, mc]) (by simp)).trans k13 (by have := HO.out; simp; omega)
    have HP : Hid (W11.heap.size ≤ xb ∧ W11.heap.size ≤ tb ∧ W11.heap.size ≤ sb ∧ W11.heap.size ≤ hb ∧ gc < W11.heap.size ∧ g4 < W11.heap.size ∧ g5 < W11.heap.size ∧ w.heap.size ≤ W11.heap.size ∧ nb < W11.heap.size) := Lib.hid ⟨x1, x2, x3, x4, dC.lt, e11.lt, e511.lt, K11.size, oB11.lt.1⟩
    have H1 : Hid ((w.heap.size ≤ ob ∧ w.heap.size ≤ nb ∧ w.heap.size ≤ lb ∧ w.heap.size ≤ pb ∧ w.heap.size ≤ xb ∧ w.heap.size ≤ tb ∧ w.heap.size ≤ sb ∧ w.heap.size ≤ hb) ∧ nb ≠ ob ∧ nb ≠ xb ∧ nb ≠ tb ∧ nb ≠ sb ∧ nb ≠ hb) := Lib.hid (by have := HO.out; have := HP.out; omega)
    have HOF : ∀ (u v : World) (X : List Nat), OpenB u ob nb lb pb xb tb sb hb (8 + t * S + h) T S N C R F K → Keeps X u v → (∀ j ∈ X, j = gc ∨ j = g4 ∨ j = g5) → OpenB v ob nb lb pb xb tb sb hb (8 + t * S + h) T S N C R F K := by
      intro u v X h1 k h2
      have h3 : ∀ j, j ≠ gc → j ≠ g4 → j ≠ g5 → j ∉ X := fun j a b c hj => by rcases h2 j hj with r | r | r <;> contradiction
      have := HO.out
      have := HP.out
      exact h1.keeps k (h3 _ (by omega) (by omega) (by omega)) (h3 _ (by omega) (by omega) (by omega)) (h3 _ (by omega) (by omega) (by omega)) (h3 _ (by omega) (by omega) (by omega)) (h3 _ (by omega) (by omega) (by omega)) (h3 _ (by omega) (by omega) (by omega)) (h3 _ (by omega) (by omega) (by omega)) (h3 _ (by omega) (by omega) (by omega))
    have HOF := Lib.hid HOF
    clear x1 x2 x3 x4 hm11 dC e11 e511 K11 oA11 oB11 k13 f10 fgf fgl
    have f10 : w13.cell? ⟨gc, 10, none⟩ = some (.iface 109 (.agg #[.pointer (some ⟨ob, 0, none⟩), .int .i64 h])) := by rw [dD.cell, List.getElem?_set_self (by rw [stp0_len]; have := Hl.out; omega)]
    obtain ⟨u0, u1, u2, uf, ul⟩ := e5D.o3
    have kE := (Keeps.refl [g5] w13).setCell ⟨g5, 2, none⟩ (.bool false) (.inl (by simp))
    have e5E := e5D.set 2 (.bool false)
    simp only [List.set_cons_zero, List.set_cons_succ] at e5E
    go_upto_region 16 with fail
    obtain ⟨W14, hW14⟩ : ∃ W14, w13.setCell ⟨g5, 2, none⟩ (.bool false) = W14 := ⟨_, rfl⟩
    rw [hW14] at kE e5E ⊢
    have dE := kE.blk dD (by have := HN.out; simp; omega)
    have eE := kE.blk eD (by have := HN.out; simp; omega)
    have oE := HOF.out _ _ _ oP kE (by simp)
    have hmE := hm13.keeps kE (by have := HN.out; have := Hml.out; simp; omega) (by have := HN.out; have := Hml.out; simp; omega)
    have K14 : Keeps [gc, mb, mc] w W14 := K13.trans kE (by have := HN.out; simp; omega)
    clear hW14 dD eD oP hm13 K13 kE u0 u1 u2 uf ul e5D f10
    have f10 : W14.cell? ⟨gc, 10, none⟩ = some (.iface 109 (.agg #[.pointer (some ⟨ob, 0, none⟩), .int .i64 h])) := by rw [dE.cell, List.getElem?_set_self (by rw [stp0_len]; have := Hl.out; omega)]
    go_wp2_with fail
    refine (op1_marks (wo := w) ⟨nb, lb, pb, xb, tb, sb, hb, oE, H1.out.1, H1.out.2⟩).mono ?_
    rintro q w15 ⟨rfl, rfl⟩
    obtain ⟨u0, u1, u2, uf, ul⟩ := e5E.o3
    have kF := (Keeps.refl [g5] W14).setCell ⟨g5, 1, none⟩ (.bool false) (.inl (by simp))
    have e5F := e5E.set 1 (.bool false)
    simp only [List.set_cons_zero, List.set_cons_succ] at e5F
    go_upto_region 17 with fail
    obtain ⟨W15, hW15⟩ : ∃ W15, W14.setCell ⟨g5, 1, none⟩ (.bool false) = W15 := ⟨_, rfl⟩
    rw [hW15] at kF e5F ⊢
    have dF := kF.blk dE (by have := HN.out; simp; omega)
    have eF := kF.blk eE (by have := HN.out; simp; omega)
    have oF := HOF.out _ _ _ oE kF (by simp)
    have hmF := hmE.keeps kF (by have := HN.out; have := Hml.out; simp; omega) (by have := HN.out; have := Hml.out; simp; omega)
    have K15 : Keeps [gc, mb, mc] w W15 := K14.trans kF (by have := HN.out; simp; omega)
    clear hW15 dE eE oE hmE K14 kF u0 u1 u2 uf ul e5E f10
    have f10 : W15.cell? ⟨gc, 10, none⟩ = some (.iface 109 (.agg #[.pointer (some ⟨ob, 0, none⟩), .int .i64 h])) := by rw [dF.cell, List.getElem?_set_self (by rw [stp0_len]; have := Hl.out; omega)]
    go_wp2_with fail
    refine (early_any ob h _).mono ?_
    rintro q w16 ⟨rfl, k16⟩
    have dG := k16.blk dF (by simp)
    have eG := k16.blk eF (by simp)
    have e5G := k16.blk e5F (by simp)
    have oG := HOF.out _ _ _ oF k16 (by simp)
    have hmG := hmF.keeps k16 (by simp) (by simp)
    have K16 : Keeps [gc, mb, mc] w w16 := K15.trans k16 (by simp)
    have HL2 : Hid (16 ≤ ((stp0 cs ix).set 10 (.iface 109 (.agg #[.pointer (some ⟨ob, 0, none⟩), .int .i64 h]))).length) := Lib.hid (by rw [List.length_set, stp0_len]; exact Hl.out)
    clear dF eF e5F oF hmF K15 k16 f10
    obtain ⟨csG, hcsG⟩ : ∃ csG, (stp0 cs ix).set 10 (.iface 109 (.agg #[.pointer (some ⟨ob, 0, none⟩), .int .i64 h])) = csG := ⟨_, rfl⟩
    have HG := Lib.hid hcsG
    rw [hcsG] at dG HL2
    clear hcsG
    have hl2 := HL2.out
    obtain ⟨v11, hv11⟩ : ∃ v, csG[11]? = some v := ⟨csG[11], by simp⟩
    obtain ⟨v12, hv12⟩ : ∃ v, csG[12]? = some v := ⟨csG[12], by simp⟩
    obtain ⟨v13, hv13⟩ : ∃ v, csG[13]? = some v := ⟨csG[13], by simp⟩
    obtain ⟨v14, hv14⟩ : ∃ v, csG[14]? = some v := ⟨csG[14], by simp⟩
    clear hl2
    have f11 := (dG.cell 11).trans hv11
    have f12 := (dG.cell 12).trans hv12
    have f13 := (dG.cell 13).trans hv13
    have f14 := (dG.cell 14).trans hv14
    have dGf := dG.frozen
    have dGl := dG.lt
    have kH := ((((Keeps.refl [gc] w16).setCell ⟨gc, 11, none⟩ (.int .i64 0) (.inl (by simp))).setCell ⟨gc, 12, none⟩ (.int .u64 0) (.inl (by simp))).setCell ⟨gc, 13, none⟩ (.string ⟨#[]⟩) (.inl (by simp))).setCell ⟨gc, 14, none⟩ (.string ⟨#[]⟩) (.inl (by simp))
    have dH := (((dG.set 11 (.int .i64 0)).set 12 (.int .u64 0)).set 13 (.string ⟨#[]⟩)).set 14 (.string ⟨#[]⟩)
    go_upto_region 18 with fail
    obtain ⟨W17, hW17⟩ : ∃ W17, ((((w16.setCell ⟨gc, 11, none⟩ (.int .i64 0)).setCell ⟨gc, 12, none⟩ (.int .u64 0)).setCell ⟨gc, 13, none⟩ (.string ⟨#[]⟩)).setCell ⟨gc, 14, none⟩ (.string ⟨#[]⟩)) = W17 := ⟨_, rfl⟩
    rw [hW17] at kH dH ⊢
    change Blk W17 gc (ans csG 0 0) at dH
    have eH := kH.blk eG (by have := HN.out; simp; omega)
    have e5H := kH.blk e5G (by have := HN.out; simp; omega)
    have oH := HOF.out _ _ _ oG kH (by simp)
    have hmH := hmG.keeps kH (by have := HM.out; simp; omega) (by have := HM.out; simp; omega)
    have K17 : Keeps [gc, mb, mc] w W17 := K16.trans kH (by simp)
    clear hW17 f11 f12 f13 f14 hv11 hv12 hv13 hv14 dGf dGl dG eG e5G oG hmG K16 kH
    obtain ⟨u0, u1, u2, uf, ul⟩ := e5H.o3
    obtain ⟨y0, y1, y2, yf, yl⟩ := eH.o3
    have kD := (((Keeps.refl [g4] W17).setCell ⟨g4, 0, none⟩ (.bool true) (.inl (by simp))).setCell ⟨g4, 1, none⟩ (.bool false) (.inl (by simp))).setCell ⟨g4, 2, none⟩ (.bool false) (.inl (by simp))
    have eI := ((eH.set 0 (.bool true)).set 1 (.bool false)).set 2 (.bool false)
    simp only [List.set_cons_zero, List.set_cons_succ] at eI
    go_wp2_with fail
    refine bodyPost_ret (results_blk (cs := [.bool true, .bool false, .bool false]) rfl _ _ g4 _ rfl eI Tryz.underlying49 sizEv) rfl ?_
    exact ⟨rfl, K17.trans kD (by have := HN.out; simp; omega), ob, by rw [HG.out]; exact kD.blk dH (by have := HN.out; simp; omega), ⟨nb, lb, pb, xb, tb, sb, hb, HOF.out _ _ _ oH kD (by simp), H1.out.1, H1.out.2⟩, hmH.keeps kD (by have := HN.out; have := Hml.out; simp; omega) (by have := HN.out; have := Hml.out; simp; omega)⟩
end Go.Proofs.YtjmhnlbkfbieaaaGreat
