/- client: Step at an OpRelease of an open snapshot (written by gen_trs.py). -/
import Derived.Test.YtjmhnlbkfbieaaaGreatTrf
namespace Go.Proofs.YtjmhnlbkfbieaaaGreat
open Go.RowKit
set_option linter.unusedSectionVars false
set_option linter.unusedVariables false
set_option linter.unusedSimpArgs false
set_option maxRecDepth 100000
set_option maxHeartbeats 4000000
theorem stp0_pre (pre sc : List Value) (ix : Nat) (hp : pre.length = 16) : stp0 (pre ++ sc) ix = stp0 pre ix ++ sc := by
  unfold stp0
  rw [List.set_append_left _ _ (by omega), List.set_append_left _ _ (by simp; omega), List.set_append_left _ _ (by simp; omega), List.set_append_left _ _ (by simp; omega), List.set_append_left _ _ (by simp; omega)]
theorem ans_pre (pre sc : List Value) (e t : Int) (hp : pre.length = 16) : ans (pre ++ sc) e t = ans pre e t ++ sc := by
  unfold ans
  rw [List.set_append_left _ _ (by omega), List.set_append_left _ _ (by simp; omega), List.set_append_left _ _ (by simp; omega), List.set_append_left _ _ (by simp; omega)]
theorem set10_pre (pre sc : List Value) (v : Value) (hp : pre.length = 16) : (pre ++ sc).set 10 v = pre.set 10 v ++ sc := List.set_append_left _ _ (by omega)
theorem step_rel (w : World) (gc gp gs s n cap ix h r : Nat) (pre cs sn : List Value) (A : Option Addr) (m c : Nat) (T S N C R F K : Int) (hc : CfgOK T S N C R F K) (t tm : Int) (ht : 0 ≤ t ∧ t < T) (mb mc : Nat) (L : List C3) (na : Int) (hm : MemAt w mb mc L na) (hna : 0 ≤ na ∧ na ≤ 4611686018427387904) (hmg : mb ≠ gc ∧ mc ≠ gc) (hcs : cs = pre ++ scO r h) (hp : pre.length = 16) (hr : r < 8) (b1 : Blk w gc cs) (b2 : Blk w gs sn) (hgs : gs ≠ gc ∧ gs ≠ mb ∧ gs ≠ mc) (hl : 16 ≤ cs.length) (hs : (s : Int) = S ∧ h < s)
    (hL : cs[0]? = some (.int .i64 T) ∧ cs[1]? = some (.int .i64 S) ∧ cs[2]? = some (.int .i64 N) ∧ cs[3]? = some (.int .i64 C) ∧ cs[4]? = some (.int .i64 R) ∧ cs[5]? = some (.int .i64 F) ∧ cs[6]? = some (.int .u64 K)) (h7 : cs[7]? = some (.int .i64 t)) (h15 : cs[15]? = some (.slice (some ⟨gs, 0, none⟩) s s)) (h2 : sn[h * 2]? = some (.bool true)) (h3 : sn[h * 2 + 1]? = some (.int .u64 tm))
    (h8 : cs[8]? = some (.slice (some ⟨gp, 0, none⟩) n cap)) (h9 : cs[9]? = some (.int .i64 (ix : Int))) (h10 : cs[10]? = some .nilIface) (hix : ix < n) (hn : n ≤ 4096) (hgp : gp ≠ gc)
    (hop : w.cell? ⟨gp, ix * 7, none⟩ = some (.int .i64 5) ∧ w.cell? ⟨gp, ix * 7 + 1, none⟩ = some (.string ⟨#[]⟩) ∧ w.cell? ⟨gp, ix * 7 + 2, none⟩ = some (.int .u64 0) ∧ w.cell? ⟨gp, ix * 7 + 3, none⟩ = some (.slice A m c) ∧ w.cell? ⟨gp, ix * 7 + 4, none⟩ = some (.int .i64 h) ∧ w.cell? ⟨gp, ix * 7 + 5, none⟩ = some (.int .i64 0) ∧ w.cell? ⟨gp, ix * 7 + 6, none⟩ = some (.int .i64 0)) :
    Calls Tryz.prog 14 #[.pointer (some ⟨gc, 0, none⟩), .pointer (some ⟨mb, 0, none⟩)] w fun q w' => q = .returned (.agg #[.bool true, .bool true, .bool true]) ∧ Keeps [gc, gs, mb, mc] w w' ∧ ∃ X, Blk w' gc ((ans ((stp0 pre ix).set 10 X) 0 tm).set 10 .nilIface ++ sc0) ∧ Blk w' gs ((sn.set (h * 2) (.bool false)).set (h * 2 + 1) (.int .u64 0)) ∧ MemAt w' mb mc (memSet L (8 + t * S + h) ⟨0, ⟨#[]⟩, 0⟩) (na + 1) := by
  have HLL := Lib.hid (And.intro hL (And.intro h7 (And.intro h15 (And.intro h2 h3))))
  have HM := Lib.hid (And.intro hm (And.intro hna hmg))
  have HS := Lib.hid (And.intro hs (And.intro ht (And.intro hc hgs)))
  have Hl := Lib.hid hl
  have B2 := Lib.hid b2
  have HP := Lib.hid (And.intro hcs (And.intro hp hr))
  clear hL h7 h15 h2 h3 hm hna hmg hs ht hc hgs hl b2 hcs hp hr
  have k0 := ((Keeps.refl [] w).alloc (.cells #[.bool false, .bool false, .bool false] 49)).alloc (.cells #[.bool false, .bool false, .bool false] 49)
  go_enter Tryz.func14, Tryz.ntmps14
  go_upto_region 2 with fail
  obtain ⟨W, hW⟩ : ∃ W, (w.alloc (.cells #[.bool false, .bool false, .bool false] 49)).alloc (.cells #[.bool false, .bool false, .bool false] 49) = W := ⟨_, rfl⟩
  have be4 := (Blk.new w [.bool false, .bool false, .bool false] 49).alloc (.cells #[.bool false, .bool false, .bool false] 49)
  have be5 := Blk.new_at (w.alloc (.cells #[.bool false, .bool false, .bool false] 49)) (w.heap.size + 1) [.bool false, .bool false, .bool false] 49 (by simp)
  change Blk ((w.alloc (.cells #[.bool false, .bool false, .bool false] 49)).alloc (.cells #[.bool false, .bool false, .bool false] 49)) _ _ at be4 be5
  obtain ⟨g4, hg4⟩ : ∃ g4, w.heap.size = g4 := ⟨_, rfl⟩
  obtain ⟨g5, hg5⟩ : ∃ g5, w.heap.size + 1 = g5 := ⟨_, rfl⟩
  have Hlt : Hid (gc < g4 ∧ g4 = w.heap.size ∧ g5 = w.heap.size + 1) := Lib.hid ⟨by rw [← hg4]; exact b1.lt, hg4.symm, hg5.symm⟩
  rw [hW] at k0 be4 be5 ⊢
  rw [hg5] at be5 ⊢
  rw [hg4] at be4 ⊢
  have c1 := k0.blk b1 (by simp)
  have HW : Hid (g4 < W.heap.size ∧ g5 < W.heap.size) := Lib.hid ⟨be4.lt, be5.lt⟩
  have f8 := (c1.cell 8).trans h8
  have f9 := (c1.cell 9).trans h9
  have f10 := (c1.cell 10).trans h10
  have ff := c1.frozen
  have fl := c1.lt
  obtain ⟨o0, o1, o2, o3, o4, o5, o6⟩ := hop
  have q0 := k0.cellEq o0 (by simp)
  have q1 := k0.cellEq o1 (by simp)
  have q2 := k0.cellEq o2 (by simp)
  have q3 := k0.cellEq o3 (by simp)
  have q4 := k0.cellEq o4 (by simp)
  have q5 := k0.cellEq o5 (by simp)
  have q6 := k0.cellEq o6 (by simp)
  clear hW hg5 hg4 o0 o1 o2 o3 o4 o5 o6
  have hne1 : ¬ ((ix : Int) = (n : Int)) := by omega
  have hltI : (ix : Int) < (n : Int) := by omega
  go_wp2_with fail
  go_quiet (fail)
  go_upto_region 5 with fail
  have hbe : ((ix : Int) == (n : Int)) = false := by simp; omega
  rw [hbe]
  clear hbe
  go_cut [6] from 26 to 35 (fun s6 wx => ∃ g6 : Nat, s6 = .pointer (some ⟨g6, 0, none⟩) ∧ Blk wx g6 [.int .i64 5, .string ⟨#[]⟩, .int .u64 0, .slice A m c, .int .i64 h, .int .i64 0, .int .i64 0] ∧ W.heap.size ≤ g6 ∧ Keeps [] W wx)
  case first =>
    have ixI : (0 : Int) ≤ (ix : Int) := by omega
    have bn := Blk.new (W.drewN (nq + 1)) [.int .i64 0, .string ⟨#[]⟩, .int .u64 0, .slice none 0 0, .int .i64 0, .int .i64 0, .int .i64 0] 25
    change Blk ((W.drewN (nq + 1)).alloc (.cells #[.int .i64 0, .string ⟨#[]⟩, .int .u64 0, .slice none 0 0, .int .i64 0, .int .i64 0, .int .i64 0] 25)) W.heap.size _ at bn
    obtain ⟨n0, n1, n2, n3, n4, n5, n6, nf, nl⟩ := bn.o7
    have gpl : gp < W.heap.size := World.block_lt_of_cell? (w := W) (a := ⟨gp, ix * 7, none⟩) q0
    have kst := ((((((((Keeps.refl [W.heap.size] ((W.drewN (nq + 1)).alloc (.cells #[.int .i64 0, .string ⟨#[]⟩, .int .u64 0, .slice none 0 0, .int .i64 0, .int .i64 0, .int .i64 0] 25))).setCell ⟨W.heap.size, 0, none⟩ (.int .i64 5) (.inl (by simp))).setCell ⟨W.heap.size, 1, none⟩ (.string ⟨#[]⟩) (.inl (by simp))).setCell ⟨W.heap.size, 2, none⟩ (.int .u64 0) (.inl (by simp))).setCell ⟨W.heap.size, 3, none⟩ (.slice A m c) (.inl (by simp))).setCell ⟨W.heap.size, 4, none⟩ (.int .i64 h) (.inl (by simp))).setCell ⟨W.heap.size, 5, none⟩ (.int .i64 0) (.inl (by simp))).setCell ⟨W.heap.size, 6, none⟩ (.int .i64 0) (.inl (by simp)))
    have hg1 : gc ∉ [W.heap.size] := by simp; omega
    have hg2 : gp ∉ [W.heap.size] := by simp; omega
    have f8e := kst.cellEq (Lib.cell?_alloc_some (W := W.drewN (nq + 1)) (.cells #[.int .i64 0, .string ⟨#[]⟩, .int .u64 0, .slice none 0 0, .int .i64 0, .int .i64 0, .int .i64 0] 25) f8) hg1
    have f9e := kst.cellEq (Lib.cell?_alloc_some (W := W.drewN (nq + 1)) (.cells #[.int .i64 0, .string ⟨#[]⟩, .int .u64 0, .slice none 0 0, .int .i64 0, .int .i64 0, .int .i64 0] 25) f9) hg1
    have q0e := kst.cellEq (Lib.cell?_alloc_some (W := W.drewN (nq + 1)) (.cells #[.int .i64 0, .string ⟨#[]⟩, .int .u64 0, .slice none 0 0, .int .i64 0, .int .i64 0, .int .i64 0] 25) q0) hg2
    have q1e := kst.cellEq (Lib.cell?_alloc_some (W := W.drewN (nq + 1)) (.cells #[.int .i64 0, .string ⟨#[]⟩, .int .u64 0, .slice none 0 0, .int .i64 0, .int .i64 0, .int .i64 0] 25) q1) hg2
    have q2e := kst.cellEq (Lib.cell?_alloc_some (W := W.drewN (nq + 1)) (.cells #[.int .i64 0, .string ⟨#[]⟩, .int .u64 0, .slice none 0 0, .int .i64 0, .int .i64 0, .int .i64 0] 25) q2) hg2
    have q3e := kst.cellEq (Lib.cell?_alloc_some (W := W.drewN (nq + 1)) (.cells #[.int .i64 0, .string ⟨#[]⟩, .int .u64 0, .slice none 0 0, .int .i64 0, .int .i64 0, .int .i64 0] 25) q3) hg2
    have q4e := kst.cellEq (Lib.cell?_alloc_some (W := W.drewN (nq + 1)) (.cells #[.int .i64 0, .string ⟨#[]⟩, .int .u64 0, .slice none 0 0, .int .i64 0, .int .i64 0, .int .i64 0] 25) q4) hg2
    have q5e := kst.cellEq (Lib.cell?_alloc_some (W := W.drewN (nq + 1)) (.cells #[.int .i64 0, .string ⟨#[]⟩, .int .u64 0, .slice none 0 0, .int .i64 0, .int .i64 0, .int .i64 0] 25) q5) hg2
    have q6e := kst.cellEq (Lib.cell?_alloc_some (W := W.drewN (nq + 1)) (.cells #[.int .i64 0, .string ⟨#[]⟩, .int .u64 0, .slice none 0 0, .int .i64 0, .int .i64 0, .int .i64 0] 25) q6) hg2
    go_region_held3 (fun w' => w'.cell? ⟨gc, 8, none⟩ = some (.slice (some ⟨gp, 0, none⟩) n cap) ∧ w'.cell? ⟨gc, 9, none⟩ = some (.int .i64 (ix : Int)) ∧ w'.cell? ⟨gp, ix * 7, none⟩ = some (.int .i64 5) ∧ w'.cell? ⟨gp, ix * 7 + 1, none⟩ = some (.string ⟨#[]⟩) ∧ w'.cell? ⟨gp, ix * 7 + 2, none⟩ = some (.int .u64 0) ∧ w'.cell? ⟨gp, ix * 7 + 3, none⟩ = some (.slice A m c) ∧ w'.cell? ⟨gp, ix * 7 + 4, none⟩ = some (.int .i64 h) ∧ w'.cell? ⟨gp, ix * 7 + 5, none⟩ = some (.int .i64 0) ∧ w'.cell? ⟨gp, ix * 7 + 6, none⟩ = some (.int .i64 0))
      (first | (with_reducible exact ⟨f8, f9, q0, q1, q2, q3, q4, q5, q6⟩) | (with_reducible exact ⟨f8e, f9e, q0e, q1e, q2e, q3e, q4e, q5e, q6e⟩) | go_keep)
      (fail)
    all_goals
      go_wp2_with fail
      go_meet
      first
        | exact ⟨W.heap.size, rfl, by have := (((((((bn.set 0 (.int .i64 5)).set 1 (.string ⟨#[]⟩)).set 2 (.int .u64 0)).set 3 (.slice A m c)).set 4 (.int .i64 h)).set 5 (.int .i64 0)).set 6 (.int .i64 0)); simp only [List.set_cons_zero, List.set_cons_succ] at this; exact this, Nat.le_refl _, (((Keeps.refl [] W).drewN _).alloc _).trans kst (by simp)⟩
        | exact ⟨W.heap.size, rfl, Blk.new (W.drewN (nq + 1)) [.int .i64 5, .string ⟨#[]⟩, .int .u64 0, .slice A m c, .int .i64 h, .int .i64 0, .int .i64 0] 25, Nat.le_refl _, ((Keeps.refl [] W).drewN _).alloc _⟩
        | exact ⟨W.heap.size, rfl, Blk.new (W.drewN _) [.int .i64 5, .string ⟨#[]⟩, .int .u64 0, .slice A m c, .int .i64 h, .int .i64 0, .int .i64 0] 25, Nat.le_refl _, ((Keeps.refl [] W).drewN _).alloc _⟩
  case rest =>
    obtain ⟨g6, rfl, b6, hg6, k6⟩ := hcut
    have d1 := k6.blk c1 (by simp)
    have e4 := k6.blk be4 (by simp)
    have e5 := k6.blk be5 (by simp)
    have K6 := k0.trans k6 (by simp)
    have f9c := (d1.cell 9).trans h9
    have dfc := d1.frozen
    have dlc := d1.lt
    obtain ⟨u0, u1, u2, uf, ul⟩ := e5.o3
    clear f8 f9 f10 ff fl q0 q1 q2 q3 q4 q5 q6 c1 be4 be5 k0 k6
    have hwr : wrap64 ((ix : Int) + 1) = (ix : Int) + 1 := IntWalk.wrap64_in _ ⟨by omega, by omega⟩
    go_upto_region 8 with fail
    have HN : Hid (gc ≠ g4 ∧ gc ≠ g5 ∧ gc ≠ g6 ∧ g4 ≠ g5 ∧ g4 ≠ g6 ∧ g5 ≠ g6 ∧ w.heap.size ≤ g4 ∧ w.heap.size ≤ g5 ∧ w.heap.size ≤ g6) := Lib.hid (by have := Hlt.out; have := HW.out; omega)
    have kA := ((Keeps.refl [gc, g5] wc).setCell ⟨gc, 9, none⟩ (.int .i64 ((ix : Int) + 1)) (.inl (by simp))).setCell ⟨g5, 0, none⟩ (.bool true) (.inl (by simp))
    have dA := (d1.set 9 (.int .i64 ((ix : Int) + 1))).other ⟨g5, 0, none⟩ (.bool true) HN.out.2.1
    have eA := kA.blk e4 (by have := HN.out; simp; omega)
    have e5A := (e5.other ⟨gc, 9, none⟩ (.int .i64 ((ix : Int) + 1)) (by have := HN.out; simp; omega)).set 0 (.bool true)
    have b6A := kA.blk b6 (by have := HN.out; simp; omega)
    obtain ⟨W8, hW8⟩ : ∃ W8, (wc.setCell ⟨gc, 9, none⟩ (.int .i64 ((ix : Int) + 1))).setCell ⟨g5, 0, none⟩ (.bool true) = W8 := ⟨_, rfl⟩
    rw [hW8] at kA dA eA e5A b6A ⊢
    have K8 : Keeps [gc] w W8 := (K6.mono (S' := [gc]) (by simp)).trans kA (by have := HN.out; simp; omega)
    clear hW8 d1 e4 e5 b6 f9c dfc dlc u0 u1 u2 uf ul hwr kA K6
    simp only [List.set_cons_zero] at e5A
    have hl2 := Hl.out
    obtain ⟨v11, hv11⟩ : ∃ v, cs[11]? = some v := ⟨cs[11], by simp⟩
    obtain ⟨v12, hv12⟩ : ∃ v, cs[12]? = some v := ⟨cs[12], by simp⟩
    obtain ⟨v13, hv13⟩ : ∃ v, cs[13]? = some v := ⟨cs[13], by simp⟩
    obtain ⟨v14, hv14⟩ : ∃ v, cs[14]? = some v := ⟨cs[14], by simp⟩
    have f11 := (dA.cell 11).trans ((List.getElem?_set_ne (by omega)).trans hv11)
    have f12 := (dA.cell 12).trans ((List.getElem?_set_ne (by omega)).trans hv12)
    have f13 := (dA.cell 13).trans ((List.getElem?_set_ne (by omega)).trans hv13)
    have f14 := (dA.cell 14).trans ((List.getElem?_set_ne (by omega)).trans hv14)
    have dAf := dA.frozen
    have dAl := dA.lt
    have kB := ((((Keeps.refl [gc] W8).setCell ⟨gc, 11, none⟩ (.int .i64 0) (.inl (by simp))).setCell ⟨gc, 12, none⟩ (.int .u64 0) (.inl (by simp))).setCell ⟨gc, 13, none⟩ (.string ⟨#[]⟩) (.inl (by simp))).setCell ⟨gc, 14, none⟩ (.string ⟨#[]⟩) (.inl (by simp))
    have dB := (((dA.set 11 (.int .i64 0)).set 12 (.int .u64 0)).set 13 (.string ⟨#[]⟩)).set 14 (.string ⟨#[]⟩)
    clear hl2
    go_upto_region 9 with fail
    obtain ⟨W9, hW9⟩ : ∃ W9, ((((W8.setCell ⟨gc, 11, none⟩ (.int .i64 0)).setCell ⟨gc, 12, none⟩ (.int .u64 0)).setCell ⟨gc, 13, none⟩ (.string ⟨#[]⟩)).setCell ⟨gc, 14, none⟩ (.string ⟨#[]⟩)) = W9 := ⟨_, rfl⟩
    rw [hW9] at kB dB ⊢
    clear hW9 f11 f12 f13 f14 hv11 hv12 hv13 hv14 dAf dAl
    have eB := kB.blk eA (by have := HN.out; simp; omega)
    have e5B := kB.blk e5A (by have := HN.out; simp; omega)
    have b6B := kB.blk b6A (by have := HN.out; simp; omega)
    have K9 : Keeps [gc] w W9 := K8.trans kB (by simp)
    change Blk W9 gc (stp0 cs ix) at dB
    clear eA e5A b6A dA kB K8
    obtain ⟨p0, p1, p2, p3, p4, p5, p6, pf, pl⟩ := b6B.o7
    obtain ⟨⟨z0, z1, z2, z3, z4, z5, z6⟩, z7, z15, zs, zt⟩ := HLL.out
    obtain ⟨⟨hs1, hs2⟩, ⟨ht1, ht2⟩, hcc, hgs⟩ := HS.out
    have hb2 : Blk W9 gs sn := K9.blk B2.out (by simp; exact hgs.1)
    have hs := start_rel W9 gc gs s h (stp0 cs ix) sn A m c T S N C R F K t dB hb2 hs1 hs2
      ⟨by rw [stp0_get _ _ _ (by omega) (by omega) (by omega) (by omega) (by omega)]; exact z0, by rw [stp0_get _ _ _ (by omega) (by omega) (by omega) (by omega) (by omega)]; exact z1, by rw [stp0_get _ _ _ (by omega) (by omega) (by omega) (by omega) (by omega)]; exact z2, by rw [stp0_get _ _ _ (by omega) (by omega) (by omega) (by omega) (by omega)]; exact z3, by rw [stp0_get _ _ _ (by omega) (by omega) (by omega) (by omega) (by omega)]; exact z4, by rw [stp0_get _ _ _ (by omega) (by omega) (by omega) (by omega) (by omega)]; exact z5, by rw [stp0_get _ _ _ (by omega) (by omega) (by omega) (by omega) (by omega)]; exact z6⟩
      (by rw [stp0_get _ _ _ (by omega) (by omega) (by omega) (by omega) (by omega)]; exact z7) (by rw [stp0_get _ _ _ (by omega) (by omega) (by omega) (by omega) (by omega)]; exact z15) zs
    clear z0 z1 z2 z3 z4 z5 z6 z7 z15 zs zt hs1 hs2 ht1 ht2 hcc hgs hb2
    go_wp2_with fail
    refine hs.mono ?_
    rintro q w3 ⟨rl, rb, lb, tb, jb, rfl, oR, oG, oC, oD, oE, k3⟩
    have e3 := k3.blk eB (by simp)
    have e53 := k3.blk e5B (by simp)
    have d3 := k3.blk dB (by simp)
    have K3 : Keeps [gc] w w3 := K9.trans k3 (by simp)
    have HO : Hid ((W9.heap.size ≤ rl ∧ W9.heap.size ≤ rb ∧ W9.heap.size ≤ lb ∧ W9.heap.size ≤ tb ∧ W9.heap.size ≤ jb) ∧ g4 < W9.heap.size ∧ g5 < W9.heap.size ∧ gc < W9.heap.size ∧ w.heap.size ≤ W9.heap.size ∧ (rb ≠ lb ∧ rb ≠ tb ∧ rb ≠ jb) ∧ (rl ≠ rb ∧ rl ≠ lb ∧ rl ≠ tb ∧ rl ≠ jb)) := Lib.hid ⟨oC, eB.lt, e5B.lt, dB.lt, K9.size, oD, oE⟩
    clear oC oD oE
    have ka := (Keeps.refl [] w3).alloc (.cells #[.int .i64 0, .int .u64 0, .string ⟨#[]⟩, .string ⟨#[]⟩] 52)
    clear p0 p1 p2 p3 p4 p5 p6 pf pl hs eB e5B b6B dB k3
    have f10 : w3.cell? ⟨gc, 10, none⟩ = some .nilIface := by rw [d3.cell, stp0_get _ _ _ (by omega) (by omega) (by omega) (by omega) (by omega)]; exact h10
    have fgf := d3.frozen
    have fgl := d3.lt
    go_upto_region 13 with fail
    obtain ⟨W10, hW10⟩ : ∃ W10, w3.alloc (.cells #[.int .i64 0, .int .u64 0, .string ⟨#[]⟩, .string ⟨#[]⟩] 52) = W10 := ⟨_, rfl⟩
    obtain ⟨g8, hg8⟩ : ∃ g8, w3.heap.size = g8 := ⟨_, rfl⟩
    rw [hW10] at ka ⊢
    rw [hg8]
    have d10 := ka.blk d3 (by simp)
    have e10 := ka.blk e3 (by simp)
    have e510 := ka.blk e53 (by simp)
    have K10 : Keeps [gc] w W10 := K3.trans ka (by simp)
    have oR10 := ka.blk oR (by simp)
    have oG10 : RegRel W10 rb lb tb jb T S N C R F K t h := ⟨ka.blk oG.self (by simp), ka.blk oG.lay (by simp), ka.blk oG.t (by simp), ka.blk oG.j (by simp)⟩
    rw [HP.out.1, stp0_pre _ _ _ HP.out.2.1] at d10
    obtain ⟨P1, hP1⟩ : ∃ P1, stp0 pre ix = P1 := ⟨_, rfl⟩
    have hP1l : P1.length = 16 := by rw [← hP1, stp0_len]; exact HP.out.2.1
    have hP10 : P1[10]? = some .nilIface := by
      have h9' := h10
      rw [HP.out.1, List.getElem?_append_left (by rw [HP.out.2.1]; omega)] at h9'
      rw [← hP1, stp0_get _ _ _ (by omega) (by omega) (by omega) (by omega) (by omega)]; exact h9'
    have hP15 : P1[15]? = some (.slice (some ⟨gs, 0, none⟩) s s) := by
      have h9' := HLL.out.2.2.1
      rw [HP.out.1, List.getElem?_append_left (by rw [HP.out.2.1]; omega)] at h9'
      rw [← hP1, stp0_get _ _ _ (by omega) (by omega) (by omega) (by omega) (by omega)]; exact h9'
    have HP1 := Lib.hid hP1
    rw [hP1] at d10
    clear hP1 hW10 hg8 d3 e3 e53 K3 ka oR oG f10 fgf fgl h8 h9 h10 hix hn
    have f10 : W10.cell? ⟨gc, 10, none⟩ = some .nilIface := by rw [d10.cell, List.getElem?_append_left (by omega)]; exact hP10
    have fgf := d10.frozen
    have fgl := d10.lt
    have kC := (Keeps.refl [gc] W10).setCell ⟨gc, 10, none⟩ (.iface 110 (.pointer (some ⟨rl, 0, none⟩))) (.inl (by simp))
    have dC := d10.set 10 (.iface 110 (.pointer (some ⟨rl, 0, none⟩)))
    rw [set10_pre _ _ _ hP1l] at dC
    go_upto_region 14 with fail
    obtain ⟨W11, hW11⟩ : ∃ W11, W10.setCell ⟨gc, 10, none⟩ (.iface 110 (.pointer (some ⟨rl, 0, none⟩))) = W11 := ⟨_, rfl⟩
    obtain ⟨P2, hP2⟩ : ∃ P2, P1.set 10 (.iface 110 (.pointer (some ⟨rl, 0, none⟩))) = P2 := ⟨_, rfl⟩
    have hP2l : P2.length = 16 := by rw [← hP2, List.length_set]; exact hP1l
    have hP210 : P2[10]? = some (.iface 110 (.pointer (some ⟨rl, 0, none⟩))) := by rw [← hP2, List.getElem?_set_self (by omega)]
    have hP215 : P2[15]? = some (.slice (some ⟨gs, 0, none⟩) s s) := by rw [← hP2, List.getElem?_set_ne (by omega)]; exact hP15
    have HP2 := Lib.hid hP2
    rw [hW11] at kC dC ⊢
    rw [hP2] at dC
    have e11 := kC.blk e10 (by have := HN.out; simp; omega)
    have e511 := kC.blk e510 (by have := HN.out; simp; omega)
    have K11 : Keeps [gc] w W11 := K10.trans kC (by simp)
    have HOG : Hid (gc ≠ rl ∧ gc ≠ rb ∧ gc ≠ lb ∧ gc ≠ tb ∧ gc ≠ jb ∧ g4 ≠ rl ∧ g4 ≠ rb ∧ g5 ≠ rl ∧ g5 ≠ rb) := Lib.hid (by have := HO.out; omega)
    have oR11 := kC.blk oR10 (by have := HOG.out; simp; omega)
    have oG11 : RegRel W11 rb lb tb jb T S N C R F K t h := ⟨kC.blk oG10.self (by have := HOG.out; simp; omega), kC.blk oG10.lay (by have := HOG.out; simp; omega), kC.blk oG10.t (by have := HOG.out; simp; omega), kC.blk oG10.j (by have := HOG.out; simp; omega)⟩
    clear hW11 hP2 d10 e10 e510 K10 kC f10 fgf fgl oR10 oG10 hP10 hP15 hP1l
    have f10 : W11.cell? ⟨gc, 10, none⟩ = some (.iface 110 (.pointer (some ⟨rl, 0, none⟩))) := by rw [dC.cell, List.getElem?_append_left (by omega)]; exact hP210
    go_wp2_with fail
    refine (rmarks_any _ rl rb 0 h oR11).mono ?_
    rintro q w12 ⟨rfl, rfl⟩
    have hm11 := HM.out.1.keeps K11 (by have := HM.out; simp; omega) (by have := HM.out; simp; omega)
    have Hml : Hid (mb < w.heap.size ∧ mc < w.heap.size ∧ gs < w.heap.size) := Lib.hid ⟨HM.out.1.lt.1, HM.out.1.lt.2, B2.out.lt⟩
    go_wp2_with fail
    refine (rstep_any W11 rl rb lb tb jb mb mc h L na t h T S N C R F K HS.out.2.2.1 oR11 oG11 HS.out.2.1.1 HS.out.2.1.2 (by omega) (by have := HS.out.1; omega) hm11 HM.out.2.1.1 HM.out.2.1.2 (by have := Hml.out; have := HO.out; omega) (by have := Hml.out; have := HO.out; omega)).mono ?_
    rintro q w13 ⟨rfl, oR13, hm13, k13⟩
    have HZ : Hid (gc ∉ [mb, mc, rb, rl] ∧ g4 ∉ [mb, mc, rb, rl] ∧ g5 ∉ [mb, mc, rb, rl] ∧ gs ∉ [mb, mc, rb, rl]) := Lib.hid (by have := HO.out; have := HM.out; have := Hml.out; have := HN.out; have := HOG.out; have := HS.out; simp; omega)
    have hb11 : Blk W11 gs sn := K11.blk B2.out (by have := HS.out; simp; omega)
    have dD := k13.blk dC HZ.out.1
    have eD := k13.blk e11 HZ.out.2.1
    have e5D := k13.blk e511 HZ.out.2.2.1
    have sD := k13.blk hb11 HZ.out.2.2.2
    have K13 : Keeps [gc, gs, mb, mc] w w13 := (K11.mono (S' := [gc, gs, mb, mc]) (by simp)).trans k13 (by have := HO.out; simp; omega)
    have HQ : Hid (g5 ≠ gc ∧ g5 ≠ g4 ∧ g5 ≠ rl ∧ g5 ≠ mb ∧ g5 ≠ mc ∧ g5 ≠ gs ∧ g4 ≠ gc ∧ g4 ≠ rl ∧ g4 ≠ mb ∧ g4 ≠ mc ∧ g4 ≠ gs ∧ gc ≠ rl ∧ gc ≠ gs ∧ gc ≠ mb ∧ gc ≠ mc ∧ gs ≠ mb ∧ gs ≠ mc ∧ gs ≠ rl ∧ rl ≠ gc ∧ w.heap.size ≤ g4 ∧ w.heap.size ≤ g5) := Lib.hid (by have := HO.out; have := HM.out; have := Hml.out; have := HN.out; have := HOG.out; have := HS.out; omega)
    clear hm11 dC e11 e511 K11 oR11 oG11 k13 hb11 f10
    have f10 : w13.cell? ⟨gc, 10, none⟩ = some (.iface 110 (.pointer (some ⟨rl, 0, none⟩))) := by rw [dD.cell, List.getElem?_append_left (by omega)]; exact hP210
    obtain ⟨u0, u1, u2, uf, ul⟩ := e5D.o3
    have kE := (Keeps.refl [g5] w13).setCell ⟨g5, 2, none⟩ (.bool true) (.inl (by simp))
    have e5E := e5D.set 2 (.bool true)
    simp only [List.set_cons_zero, List.set_cons_succ] at e5E
    go_upto_region 16 with fail
    obtain ⟨W14, hW14⟩ : ∃ W14, w13.setCell ⟨g5, 2, none⟩ (.bool true) = W14 := ⟨_, rfl⟩
    rw [hW14] at kE e5E ⊢
    have dE := kE.blk dD (by have := HQ.out; simp; omega)
    have eE := kE.blk eD (by have := HQ.out; simp; omega)
    have sE := kE.blk sD (by have := HQ.out; simp; omega)
    have oE := kE.blk oR13 (by have := HQ.out; simp; omega)
    have hmE := hm13.keeps kE (by have := HQ.out; simp; omega) (by have := HQ.out; simp; omega)
    have K14 : Keeps [gc, gs, mb, mc] w W14 := K13.trans kE (by have := HQ.out; simp; omega)
    clear hW14 dD eD sD oR13 hm13 K13 kE u0 u1 u2 uf ul e5D f10
    have f10 : W14.cell? ⟨gc, 10, none⟩ = some (.iface 110 (.pointer (some ⟨rl, 0, none⟩))) := by rw [dE.cell, List.getElem?_append_left (by omega)]; exact hP210
    go_wp2_with fail
    refine (rmarks_any _ rl rb 1 h oE).mono ?_
    rintro q w15 ⟨rfl, rfl⟩
    obtain ⟨u0, u1, u2, uf, ul⟩ := e5E.o3
    have kF := (Keeps.refl [g5] W14).setCell ⟨g5, 1, none⟩ (.bool true) (.inl (by simp))
    have e5F := e5E.set 1 (.bool true)
    simp only [List.set_cons_zero, List.set_cons_succ] at e5F
    go_upto_region 17 with fail
    obtain ⟨W15, hW15⟩ : ∃ W15, W14.setCell ⟨g5, 1, none⟩ (.bool true) = W15 := ⟨_, rfl⟩
    rw [hW15] at kF e5F ⊢
    have dF := kF.blk dE (by have := HQ.out; simp; omega)
    have eF := kF.blk eE (by have := HQ.out; simp; omega)
    have sF := kF.blk sE (by have := HQ.out; simp; omega)
    have oF := kF.blk oE (by have := HQ.out; simp; omega)
    have hmF := hmE.keeps kF (by have := HQ.out; simp; omega) (by have := HQ.out; simp; omega)
    have K15 : Keeps [gc, gs, mb, mc] w W15 := K14.trans kF (by have := HQ.out; simp; omega)
    clear hW15 dE eE sE oE hmE K14 kF u0 u1 u2 uf ul e5E f10
    have f10 : W15.cell? ⟨gc, 10, none⟩ = some (.iface 110 (.pointer (some ⟨rl, 0, none⟩))) := by rw [dF.cell, List.getElem?_append_left (by omega)]; exact hP210
    go_wp2_with fail
    refine (rearly_any _ rl).mono ?_
    rintro q w16 ⟨rfl, k16⟩
    have dG := k16.blk dF (by simp)
    have eG := k16.blk eF (by simp)
    have e5G := k16.blk e5F (by simp)
    have sG := k16.blk sF (by simp)
    have oG := k16.blk oF (by simp)
    have hmG := hmF.keeps k16 (by simp) (by simp)
    have K16 : Keeps [gc, gs, mb, mc] w w16 := K15.trans k16 (by simp)
    clear dF eF e5F sF oF hmF K15 k16 f10
    obtain ⟨v11, hv11⟩ : ∃ v, P2[11]? = some v := ⟨P2[11], by simp⟩
    obtain ⟨v12, hv12⟩ : ∃ v, P2[12]? = some v := ⟨P2[12], by simp⟩
    obtain ⟨v13, hv13⟩ : ∃ v, P2[13]? = some v := ⟨P2[13], by simp⟩
    obtain ⟨v14, hv14⟩ : ∃ v, P2[14]? = some v := ⟨P2[14], by simp⟩
    have f11 := (dG.cell 11).trans ((List.getElem?_append_left (by omega)).trans hv11)
    have f12 := (dG.cell 12).trans ((List.getElem?_append_left (by omega)).trans hv12)
    have f13 := (dG.cell 13).trans ((List.getElem?_append_left (by omega)).trans hv13)
    have f14 := (dG.cell 14).trans ((List.getElem?_append_left (by omega)).trans hv14)
    have dGf := dG.frozen
    have dGl := dG.lt
    have kH := ((((Keeps.refl [gc] w16).setCell ⟨gc, 11, none⟩ (.int .i64 0) (.inl (by simp))).setCell ⟨gc, 12, none⟩ (.int .u64 0) (.inl (by simp))).setCell ⟨gc, 13, none⟩ (.string ⟨#[]⟩) (.inl (by simp))).setCell ⟨gc, 14, none⟩ (.string ⟨#[]⟩) (.inl (by simp))
    have dH := (((dG.set 11 (.int .i64 0)).set 12 (.int .u64 0)).set 13 (.string ⟨#[]⟩)).set 14 (.string ⟨#[]⟩)
    go_upto_region 18 with fail
    obtain ⟨W17, hW17⟩ : ∃ W17, ((((w16.setCell ⟨gc, 11, none⟩ (.int .i64 0)).setCell ⟨gc, 12, none⟩ (.int .u64 0)).setCell ⟨gc, 13, none⟩ (.string ⟨#[]⟩)).setCell ⟨gc, 14, none⟩ (.string ⟨#[]⟩)) = W17 := ⟨_, rfl⟩
    rw [hW17] at kH dH ⊢
    change Blk W17 gc (ans (P2 ++ scO r h) 0 0) at dH
    rw [ans_pre _ _ _ _ hP2l] at dH
    have eH := kH.blk eG (by have := HQ.out; simp; omega)
    have e5H := kH.blk e5G (by have := HQ.out; simp; omega)
    have sH := kH.blk sG (by have := HQ.out; simp; omega)
    have oH := kH.blk oG (by have := HQ.out; simp; omega)
    have hmH := hmG.keeps kH (by have := HQ.out; simp; omega) (by have := HQ.out; simp; omega)
    have K17 : Keeps [gc, gs, mb, mc] w W17 := K16.trans kH (by simp)
    clear hW17 f11 f12 f13 f14 hv11 hv12 hv13 hv14 dGf dGl dG eG e5G sG oG hmG K16 kH
    obtain ⟨P3, hP3⟩ : ∃ P3, ans P2 0 0 = P3 := ⟨_, rfl⟩
    have hP3l : P3.length = 16 := by rw [← hP3, ans_len]; exact hP2l
    have hP310 : P3[10]? = some (.iface 110 (.pointer (some ⟨rl, 0, none⟩))) := by rw [← hP3, ans_get _ _ _ _ (by omega) (by omega) (by omega) (by omega)]; exact hP210
    have hP315 : P3[15]? = some (.slice (some ⟨gs, 0, none⟩) s s) := by rw [← hP3, ans_get _ _ _ _ (by omega) (by omega) (by omega) (by omega)]; exact hP215
    have HP3 := Lib.hid hP3
    rw [hP3] at dH
    have f10 : W17.cell? ⟨gc, 10, none⟩ = some (.iface 110 (.pointer (some ⟨rl, 0, none⟩))) := by rw [dH.cell, List.getElem?_append_left (by omega)]; exact hP310
    have hq := rfin_any W17 rl rb gc gs s h r 1 sn P3 tm (.bool true) hP3l hP315 oH dH sH HP.out.2.2 HS.out.1.2 HLL.out.2.2.2.1 HLL.out.2.2.2.2 (by have := HQ.out; omega)
    obtain ⟨u0, u1, u2, uf, ul⟩ := e5H.o3
    clear hP3 hP210 hP215 hP2l
    go_wp2_with fail
    refine hq.mono ?_
    rintro q w18 ⟨rfl, s18, d18, k18⟩
    have e18 := k18.blk eH (by have := HQ.out; simp; omega)
    have f18 := k18.blk e5H (by have := HQ.out; simp; omega)
    have hm18 := hmH.keeps k18 (by have := HQ.out; simp; omega) (by have := HQ.out; simp; omega)
    have K18 : Keeps [gc, gs, mb, mc] w w18 := K17.trans k18 (by simp)
    clear hq f10 dH eH e5H sH oH hmH K17 k18 u0 u1 u2 uf ul
    obtain ⟨v11, hv11⟩ : ∃ v, P3[11]? = some v := ⟨P3[11], by simp⟩
    obtain ⟨v12, hv12⟩ : ∃ v, P3[12]? = some v := ⟨P3[12], by simp⟩
    obtain ⟨v13, hv13⟩ : ∃ v, P3[13]? = some v := ⟨P3[13], by simp⟩
    obtain ⟨v14, hv14⟩ : ∃ v, P3[14]? = some v := ⟨P3[14], by simp⟩
    have f11 := (d18.cell 11).trans ((List.getElem?_append_left (by omega)).trans hv11)
    have f12 := (d18.cell 12).trans ((List.getElem?_append_left (by omega)).trans hv12)
    have f13 := (d18.cell 13).trans ((List.getElem?_append_left (by omega)).trans hv13)
    have f14 := (d18.cell 14).trans ((List.getElem?_append_left (by omega)).trans hv14)
    have xf := d18.frozen
    have xl := d18.lt
    have kH := ((((Keeps.refl [gc] w18).setCell ⟨gc, 11, none⟩ (.int .i64 0) (.inl (by simp))).setCell ⟨gc, 12, none⟩ (.int .u64 tm) (.inl (by simp))).setCell ⟨gc, 13, none⟩ (.string ⟨#[]⟩) (.inl (by simp))).setCell ⟨gc, 14, none⟩ (.string ⟨#[]⟩) (.inl (by simp))
    have d19 := (((d18.set 11 (.int .i64 0)).set 12 (.int .u64 tm)).set 13 (.string ⟨#[]⟩)).set 14 (.string ⟨#[]⟩)
    go_upto_region 20 with fail
    obtain ⟨W19, hW19⟩ : ∃ W19, ((((w18.setCell ⟨gc, 11, none⟩ (.int .i64 0)).setCell ⟨gc, 12, none⟩ (.int .u64 tm)).setCell ⟨gc, 13, none⟩ (.string ⟨#[]⟩)).setCell ⟨gc, 14, none⟩ (.string ⟨#[]⟩)) = W19 := ⟨_, rfl⟩
    rw [hW19] at kH d19 ⊢
    change Blk W19 gc (ans (P3 ++ sc0) 0 tm) at d19
    rw [ans_pre _ _ _ _ hP3l, ← HP3.out, ans_ans] at d19
    have e19 := kH.blk e18 (by have := HQ.out; simp; omega)
    have f19 := kH.blk f18 (by have := HQ.out; simp; omega)
    have s19 := kH.blk s18 (by have := HQ.out; simp; omega)
    have hm19 := hm18.keeps kH (by have := HQ.out; simp; omega) (by have := HQ.out; simp; omega)
    have K19 : Keeps [gc, gs, mb, mc] w W19 := K18.trans kH (by simp)
    clear hW19 f11 f12 f13 f14 hv11 hv12 hv13 hv14 xf xl d18 e18 f18 s18 hm18 K18 kH
    obtain ⟨P4, hP4⟩ : ∃ P4, ans P2 0 tm = P4 := ⟨_, rfl⟩
    have hP4l : P4.length = 16 := by
      have h1 := hP3l
      rw [← HP3.out, ans_len] at h1
      rw [← hP4, ans_len]; exact h1
    have hP410 : P4[10]? = some (.iface 110 (.pointer (some ⟨rl, 0, none⟩))) := by
      have h1 := hP310
      rw [← HP3.out, ans_get _ _ _ _ (by omega) (by omega) (by omega) (by omega)] at h1
      rw [← hP4, ans_get _ _ _ _ (by omega) (by omega) (by omega) (by omega)]; exact h1
    have HP4 := Lib.hid hP4
    rw [hP4] at d19
    clear hP4 hP310 hP315 hP3l
    have f10 : W19.cell? ⟨gc, 10, none⟩ = some (.iface 110 (.pointer (some ⟨rl, 0, none⟩))) := by rw [d19.cell, List.getElem?_append_left (by omega)]; exact hP410
    have xf := d19.frozen
    have xl := d19.lt
    have kT := (Keeps.refl [gc] W19).setCell ⟨gc, 10, none⟩ .nilIface (.inl (by simp))
    have d20 := d19.set 10 .nilIface
    rw [set10_pre _ _ _ hP4l] at d20
    go_upto_region 21 with fail
    obtain ⟨W20, hW20⟩ : ∃ W20, W19.setCell ⟨gc, 10, none⟩ .nilIface = W20 := ⟨_, rfl⟩
    rw [hW20] at kT d20 ⊢
    have e20 := kT.blk e19 (by have := HQ.out; simp; omega)
    have f20 := kT.blk f19 (by have := HQ.out; simp; omega)
    have s20 := kT.blk s19 (by have := HQ.out; simp; omega)
    have hm20 := hm19.keeps kT (by have := HQ.out; simp; omega) (by have := HQ.out; simp; omega)
    have K20 : Keeps [gc, gs, mb, mc] w W20 := K19.trans kT (by simp)
    clear hW20 f10 xf xl d19 e19 f19 s19 hm19 K19 kT
    obtain ⟨u0, u1, u2, uf, ul⟩ := f20.o3
    obtain ⟨y0, y1, y2, yf, yl⟩ := e20.o3
    have kD := (((Keeps.refl [g4] W20).setCell ⟨g4, 0, none⟩ (.bool true) (.inl (by simp))).setCell ⟨g4, 1, none⟩ (.bool true) (.inl (by simp))).setCell ⟨g4, 2, none⟩ (.bool true) (.inl (by simp))
    have eI := ((e20.set 0 (.bool true)).set 1 (.bool true)).set 2 (.bool true)
    simp only [List.set_cons_zero, List.set_cons_succ] at eI
    go_wp2_with fail
    refine bodyPost_ret (results_blk (cs := [.bool true, .bool true, .bool true]) rfl _ _ g4 _ rfl eI Tryz.underlying49 sizEv) rfl ?_
    exact ⟨rfl, K20.trans kD (by have := HQ.out; simp; omega), (.iface 110 (.pointer (some ⟨rl, 0, none⟩))), by rw [HP1.out, HP2.out, HP4.out]; exact kD.blk d20 (by have := HQ.out; simp; omega), kD.blk s20 (by have := HQ.out; simp; omega), hm20.keeps kD (by have := HQ.out; simp; omega) (by have := HQ.out; simp; omega)⟩
end Go.Proofs.YtjmhnlbkfbieaaaGreat
