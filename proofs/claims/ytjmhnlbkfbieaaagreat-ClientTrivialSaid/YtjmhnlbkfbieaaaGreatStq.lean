/- client: Step at an operation that is answered at once. -/
import Derived.Test.YtjmhnlbkfbieaaaGreatStp
import Derived.Deep.RegionHeld3
namespace Go.Proofs.YtjmhnlbkfbieaaaGreat
open Go.RowKit
set_option linter.unusedSectionVars false
set_option linter.unusedVariables false
set_option linter.unusedSimpArgs false
set_option maxRecDepth 100000
set_option maxHeartbeats 4000000
/-- The cells of a client whose next operation begins. -/
def stp0 (cs : List Value) (ix : Nat) : List Value := ((((cs.set 9 (.int .i64 ((ix : Int) + 1))).set 11 (.int .i64 0)).set 12 (.int .u64 0)).set 13 (.string ⟨#[]⟩)).set 14 (.string ⟨#[]⟩)
/-- .. and with an answer of an error and a time. -/
def ans (cs : List Value) (e t : Int) : List Value := (((cs.set 11 (.int .i64 e)).set 12 (.int .u64 t)).set 13 (.string ⟨#[]⟩)).set 14 (.string ⟨#[]⟩)
theorem stp0_len (cs : List Value) (ix : Nat) : (stp0 cs ix).length = cs.length := by simp [stp0]
theorem stp0_get (cs : List Value) (ix i : Nat) (h9 : i ≠ 9) (h11 : i ≠ 11) (h12 : i ≠ 12) (h13 : i ≠ 13) (h14 : i ≠ 14) : (stp0 cs ix)[i]? = cs[i]? := by
  simp only [stp0]
  rw [List.getElem?_set_ne (by omega), List.getElem?_set_ne (by omega), List.getElem?_set_ne (by omega), List.getElem?_set_ne (by omega), List.getElem?_set_ne (by omega)]
theorem ans_get (cs : List Value) (e t : Int) (i : Nat) (h11 : i ≠ 11) (h12 : i ≠ 12) (h13 : i ≠ 13) (h14 : i ≠ 14) : (ans cs e t)[i]? = cs[i]? := by
  simp only [ans]
  rw [List.getElem?_set_ne (by omega), List.getElem?_set_ne (by omega), List.getElem?_set_ne (by omega), List.getElem?_set_ne (by omega)]
theorem ans_len (cs : List Value) (e t : Int) : (ans cs e t).length = cs.length := by simp [ans]
theorem sizEv : (Tryz.prog.info? 49).map (·.size) = some 3 := by kernel_rfl
theorem step_imm (w : World) (gc gp n cap ix : Nat) (cs : List Value) (A : Option Addr) (m c : Nat) (mp : Value) (oc oh ou om tm : Int) (ky : Array UInt8) (X : List Nat) (Q : List Value → World → Prop) (e t : Int) (b1 : Blk w gc cs) (hl : 16 ≤ cs.length) (hX : gc ∈ X ∧ ∀ j ∈ X, j < w.heap.size)
    (h8 : cs[8]? = some (.slice (some ⟨gp, 0, none⟩) n cap)) (h9 : cs[9]? = some (.int .i64 (ix : Int))) (h10 : cs[10]? = some .nilIface) (hix : ix < n) (hn : n ≤ 4096) (hgp : gp ≠ gc)
    (hop : w.cell? ⟨gp, ix * 7, none⟩ = some (.int .i64 oc) ∧ w.cell? ⟨gp, ix * 7 + 1, none⟩ = some (.string ⟨ky⟩) ∧ w.cell? ⟨gp, ix * 7 + 2, none⟩ = some (.int .u64 tm) ∧ w.cell? ⟨gp, ix * 7 + 3, none⟩ = some (.slice A m c) ∧ w.cell? ⟨gp, ix * 7 + 4, none⟩ = some (.int .i64 oh) ∧ w.cell? ⟨gp, ix * 7 + 5, none⟩ = some (.int .i64 ou) ∧ w.cell? ⟨gp, ix * 7 + 6, none⟩ = some (.int .i64 om))
    (hst : ∀ W, Keeps [gc] w W → Blk W gc (stp0 cs ix) → Calls Tryz.prog 25 #[.pointer (some ⟨gc, 0, none⟩), .agg #[.int .i64 oc, .string ⟨ky⟩, .int .u64 tm, .slice A m c, .int .i64 oh, .int .i64 ou, .int .i64 om]] W fun q w' => q = .returned (.tuple #[.nilIface, .agg #[.int .i64 e, .int .u64 t, .string ⟨#[]⟩, .string ⟨#[]⟩]]) ∧ ∃ cs2, Blk w' gc cs2 ∧ 16 ≤ cs2.length ∧ Q cs2 w' ∧ Keeps X W w')
    (hQ : ∀ cs2 u v, Q cs2 u → Keeps [gc] u v → Q cs2 v) (hQ2 : ∀ cs2 u v g, Q cs2 u → w.heap.size ≤ g → Keeps [g] u v → Q cs2 v) :
    Calls Tryz.prog 14 #[.pointer (some ⟨gc, 0, none⟩), mp] w fun q w' => q = .returned (.agg #[.bool true, .bool true, .bool true]) ∧ ∃ cs2, Blk w' gc (ans cs2 e t) ∧ Q cs2 w' ∧ Keeps X w w' := by
  have HX := Lib.hid hX
  have Hl := Lib.hid hl
  have Hst := Lib.hid hst
  have HQ := Lib.hid hQ
  have HQ2 := Lib.hid hQ2
  clear hX hst hQ hQ2 hl
  have k0 := ((Keeps.refl [] w).alloc (.cells #[.bool false, .bool false, .bool false] 49)).alloc (.cells #[.bool false, .bool false, .bool false] 49)
  go_enter Tryz.func14, Tryz.ntmps14
  go_upto_region 2 with fail
  obtain ⟨W, hW⟩ : ∃ W, (w.alloc (.cells #[.bool false, .bool false, .bool false] 49)).alloc (.cells #[.bool false, .bool false, .bool false] 49) = W := ⟨_, rfl⟩
  have be4 := (Blk.new w [.bool false, .bool false, .bool false] 49).alloc (.cells #[.bool false, .bool false, .bool false] 49)
  have be5 := Blk.new_at (w.alloc (.cells #[.bool false, .bool false, .bool false] 49)) (w.heap.size + 1) [.bool false, .bool false, .bool false] 49 (by simp)
  change Blk ((w.alloc (.cells #[.bool false, .bool false, .bool false] 49)).alloc (.cells #[.bool false, .bool false, .bool false] 49)) _ _ at be4 be5
  obtain ⟨g4, hg4⟩ : ∃ g4, w.heap.size = g4 := ⟨_, rfl⟩
  obtain ⟨g5, hg5⟩ : ∃ g5, w.heap.size + 1 = g5 := ⟨_, rfl⟩
  have Hlt : Hid (gc < g4 ∧ g4 = w.heap.size ∧ g5 = w.heap.size + 1) := Lib.hid ⟨by rw [← hg4]; exact b1.lt, hg4.symm, hg5.symm⟩
  rw [hW] at k0 be4 be5 ⊢
  rw [hg5] at be5 ⊢
  rw [hg4] at be4 ⊢
  have c1 := k0.blk b1 (by simp)
  have HW : Hid (g4 < W.heap.size ∧ g5 < W.heap.size) := Lib.hid ⟨be4.lt, be5.lt⟩
  have f8 := (c1.cell 8).trans h8
  have f9 := (c1.cell 9).trans h9
  have f10 := (c1.cell 10).trans h10
  have ff := c1.frozen
  have fl := c1.lt
  obtain ⟨o0, o1, o2, o3, o4, o5, o6⟩ := hop
  have q0 := k0.cellEq o0 (by simp)
  have q1 := k0.cellEq o1 (by simp)
  have q2 := k0.cellEq o2 (by simp)
  have q3 := k0.cellEq o3 (by simp)
  have q4 := k0.cellEq o4 (by simp)
  have q5 := k0.cellEq o5 (by simp)
  have q6 := k0.cellEq o6 (by simp)
  clear hW hg5 hg4 o0 o1 o2 o3 o4 o5 o6
  have hne1 : ¬ ((ix : Int) = (n : Int)) := by omega
  have hltI : (ix : Int) < (n : Int) := by omega
  go_wp2_with fail
  go_quiet (fail)
  go_upto_region 5 with fail
  have hbe : ((ix : Int) == (n : Int)) = false := by simp; omega
  rw [hbe]
  clear hbe
  go_cut [6] from 26 to 35 (fun s6 wx => ∃ g6 : Nat, s6 = .pointer (some ⟨g6, 0, none⟩) ∧ Blk wx g6 [.int .i64 oc, .string ⟨ky⟩, .int .u64 tm, .slice A m c, .int .i64 oh, .int .i64 ou, .int .i64 om] ∧ W.heap.size ≤ g6 ∧ Keeps [] W wx)
  case first =>
    have ixI : (0 : Int) ≤ (ix : Int) := by omega
    have bn := Blk.new (W.drewN (nq + 1)) [.int .i64 0, .string ⟨#[]⟩, .int .u64 0, .slice none 0 0, .int .i64 0, .int .i64 0, .int .i64 0] 25
    change Blk ((W.drewN (nq + 1)).alloc (.cells #[.int .i64 0, .string ⟨#[]⟩, .int .u64 0, .slice none 0 0, .int .i64 0, .int .i64 0, .int .i64 0] 25)) W.heap.size _ at bn
    obtain ⟨n0, n1, n2, n3, n4, n5, n6, nf, nl⟩ := bn.o7
    have gpl : gp < W.heap.size := World.block_lt_of_cell? (w := W) (a := ⟨gp, ix * 7, none⟩) q0
    have kst := ((((((((Keeps.refl [W.heap.size] ((W.drewN (nq + 1)).alloc (.cells #[.int .i64 0, .string ⟨#[]⟩, .int .u64 0, .slice none 0 0, .int .i64 0, .int .i64 0, .int .i64 0] 25))).setCell ⟨W.heap.size, 0, none⟩ (.int .i64 oc) (.inl (by simp))).setCell ⟨W.heap.size, 1, none⟩ (.string ⟨ky⟩) (.inl (by simp))).setCell ⟨W.heap.size, 2, none⟩ (.int .u64 tm) (.inl (by simp))).setCell ⟨W.heap.size, 3, none⟩ (.slice A m c) (.inl (by simp))).setCell ⟨W.heap.size, 4, none⟩ (.int .i64 oh) (.inl (by simp))).setCell ⟨W.heap.size, 5, none⟩ (.int .i64 ou) (.inl (by simp))).setCell ⟨W.heap.size, 6, none⟩ (.int .i64 om) (.inl (by simp)))
    have hg1 : gc ∉ [W.heap.size] := by simp; omega
    have hg2 : gp ∉ [W.heap.size] := by simp; omega
    have f8e := kst.cellEq (Lib.cell?_alloc_some (W := W.drewN (nq + 1)) (.cells #[.int .i64 0, .string ⟨#[]⟩, .int .u64 0, .slice none 0 0, .int .i64 0, .int .i64 0, .int .i64 0] 25) f8) hg1
    have f9e := kst.cellEq (Lib.cell?_alloc_some (W := W.drewN (nq + 1)) (.cells #[.int .i64 0, .string ⟨#[]⟩, .int .u64 0, .slice none 0 0, .int .i64 0, .int .i64 0, .int .i64 0] 25) f9) hg1
    have q0e := kst.cellEq (Lib.cell?_alloc_some (W := W.drewN (nq + 1)) (.cells #[.int .i64 0, .string ⟨#[]⟩, .int .u64 0, .slice none 0 0, .int .i64 0, .int .i64 0, .int .i64 0] 25) q0) hg2
    have q1e := kst.cellEq (Lib.cell?_alloc_some (W := W.drewN (nq + 1)) (.cells #[.int .i64 0, .string ⟨#[]⟩, .int .u64 0, .slice none 0 0, .int .i64 0, .int .i64 0, .int .i64 0] 25) q1) hg2
    have q2e := kst.cellEq (Lib.cell?_alloc_some (W := W.drewN (nq + 1)) (.cells #[.int .i64 0, .string ⟨#[]⟩, .int .u64 0, .slice none 0 0, .int .i64 0, .int .i64 0, .int .i64 0] 25) q2) hg2
    have q3e := kst.cellEq (Lib.cell?_alloc_some (W := W.drewN (nq + 1)) (.cells #[.int .i64 0, .string ⟨#[]⟩, .int .u64 0, .slice none 0 0, .int .i64 0, .int .i64 0, .int .i64 0] 25) q3) hg2
    have q4e := kst.cellEq (Lib.cell?_alloc_some (W := W.drewN (nq + 1)) (.cells #[.int .i64 0, .string ⟨#[]⟩, .int .u64 0, .slice none 0 0, .int .i64 0, .int .i64 0, .int .i64 0] 25) q4) hg2
    have q5e := kst.cellEq (Lib.cell?_alloc_some (W := W.drewN (nq + 1)) (.cells #[.int .i64 0, .string ⟨#[]⟩, .int .u64 0, .slice none 0 0, .int .i64 0, .int .i64 0, .int .i64 0] 25) q5) hg2
    have q6e := kst.cellEq (Lib.cell?_alloc_some (W := W.drewN (nq + 1)) (.cells #[.int .i64 0, .string ⟨#[]⟩, .int .u64 0, .slice none 0 0, .int .i64 0, .int .i64 0, .int .i64 0] 25) q6) hg2
    go_region_held3 (fun w' => w'.cell? ⟨gc, 8, none⟩ = some (.slice (some ⟨gp, 0, none⟩) n cap) ∧ w'.cell? ⟨gc, 9, none⟩ = some (.int .i64 (ix : Int)) ∧ w'.cell? ⟨gp, ix * 7, none⟩ = some (.int .i64 oc) ∧ w'.cell? ⟨gp, ix * 7 + 1, none⟩ = some (.string ⟨ky⟩) ∧ w'.cell? ⟨gp, ix * 7 + 2, none⟩ = some (.int .u64 tm) ∧ w'.cell? ⟨gp, ix * 7 + 3, none⟩ = some (.slice A m c) ∧ w'.cell? ⟨gp, ix * 7 + 4, none⟩ = some (.int .i64 oh) ∧ w'.cell? ⟨gp, ix * 7 + 5, none⟩ = some (.int .i64 ou) ∧ w'.cell? ⟨gp, ix * 7 + 6, none⟩ = some (.int .i64 om))
      (first | (with_reducible exact ⟨f8, f9, q0, q1, q2, q3, q4, q5, q6⟩) | (with_reducible exact ⟨f8e, f9e, q0e, q1e, q2e, q3e, q4e, q5e, q6e⟩) | go_keep)
      (fail)
    all_goals
      go_wp2_with fail
      go_meet
      first
        | exact ⟨W.heap.size, rfl, by have := (((((((bn.set 0 (.int .i64 oc)).set 1 (.string ⟨ky⟩)).set 2 (.int .u64 tm)).set 3 (.slice A m c)).set 4 (.int .i64 oh)).set 5 (.int .i64 ou)).set 6 (.int .i64 om)); simp only [List.set_cons_zero, List.set_cons_succ] at this; exact this, Nat.le_refl _, (((Keeps.refl [] W).drewN _).alloc _).trans kst (by simp)⟩
        | exact ⟨W.heap.size, rfl, Blk.new (W.drewN (nq + 1)) [.int .i64 oc, .string ⟨ky⟩, .int .u64 tm, .slice A m c, .int .i64 oh, .int .i64 ou, .int .i64 om] 25, Nat.le_refl _, ((Keeps.refl [] W).drewN _).alloc _⟩
        | exact ⟨W.heap.size, rfl, Blk.new (W.drewN _) [.int .i64 oc, .string ⟨ky⟩, .int .u64 tm, .slice A m c, .int .i64 oh, .int .i64 ou, .int .i64 om] 25, Nat.le_refl _, ((Keeps.refl [] W).drewN _).alloc _⟩
  case rest =>
    obtain ⟨g6, rfl, b6, hg6, k6⟩ := hcut
    have d1 := k6.blk c1 (by simp)
    have e4 := k6.blk be4 (by simp)
    have e5 := k6.blk be5 (by simp)
    have K6 := k0.trans k6 (by simp)
    have f9c := (d1.cell 9).trans h9
    have dfc := d1.frozen
    have dlc := d1.lt
    obtain ⟨u0, u1, u2, uf, ul⟩ := e5.o3
    clear f8 f9 f10 ff fl q0 q1 q2 q3 q4 q5 q6 c1 be4 be5 k0 k6
    have hwr : wrap64 ((ix : Int) + 1) = (ix : Int) + 1 := IntWalk.wrap64_in _ ⟨by omega, by omega⟩
    go_upto_region 8 with fail
    have HN : Hid (gc ≠ g4 ∧ gc ≠ g5 ∧ gc ≠ g6 ∧ g4 ≠ g5 ∧ g4 ≠ g6 ∧ g5 ≠ g6 ∧ w.heap.size ≤ g4 ∧ w.heap.size ≤ g5 ∧ w.heap.size ≤ g6) := Lib.hid (by have := Hlt.out; have := HW.out; omega)
    have kA := ((Keeps.refl [gc, g5] wc).setCell ⟨gc, 9, none⟩ (.int .i64 ((ix : Int) + 1)) (.inl (by simp))).setCell ⟨g5, 0, none⟩ (.bool true) (.inl (by simp))
    have dA := (d1.set 9 (.int .i64 ((ix : Int) + 1))).other ⟨g5, 0, none⟩ (.bool true) HN.out.2.1
    have eA := kA.blk e4 (by have := HN.out; simp; omega)
    have e5A := (e5.other ⟨gc, 9, none⟩ (.int .i64 ((ix : Int) + 1)) (by have := HN.out; simp; omega)).set 0 (.bool true)
    have b6A := kA.blk b6 (by have := HN.out; simp; omega)
    obtain ⟨W8, hW8⟩ : ∃ W8, (wc.setCell ⟨gc, 9, none⟩ (.int .i64 ((ix : Int) + 1))).setCell ⟨g5, 0, none⟩ (.bool true) = W8 := ⟨_, rfl⟩
    rw [hW8] at kA dA eA e5A b6A ⊢
    have K8 : Keeps [gc] w W8 := (K6.mono (S' := [gc]) (by simp)).trans kA (by have := HN.out; simp; omega)
    clear hW8 d1 e4 e5 b6 f9c dfc dlc u0 u1 u2 uf ul hwr kA K6
    simp only [List.set_cons_zero] at e5A
    have hl2 := Hl.out
    obtain ⟨v11, hv11⟩ : ∃ v, cs[11]? = some v := ⟨cs[11], by simp⟩
    obtain ⟨v12, hv12⟩ : ∃ v, cs[12]? = some v := ⟨cs[12], by simp⟩
    obtain ⟨v13, hv13⟩ : ∃ v, cs[13]? = some v := ⟨cs[13], by simp⟩
    obtain ⟨v14, hv14⟩ : ∃ v, cs[14]? = some v := ⟨cs[14], by simp⟩
    have f11 := (dA.cell 11).trans ((List.getElem?_set_ne (by omega)).trans hv11)
    have f12 := (dA.cell 12).trans ((List.getElem?_set_ne (by omega)).trans hv12)
    have f13 := (dA.cell 13).trans ((List.getElem?_set_ne (by omega)).trans hv13)
    have f14 := (dA.cell 14).trans ((List.getElem?_set_ne (by omega)).trans hv14)
    have dAf := dA.frozen
    have dAl := dA.lt
    have kB := ((((Keeps.refl [gc] W8).setCell ⟨gc, 11, none⟩ (.int .i64 0) (.inl (by simp))).setCell ⟨gc, 12, none⟩ (.int .u64 0) (.inl (by simp))).setCell ⟨gc, 13, none⟩ (.string ⟨#[]⟩) (.inl (by simp))).setCell ⟨gc, 14, none⟩ (.string ⟨#[]⟩) (.inl (by simp))
    have dB := (((dA.set 11 (.int .i64 0)).set 12 (.int .u64 0)).set 13 (.string ⟨#[]⟩)).set 14 (.string ⟨#[]⟩)
    clear hl2
    go_upto_region 9 with fail
    obtain ⟨W9, hW9⟩ : ∃ W9, ((((W8.setCell ⟨gc, 11, none⟩ (.int .i64 0)).setCell ⟨gc, 12, none⟩ (.int .u64 0)).setCell ⟨gc, 13, none⟩ (.string ⟨#[]⟩)).setCell ⟨gc, 14, none⟩ (.string ⟨#[]⟩)) = W9 := ⟨_, rfl⟩
    rw [hW9] at kB dB ⊢
    clear hW9 f11 f12 f13 f14 hv11 hv12 hv13 hv14 dAf dAl
    have eB := kB.blk eA (by have := HN.out; simp; omega)
    have e5B := kB.blk e5A (by have := HN.out; simp; omega)
    have b6B := kB.blk b6A (by have := HN.out; simp; omega)
    have K9 : Keeps [gc] w W9 := K8.trans kB (by simp)
    change Blk W9 gc (stp0 cs ix) at dB
    clear eA e5A b6A dA kB K8
    obtain ⟨p0, p1, p2, p3, p4, p5, p6, pf, pl⟩ := b6B.o7
    have hs := Hst.out W9 K9 dB
    go_wp2_with fail
    refine hs.mono ?_
    rintro q w3 ⟨rfl, cs2, d3, l3, q3, k3⟩
    have HXl : Hid (g4 ∉ X) := Lib.hid (fun h => by have := HX.out.2 _ h; have := HN.out; omega)
    have e3 := k3.blk eB HXl.out
    have K3 : Keeps X w w3 := (K9.mono (S' := X) (by simp; exact .inl HX.out.1)).trans k3 (fun j hj => .inl hj)
    have ka := (Keeps.refl [] w3).alloc (.cells #[.int .i64 e, .int .u64 t, .string ⟨#[]⟩, .string ⟨#[]⟩] 52)
    have bx := Blk.new w3 [.int .i64 e, .int .u64 t, .string ⟨#[]⟩, .string ⟨#[]⟩] 52
    clear p0 p1 p2 p3 p4 p5 p6 pf pl hs eB e5B b6B dB k3
    go_upto_region 11 with fail
    change Blk (w3.alloc (.cells #[.int .i64 e, .int .u64 t, .string ⟨#[]⟩, .string ⟨#[]⟩] 52)) _ _ at bx
    obtain ⟨W10, hW10⟩ : ∃ W10, w3.alloc (.cells #[.int .i64 e, .int .u64 t, .string ⟨#[]⟩, .string ⟨#[]⟩] 52) = W10 := ⟨_, rfl⟩
    obtain ⟨g8, hg8⟩ : ∃ g8, w3.heap.size = g8 := ⟨_, rfl⟩
    rw [hW10] at ka bx ⊢
    rw [hg8] at bx ⊢
    have d10 := ka.blk d3 (by simp)
    have e10 := ka.blk e3 (by simp)
    have K10 : Keeps X w W10 := K3.trans ka (by simp)
    have q10 : Q cs2 W10 := HQ.out cs2 w3 W10 q3 (ka.mono (S' := [gc]) (by simp))
    clear hW10 hg8 d3 e3 K3 ka q3
    obtain ⟨v11, hv11⟩ : ∃ v, cs2[11]? = some v := ⟨cs2[11], by simp⟩
    obtain ⟨v12, hv12⟩ : ∃ v, cs2[12]? = some v := ⟨cs2[12], by simp⟩
    obtain ⟨v13, hv13⟩ : ∃ v, cs2[13]? = some v := ⟨cs2[13], by simp⟩
    obtain ⟨v14, hv14⟩ : ∃ v, cs2[14]? = some v := ⟨cs2[14], by simp⟩
    have Hl3 := Lib.hid l3
    clear l3
    have f11 := (d10.cell 11).trans hv11
    have f12 := (d10.cell 12).trans hv12
    have f13 := (d10.cell 13).trans hv13
    have f14 := (d10.cell 14).trans hv14
    have dAf := d10.frozen
    have dAl := d10.lt
    obtain ⟨x0, x1, x2, x3, xf, xl⟩ := bx.o4
    have kC := ((((Keeps.refl [gc] W10).setCell ⟨gc, 11, none⟩ (.int .i64 e) (.inl (by simp))).setCell ⟨gc, 12, none⟩ (.int .u64 t) (.inl (by simp))).setCell ⟨gc, 13, none⟩ (.string ⟨#[]⟩) (.inl (by simp))).setCell ⟨gc, 14, none⟩ (.string ⟨#[]⟩) (.inl (by simp))
    have dC := (((d10.set 11 (.int .i64 e)).set 12 (.int .u64 t)).set 13 (.string ⟨#[]⟩)).set 14 (.string ⟨#[]⟩)
    go_upto_region 12 with fail
    obtain ⟨W11, hW11⟩ : ∃ W11, ((((W10.setCell ⟨gc, 11, none⟩ (.int .i64 e)).setCell ⟨gc, 12, none⟩ (.int .u64 t)).setCell ⟨gc, 13, none⟩ (.string ⟨#[]⟩)).setCell ⟨gc, 14, none⟩ (.string ⟨#[]⟩)) = W11 := ⟨_, rfl⟩
    rw [hW11] at kC dC ⊢
    change Blk W11 gc (ans cs2 e t) at dC
    have e11 := kC.blk e10 (by have := HN.out; simp; omega)
    have K11 : Keeps X w W11 := K10.trans kC (by simp; exact .inl HX.out.1)
    have q11 : Q cs2 W11 := HQ.out cs2 W10 W11 q10 kC
    clear hW11 f11 f12 f13 f14 hv11 hv12 hv13 hv14 dAf dAl x0 x1 x2 x3 xf xl bx d10 e10 K10 q10 kC
    obtain ⟨y0, y1, y2, yf, yl⟩ := e11.o3
    have kD := (((Keeps.refl [g4] W11).setCell ⟨g4, 0, none⟩ (.bool true) (.inl (by simp))).setCell ⟨g4, 1, none⟩ (.bool true) (.inl (by simp))).setCell ⟨g4, 2, none⟩ (.bool true) (.inl (by simp))
    have eD := ((e11.set 0 (.bool true)).set 1 (.bool true)).set 2 (.bool true)
    simp only [List.set_cons_zero, List.set_cons_succ] at eD
    go_wp2_with fail
    refine bodyPost_ret (results_blk (cs := [.bool true, .bool true, .bool true]) rfl _ _ g4 _ rfl eD Tryz.underlying49 sizEv) rfl ?_
    exact ⟨rfl, cs2, kD.blk dC (by have := HN.out; simp; omega), HQ2.out cs2 _ _ g4 q11 (by have := HN.out; omega) kD, K11.trans kD (by have := HN.out; simp; omega)⟩
end Go.Proofs.YtjmhnlbkfbieaaaGreat
