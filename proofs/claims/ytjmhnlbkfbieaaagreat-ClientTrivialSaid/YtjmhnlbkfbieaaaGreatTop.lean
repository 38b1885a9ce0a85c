/- client: the later steps of the task that opens a snapshot (written by gen_top.py). -/
import Derived.Test.YtjmhnlbkfbieaaaGreatStv
import Derived.Deep.RegionHeld3
import Derived.StillTailTactics
namespace Go.Proofs.YtjmhnlbkfbieaaaGreat
open Go.RowKit
set_option linter.unusedSectionVars false
set_option linter.unusedVariables false
set_option linter.unusedSimpArgs false
set_option maxRecDepth 100000
set_option maxHeartbeats 4000000
@[go_sem] theorem meth_finish (ob : Nat) (h : Int) (w : World) : (method 484 109 (.agg #[.pointer (some ⟨ob, 0, none⟩), .int .i64 h]) "Finish").run Tryz.prog w = .ok (349, .agg #[.pointer (some ⟨ob, 0, none⟩), .int .i64 h]) w := by kernel_rfl
theorem OpenC.keeps {w w' : World} {ob nb : Nat} {nx : Value} {i t : Int} (h : OpenC w ob nb nx i t) {X : List Nat} (k : Keeps X w w') (h1 : ob ∉ X) (h2 : nb ∉ X) : OpenC w' ob nb nx i t := ⟨k.blk h.self h1, k.blk h.now h2⟩
theorem ofin_any (w : World) (ob nb gc gs s h : Nat) (cs sn : List Value) (i t : Int) (v0 v1 : Value) (o : OpenC w ob nb .nilFunc i t) (b1 : Blk w gc cs) (b2 : Blk w gs sn) (hh : h < s) (h15 : cs[15]? = some (.slice (some ⟨gs, 0, none⟩) s s)) (hv0 : sn[h * 2]? = some v0) (hv1 : sn[h * 2 + 1]? = some v1) (hne : gs ≠ ob ∧ gs ≠ nb) :
    Calls Tryz.prog 349 #[.agg #[.pointer (some ⟨ob, 0, none⟩), .int .i64 h], .pointer (some ⟨gc, 0, none⟩)] w fun q w' => q = .returned (.agg #[.int .i64 0, .int .u64 t, .string ⟨#[]⟩, .string ⟨#[]⟩]) ∧ Blk w' gs ((sn.set (h * 2) (.bool true)).set (h * 2 + 1) (.int .u64 t)) ∧ Keeps [gs] w w' := by
  have kw := ((Keeps.refl [] w).alloc (.cells #[.pointer (some ⟨ob, 0, none⟩), .int .i64 h] 109)).alloc (.cells #[.int .i64 0, .int .u64 0, .string ⟨#[]⟩, .string ⟨#[]⟩] 52)
  have bB := (Blk.new w [.pointer (some ⟨ob, 0, none⟩), .int .i64 h] 109).alloc (.cells #[.int .i64 0, .int .u64 0, .string ⟨#[]⟩, .string ⟨#[]⟩] 52)
  have bA := Blk.new_at (w.alloc (.cells #[.pointer (some ⟨ob, 0, none⟩), .int .i64 h] 109)) (w.heap.size + 1) [.int .i64 0, .int .u64 0, .string ⟨#[]⟩, .string ⟨#[]⟩] 52 (by simp)
  change Blk ((w.alloc (.cells #[.pointer (some ⟨ob, 0, none⟩), .int .i64 h] 109)).alloc (.cells #[.int .i64 0, .int .u64 0, .string ⟨#[]⟩, .string ⟨#[]⟩] 52)) _ _ at bB bA
  have c1 := kw.blk b1 (by simp)
  have c2 := kw.blk b2 (by simp)
  have o2 := o.keeps kw (by simp) (by simp)
  have hgs := b2.lt
  go_enter Tryz.func349, Tryz.ntmps349
  go_upto_region 1 with fail
  obtain ⟨W, hW⟩ : ∃ W, (w.alloc (.cells #[.pointer (some ⟨ob, 0, none⟩), .int .i64 h] 109)).alloc (.cells #[.int .i64 0, .int .u64 0, .string ⟨#[]⟩, .string ⟨#[]⟩] 52) = W := ⟨_, rfl⟩
  obtain ⟨gB, hgB⟩ : ∃ gB, w.heap.size = gB := ⟨_, rfl⟩
  obtain ⟨gA, hgA⟩ : ∃ gA, w.heap.size + 1 = gA := ⟨_, rfl⟩
  have HG : Hid (w.heap.size ≤ gA ∧ gs < gA ∧ gs ≠ gB ∧ gs ≠ gA ∧ w.heap.size ≤ gB ∧ gA ≠ gB) := Lib.hid (by omega)
  rw [hW] at kw bB bA c1 c2 o2 ⊢
  rw [hgA] at bA ⊢
  rw [hgB] at bB ⊢
  clear hW hgB hgA b1 b2 o hgs
  obtain ⟨p0, p1, pf, pl⟩ := bB.o2
  have f15 : W.cell? ⟨gc, 15, none⟩ = some (.slice (some ⟨gs, 0, none⟩) s s) := by rw [c1.cell]; exact h15
  have x0 : W.cell? ⟨gs, h * 2, none⟩ = some v0 := by rw [c2.cell]; exact hv0
  have x1 : W.cell? ⟨gs, h * 2 + 1, none⟩ = some v1 := by rw [c2.cell]; exact hv1
  have xf := c2.frozen
  have xl := c2.lt
  have hsI : (h : Int) < (s : Int) := by omega
  have hh0 : (0 : Int) ≤ (h : Int) := by omega
  have HT : ∀ u, OpenC u ob nb .nilFunc i t → Calls Tryz.prog 350 #[.pointer (some ⟨ob, 0, none⟩)] u fun e w' => e = .returned (.int .u64 t) ∧ w' = u := fun u hu => (openTime_done u ob nb i t hu).mono fun e w' hh => ⟨hh.1, hh.2.symm⟩
  go_still_tail 11, (by kernel_rfl)
  still_call (HT _ (o2.keeps ((Keeps.refl [] W).drew) (by simp) (by simp)))
  repeat still_step
  try refine wpStill_nil ?_
  change wpList _ _ _ _ _ W.drew
  have kD := (((Keeps.refl [gs] W).setCell ⟨gs, h * 2, none⟩ (.bool true) (.inl (by simp))).setCell ⟨gs, h * 2 + 1, none⟩ (.int .u64 t) (.inl (by simp))).drew
  have bD := ((c2.set (h * 2) (.bool true)).set (h * 2 + 1) (.int .u64 t)).drew
  go_upto_region 2 with fail
  obtain ⟨W2, hW2⟩ : ∃ W2, ((W.setCell ⟨gs, h * 2, none⟩ (.bool true)).setCell ⟨gs, h * 2 + 1, none⟩ (.int .u64 t)).drew = W2 := ⟨_, rfl⟩
  rw [hW2] at kD bD ⊢
  have bB2 := kD.blk bB (by have := HG.out; simp; omega)
  have bA2 := kD.blk bA (by have := HG.out; simp; omega)
  have o3 := o2.keeps kD (by simp; exact fun e => hne.1 e.symm) (by simp; exact fun e => hne.2 e.symm)
  clear hW2 x0 x1 xf xl p0 p1 pf pl f15 c1 c2 bB bA o2
  obtain ⟨p0, p1, pf, pl⟩ := bB2.o2
  obtain ⟨a0, a1, a2, a3, af, al⟩ := bA2.o4
  go_wp2_with fail
  refine (HT _ o3).mono ?_
  rintro q w3 ⟨rfl, rfl⟩
  have kS := ((((Keeps.refl [gA] w3).setCell ⟨gA, 0, none⟩ (.int .i64 0) (.inl (by simp))).setCell ⟨gA, 1, none⟩ (.int .u64 t) (.inl (by simp))).setCell ⟨gA, 2, none⟩ (.string ⟨#[]⟩) (.inl (by simp))).setCell ⟨gA, 3, none⟩ (.string ⟨#[]⟩) (.inl (by simp))
  have bS := (((bA2.set 0 (.int .i64 0)).set 1 (.int .u64 t)).set 2 (.string ⟨#[]⟩)).set 3 (.string ⟨#[]⟩)
  simp only [List.set_cons_zero, List.set_cons_succ] at bS
  clear HT
  go_wp2_with fail
  refine bodyPost_ret (results_blk (cs := [.int .i64 0, .int .u64 t, .string ⟨#[]⟩, .string ⟨#[]⟩]) rfl _ _ gA _ rfl bS Tryz.underlying52 sizA) rfl ?_
  exact ⟨rfl, kS.blk bD (by have := HG.out; simp; omega), ((kw.mono (S' := [gs]) (by simp)).trans kD (by simp)).trans kS (by have := HG.out; simp; omega)⟩
theorem ans_ans (cs : List Value) (a b e t : Int) : ans (ans cs a b) e t = ans cs e t := by
  refine List.ext_getElem? fun i => ?_
  by_cases h : i = 11 ∨ i = 12 ∨ i = 13 ∨ i = 14
  · rcases h with rfl | rfl | rfl | rfl <;> simp [ans, List.getElem?_set]
  · rw [ans_get _ _ _ _ (by omega) (by omega) (by omega) (by omega), ans_get _ _ _ _ (by omega) (by omega) (by omega) (by omega), ans_get _ _ _ _ (by omega) (by omega) (by omega) (by omega)]
theorem step_mid (wo w : World) (gc h ob : Nat) (cs : List Value) (mb mc : Nat) (L : List C3) (na : Int) (T S N C R F K : Int) (i : Int) (hm : MemAt w mb mc L na) (hna : 0 ≤ na ∧ na ≤ 4611686018427387904) (hmo : mb < wo.heap.size ∧ mc < wo.heap.size ∧ gc < wo.heap.size) (hmg : mb ≠ gc ∧ mc ≠ gc) (b1 : Blk w gc cs) (hl : 16 ≤ cs.length) (h10 : cs[10]? = some (.iface 109 (.agg #[.pointer (some ⟨ob, 0, none⟩), .int .i64 h]))) (o : Op1 w ob wo.heap.size T S N C R F K i) (K0 : Keeps [gc, mb, mc] wo w) :
    Calls Tryz.prog 14 #[.pointer (some ⟨gc, 0, none⟩), .pointer (some ⟨mb, 0, none⟩)] w fun q w' => q = .returned (.agg #[.bool false, .bool true, .bool false]) ∧ Blk w' gc (ans cs 0 0) ∧ Op2 w' ob wo.heap.size i (memAt L 2).N ∧ MemAt w' mb mc L (na + 1) ∧ Keeps [gc, mb, mc] wo w' := by
  obtain ⟨nb, lb, pb, xb, tb, sb, hb, oP, ⟨a1, a2, a3, a4, a5, a6, a7, a8⟩, d1, d2, d3, d4, d5⟩ := o
  have hsz := K0.size
  have HL : Hid ((ob < w.heap.size ∧ nb < w.heap.size ∧ lb < w.heap.size ∧ pb < w.heap.size ∧ xb < w.heap.size ∧ tb < w.heap.size ∧ sb < w.heap.size ∧ hb < w.heap.size) ∧ (wo.heap.size ≤ ob ∧ wo.heap.size ≤ nb ∧ wo.heap.size ≤ lb ∧ wo.heap.size ≤ pb ∧ wo.heap.size ≤ xb ∧ wo.heap.size ≤ tb ∧ wo.heap.size ≤ sb ∧ wo.heap.size ≤ hb) ∧ (nb ≠ ob ∧ nb ≠ xb ∧ nb ≠ tb ∧ nb ≠ sb ∧ nb ≠ hb) ∧ mb < wo.heap.size ∧ mc < wo.heap.size ∧ gc < wo.heap.size ∧ wo.heap.size ≤ w.heap.size) :=
    Lib.hid ⟨⟨oP.self.lt, oP.now.lt.1, oP.now.lt.2.1, oP.now.lt.2.2, oP.x.lt, oP.t.lt, oP.s.lt, oP.h.lt⟩, ⟨a1, a2, a3, a4, a5, a6, a7, a8⟩, ⟨d1, d2, d3, d4, d5⟩, hmo.1, hmo.2.1, hmo.2.2, hsz⟩
  clear a1 a2 a3 a4 a5 a6 a7 a8 d1 d2 d3 d4 d5 hsz hmo
  have k0 := ((Keeps.refl [] w).alloc (.cells #[.bool false, .bool false, .bool false] 49)).alloc (.cells #[.bool false, .bool false, .bool false] 49)
  go_enter Tryz.func14, Tryz.ntmps14
  go_upto_region 2 with fail
  obtain ⟨W, hW⟩ : ∃ W, (w.alloc (.cells #[.bool false, .bool false, .bool false] 49)).alloc (.cells #[.bool false, .bool false, .bool false] 49) = W := ⟨_, rfl⟩
  have be4 := (Blk.new w [.bool false, .bool false, .bool false] 49).alloc (.cells #[.bool false, .bool false, .bool false] 49)
  have be5 := Blk.new_at (w.alloc (.cells #[.bool false, .bool false, .bool false] 49)) (w.heap.size + 1) [.bool false, .bool false, .bool false] 49 (by simp)
  change Blk ((w.alloc (.cells #[.bool false, .bool false, .bool false] 49)).alloc (.cells #[.bool false, .bool false, .bool false] 49)) _ _ at be4 be5
  obtain ⟨g4, hg4⟩ : ∃ g4, w.heap.size = g4 := ⟨_, rfl⟩
  obtain ⟨g5, hg5⟩ : ∃ g5, w.heap.size + 1 = g5 := ⟨_, rfl⟩
  have HN : Hid (g4 = w.heap.size ∧ g5 = w.heap.size + 1 ∧ gc < g4) := Lib.hid ⟨hg4.symm, hg5.symm, by rw [← hg4]; exact b1.lt⟩
  rw [hW] at k0 be4 be5 ⊢
  rw [hg5] at be5 ⊢
  rw [hg4] at be4 ⊢
  have c1 := k0.blk b1 (by simp)
  have hmW := hm.keeps k0 (by simp) (by simp)
  have oW := oP.keeps k0 (by simp) (by simp) (by simp) (by simp) (by simp) (by simp) (by simp) (by simp)
  have KW : Keeps [gc, mb, mc] wo W := K0.trans k0 (by simp)
  have HMG := Lib.hid (And.intro hmg (And.intro hna hl))
  clear hW hg5 hg4 k0 hm oP K0 hmg hna hl
  have f10 : W.cell? ⟨gc, 10, none⟩ = some (.iface 109 (.agg #[.pointer (some ⟨ob, 0, none⟩), .int .i64 h])) := by rw [c1.cell]; exact h10
  go_wp2_with fail
  refine (op1_marks (wo := wo) ⟨nb, lb, pb, xb, tb, sb, hb, oW, HL.out.2.1, HL.out.2.2.1⟩).mono ?_
  rintro q w12 ⟨rfl, rfl⟩
  go_wp2_with fail
  refine (openStep2 W ob nb lb pb xb tb sb hb mb mc L na i T S N C R F K oW hmW HMG.out.2.1.1 HMG.out.2.1.2 (by have := HL.out; omega) (by have := HL.out; omega) (by have := HL.out; omega) HL.out.2.2.1).mono ?_
  rintro q w13 ⟨rfl, oC, hm13, k13⟩
  have HZ : Hid (gc ∉ [mb, nb, ob] ∧ g4 ∉ [mb, nb, ob] ∧ g5 ∉ [mb, nb, ob] ∧ g5 ≠ gc ∧ g4 ≠ gc ∧ g5 ≠ g4 ∧ wo.heap.size ≤ g4 ∧ wo.heap.size ≤ g5 ∧ ob ≠ gc ∧ nb ≠ gc ∧ ob ≠ g4 ∧ ob ≠ g5 ∧ nb ≠ g4 ∧ nb ≠ g5 ∧ mb ≠ g5 ∧ mc ≠ g5 ∧ mb ≠ g4 ∧ mc ≠ g4) := Lib.hid (by have := HL.out; have := HN.out; have := HMG.out; simp; omega)
  have d13 := k13.blk c1 HZ.out.1
  have e13 := k13.blk be4 HZ.out.2.1
  have f13 := k13.blk be5 HZ.out.2.2.1
  have K13 : Keeps [gc, mb, mc] wo w13 := KW.trans k13 (by have := HL.out; simp; omega)
  clear f10 c1 be4 be5 KW k13 oW hmW
  have f10 : w13.cell? ⟨gc, 10, none⟩ = some (.iface 109 (.agg #[.pointer (some ⟨ob, 0, none⟩), .int .i64 h])) := by rw [d13.cell]; exact h10
  obtain ⟨u0, u1, u2, uf, ul⟩ := f13.o3
  have kE := (Keeps.refl [g5] w13).setCell ⟨g5, 2, none⟩ (.bool false) (.inl (by simp))
  have f14 := f13.set 2 (.bool false)
  simp only [List.set_cons_zero, List.set_cons_succ] at f14
  go_upto_region 16 with fail
  obtain ⟨W14, hW14⟩ : ∃ W14, w13.setCell ⟨g5, 2, none⟩ (.bool false) = W14 := ⟨_, rfl⟩
  rw [hW14] at kE f14 ⊢
  have d14 := kE.blk d13 (by have := HZ.out; simp; omega)
  have e14 := kE.blk e13 (by have := HZ.out; simp; omega)
  have o14 := oC.keeps kE (by have := HZ.out; simp; omega) (by have := HZ.out; simp; omega)
  have hm14 := hm13.keeps kE (by have := HZ.out; simp; omega) (by have := HZ.out; simp; omega)
  have K14 : Keeps [gc, mb, mc] wo W14 := K13.trans kE (by have := HZ.out; simp; omega)
  clear hW14 f10 d13 e13 f13 oC hm13 K13 kE u0 u1 u2 uf ul
  have f10 : W14.cell? ⟨gc, 10, none⟩ = some (.iface 109 (.agg #[.pointer (some ⟨ob, 0, none⟩), .int .i64 h])) := by rw [d14.cell]; exact h10
  go_wp2_with fail
  refine (openC_marks o14).mono ?_
  rintro q w15 ⟨rfl, rfl⟩
  obtain ⟨u0, u1, u2, uf, ul⟩ := f14.o3
  have kF := (Keeps.refl [g5] W14).setCell ⟨g5, 1, none⟩ (.bool true) (.inl (by simp))
  have f15 := f14.set 1 (.bool true)
  simp only [List.set_cons_zero, List.set_cons_succ] at f15
  go_upto_region 17 with fail
  obtain ⟨W15, hW15⟩ : ∃ W15, W14.setCell ⟨g5, 1, none⟩ (.bool true) = W15 := ⟨_, rfl⟩
  rw [hW15] at kF f15 ⊢
  have d15 := kF.blk d14 (by have := HZ.out; simp; omega)
  have e15 := kF.blk e14 (by have := HZ.out; simp; omega)
  have o15 := o14.keeps kF (by have := HZ.out; simp; omega) (by have := HZ.out; simp; omega)
  have hm15 := hm14.keeps kF (by have := HZ.out; simp; omega) (by have := HZ.out; simp; omega)
  have K15 : Keeps [gc, mb, mc] wo W15 := K14.trans kF (by have := HZ.out; simp; omega)
  clear hW15 f10 d14 e14 f14 o14 hm14 K14 kF u0 u1 u2 uf ul
  have f10 : W15.cell? ⟨gc, 10, none⟩ = some (.iface 109 (.agg #[.pointer (some ⟨ob, 0, none⟩), .int .i64 h])) := by rw [d15.cell]; exact h10
  go_wp2_with fail
  refine (early_any ob h _).mono ?_
  rintro q w16 ⟨rfl, k16⟩
  have d16 := k16.blk d15 (by simp)
  have e16 := k16.blk e15 (by simp)
  have f16 := k16.blk f15 (by simp)
  have o16 := o15.keeps k16 (by simp) (by simp)
  have hm16 := hm15.keeps k16 (by simp) (by simp)
  have K16 : Keeps [gc, mb, mc] wo w16 := K15.trans k16 (by simp)
  clear f10 d15 e15 f15 o15 hm15 K15 k16
  have hl2 := HMG.out.2.2
  obtain ⟨v11, hv11⟩ : ∃ v, cs[11]? = some v := ⟨cs[11], by simp⟩
  obtain ⟨v12, hv12⟩ : ∃ v, cs[12]? = some v := ⟨cs[12], by simp⟩
  obtain ⟨v13, hv13⟩ : ∃ v, cs[13]? = some v := ⟨cs[13], by simp⟩
  obtain ⟨v14, hv14⟩ : ∃ v, cs[14]? = some v := ⟨cs[14], by simp⟩
  clear hl2
  have x11 := (d16.cell 11).trans hv11
  have x12 := (d16.cell 12).trans hv12
  have x13 := (d16.cell 13).trans hv13
  have x14 := (d16.cell 14).trans hv14
  have xf := d16.frozen
  have xl := d16.lt
  have kH := ((((Keeps.refl [gc] w16).setCell ⟨gc, 11, none⟩ (.int .i64 0) (.inl (by simp))).setCell ⟨gc, 12, none⟩ (.int .u64 0) (.inl (by simp))).setCell ⟨gc, 13, none⟩ (.string ⟨#[]⟩) (.inl (by simp))).setCell ⟨gc, 14, none⟩ (.string ⟨#[]⟩) (.inl (by simp))
  have d17 := (((d16.set 11 (.int .i64 0)).set 12 (.int .u64 0)).set 13 (.string ⟨#[]⟩)).set 14 (.string ⟨#[]⟩)
  go_upto_region 18 with fail
  obtain ⟨W17, hW17⟩ : ∃ W17, ((((w16.setCell ⟨gc, 11, none⟩ (.int .i64 0)).setCell ⟨gc, 12, none⟩ (.int .u64 0)).setCell ⟨gc, 13, none⟩ (.string ⟨#[]⟩)).setCell ⟨gc, 14, none⟩ (.string ⟨#[]⟩)) = W17 := ⟨_, rfl⟩
  rw [hW17] at kH d17 ⊢
  change Blk W17 gc (ans cs 0 0) at d17
  have e17 := kH.blk e16 (by have := HZ.out; simp; omega)
  have f17 := kH.blk f16 (by have := HZ.out; simp; omega)
  have o17 := o16.keeps kH (by have := HZ.out; simp; omega) (by have := HZ.out; simp; omega)
  have hm17 := hm16.keeps kH (by have := HMG.out; simp; omega) (by have := HMG.out; simp; omega)
  have K17 : Keeps [gc, mb, mc] wo W17 := K16.trans kH (by simp)
  clear hW17 x11 x12 x13 x14 xf xl hv11 hv12 hv13 hv14 d16 e16 f16 o16 hm16 K16 kH
  obtain ⟨u0, u1, u2, uf, ul⟩ := f17.o3
  obtain ⟨y0, y1, y2, yf, yl⟩ := e17.o3
  have kD := (((Keeps.refl [g4] W17).setCell ⟨g4, 0, none⟩ (.bool false) (.inl (by simp))).setCell ⟨g4, 1, none⟩ (.bool true) (.inl (by simp))).setCell ⟨g4, 2, none⟩ (.bool false) (.inl (by simp))
  have eI := ((e17.set 0 (.bool false)).set 1 (.bool true)).set 2 (.bool false)
  simp only [List.set_cons_zero, List.set_cons_succ] at eI
  go_wp2_with fail
  refine bodyPost_ret (results_blk (cs := [.bool false, .bool true, .bool false]) rfl _ _ g4 _ rfl eI Tryz.underlying49 sizEv) rfl ?_
  exact ⟨rfl, kD.blk d17 (by have := HZ.out; simp; omega), ⟨nb, o17.keeps kD (by have := HZ.out; simp; omega) (by have := HZ.out; simp; omega), HL.out.2.1.1, HL.out.2.1.2.1, HL.out.2.2.1.1⟩, hm17.keeps kD (by have := HZ.out; simp; omega) (by have := HZ.out; simp; omega), K17.trans kD (by have := HZ.out; simp; omega)⟩
theorem step_last (wo w : World) (gc gs s h ob : Nat) (cs sn : List Value) (v0 v1 : Value) (mb mc : Nat) (L : List C3) (na : Int) (i t : Int) (ht : 0 ≤ t ∧ t ≤ 4611686018427387904) (hm : MemAt w mb mc L na) (hna : 0 ≤ na ∧ na ≤ 4611686018427387904) (hmo : mb < wo.heap.size ∧ mc < wo.heap.size ∧ gc < wo.heap.size ∧ gs < wo.heap.size) (hmg : mb ≠ gc ∧ mc ≠ gc) (hgs : gs ≠ gc ∧ gs ≠ mb ∧ gs ≠ mc) (b1 : Blk w gc cs) (b2 : Blk w gs sn) (hl : 16 ≤ cs.length) (h10 : cs[10]? = some (.iface 109 (.agg #[.pointer (some ⟨ob, 0, none⟩), .int .i64 h]))) (h15 : cs[15]? = some (.slice (some ⟨gs, 0, none⟩) s s)) (hh : h < s) (hv0 : sn[h * 2]? = some v0) (hv1 : sn[h * 2 + 1]? = some v1) (o : Op2 w ob wo.heap.size i t) (K0 : Keeps [gc, gs, mb, mc] wo w) :
    Calls Tryz.prog 14 #[.pointer (some ⟨gc, 0, none⟩), .pointer (some ⟨mb, 0, none⟩)] w fun q w' => q = .returned (.agg #[.bool false, .bool false, .bool true]) ∧ Blk w' gc ((ans cs 0 t).set 10 .nilIface) ∧ Blk w' gs ((sn.set (h * 2) (.bool true)).set (h * 2 + 1) (.int .u64 t)) ∧ MemAt w' mb mc (memSet L i ⟨t + 1, ⟨#[]⟩, 0⟩) (na + 1) ∧ Keeps [gc, gs, mb, mc] wo w' := by
  obtain ⟨nb, oP, a1, a2, d1⟩ := o
  have hsz := K0.size
  have HL : Hid ((ob < w.heap.size ∧ nb < w.heap.size) ∧ (wo.heap.size ≤ ob ∧ wo.heap.size ≤ nb) ∧ nb ≠ ob ∧ mb < wo.heap.size ∧ mc < wo.heap.size ∧ gc < wo.heap.size ∧ wo.heap.size ≤ w.heap.size ∧ gs < wo.heap.size) :=
    Lib.hid ⟨⟨oP.self.lt, Blk.lt oP.now⟩, ⟨a1, a2⟩, d1, hmo.1, hmo.2.1, hmo.2.2.1, hsz, hmo.2.2.2⟩
  have HT := Lib.hid (And.intro ht (And.intro h15 (And.intro hh (And.intro hv0 hv1))))
  have HGS := Lib.hid hgs
  clear a1 a2 d1 hsz hmo ht h15 hh hv0 hv1 hgs
  have k0 := ((Keeps.refl [] w).alloc (.cells #[.bool false, .bool false, .bool false] 49)).alloc (.cells #[.bool false, .bool false, .bool false] 49)
  go_enter Tryz.func14, Tryz.ntmps14
  go_upto_region 2 with fail
  obtain ⟨W, hW⟩ : ∃ W, (w.alloc (.cells #[.bool false, .bool false, .bool false] 49)).alloc (.cells #[.bool false, .bool false, .bool false] 49) = W := ⟨_, rfl⟩
  have be4 := (Blk.new w [.bool false, .bool false, .bool false] 49).alloc (.cells #[.bool false, .bool false, .bool false] 49)
  have be5 := Blk.new_at (w.alloc (.cells #[.bool false, .bool false, .bool false] 49)) (w.heap.size + 1) [.bool false, .bool false, .bool false] 49 (by simp)
  change Blk ((w.alloc (.cells #[.bool false, .bool false, .bool false] 49)).alloc (.cells #[.bool false, .bool false, .bool false] 49)) _ _ at be4 be5
  obtain ⟨g4, hg4⟩ : ∃ g4, w.heap.size = g4 := ⟨_, rfl⟩
  obtain ⟨g5, hg5⟩ : ∃ g5, w.heap.size + 1 = g5 := ⟨_, rfl⟩
  have HN : Hid (g4 = w.heap.size ∧ g5 = w.heap.size + 1 ∧ gc < g4) := Lib.hid ⟨hg4.symm, hg5.symm, by rw [← hg4]; exact b1.lt⟩
  rw [hW] at k0 be4 be5 ⊢
  rw [hg5] at be5 ⊢
  rw [hg4] at be4 ⊢
  have c1 := k0.blk b1 (by simp)
  have hmW := hm.keeps k0 (by simp) (by simp)
  have oW := oP.keeps k0 (by simp) (by simp)
  have c2 := k0.blk b2 (by simp)
  have KW : Keeps [gc, gs, mb, mc] wo W := K0.trans k0 (by simp)
  have HMG := Lib.hid (And.intro hmg (And.intro hna hl))
  clear hW hg5 hg4 k0 hm oP K0 hmg hna hl b2
  have f10 : W.cell? ⟨gc, 10, none⟩ = some (.iface 109 (.agg #[.pointer (some ⟨ob, 0, none⟩), .int .i64 h])) := by rw [c1.cell]; exact h10
  go_wp2_with fail
  refine (openC_marks oW).mono ?_
  rintro q w12 ⟨rfl, rfl⟩
  go_wp2_with fail
  refine (openStep3 W ob nb mb mc L na i t oW HT.out.1.1 HT.out.1.2 hmW HMG.out.2.1.1 HMG.out.2.1.2 (by have := HL.out; omega) (by have := HL.out; omega) HL.out.2.2.1).mono ?_
  rintro q w13 ⟨rfl, oC, hm13, k13⟩
  have HZ : Hid (gc ∉ [mb, mc, ob] ∧ g4 ∉ [mb, mc, ob] ∧ g5 ∉ [mb, mc, ob] ∧ g5 ≠ gc ∧ g4 ≠ gc ∧ g5 ≠ g4 ∧ wo.heap.size ≤ g4 ∧ wo.heap.size ≤ g5 ∧ ob ≠ gc ∧ nb ≠ gc ∧ ob ≠ g4 ∧ ob ≠ g5 ∧ nb ≠ g4 ∧ nb ≠ g5 ∧ mb ≠ g5 ∧ mc ≠ g5 ∧ mb ≠ g4 ∧ mc ≠ g4) := Lib.hid (by have := HL.out; have := HN.out; have := HMG.out; simp; omega)
  have d13 := k13.blk c1 HZ.out.1
  have e13 := k13.blk be4 HZ.out.2.1
  have f13 := k13.blk be5 HZ.out.2.2.1
  have s13 := k13.blk c2 (by have := HGS.out; have := HL.out; simp; omega)
  have K13 : Keeps [gc, gs, mb, mc] wo w13 := KW.trans k13 (by have := HL.out; simp; omega)
  clear f10 c1 be4 be5 KW k13 oW hmW c2
  have f10 : w13.cell? ⟨gc, 10, none⟩ = some (.iface 109 (.agg #[.pointer (some ⟨ob, 0, none⟩), .int .i64 h])) := by rw [d13.cell]; exact h10
  obtain ⟨u0, u1, u2, uf, ul⟩ := f13.o3
  have kE := (Keeps.refl [g5] w13).setCell ⟨g5, 2, none⟩ (.bool true) (.inl (by simp))
  have f14 := f13.set 2 (.bool true)
  simp only [List.set_cons_zero, List.set_cons_succ] at f14
  go_upto_region 16 with fail
  obtain ⟨W14, hW14⟩ : ∃ W14, w13.setCell ⟨g5, 2, none⟩ (.bool true) = W14 := ⟨_, rfl⟩
  rw [hW14] at kE f14 ⊢
  have d14 := kE.blk d13 (by have := HZ.out; simp; omega)
  have e14 := kE.blk e13 (by have := HZ.out; simp; omega)
  have s14 := kE.blk s13 (by have := HN.out; have := HL.out; simp; omega)
  have o14 := oC.keeps kE (by have := HZ.out; simp; omega) (by have := HZ.out; simp; omega)
  have hm14 := hm13.keeps kE (by have := HZ.out; simp; omega) (by have := HZ.out; simp; omega)
  have K14 : Keeps [gc, gs, mb, mc] wo W14 := K13.trans kE (by have := HZ.out; simp; omega)
  clear hW14 f10 d13 e13 f13 oC hm13 K13 kE u0 u1 u2 uf ul s13
  have f10 : W14.cell? ⟨gc, 10, none⟩ = some (.iface 109 (.agg #[.pointer (some ⟨ob, 0, none⟩), .int .i64 h])) := by rw [d14.cell]; exact h10
  go_wp2_with fail
  refine (openC_marks o14).mono ?_
  rintro q w15 ⟨rfl, rfl⟩
  obtain ⟨u0, u1, u2, uf, ul⟩ := f14.o3
  have kF := (Keeps.refl [g5] W14).setCell ⟨g5, 1, none⟩ (.bool false) (.inl (by simp))
  have f15 := f14.set 1 (.bool false)
  simp only [List.set_cons_zero, List.set_cons_succ] at f15
  go_upto_region 17 with fail
  obtain ⟨W15, hW15⟩ : ∃ W15, W14.setCell ⟨g5, 1, none⟩ (.bool false) = W15 := ⟨_, rfl⟩
  rw [hW15] at kF f15 ⊢
  have d15 := kF.blk d14 (by have := HZ.out; simp; omega)
  have e15 := kF.blk e14 (by have := HZ.out; simp; omega)
  have s15 := kF.blk s14 (by have := HN.out; have := HL.out; simp; omega)
  have o15 := o14.keeps kF (by have := HZ.out; simp; omega) (by have := HZ.out; simp; omega)
  have hm15 := hm14.keeps kF (by have := HZ.out; simp; omega) (by have := HZ.out; simp; omega)
  have K15 : Keeps [gc, gs, mb, mc] wo W15 := K14.trans kF (by have := HZ.out; simp; omega)
  clear hW15 f10 d14 e14 f14 o14 hm14 K14 kF u0 u1 u2 uf ul s14
  have f10 : W15.cell? ⟨gc, 10, none⟩ = some (.iface 109 (.agg #[.pointer (some ⟨ob, 0, none⟩), .int .i64 h])) := by rw [d15.cell]; exact h10
  go_wp2_with fail
  refine (early_any ob h _).mono ?_
  rintro q w16 ⟨rfl, k16⟩
  have d16 := k16.blk d15 (by simp)
  have e16 := k16.blk e15 (by simp)
  have f16 := k16.blk f15 (by simp)
  have s16 := k16.blk s15 (by simp)
  have o16 := o15.keeps k16 (by simp) (by simp)
  have hm16 := hm15.keeps k16 (by simp) (by simp)
  have K16 : Keeps [gc, gs, mb, mc] wo w16 := K15.trans k16 (by simp)
  clear f10 d15 e15 f15 o15 hm15 K15 k16 s15
  have hl2 := HMG.out.2.2
  obtain ⟨v11, hv11⟩ : ∃ v, cs[11]? = some v := ⟨cs[11], by simp⟩
  obtain ⟨v12, hv12⟩ : ∃ v, cs[12]? = some v := ⟨cs[12], by simp⟩
  obtain ⟨v13, hv13⟩ : ∃ v, cs[13]? = some v := ⟨cs[13], by simp⟩
  obtain ⟨v14, hv14⟩ : ∃ v, cs[14]? = some v := ⟨cs[14], by simp⟩
  clear hl2
  have x11 := (d16.cell 11).trans hv11
  have x12 := (d16.cell 12).trans hv12
  have x13 := (d16.cell 13).trans hv13
  have x14 := (d16.cell 14).trans hv14
  have xf := d16.frozen
  have xl := d16.lt
  have kH := ((((Keeps.refl [gc] w16).setCell ⟨gc, 11, none⟩ (.int .i64 0) (.inl (by simp))).setCell ⟨gc, 12, none⟩ (.int .u64 0) (.inl (by simp))).setCell ⟨gc, 13, none⟩ (.string ⟨#[]⟩) (.inl (by simp))).setCell ⟨gc, 14, none⟩ (.string ⟨#[]⟩) (.inl (by simp))
  have d17 := (((d16.set 11 (.int .i64 0)).set 12 (.int .u64 0)).set 13 (.string ⟨#[]⟩)).set 14 (.string ⟨#[]⟩)
  go_upto_region 18 with fail
  obtain ⟨W17, hW17⟩ : ∃ W17, ((((w16.setCell ⟨gc, 11, none⟩ (.int .i64 0)).setCell ⟨gc, 12, none⟩ (.int .u64 0)).setCell ⟨gc, 13, none⟩ (.string ⟨#[]⟩)).setCell ⟨gc, 14, none⟩ (.string ⟨#[]⟩)) = W17 := ⟨_, rfl⟩
  rw [hW17] at kH d17 ⊢
  change Blk W17 gc (ans cs 0 0) at d17
  have e17 := kH.blk e16 (by have := HZ.out; simp; omega)
  have f17 := kH.blk f16 (by have := HZ.out; simp; omega)
  have s17 := kH.blk s16 (by have := HGS.out; simp; omega)
  have o17 := o16.keeps kH (by have := HZ.out; simp; omega) (by have := HZ.out; simp; omega)
  have hm17 := hm16.keeps kH (by have := HMG.out; simp; omega) (by have := HMG.out; simp; omega)
  have K17 : Keeps [gc, gs, mb, mc] wo W17 := K16.trans kH (by simp)
  clear hW17 x11 x12 x13 x14 xf xl hv11 hv12 hv13 hv14 d16 e16 f16 o16 hm16 K16 kH s16
  obtain ⟨u0, u1, u2, uf, ul⟩ := f17.o3
  have a10 : (ans cs 0 0)[10]? = some (.iface 109 (.agg #[.pointer (some ⟨ob, 0, none⟩), .int .i64 h])) := by rw [ans_get _ _ _ _ (by omega) (by omega) (by omega) (by omega)]; exact h10
  have a15 : (ans cs 0 0)[15]? = some (.slice (some ⟨gs, 0, none⟩) s s) := by rw [ans_get _ _ _ _ (by omega) (by omega) (by omega) (by omega)]; exact HT.out.2.1
  have f10 : W17.cell? ⟨gc, 10, none⟩ = some (.iface 109 (.agg #[.pointer (some ⟨ob, 0, none⟩), .int .i64 h])) := by rw [d17.cell]; exact a10
  have hq := ofin_any W17 ob nb gc gs s h (ans cs 0 0) sn i t v0 v1 o17 d17 s17 HT.out.2.2.1 a15 HT.out.2.2.2.1 HT.out.2.2.2.2 (by have := HL.out; omega)
  clear a10 a15
  go_wp2_with fail
  refine hq.mono ?_
  rintro q w18 ⟨rfl, s18, k18⟩
  have d18 := k18.blk d17 (by have := HGS.out; simp; omega)
  have e18 := k18.blk e17 (by have := HN.out; have := HL.out; simp; omega)
  have f18 := k18.blk f17 (by have := HN.out; have := HL.out; simp; omega)
  have hm18 := hm17.keeps k18 (by have := HGS.out; simp; omega) (by have := HGS.out; simp; omega)
  have K18 : Keeps [gc, gs, mb, mc] wo w18 := K17.trans k18 (by simp)
  clear hq f10 d17 e17 f17 s17 o17 hm17 K17 k18 u0 u1 u2 uf ul
  have hl2 : 16 ≤ (ans cs 0 0).length := by rw [ans_len]; exact HMG.out.2.2
  obtain ⟨v11, hv11⟩ : ∃ v, (ans cs 0 0)[11]? = some v := ⟨(ans cs 0 0)[11], by simp⟩
  obtain ⟨v12, hv12⟩ : ∃ v, (ans cs 0 0)[12]? = some v := ⟨(ans cs 0 0)[12], by simp⟩
  obtain ⟨v13, hv13⟩ : ∃ v, (ans cs 0 0)[13]? = some v := ⟨(ans cs 0 0)[13], by simp⟩
  obtain ⟨v14, hv14⟩ : ∃ v, (ans cs 0 0)[14]? = some v := ⟨(ans cs 0 0)[14], by simp⟩
  clear hl2
  have x11 := (d18.cell 11).trans hv11
  have x12 := (d18.cell 12).trans hv12
  have x13 := (d18.cell 13).trans hv13
  have x14 := (d18.cell 14).trans hv14
  have xf := d18.frozen
  have xl := d18.lt
  have kH := ((((Keeps.refl [gc] w18).setCell ⟨gc, 11, none⟩ (.int .i64 0) (.inl (by simp))).setCell ⟨gc, 12, none⟩ (.int .u64 t) (.inl (by simp))).setCell ⟨gc, 13, none⟩ (.string ⟨#[]⟩) (.inl (by simp))).setCell ⟨gc, 14, none⟩ (.string ⟨#[]⟩) (.inl (by simp))
  have d19 := (((d18.set 11 (.int .i64 0)).set 12 (.int .u64 t)).set 13 (.string ⟨#[]⟩)).set 14 (.string ⟨#[]⟩)
  go_upto_region 20 with fail
  obtain ⟨W19, hW19⟩ : ∃ W19, ((((w18.setCell ⟨gc, 11, none⟩ (.int .i64 0)).setCell ⟨gc, 12, none⟩ (.int .u64 t)).setCell ⟨gc, 13, none⟩ (.string ⟨#[]⟩)).setCell ⟨gc, 14, none⟩ (.string ⟨#[]⟩)) = W19 := ⟨_, rfl⟩
  rw [hW19] at kH d19 ⊢
  change Blk W19 gc (ans (ans cs 0 0) 0 t) at d19
  rw [ans_ans] at d19
  have e19 := kH.blk e18 (by have := HZ.out; simp; omega)
  have f19 := kH.blk f18 (by have := HZ.out; simp; omega)
  have s19 := kH.blk s18 (by have := HGS.out; simp; omega)
  have hm19 := hm18.keeps kH (by have := HMG.out; simp; omega) (by have := HMG.out; simp; omega)
  have K19 : Keeps [gc, gs, mb, mc] wo W19 := K18.trans kH (by simp)
  clear hW19 x11 x12 x13 x14 xf xl hv11 hv12 hv13 hv14 d18 e18 f18 s18 hm18 K18 kH
  have f10 : W19.cell? ⟨gc, 10, none⟩ = some (.iface 109 (.agg #[.pointer (some ⟨ob, 0, none⟩), .int .i64 h])) := by rw [d19.cell, ans_get _ _ _ _ (by omega) (by omega) (by omega) (by omega)]; exact h10
  have xf := d19.frozen
  have xl := d19.lt
  have kT := (Keeps.refl [gc] W19).setCell ⟨gc, 10, none⟩ .nilIface (.inl (by simp))
  have d20 := d19.set 10 .nilIface
  go_upto_region 21 with fail
  obtain ⟨W20, hW20⟩ : ∃ W20, W19.setCell ⟨gc, 10, none⟩ .nilIface = W20 := ⟨_, rfl⟩
  rw [hW20] at kT d20 ⊢
  have e20 := kT.blk e19 (by have := HZ.out; simp; omega)
  have f20 := kT.blk f19 (by have := HZ.out; simp; omega)
  have s20 := kT.blk s19 (by have := HGS.out; simp; omega)
  have hm20 := hm19.keeps kT (by have := HMG.out; simp; omega) (by have := HMG.out; simp; omega)
  have K20 : Keeps [gc, gs, mb, mc] wo W20 := K19.trans kT (by simp)
  clear hW20 f10 xf xl d19 e19 f19 s19 hm19 K19 kT
  obtain ⟨u0, u1, u2, uf, ul⟩ := f20.o3
  obtain ⟨y0, y1, y2, yf, yl⟩ := e20.o3
  have kD := (((Keeps.refl [g4] W20).setCell ⟨g4, 0, none⟩ (.bool false) (.inl (by simp))).setCell ⟨g4, 1, none⟩ (.bool false) (.inl (by simp))).setCell ⟨g4, 2, none⟩ (.bool true) (.inl (by simp))
  have eI := ((e20.set 0 (.bool false)).set 1 (.bool false)).set 2 (.bool true)
  simp only [List.set_cons_zero, List.set_cons_succ] at eI
  go_wp2_with fail
  refine bodyPost_ret (results_blk (cs := [.bool false, .bool false, .bool true]) rfl _ _ g4 _ rfl eI Tryz.underlying49 sizEv) rfl ?_
  exact ⟨rfl, kD.blk d20 (by have := HZ.out; simp; omega), kD.blk s20 (by have := HN.out; have := HL.out; simp; omega), hm20.keeps kD (by have := HZ.out; simp; omega) (by have := HZ.out; simp; omega), K20.trans kD (by have := HZ.out; simp; omega)⟩
end Go.Proofs.YtjmhnlbkfbieaaaGreat
