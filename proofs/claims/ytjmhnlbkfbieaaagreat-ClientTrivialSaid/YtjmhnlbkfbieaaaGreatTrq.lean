/- ClientTrivial: OpSnapshot in three steps, OpRelease of an open snapshot; Finished. -/
import Derived.Test.YtjmhnlbkfbieaaaGreatTro
import Derived.Test.YtjmhnlbkfbieaaaGreatTrs
import Derived.Test.YtjmhnlbkfbieaaaGreatTopb
namespace Go.Proofs.YtjmhnlbkfbieaaaGreat
open Go.RowKit
set_option linter.unusedSectionVars false
set_option linter.unusedVariables false
set_option linter.unusedSimpArgs false
set_option maxRecDepth 100000
set_option maxHeartbeats 4000000
theorem cfgT : CfgOK 1 2 100 100 200 4 1000 := ⟨by omega, by omega, by omega, by omega, by omega, by omega, by omega, by omega, by omega, by omega, by omega, by omega, by omega, by omega⟩
theorem Op1.keeps {w w' : World} {ob lo : Nat} {T S N C R F K i : Int} {X : List Nat} (h : Op1 w ob lo T S N C R F K i) (k : Keeps X w w') (hg : ∀ g ∈ X, g < lo) : Op1 w' ob lo T S N C R F K i := by
  obtain ⟨nb, lb, pb, xb, tb, sb, hb, h1, ⟨a1, a2, a3, a4, a5, a6, a7, a8⟩, d1, d2, d3, d4, d5⟩ := h
  have n1 : ∀ j, lo ≤ j → j ∉ X := fun j hj hm => by have := hg j hm; omega
  exact ⟨nb, lb, pb, xb, tb, sb, hb, h1.keeps k (n1 _ a1) (n1 _ a2) (n1 _ a3) (n1 _ a4) (n1 _ a5) (n1 _ a6) (n1 _ a7) (n1 _ a8), ⟨a1, a2, a3, a4, a5, a6, a7, a8⟩, d1, d2, d3, d4, d5⟩
theorem Op2.keeps {w w' : World} {ob lo : Nat} {i t : Int} {X : List Nat} (h : Op2 w ob lo i t) (k : Keeps X w w') (hg : ∀ g ∈ X, g < lo) : Op2 w' ob lo i t := by
  obtain ⟨nb, h1, a1, a2, d1⟩ := h
  have n1 : ∀ j, lo ≤ j → j ∉ X := fun j hj hm => by have := hg j hm; omega
  exact ⟨nb, h1.keeps k (n1 _ a1) (n1 _ a2), a1, a2, d1⟩
def clT (gp gs C5 : Nat) (ix : Int) (ob : Nat) (h : Int) (sc : List Value) : List Value := (clS gp gs C5 ix 0 0 sc).set 10 (.iface 109 (.agg #[.pointer (some ⟨ob, 0, none⟩), .int .i64 h]))
/-- Behind the first step of an OpSnapshot that began in wo. -/
structure CT1 (wo w : World) (B gc gs gp mb mc C5 ob : Nat) (L : List C3) (ix : Int) (h : Nat) (sc : List Value) (na : Int) : Prop where
  bd : (gc < B ∧ gs < B ∧ mb < B ∧ mc < B) ∧ ob < B ∧ wo.heap.size ≤ B
  nb : ∃ nb, w.cell? ⟨ob, 3, none⟩ = some (.pointer (some ⟨nb, 0, none⟩)) ∧ nb < B
  cl : Blk w gc (clT gp gs C5 ix ob h sc)
  op : Op1 w ob wo.heap.size 1 2 100 100 200 4 1000 (8 + 0 * 2 + (h : Int))
  mem : MemAt w mb mc L na
  kp : Keeps [gc, mb, mc] wo w
structure CT2 (wo w : World) (B gc gs gp mb mc C5 ob : Nat) (L : List C3) (ix : Int) (h : Nat) (tp : Int) (sc : List Value) (na : Int) : Prop where
  bd : (gc < B ∧ gs < B ∧ mb < B ∧ mc < B) ∧ ob < B ∧ wo.heap.size ≤ B
  nb : ∃ nb, w.cell? ⟨ob, 3, none⟩ = some (.pointer (some ⟨nb, 0, none⟩)) ∧ nb < B
  cl : Blk w gc (clT gp gs C5 ix ob h sc)
  op : Op2 w ob wo.heap.size (8 + 0 * 2 + (h : Int)) tp
  mem : MemAt w mb mc L na
  kp : Keeps [gc, mb, mc] wo w
theorem CT1.keeps {wo w w' : World} {B gc gs gp mb mc C5 ob : Nat} {L : List C3} {ix : Int} {h : Nat} {sc : List Value} {na : Int} (H : CT1 wo w B gc gs gp mb mc C5 ob L ix h sc na) (k : Keeps [] w w') : CT1 wo w' B gc gs gp mb mc C5 ob L ix h sc na :=
  ⟨H.bd, H.nb.imp fun _ hh => ⟨k.cellEq hh.1 (by simp), hh.2⟩, k.blk H.cl (by simp), H.op.keeps k (by simp), H.mem.keeps k (by simp) (by simp), H.kp.trans k (by simp)⟩
theorem CT2.keeps {wo w w' : World} {B gc gs gp mb mc C5 ob : Nat} {L : List C3} {ix : Int} {h : Nat} {tp : Int} {sc : List Value} {na : Int} (H : CT2 wo w B gc gs gp mb mc C5 ob L ix h tp sc na) (k : Keeps [] w w') : CT2 wo w' B gc gs gp mb mc C5 ob L ix h tp sc na :=
  ⟨H.bd, H.nb.imp fun _ hh => ⟨k.cellEq hh.1 (by simp), hh.2⟩, k.blk H.cl (by simp), H.op.keeps k (by simp), H.mem.keeps k (by simp) (by simp), H.kp.trans k (by simp)⟩
theorem CT2.far {wo w w' : World} {B gc gs gp mb mc C5 ob g : Nat} {L : List C3} {ix : Int} {h : Nat} {tp : Int} {sc : List Value} {na : Int} (H : CT2 wo w B gc gs gp mb mc C5 ob L ix h tp sc na) (k : Keeps [g] w w') (hg : B ≤ g) : CT2 wo w' B gc gs gp mb mc C5 ob L ix h tp sc na := by
  obtain ⟨⟨q1, q2, q3, q4⟩, q5, q6⟩ := H.bd
  obtain ⟨nb', hc, hn⟩ := H.nb
  obtain ⟨nb, h1, a1, a2, d1⟩ := H.op
  have h3 : w.cell? ⟨ob, 3, none⟩ = some (.pointer (some ⟨nb, 0, none⟩)) := h1.self.cell 3
  have hnb : nb < B := by
    rw [h3] at hc
    simp only [Option.some.injEq, Value.pointer.injEq, Addr.mk.injEq] at hc
    omega
  exact ⟨H.bd, ⟨nb, k.cellEq h3 (by simp; omega), hnb⟩, k.blk H.cl (by simp; omega), ⟨nb, h1.keeps k (by simp; omega) (by simp; omega), a1, a2, d1⟩, H.mem.keeps k (by simp; omega) (by simp; omega), H.kp.trans k (by simp; omega)⟩
theorem CS.far {wo w w' : World} {B gc gs gp mb mc C5 g : Nat} {l : List OV} {L L0 : List C3} {ix jx : Nat} {er tm er0 tm0 : Int} {sn sc sn' sc' : List Value} {na na0 : Int} (H : CS w gc gs gp mb mc C5 l L ix er tm sn sc na) (H0 : CS wo gc gs gp mb mc C5 l L0 jx er0 tm0 sn' sc' na0) (k : Keeps [g] w w') (hg : wo.heap.size ≤ g) : CS w' gc gs gp mb mc C5 l L ix er tm sn sc na := by
  obtain ⟨rest, hp⟩ := H.pr
  obtain ⟨rest0, hp0⟩ := H0.pr
  have h1 := H0.cl.lt
  have h2 := H0.sn.lt
  have h3 := hp0.lt
  have h4 := H0.mem.lt
  exact ⟨k.blk H.cl (by simp; omega), k.blk H.sn (by simp; omega), ⟨rest, k.blk hp (by simp; omega)⟩, fun x hx => ⟨(H.bt x hx).1.keeps k (fun g' hg' hm => by simp at hm; have := (H0.bt x hx).1.blk g' hg'; omega), (H.bt x hx).2⟩, H.mem.keeps k (by simp; omega) (by simp; omega), H.ne⟩
section
variable {wo w : World} {gc gs gp mb mc C5 : Nat} {l : List OV} {L : List C3} {ix : Nat} {er tm : Int} {sn sc : List Value} {na : Int}
/-- The first step. -/
theorem sn_one (H : CS w gc gs gp mb mc C5 l L ix er tm sn0 sc na) (hix : ix < 22) (x : OV) (hx : l[ix]? = some x) (h : Nat) (hh : h < 2) (ho : x.op = ⟨4, [], 0, [], h, 0, 0⟩) (hna : 0 ≤ na ∧ na ≤ 1000) :
    Calls Tryz.prog 14 #[.pointer (some ⟨gc, 0, none⟩), .pointer (some ⟨mb, 0, none⟩)] w fun q w' => q = .returned (.agg #[.bool true, .bool false, .bool false]) ∧ ∃ ob, CT1 w w' w'.heap.size gc gs gp mb mc C5 ob (memSet L (8 + 0 * 2 + (h : Int)) ⟨1, ⟨#[]⟩, 0⟩) ((ix + 1 : Nat) : Int) h sc (na + 1) := by
  obtain ⟨e1, e2, e3, e4, e5, e6, e7⟩ := opx ho (by omega)
  obtain ⟨rest, hp⟩ := H.pr
  obtain ⟨n1, n2, n3, n4, n5, n6, n7, n8, n9⟩ := H.ne
  have hop : ∀ j (u : Value), j < 7 → (oC x)[j]? = some u → w.cell? ⟨gp, ix * 7 + j, none⟩ = some u := fun j u hj hu => by
    rw [hp.cell, oCs_cells l rest ix x hx j hj]; exact hu
  have hc0 : w.cell? ⟨gp, ix * 7, none⟩ = some (.int .i64 4) := by rw [show (4 : Int) = x.c from e1.symm]; exact hop 0 _ (by omega) rfl
  have hc1 : w.cell? ⟨gp, ix * 7 + 1, none⟩ = some (.string ⟨#[]⟩) := by have := hop 1 _ (by omega) rfl; rw [e2] at this; exact this
  have hc2 : w.cell? ⟨gp, ix * 7 + 2, none⟩ = some (.int .u64 0) := by have := hop 2 _ (by omega) rfl; rw [e3] at this; exact this
  have hc4 : w.cell? ⟨gp, ix * 7 + 4, none⟩ = some (.int .i64 h) := by have := hop 4 _ (by omega) rfl; rw [e5] at this; exact this
  have hc5 : w.cell? ⟨gp, ix * 7 + 5, none⟩ = some (.int .i64 0) := by have := hop 5 _ (by omega) rfl; rw [e6] at this; exact this
  have hc6 : w.cell? ⟨gp, ix * 7 + 6, none⟩ = some (.int .i64 0) := by have := hop 6 _ (by omega) rfl; rw [e7] at this; exact this
  refine (step_open w gc gp gs 2 22 C5 ix h (clS gp gs C5 ix er tm sc) sn0 x.bA x.b.length x.bc 1 2 100 100 200 4 1000 cfgT 0 ⟨by omega, by omega⟩ mb mc L na H.mem ⟨hna.1, by omega⟩ ⟨n4, n5⟩ H.cl H.sn n1 (clS_len _ _ _ _ _ _ _) ⟨by omega, hh⟩ ⟨rfl, rfl, rfl, rfl, rfl, rfl, rfl⟩ rfl rfl (sn0_get h hh).1 rfl rfl rfl hix (by omega) n2
    ⟨hc0, hc1, hc2, hop 3 _ (by omega) rfl, hc4, hc5, hc6⟩).mono ?_
  rintro q w' ⟨rfl, k, ob, b, o, m⟩
  have hk := k.size
  have h1 := H.cl.lt
  have h2 := H.sn.lt
  have h3 := H.mem.lt
  have o' := o
  obtain ⟨nb, lb, pb, xb, tb, sb, hb, oP, _⟩ := o'
  rw [stp0_clS] at b
  exact ⟨rfl, ob, ⟨⟨⟨by omega, by omega, by omega, by omega⟩, oP.self.lt, hk⟩, ⟨nb, oP.self.cell 3, oP.now.lt.1⟩, b, o, m, k⟩⟩
theorem sn_two (H0 : CS wo gc gs gp mb mc C5 l L ix er tm sn sc na) {B ob : Nat} {L1 : List C3} {jx : Int} {h : Nat} {sc1 : List Value} {na1 : Int} (H : CT1 wo w B gc gs gp mb mc C5 ob L1 jx h sc1 na1) (hna : 0 ≤ na1 ∧ na1 ≤ 1000) :
    Calls Tryz.prog 14 #[.pointer (some ⟨gc, 0, none⟩), .pointer (some ⟨mb, 0, none⟩)] w fun q w' => q = .returned (.agg #[.bool false, .bool true, .bool false]) ∧ CT2 wo w' B gc gs gp mb mc C5 ob L1 jx h (memAt L1 2).N sc1 (na1 + 1) ∧ ∃ X, Keeps X w w' ∧ ∀ j ∈ X, j < B := by
  obtain ⟨n1, n2, n3, n4, n5, n6, n7, n8, n9⟩ := H0.ne
  obtain ⟨⟨q1, q2, q3, q4⟩, q5, q6⟩ := H.bd
  refine (step_mid2 wo w gc h ob (clT gp gs C5 jx ob h sc1) mb mc L1 na1 1 2 100 100 200 4 1000 (8 + 0 * 2 + (h : Int)) H.mem ⟨hna.1, by omega⟩ ⟨H0.mem.lt.1, H0.mem.lt.2, H0.cl.lt⟩ ⟨n4, n5⟩ H.cl (by unfold clT; rw [List.length_set]; exact clS_len _ _ _ _ _ _ _) rfl H.op H.kp B q5 H.nb).mono ?_
  rintro q w' ⟨rfl, b, o, m, k, nb, hcc, hnb, kv⟩
  exact ⟨rfl, ⟨⟨⟨q1, q2, q3, q4⟩, q5, q6⟩, ⟨nb, hcc, hnb⟩, b, o, m, k⟩, _, kv, by intro j hj; simp at hj; rcases hj with rfl | rfl | rfl | rfl | rfl <;> assumption⟩
theorem sn_three (H0 : CS wo gc gs gp mb mc C5 l L ix er tm sn0 sc na) {B ob : Nat} {L1 : List C3} {jx : Nat} {h : Nat} {tp : Int} {sc1 : List Value} {na1 : Int} (H : CT2 wo w B gc gs gp mb mc C5 ob L1 (jx : Int) h tp sc1 na1) (hna : 0 ≤ na1 ∧ na1 ≤ 1000) (htp : 0 ≤ tp ∧ tp ≤ 4611686018427387904) (hh : h < 2) :
    Calls Tryz.prog 14 #[.pointer (some ⟨gc, 0, none⟩), .pointer (some ⟨mb, 0, none⟩)] w fun q w' => q = .returned (.agg #[.bool false, .bool false, .bool true]) ∧ CS w' gc gs gp mb mc C5 l (memSet L1 (8 + 0 * 2 + (h : Int)) ⟨tp + 1, ⟨#[]⟩, 0⟩) jx 0 tp (snO h tp) sc1 (na1 + 1) ∧ Keeps [gc, gs, mb, mc] wo w' ∧ ∃ X, Keeps X w w' ∧ ∀ j ∈ X, j < B := by
  obtain ⟨n1, n2, n3, n4, n5, n6, n7, n8, n9⟩ := H0.ne
  obtain ⟨⟨q1, q2, q3, q4⟩, q5, q6⟩ := H.bd
  obtain ⟨rest, hp⟩ := H0.pr
  have bS := H.kp.blk H0.sn (by simp; exact ⟨n1, fun e => n6 e.symm, fun e => n7 e.symm⟩)
  refine (step_last2 wo w gc gs 2 h ob (clT gp gs C5 jx ob h sc1) sn0 _ _ mb mc L1 na1 (8 + 0 * 2 + (h : Int)) tp htp H.mem ⟨hna.1, by omega⟩ ⟨H0.mem.lt.1, H0.mem.lt.2, H0.cl.lt, H0.sn.lt⟩ ⟨n4, n5⟩ ⟨n1, fun e => n6 e.symm, fun e => n7 e.symm⟩ H.cl bS (by unfold clT; rw [List.length_set]; exact clS_len _ _ _ _ _ _ _) rfl rfl hh (sn0_get h hh).1 (sn0_get h hh).2 H.op (H.kp.mono (by intro j hj; left; simp at hj ⊢; omega))).mono ?_
  rintro q w' ⟨rfl, b, s, m, k, kv⟩
  exact ⟨rfl, ⟨b, s, ⟨rest, k.blk hp (by simp; exact ⟨n2, n3, fun e => n8 e.symm, fun e => n9 e.symm⟩)⟩, fun y hy => ⟨(H0.bt y hy).1.keeps k (fun g hg hm => by have := (H0.bt y hy).2 g hg; simp at hm; omega), (H0.bt y hy).2⟩, m, H0.ne⟩, k, _, kv, by intro j hj; simp at hj; rcases hj with rfl | rfl | rfl | rfl | rfl <;> assumption⟩
/-- OpRelease of the open snapshot. -/
theorem io_release (h r : Nat) (tp : Int) (hh : h < 2) (hr : r < 8) (H : CS w gc gs gp mb mc C5 l L ix er tm (snO h tp) (scO r h) na) (hix : ix < 22) (x : OV) (hx : l[ix]? = some x) (ho : x.op = ⟨5, [], 0, [], h, 0, 0⟩) (hna : 0 ≤ na ∧ na ≤ 1000) :
    Calls Tryz.prog 14 #[.pointer (some ⟨gc, 0, none⟩), .pointer (some ⟨mb, 0, none⟩)] w fun q w' => q = .returned (.agg #[.bool true, .bool true, .bool true]) ∧ CS w' gc gs gp mb mc C5 l (memSet L (8 + 0 * 2 + (h : Int)) ⟨0, ⟨#[]⟩, 0⟩) (ix + 1) 0 tp sn0 sc0 (na + 1) ∧ Keeps [gc, gs, mb, mc] w w' := by
  obtain ⟨e1, e2, e3, e4, e5, e6, e7⟩ := opx ho (by omega)
  obtain ⟨rest, hp⟩ := H.pr
  obtain ⟨n1, n2, n3, n4, n5, n6, n7, n8, n9⟩ := H.ne
  have hop : ∀ j (u : Value), j < 7 → (oC x)[j]? = some u → w.cell? ⟨gp, ix * 7 + j, none⟩ = some u := fun j u hj hu => by
    rw [hp.cell, oCs_cells l rest ix x hx j hj]; exact hu
  have hc0 : w.cell? ⟨gp, ix * 7, none⟩ = some (.int .i64 5) := by rw [show (5 : Int) = x.c from e1.symm]; exact hop 0 _ (by omega) rfl
  have hc1 : w.cell? ⟨gp, ix * 7 + 1, none⟩ = some (.string ⟨#[]⟩) := by have := hop 1 _ (by omega) rfl; rw [e2] at this; exact this
  have hc2 : w.cell? ⟨gp, ix * 7 + 2, none⟩ = some (.int .u64 0) := by have := hop 2 _ (by omega) rfl; rw [e3] at this; exact this
  have hc4 : w.cell? ⟨gp, ix * 7 + 4, none⟩ = some (.int .i64 h) := by have := hop 4 _ (by omega) rfl; rw [e5] at this; exact this
  have hc5 : w.cell? ⟨gp, ix * 7 + 5, none⟩ = some (.int .i64 0) := by have := hop 5 _ (by omega) rfl; rw [e6] at this; exact this
  have hc6 : w.cell? ⟨gp, ix * 7 + 6, none⟩ = some (.int .i64 0) := by have := hop 6 _ (by omega) rfl; rw [e7] at this; exact this
  refine (step_rel w gc gp gs 2 22 C5 ix h r [.int .i64 1, .int .i64 2, .int .i64 100, .int .i64 100, .int .i64 200, .int .i64 4, .int .u64 1000, .int .i64 0, .slice (some ⟨gp, 0, none⟩) 22 C5, .int .i64 ix, .nilIface, .int .i64 er, .int .u64 tm, .string ⟨#[]⟩, .string ⟨#[]⟩, .slice (some ⟨gs, 0, none⟩) 2 2] (clS gp gs C5 ix er tm (scO r h)) (snO h tp) x.bA x.b.length x.bc 1 2 100 100 200 4 1000 cfgT 0 tp ⟨by omega, by omega⟩ mb mc L na H.mem ⟨hna.1, by omega⟩ ⟨n4, n5⟩ rfl rfl hr H.cl H.sn ⟨n1, fun e => n6 e.symm, fun e => n7 e.symm⟩ (clS_len _ _ _ _ _ _ _) ⟨by omega, hh⟩ ⟨rfl, rfl, rfl, rfl, rfl, rfl, rfl⟩ rfl rfl (snO_get h tp hh).1 (snO_get h tp hh).2.1 rfl rfl rfl hix (by omega) n2
    ⟨hc0, hc1, hc2, hop 3 _ (by omega) rfl, hc4, hc5, hc6⟩).mono ?_
  rintro q w' ⟨rfl, k, X, b, s, m⟩
  rw [snO_close h tp hh] at s
  exact ⟨rfl, ⟨b, s, ⟨rest, k.blk hp (by simp; exact ⟨n2, n3, fun e => n8 e.symm, fun e => n9 e.symm⟩)⟩, fun y hy => ⟨(H.bt y hy).1.keeps k (fun g hg hm => by have := (H.bt y hy).2 g hg; simp at hm; omega), (H.bt y hy).2⟩, m, H.ne⟩, k⟩
end
theorem finished_yes {w : World} {gc gp gs C5 : Nat} {er tm : Int} {sc : List Value} (b : Blk w gc (clS gp gs C5 22 er tm sc)) :
    Calls Tryz.prog 16 #[.pointer (some ⟨gc, 0, none⟩)] w fun q w' => q = .returned (.bool true) ∧ Keeps [] w w' := by
  have f10 : w.cell? ⟨gc, 10, none⟩ = some .nilIface := b.cell 10
  have f9 : w.cell? ⟨gc, 9, none⟩ = some (.int .i64 22) := b.cell 9
  have f8 : w.cell? ⟨gc, 8, none⟩ = some (.slice (some ⟨gp, 0, none⟩) 22 C5) := b.cell 8
  go_enter Tryz.func16, Tryz.ntmps16
  go_upto_region 1 with fail
  go_quiet (fail)
  go_wp2_with fail
  go_ret
  exact ⟨rfl, (Keeps.refl [] w).drewN _⟩
end Go.Proofs.YtjmhnlbkfbieaaaGreat
