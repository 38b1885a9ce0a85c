/- ClientTrivial: the operations one by one. -/
import Derived.Test.YtjmhnlbkfbieaaaGreatTrq
import Derived.Test.YtjmhnlbkfbieaaaGreatTvb
namespace Go.Proofs.YtjmhnlbkfbieaaaGreat
open Go.RowKit
set_option linter.unusedSectionVars false
set_option linter.unusedVariables false
set_option linter.unusedSimpArgs false
set_option maxRecDepth 100000
/-- The snapshots and cursors ahead of operation i. -/
def snA (h i : Nat) : List Value := if 11 ≤ i ∧ i ≤ 19 then snO h 0 else sn0
def scA (r h i : Nat) : List Value := if (13 ≤ i ∧ i ≤ 16) ∨ i = 19 then scO r h else sc0
def wantE (i : Nat) : Int := wantL.getD i 0
theorem op_at {l : List OV} {ops : List Opn} (hl : l.map OV.op = ops) (i : Nat) (z : Opn) (hz : ops[i]? = some z) : ∃ x, l[i]? = some x ∧ x.op = z := by
  subst hl
  rw [List.getElem?_map] at hz
  cases hx : l[i]? with
  | none => rw [hx] at hz; simp at hz
  | some x => rw [hx] at hz; simp at hz; exact ⟨x, rfl, hz⟩
section
variable {w : World} {gc gs gp mb mc C5 : Nat} {l : List OV} {L : List C3} {er tm : Int} {na : Int}
theorem many_bad (n : Nat) (hn : 17 ≤ n ∧ n ≤ 21) : (List.replicate n wr0).length ≤ 1000 ∧ checkR 8 1 (List.replicate n wr0) = 8 := by
  refine ⟨by rw [List.length_replicate]; omega, ?_⟩
  unfold checkR
  rw [List.length_replicate, if_pos (by omega)]
theorem key_bad (lg : Str) (h : 32 < lg.length) : checkR 8 1 [⟨lg, [], false⟩] = 8 := by
  have : okW ⟨lg, [], false⟩ = false := by simp [okW]; omega
  simp [checkR, this]
theorem val_bad (bg : Str) (h : 64 < bg.length) : checkR 8 1 [⟨[], bg, false⟩] = 8 := by
  have : okW ⟨[], bg, false⟩ = false := by simp [okW]; omega
  simp [checkR, this]
theorem del_bad : checkR 8 1 [⟨[], [120], true⟩] = 1 := by decide
theorem imm_all (h o r n : Nat) (lg bg : Str) (hb : (40 ≤ lg.length ∧ lg.length ≤ 140) ∧ (80 ≤ bg.length ∧ bg.length ≤ 380) ∧ h < 2 ∧ o < 2 ∧ r < 8 ∧ 17 ≤ n ∧ n ≤ 21) (i : Nat) (H : CS w gc gs gp mb mc C5 l L i er tm (snA h i) (scA r h i) na) (hl : l.map OV.op = tO h o r n lg bg) (hi : i < 22) (h10 : i ≠ 10) (h19 : i ≠ 19) :
    Calls Tryz.prog 14 #[.pointer (some ⟨gc, 0, none⟩), .pointer (some ⟨mb, 0, none⟩)] w fun q w' => q = .returned (.agg #[.bool true, .bool true, .bool true]) ∧ ∃ tm', CS w' gc gs gp mb mc C5 l L (i + 1) (wantE i) tm' (snA h (i + 1)) (scA r h (i + 1)) na ∧ (wantE i ≠ 0 → tm' = 0) ∧ Keeps [gc] w w' := by
  obtain ⟨⟨l1, l2⟩, ⟨l3, l4⟩, h2, o2, r8, n17⟩ := hb
  have hc : i = 0 ∨ i = 1 ∨ i = 2 ∨ i = 3 ∨ i = 4 ∨ i = 5 ∨ i = 6 ∨ i = 7 ∨ i = 8 ∨ i = 9 ∨ i = 11 ∨ i = 12 ∨ i = 13 ∨ i = 14 ∨ i = 15 ∨ i = 16 ∨ i = 17 ∨ i = 18 ∨ i = 20 ∨ i = 21 := by omega
  rcases hc with rfl | rfl | rfl | rfl | rfl | rfl | rfl | rfl | rfl | rfl | rfl | rfl | rfl | rfl | rfl | rfl | rfl | rfl | rfl | rfl
  · obtain ⟨x, hx, ho⟩ := op_at hl 0 _ rfl
    exact (io_rel H (by omega) x hx h h2 ho (sn0_get h h2).1).mono fun q w' ⟨a, b, c⟩ => ⟨a, 0, b, fun _ => rfl, c⟩
  · obtain ⟨x, hx, ho⟩ := op_at hl 1 _ rfl
    exact (io_mov H (by omega) x hx r r8 0 ho).mono fun q w' ⟨a, b, c⟩ => ⟨a, 0, b, fun _ => rfl, c⟩
  · obtain ⟨x, hx, ho⟩ := op_at hl 2 _ rfl
    exact (io_cls H (by omega) x hx r r8 ho).mono fun q w' ⟨a, b, c⟩ => ⟨a, 0, b, fun _ => rfl, c⟩
  · obtain ⟨x, hx, ho⟩ := op_at hl 3 _ rfl
    exact (io_opcl H (by omega) x hx h r h2 r8 ho (sn0_get h h2).1).mono fun q w' ⟨a, b, c⟩ => ⟨a, 0, b, fun _ => rfl, c⟩
  · obtain ⟨x, hx, ho⟩ := op_at hl 4 _ rfl
    exact (io_get H (by omega) x hx lg (by omega) ho).mono fun q w' ⟨a, b, c⟩ => ⟨a, 0, b, fun _ => rfl, c⟩
  · obtain ⟨x, hx, ho⟩ := op_at hl 5 _ rfl
    exact (io_getAt H (by omega) x hx lg (by omega) ho).mono fun q w' ⟨a, b, c⟩ => ⟨a, 0, b, fun _ => rfl, c⟩
  · obtain ⟨x, hx, ho⟩ := op_at hl 6 _ rfl
    exact (io_apply H (by omega) x hx _ 8 (many_bad n n17).1 (many_bad n n17).2 (by decide) ho).mono fun q w' ⟨a, b, c⟩ => ⟨a, 0, b, fun _ => rfl, c⟩
  · obtain ⟨x, hx, ho⟩ := op_at hl 7 _ rfl
    exact (io_apply H (by omega) x hx _ 8 (by simp) (key_bad lg (by omega)) (by decide) ho).mono fun q w' ⟨a, b, c⟩ => ⟨a, 0, b, fun _ => rfl, c⟩
  · obtain ⟨x, hx, ho⟩ := op_at hl 8 _ rfl
    exact (io_apply H (by omega) x hx _ 8 (by simp) (val_bad bg (by omega)) (by decide) ho).mono fun q w' ⟨a, b, c⟩ => ⟨a, 0, b, fun _ => rfl, c⟩
  · obtain ⟨x, hx, ho⟩ := op_at hl 9 _ rfl
    exact (io_apply H (by omega) x hx _ 1 (by simp) del_bad (by decide) ho).mono fun q w' ⟨a, b, c⟩ => ⟨a, 0, b, fun _ => rfl, c⟩
  · obtain ⟨x, hx, ho⟩ := op_at hl 11 _ rfl
    exact (io_snap H (by omega) x hx h h2 ho (snO_get h 0 h2).1).mono fun q w' ⟨a, b, c⟩ => ⟨a, 0, b, fun _ => rfl, c⟩
  · obtain ⟨x, hx, ho⟩ := op_at hl 12 _ rfl
    exact (io_open h r 0 h2 r8 H (by omega) x hx ho).mono fun q w' ⟨a, b, c⟩ => ⟨a, 0, b, fun _ => rfl, c⟩
  · obtain ⟨x, hx, ho⟩ := op_at hl 13 _ rfl
    exact (io_opop h r 0 h2 r8 H (by omega) x hx ho).mono fun q w' ⟨a, b, c⟩ => ⟨a, 0, b, fun _ => rfl, c⟩
  · obtain ⟨x, hx, ho⟩ := op_at hl 14 _ rfl
    exact (io_long h r 0 h2 r8 H (by omega) x hx lg (by omega) ho).mono fun q w' ⟨a, b, c⟩ => ⟨a, 0, b, fun _ => rfl, c⟩
  · obtain ⟨x, hx, ho⟩ := op_at hl 15 _ rfl
    exact (io_rel H (by omega) x hx (1 - h) (by omega) ho (snO_get h 0 h2).2.2).mono fun q w' ⟨a, b, c⟩ => ⟨a, 0, b, fun _ => rfl, c⟩
  · obtain ⟨x, hx, ho⟩ := op_at hl 16 _ rfl
    exact (io_close h r 0 h2 r8 H (by omega) x hx ho).mono fun q w' ⟨a, b, c⟩ => ⟨a, 0, b, fun _ => rfl, c⟩
  · obtain ⟨x, hx, ho⟩ := op_at hl 17 _ rfl
    exact (io_cls H (by omega) x hx r r8 ho).mono fun q w' ⟨a, b, c⟩ => ⟨a, 0, b, fun _ => rfl, c⟩
  · obtain ⟨x, hx, ho⟩ := op_at hl 18 _ rfl
    exact (io_open h r 0 h2 r8 H (by omega) x hx ho).mono fun q w' ⟨a, b, c⟩ => ⟨a, 0, b, fun _ => rfl, c⟩
  · obtain ⟨x, hx, ho⟩ := op_at hl 20 _ rfl
    exact (io_mov H (by omega) x hx r r8 3 ho).mono fun q w' ⟨a, b, c⟩ => ⟨a, 0, b, fun _ => rfl, c⟩
  · obtain ⟨x, hx, ho⟩ := op_at hl 21 _ rfl
    exact (io_opcl H (by omega) x hx o r o2 r8 ho (sn0_get o o2).1).mono fun q w' ⟨a, b, c⟩ => ⟨a, 0, b, fun _ => rfl, c⟩
end
end Go.Proofs.YtjmhnlbkfbieaaaGreat
