/- The contract of blinktreelaw22.awake. -/
import Derived.Test.YtjmhnlbkfbieaaaGreatStv
import Derived.Test.YtjmhnlbkfbieaaaGreatClm
import Derived.Test.YtjmhnlbkfbieaaaGreatKon
import Derived.Test.YtjmhnlbkfbieaaaGreatMemory
namespace Go.Proofs.YtjmhnlbkfbieaaaGreat
open Go.RowKit
set_option linter.unusedSectionVars false
set_option linter.unusedVariables false
set_option linter.unusedSimpArgs false
set_option maxRecDepth 100000
set_option maxHeartbeats 4000000
theorem answer_any (w : World) (gc : Nat) (cs : List Value) (e t : Int) (b : Blk w gc cs) (h : cs[11]? = some (.int .i64 e) ∧ cs[12]? = some (.int .u64 t) ∧ cs[13]? = some (.string ⟨#[]⟩) ∧ cs[14]? = some (.string ⟨#[]⟩)) :
    Calls Tryz.prog 15 #[.pointer (some ⟨gc, 0, none⟩)] w fun q w' => q = .returned (.agg #[.int .i64 e, .int .u64 t, .string ⟨#[]⟩, .string ⟨#[]⟩]) ∧ Keeps [] w w' := by
  obtain ⟨h0, h1, h2, h3⟩ := h
  have ka := (Keeps.refl [] w).alloc (.cells #[.int .i64 0, .int .u64 0, .string ⟨#[]⟩, .string ⟨#[]⟩] 52)
  have b2 := ka.blk b (by simp)
  have f0 := (b2.cell 11).trans h0
  have f1 := (b2.cell 12).trans h1
  have f2 := (b2.cell 13).trans h2
  have f3 := (b2.cell 14).trans h3
  have bx := Blk.new w [.int .i64 0, .int .u64 0, .string ⟨#[]⟩, .string ⟨#[]⟩] 52
  go_enter Tryz.func15, Tryz.ntmps15
  go_wp2_with fail
  refine bodyPost_ret (results_blk (cs := [.int .i64 e, .int .u64 t, .string ⟨#[]⟩, .string ⟨#[]⟩]) rfl _ _ w.heap.size _ rfl (Blk.new w [.int .i64 e, .int .u64 t, .string ⟨#[]⟩, .string ⟨#[]⟩] 52) Tryz.underlying52 sizA) rfl ?_
  exact ⟨rfl, (Keeps.refl _ _).alloc _⟩
theorem awc_prog {w : World} {A5 : Option Addr} {C5 : Nat} {l : List OV} (h : Row w (.slice A5 2 C5) 2 7 (oCs l)) (hl : l.map OV.op = [⟨6, [], 0, [], 0, 0, 0⟩, ⟨4, [], 0, [], 0, 0, 0⟩]) :
    ∃ (gp : Nat) (B1 : Option Addr) (c1 : Nat) (B2 : Option Addr) (c2 : Nat) (rest : List Value), A5 = some ⟨gp, 0, none⟩ ∧ Blk w gp ([.int .i64 6, .string ⟨#[]⟩, .int .u64 0, .slice B1 0 c1, .int .i64 0, .int .i64 0, .int .i64 0, .int .i64 4, .string ⟨#[]⟩, .int .u64 0, .slice B2 0 c2, .int .i64 0, .int .i64 0, .int .i64 0] ++ rest) := by
  obtain ⟨_, h | ⟨g, cap, rest, hv, hb, _⟩⟩ := h
  · exact absurd h.2 (by omega)
  · match l, hl with
    | [x, y], hl =>
      simp only [List.map_cons, List.map_nil, List.cons.injEq, and_true] at hl
      obtain ⟨hx, hy⟩ := hl
      obtain ⟨xc, xk, xt, xA, xcc, xb, xh, xu, xm⟩ := x
      obtain ⟨yc, yk, yt, yA, ycc, yb, yh, yu, ym⟩ := y
      simp only [OV.op, Opn.mk.injEq] at hx hy
      obtain ⟨hx1, rfl, rfl, rfl, rfl, rfl, rfl⟩ := hx
      obtain ⟨hy1, rfl, rfl, rfl, rfl, rfl, rfl⟩ := hy
      obtain rfl : xc = 6 := by omega
      obtain rfl : yc = 4 := by omega
      injection hv with hv1 _ _
      exact ⟨g, xA, xcc, yA, ycc, rest, hv1, hb⟩
theorem eqEv (a b c : Bool) (x y z : Bool) (w : World) : (binOp .eql 49 (.agg #[.bool a, .bool b, .bool c]) (.agg #[.bool x, .bool y, .bool z])).run Tryz.prog w = .ok (.bool ((a == x) && (b == y) && (c == z))) w := by
  cases a <;> cases b <;> cases c <;> cases x <;> cases y <;> cases z <;> kernel_rfl
@[go_sem] theorem eqEv1 (w : World) : (binOp .eql 49 (.agg #[.bool true, .bool true, .bool true]) (.agg #[.bool true, .bool true, .bool true])).run Tryz.prog w = .ok (.bool true) w := by kernel_rfl
@[go_sem] theorem eqEv2 (w : World) : (binOp .eql 49 (.agg #[.bool true, .bool false, .bool false]) (.agg #[.bool true, .bool false, .bool false])).run Tryz.prog w = .ok (.bool true) w := by kernel_rfl
@[go_sem] theorem eqAn1 (w : World) : (binOp .eql 52 (.agg #[.int .i64 6, .int .u64 0, .string ⟨#[]⟩, .string ⟨#[]⟩]) (.agg #[.int .i64 6, .int .u64 0, .string ⟨#[]⟩, .string ⟨#[]⟩])).run Tryz.prog w = .ok (.bool true) w := by kernel_rfl
@[go_sem] theorem ptr_eql_nil_cli (m : Nat) (w : World) : (binOp .eql 39 (.pointer (some ⟨m, 0, none⟩)) (.pointer none)).run Tryz.prog w = .ok (.bool false) w := by kernel_rfl
theorem cfg1 : CfgOK 1 2 100 100 200 4 1000 := ⟨by omega, by omega, by omega, by omega, by omega, by omega, by omega, by omega, by omega, by omega, by omega, by omega, by omega, by omega⟩
theorem awc_any (w : World) : Calls Tryz.prog 8 #[] w fun q w' => q = .returned (.bool true) ∧ Keeps [] w w' := by
  go_enter Tryz.func8, Tryz.ntmps8
  go_wp2_with fail
  refine (config_kit 1 0 (by omega) (by omega) _).mono ?_
  rintro q w1 ⟨rfl, k1⟩
  rw [show (4 : Int) + 0 % 3 = 4 from rfl]
  go_wp2_with fail
  refine (kitMemory_yes 1 2 100 100 200 4 1000 cfg1 1510 (by decide) _).mono ?_
  rintro q w2 ⟨mb, mc, rfl, hm2, hmb, hmc, k2⟩
  have K2 := k1.trans k2 (by simp)
  have hs1 := k1.size
  have bL := Blk.new w2 [.int .i64 1, .int .i64 2, .int .i64 100, .int .i64 100, .int .i64 200, .int .i64 4, .int .u64 1000] 31
  go_wp2_with fail
  have kB := ((Keeps.refl [] w2).alloc (.cells #[.int .i64 1, .int .i64 2, .int .i64 100, .int .i64 100, .int .i64 200, .int .i64 4, .int .u64 1000] 31)).alloc (.cells #[.int .i64 6, .string ⟨#[]⟩, .int .u64 0, .slice none 0 0, .int .i64 0, .int .i64 0, .int .i64 0, .int .i64 4, .string ⟨#[]⟩, .int .u64 0, .slice none 0 0, .int .i64 0, .int .i64 0, .int .i64 0] 25)
  have bP := Blk.new_at (w2.alloc (.cells #[.int .i64 1, .int .i64 2, .int .i64 100, .int .i64 100, .int .i64 200, .int .i64 4, .int .u64 1000] 31)) (w2.heap.size + 1) [.int .i64 6, .string ⟨#[]⟩, .int .u64 0, .slice none 0 0, .int .i64 0, .int .i64 0, .int .i64 0, .int .i64 4, .string ⟨#[]⟩, .int .u64 0, .slice none 0 0, .int .i64 0, .int .i64 0, .int .i64 0] 25 (by simp)
  change Blk ((w2.alloc (.cells #[.int .i64 1, .int .i64 2, .int .i64 100, .int .i64 100, .int .i64 200, .int .i64 4, .int .u64 1000] 31)).alloc (.cells #[.int .i64 6, .string ⟨#[]⟩, .int .u64 0, .slice none 0 0, .int .i64 0, .int .i64 0, .int .i64 0, .int .i64 4, .string ⟨#[]⟩, .int .u64 0, .slice none 0 0, .int .i64 0, .int .i64 0, .int .i64 0] 25)) _ _ at bP
  obtain ⟨W3, hW3⟩ : ∃ W3, (w2.alloc (.cells #[.int .i64 1, .int .i64 2, .int .i64 100, .int .i64 100, .int .i64 200, .int .i64 4, .int .u64 1000] 31)).alloc (.cells #[.int .i64 6, .string ⟨#[]⟩, .int .u64 0, .slice none 0 0, .int .i64 0, .int .i64 0, .int .i64 0, .int .i64 4, .string ⟨#[]⟩, .int .u64 0, .slice none 0 0, .int .i64 0, .int .i64 0, .int .i64 0] 25) = W3 := ⟨_, rfl⟩
  obtain ⟨g1, hg1⟩ : ∃ g1, w2.heap.size + 1 = g1 := ⟨_, rfl⟩
  rw [hW3] at kB bP ⊢
  rw [hg1] at bP ⊢
  have hm3 := hm2.keeps kB (by simp) (by simp)
  have K3 := K2.trans kB (by simp)
  have HM := Lib.hid (And.intro hmb (And.intro hmc hs1))
  clear hW3 hg1 k1 k2 K2 kB bL hm2 hmb hmc hs1
  have hc : Calls Tryz.prog 11 #[.agg #[.int .i64 1, .int .i64 2, .int .i64 100, .int .i64 100, .int .i64 200, .int .i64 4, .int .u64 1000], .int .i64 0, .slice (some ⟨g1, 0, none⟩) 2 2] W3 (CNewS W3 1 2 100 100 200 4 1000 0 [⟨6, [], 0, none, 0, [], 0, 0, 0⟩, ⟨4, [], 0, none, 0, [], 0, 0, 0⟩] (vProg 2 ([⟨6, [], 0, none, 0, [], 0, 0, 0⟩, ⟨4, [], 0, none, 0, [], 0, 0, 0⟩].map OV.op))) :=
    cnew_st 1 2 100 100 200 4 1000 cfg1 0 ⟨by omega, by omega⟩ [⟨6, [], 0, none, 0, [], 0, 0, 0⟩, ⟨4, [], 0, none, 0, [], 0, 0, 0⟩] (by simp) (by intro x hx; simp at hx; rcases hx with rfl | rfl <;> simp) (some ⟨g1, 0, none⟩) 2 W3 (Lst.blk (rest := []) bP) (by intro x hx; simp at hx; rcases hx with rfl | rfl <;> exact Lst.nil _)
  refine hc.mono ?_
  rintro q w4 ⟨k4, hq⟩
  rw [if_pos (by decide)] at hq
  obtain ⟨gc, gs, s, l, A5, C5, hs, rfl, bc, bs, hgc, hgs, hne, hrow, hmap, hown⟩ := hq
  obtain rfl : s = 2 := by omega
  obtain ⟨gp, B1, c1, B2, c2, rest, rfl, bp⟩ := awc_prog hrow hmap
  have hgp := hown gp rfl
  have hm4 := hm3.keeps k4 (by simp) (by simp)
  have K4 := K3.trans k4 (by simp)
  have HG := Lib.hid (And.intro hgc (And.intro hgs (And.intro hne hgp)))
  have H3 := Lib.hid (And.intro hm3.lt K3.size)
  clear hc k4 K3 hm3 hrow hmap hown hgc hgs hne hgp bP
  go_wp2_with fail
  obtain ⟨cs0, hcs0⟩ : ∃ cs0, cs0 = (clC 1 2 100 100 200 4 1000 0 (.slice (some ⟨gp, 0, none⟩) 2 C5) 0 .nilIface 0 0 [] [] (.slice (some ⟨gs, 0, none⟩) 2 2) sc0) := ⟨_, rfl⟩
  have bc0 : Blk w4 gc cs0 := by rw [hcs0]; exact bc
  have HC : Hid (16 ≤ cs0.length ∧ cs0[0]? = some (.int .i64 1) ∧ cs0[1]? = some (.int .i64 2) ∧ cs0[2]? = some (.int .i64 100) ∧ cs0[3]? = some (.int .i64 100) ∧ cs0[4]? = some (.int .i64 200) ∧ cs0[5]? = some (.int .i64 4) ∧ cs0[6]? = some (.int .u64 1000) ∧ cs0[7]? = some (.int .i64 0) ∧
      cs0[8]? = some (.slice (some ⟨gp, 0, none⟩) 2 C5) ∧ cs0[9]? = some (.int .i64 0) ∧ cs0[10]? = some .nilIface ∧ cs0[15]? = some (.slice (some ⟨gs, 0, none⟩) 2 2)) := by
    rw [hcs0]
    exact Lib.hid ⟨by simp [clC], rfl, rfl, rfl, rfl, rfl, rfl, rfl, rfl, rfl, rfl, rfl, rfl⟩
  clear bc hcs0
  have hgpg : gp ≠ gc := HG.out.2.2.2.2.1
  have hsn : (snp0 2)[0]? = some (.bool false) := by kernel_rfl
  have hsn2 : (snp0 2)[0 * 2]? = some (.bool false) := by kernel_rfl
  have hst1 : ∀ W, Keeps [gc] w4 W → Blk W gc (stp0 cs0 0) → Calls Tryz.prog 25 #[.pointer (some ⟨gc, 0, none⟩), .agg #[.int .i64 6, .string ⟨#[]⟩, .int .u64 0, .slice B1 0 c1, .int .i64 0, .int .i64 0, .int .i64 0]] W fun q w' => q = .returned (.tuple #[.nilIface, .agg #[.int .i64 6, .int .u64 0, .string ⟨#[]⟩, .string ⟨#[]⟩]]) ∧ ∃ cs2, Blk w' gc cs2 ∧ 16 ≤ cs2.length ∧ cs2 = stp0 cs0 0 ∧ Keeps [gc] W w' := by
    intro W kW bW
    refine (start_closed W gc gs 2 (stp0 cs0 0) (snp0 2) B1 0 c1 (by omega) bW (kW.blk bs (by have := HG.out; simp; omega)) ?_ hsn).mono ?_
    · rw [stp0_get _ _ _ (by omega) (by omega) (by omega) (by omega) (by omega)]; exact HC.out.2.2.2.2.2.2.2.2.2.2.2.2
    · rintro q w' ⟨rfl, k⟩
      exact ⟨rfl, _, k.blk bW (by simp), by rw [stp0_len]; exact HC.out.1, rfl, k.mono (by simp)⟩
  have hs1 := step_imm w4 gc gp 2 C5 0 cs0 B1 0 c1 (.pointer (some ⟨mb, 0, none⟩)) 6 0 0 0 0 #[] [gc] (fun cs2 _ => cs2 = stp0 cs0 0) 6 0 bc0 HC.out.1 ⟨by simp, by intro j hj; simp at hj; subst hj; exact bc0.lt⟩
    HC.out.2.2.2.2.2.2.2.2.2.1 HC.out.2.2.2.2.2.2.2.2.2.2.1 HC.out.2.2.2.2.2.2.2.2.2.2.2.1 (by omega) (by omega) hgpg
    ⟨bp.cell 0, bp.cell 1, bp.cell 2, bp.cell 3, bp.cell 4, bp.cell 5, bp.cell 6⟩ hst1 (fun _ _ _ h _ => h) (fun _ _ _ _ h _ _ => h)
  refine hs1.mono ?_
  rintro q w5 ⟨rfl, cs2, d5, rfl, k5⟩
  clear hst1 hs1
  have bs5 := k5.blk bs (by have := HG.out; simp; omega)
  have bp5 := k5.blk bp (by have := HG.out; simp; omega)
  have hm5 := hm4.keeps k5 (by have := HG.out; have := H3.out; simp; omega) (by have := HG.out; have := H3.out; simp; omega)
  have K5 := K4.trans k5 (by intro j hj; simp at hj; subst hj; right; have := HG.out; have := H3.out; omega)
  have HS5 := Lib.hid (And.intro bc0.lt (And.intro bs.lt (And.intro bp.lt k5.size)))
  clear bs bp hm4 K4 k5 bc0
  have kV := (Keeps.refl [] w5).alloc (.cells #[.bool true, .bool true, .bool true] 49)
  have bV := Blk.new w5 [.bool true, .bool true, .bool true] 49
  have d5V := kV.blk d5 (by simp)
  go_wp2_with fail
  refine (answer_any _ gc _ 6 0 d5V ⟨?_, ?_, ?_, ?_⟩).mono ?_
  · unfold ans; rw [List.getElem?_set_ne (by omega), List.getElem?_set_ne (by omega), List.getElem?_set_ne (by omega), List.getElem?_set_self (by rw [stp0_len]; have := HC.out.1; omega)]
  · unfold ans; rw [List.getElem?_set_ne (by omega), List.getElem?_set_ne (by omega), List.getElem?_set_self (by simp only [List.length_set]; rw [stp0_len]; have := HC.out.1; omega)]
  · unfold ans; rw [List.getElem?_set_ne (by omega), List.getElem?_set_self (by simp only [List.length_set]; rw [stp0_len]; have := HC.out.1; omega)]
  · unfold ans; rw [List.getElem?_set_self (by simp only [List.length_set]; rw [stp0_len]; have := HC.out.1; omega)]
  rintro q w6 ⟨rfl, k6⟩
  have k56 := kV.trans k6 (by simp)
  have hm6 := hm5.keeps k56 (by simp) (by simp)
  have d6 := k6.blk d5V (by simp)
  have bs6 := k56.blk bs5 (by simp)
  have bp6 := k56.blk bp5 (by simp)
  have bV6 := k6.blk bV (by simp)
  have K6 := K5.trans k56 (by simp)
  have HV : Hid (w5.heap.size < w6.heap.size ∧ w5.heap.size ≤ w6.heap.size) := Lib.hid ⟨bV6.lt, k56.size⟩
  obtain ⟨g5, hg5⟩ : ∃ g5, w5.heap.size = g5 := ⟨_, rfl⟩
  have Hg5 := Lib.hid hg5
  rw [hg5] at bV6 ⊢
  clear hg5 bs5 bp5 hm5 K5 kV bV d5V d5 k6 k56
  go_wp2_with fail
  refine (accesses_any _ mb mc _ 0 hm6).mono ?_
  rintro q w7 ⟨rfl, rfl⟩
  have kU := (Keeps.refl [] w6).alloc (.cells #[.int .i64 6, .int .u64 0, .string ⟨#[]⟩, .string ⟨#[]⟩] 52)
  have bU := Blk.new w6 [.int .i64 6, .int .u64 0, .string ⟨#[]⟩, .string ⟨#[]⟩] 52
  obtain ⟨g6, hg6⟩ : ∃ g6, w6.heap.size = g6 := ⟨_, rfl⟩
  have Hg6 := Lib.hid hg6
  have hm7 := hm6.keeps kU (by simp) (by simp)
  have d7 := kU.blk d6 (by simp)
  have bs7 := kU.blk bs6 (by simp)
  have bp7 := kU.blk bp6 (by simp)
  have bV7 := kU.blk bV6 (by simp)
  have K7 := K6.trans kU (by simp)
  clear hm6 d6 bs6 bp6 bV6 K6
  go_wp2_with fail
  obtain ⟨W7, hW7⟩ : ∃ W7, w6.alloc (.cells #[.int .i64 6, .int .u64 0, .string ⟨#[]⟩, .string ⟨#[]⟩] 52) = W7 := ⟨_, rfl⟩
  rw [hW7] at kU bU hm7 d7 bs7 bp7 bV7 K7 ⊢
  rw [hg6] at bU
  have hU := kU.size
  have H6 : Hid (g5 < W7.heap.size ∧ g6 < W7.heap.size ∧ gc < g5 ∧ gc < g6 ∧ mb < gc ∧ mc < gc ∧ g5 ≠ g6 ∧ w.heap.size ≤ gc ∧ w.heap.size ≤ mb ∧ w.heap.size ≤ mc) := Lib.hid (by have := HG.out; have := H3.out; have := HV.out; have := Hg5.out; have := Hg6.out; have := HS5.out; have := bU.lt; have := bV7.lt; have := HM.out; omega)
  clear hW7 hg6 kU hU
  have hx : ∀ i, i ≠ 9 → i ≠ 11 → i ≠ 12 → i ≠ 13 → i ≠ 14 → (ans (stp0 cs0 0) 6 0)[i]? = cs0[i]? := fun i a b c d e => by rw [ans_get _ _ _ _ b c d e, stp0_get _ _ _ a b c d e]
  have hs2 := step_open W7 gc gp gs 2 2 C5 1 0 (ans (stp0 cs0 0) 6 0) (snp0 2) B2 0 c2 1 2 100 100 200 4 1000 cfg1 0 ⟨by omega, by omega⟩ mb mc _ 0 hm7 ⟨by omega, by omega⟩ (by have := H6.out; omega) d7 bs7 (HG.out.2.2.1) (by rw [ans_len, stp0_len]; exact HC.out.1) ⟨by omega, by omega⟩
    ⟨by rw [hx _ (by omega) (by omega) (by omega) (by omega) (by omega)]; exact HC.out.2.1, by rw [hx _ (by omega) (by omega) (by omega) (by omega) (by omega)]; exact HC.out.2.2.1, by rw [hx _ (by omega) (by omega) (by omega) (by omega) (by omega)]; exact HC.out.2.2.2.1, by rw [hx _ (by omega) (by omega) (by omega) (by omega) (by omega)]; exact HC.out.2.2.2.2.1, by rw [hx _ (by omega) (by omega) (by omega) (by omega) (by omega)]; exact HC.out.2.2.2.2.2.1, by rw [hx _ (by omega) (by omega) (by omega) (by omega) (by omega)]; exact HC.out.2.2.2.2.2.2.1, by rw [hx _ (by omega) (by omega) (by omega) (by omega) (by omega)]; exact HC.out.2.2.2.2.2.2.2.1⟩
    (by rw [hx _ (by omega) (by omega) (by omega) (by omega) (by omega)]; exact HC.out.2.2.2.2.2.2.2.2.1) (by rw [hx _ (by omega) (by omega) (by omega) (by omega) (by omega)]; exact HC.out.2.2.2.2.2.2.2.2.2.2.2.2) hsn2
    (by rw [hx _ (by omega) (by omega) (by omega) (by omega) (by omega)]; exact HC.out.2.2.2.2.2.2.2.2.2.1)
    (by
      rw [ans_get _ _ _ _ (by omega) (by omega) (by omega) (by omega)]
      unfold stp0
      rw [List.getElem?_set_ne (by omega), List.getElem?_set_ne (by omega), List.getElem?_set_ne (by omega), List.getElem?_set_ne (by omega), List.getElem?_set_self (by have := HC.out.1; omega)]
      rfl)
    (by rw [hx _ (by omega) (by omega) (by omega) (by omega) (by omega)]; exact HC.out.2.2.2.2.2.2.2.2.2.2.2.1) (by omega) (by omega) hgpg
    ⟨bp7.cell 7, bp7.cell 8, bp7.cell 9, bp7.cell 10, bp7.cell 11, bp7.cell 12, bp7.cell 13⟩
  refine hs2.mono ?_
  rintro q w8 ⟨rfl, k8, _⟩
  have bU8 := k8.blk bU (by have := H6.out; simp; omega)
  have bV8 := k8.blk bV7 (by have := H6.out; simp; omega)
  have K8 : Keeps [] w w8 := K7.trans k8 (by have := H6.out; simp; omega)
  have kT := (Keeps.refl [] w8).alloc (.cells #[.bool true, .bool false, .bool false] 49)
  have bT := Blk.new w8 [.bool true, .bool false, .bool false] 49
  have K9 := K8.trans kT (by simp)
  obtain ⟨x0, x1, x2, x3, xf, xl⟩ := (kT.blk bU8 (by simp)).o4
  obtain ⟨y0, y1, y2, yf, yl⟩ := (kT.blk bV8 (by simp)).o3
  obtain ⟨z0, z1, z2, zf, zl⟩ := bT.o3
  clear hs2 hx K8 k8 kT bT bU8 bV8 hm7 d7 bs7 bp7 bU bV7 K7 hsn hsn2 hgpg
  go_wp2_with fail
  go_ret
  exact ⟨rfl, K9⟩
end Go.Proofs.YtjmhnlbkfbieaaaGreat
