/- ClientTrivial: the operations that are answered in one step, one by one. -/
import Derived.Test.YtjmhnlbkfbieaaaGreatTst
import Derived.Test.YtjmhnlbkfbieaaaGreatTck
import Derived.Test.YtjmhnlbkfbieaaaGreatTrf
import Derived.Test.YtjmhnlbkfbieaaaGreatClm
namespace Go.Proofs.YtjmhnlbkfbieaaaGreat
open Go.RowKit
set_option linter.unusedSectionVars false
set_option linter.unusedVariables false
set_option linter.unusedSimpArgs false
set_option maxRecDepth 100000
set_option maxHeartbeats 4000000
/-- The cells of the client of ClientTrivial. -/
def clS (gp gs C5 : Nat) (ix er tm : Int) (sc : List Value) : List Value :=
  clC 1 2 100 100 200 4 1000 0 (.slice (some ⟨gp, 0, none⟩) 22 C5) ix .nilIface er tm [] [] (.slice (some ⟨gs, 0, none⟩) 2 2) sc
theorem stp0_clS (gp gs C5 ix : Nat) (er tm : Int) (sc : List Value) : stp0 (clS gp gs C5 ix er tm sc) ix = clS gp gs C5 ((ix + 1 : Nat) : Int) 0 0 sc := rfl
theorem ans_clS (gp gs C5 : Nat) (ix er tm e t : Int) (sc : List Value) : ans (clS gp gs C5 ix er tm sc) e t = clS gp gs C5 ix e t sc := rfl
theorem set4_clS (gp gs C5 : Nat) (ix er tm : Int) (sc : List Value) (r : Nat) (a b c d : Value) : ((((clS gp gs C5 ix er tm sc).set (16 + r * 4) a).set (16 + r * 4 + 1) b).set (16 + r * 4 + 2) c).set (16 + r * 4 + 3) d = clS gp gs C5 ix er tm ((((sc.set (r * 4) a).set (r * 4 + 1) b).set (r * 4 + 2) c).set (r * 4 + 3) d) := by
  unfold clS clC
  exact set4_pre _ _ _ _ _ _ _ rfl
theorem get_clS (gp gs C5 : Nat) (ix er tm : Int) (sc : List Value) (k : Nat) : (clS gp gs C5 ix er tm sc)[16 + k]? = sc[k]? := by
  unfold clS clC
  exact get_pre _ _ _ rfl
theorem clS_len (gp gs C5 : Nat) (ix er tm : Int) (sc : List Value) : 16 ≤ (clS gp gs C5 ix er tm sc).length := by unfold clS clC; rw [List.length_append]; simp
theorem sc0_open (r : Nat) (h : Int) (hr : r < 8) : ((((sc0.set (r * 4) (.bool true)).set (r * 4 + 1) (.int .i64 h)).set (r * 4 + 2) (.int .i64 0)).set (r * 4 + 3) (.string ⟨#[]⟩)) = scO r h := by
  obtain rfl | rfl | rfl | rfl | rfl | rfl | rfl | rfl : r = 0 ∨ r = 1 ∨ r = 2 ∨ r = 3 ∨ r = 4 ∨ r = 5 ∨ r = 6 ∨ r = 7 := by omega
  all_goals rfl
theorem scO_close (r : Nat) (h : Int) (hr : r < 8) : (((((scO r h).set (r * 4) (.bool false)).set (r * 4 + 1) (.int .i64 0)).set (r * 4 + 2) (.int .i64 0)).set (r * 4 + 3) (.string ⟨#[]⟩)) = sc0 := by
  obtain rfl | rfl | rfl | rfl | rfl | rfl | rfl | rfl : r = 0 ∨ r = 1 ∨ r = 2 ∨ r = 3 ∨ r = 4 ∨ r = 5 ∨ r = 6 ∨ r = 7 := by omega
  all_goals rfl
theorem sc0_get (r : Nat) (hr : r < 8) : sc0[r * 4]? = some (.bool false) ∧ sc0[r * 4 + 1]? = some (.int .i64 0) ∧ sc0[r * 4 + 2]? = some (.int .i64 0) ∧ sc0[r * 4 + 3]? = some (.string ⟨#[]⟩) := by
  obtain rfl | rfl | rfl | rfl | rfl | rfl | rfl | rfl : r = 0 ∨ r = 1 ∨ r = 2 ∨ r = 3 ∨ r = 4 ∨ r = 5 ∨ r = 6 ∨ r = 7 := by omega
  all_goals exact ⟨rfl, rfl, rfl, rfl⟩
theorem scO_get (r : Nat) (h : Int) (hr : r < 8) : (scO r h)[r * 4]? = some (.bool true) ∧ (scO r h)[r * 4 + 1]? = some (.int .i64 h) ∧ (scO r h)[r * 4 + 2]? = some (.int .i64 0) ∧ (scO r h)[r * 4 + 3]? = some (.string ⟨#[]⟩) := by
  obtain rfl | rfl | rfl | rfl | rfl | rfl | rfl | rfl : r = 0 ∨ r = 1 ∨ r = 2 ∨ r = 3 ∨ r = 4 ∨ r = 5 ∨ r = 6 ∨ r = 7 := by omega
  all_goals exact ⟨rfl, rfl, rfl, rfl⟩
def sn0 : List Value := [.bool false, .int .u64 0, .bool false, .int .u64 0]
theorem snp0_two : snp0 2 = sn0 := by kernel_rfl
def snO (h : Nat) (tp : Int) : List Value := (sn0.set (h * 2) (.bool true)).set (h * 2 + 1) (.int .u64 tp)
theorem sn0_get (h : Nat) (hh : h < 2) : sn0[h * 2]? = some (.bool false) ∧ sn0[h * 2 + 1]? = some (.int .u64 0) := by
  obtain rfl | rfl : h = 0 ∨ h = 1 := by omega
  all_goals exact ⟨rfl, rfl⟩
theorem snO_get (h : Nat) (tp : Int) (hh : h < 2) : (snO h tp)[h * 2]? = some (.bool true) ∧ (snO h tp)[h * 2 + 1]? = some (.int .u64 tp) ∧ (snO h tp)[(1 - h) * 2]? = some (.bool false) := by
  obtain rfl | rfl : h = 0 ∨ h = 1 := by omega
  all_goals exact ⟨rfl, rfl, rfl⟩
theorem snO_close (h : Nat) (tp : Int) (hh : h < 2) : ((snO h tp).set (h * 2) (.bool false)).set (h * 2 + 1) (.int .u64 0) = sn0 := by
  obtain rfl | rfl : h = 0 ∨ h = 1 := by omega
  all_goals rfl
/-- Where the law stands: the client ahead of its operation ix, its snapshots sn and cursors sc, the memory with na accesses. -/
structure CS (w : World) (gc gs gp mb mc C5 : Nat) (l : List OV) (L : List C3) (ix : Nat) (er tm : Int) (sn sc : List Value) (na : Int) : Prop where
  cl : Blk w gc (clS gp gs C5 ix er tm sc)
  sn : Blk w gs sn
  pr : ∃ rest, Blk w gp (oCs l ++ rest)
  bt : ∀ x ∈ l, Row w (.slice x.bA x.b.length x.bc) x.b.length 3 (wCs x.b) ∧ ∀ g, (Value.slice x.bA x.b.length x.bc).ownBlock = some g → g ≠ gc ∧ g ≠ gs ∧ g ≠ mb ∧ g ≠ mc
  mem : MemAt w mb mc L na
  ne : gs ≠ gc ∧ gp ≠ gc ∧ gp ≠ gs ∧ mb ≠ gc ∧ mc ≠ gc ∧ mb ≠ gs ∧ mc ≠ gs ∧ mb ≠ gp ∧ mc ≠ gp
theorem CS.keeps {w w' : World} {gc gs gp mb mc C5 : Nat} {l : List OV} {L : List C3} {ix : Nat} {er tm : Int} {sn sc : List Value} {na : Int} (h : CS w gc gs gp mb mc C5 l L ix er tm sn sc na) (k : Keeps [] w w') : CS w' gc gs gp mb mc C5 l L ix er tm sn sc na := by
  obtain ⟨rest, hp⟩ := h.pr
  exact ⟨k.blk h.cl (by simp), k.blk h.sn (by simp), ⟨rest, k.blk hp (by simp)⟩, fun x hx => ⟨(h.bt x hx).1.keeps k (by simp), (h.bt x hx).2⟩, h.mem.keeps k (by simp) (by simp), h.ne⟩
section
variable {w : World} {gc gs gp mb mc C5 : Nat} {l : List OV} {L : List C3} {ix : Nat} {er tm : Int} {sn sc : List Value} {na : Int}
theorem imm_step (H : CS w gc gs gp mb mc C5 l L ix er tm sn sc na) (hix : ix < 22) (x : OV) (hx : l[ix]? = some x) (sc' : List Value) (e t : Int)
    (hst : ∀ W, Keeps [gc] w W → Blk W gc (clS gp gs C5 ((ix + 1 : Nat) : Int) 0 0 sc) → Blk W gs sn → Row W (.slice x.bA x.b.length x.bc) x.b.length 3 (wCs x.b) →
      Calls Tryz.prog 25 #[.pointer (some ⟨gc, 0, none⟩), .agg #[.int .i64 x.c, .string ⟨x.k.toArray⟩, .int .u64 (x.t : Int), .slice x.bA x.b.length x.bc, .int .i64 x.h, .int .i64 x.u, .int .i64 x.m]] W (StQ gc (clS gp gs C5 ((ix + 1 : Nat) : Int) 0 0 sc') e t W)) :
    Calls Tryz.prog 14 #[.pointer (some ⟨gc, 0, none⟩), .pointer (some ⟨mb, 0, none⟩)] w fun q w' => q = .returned (.agg #[.bool true, .bool true, .bool true]) ∧ CS w' gc gs gp mb mc C5 l L (ix + 1) e t sn sc' na ∧ Keeps [gc] w w' := by
  obtain ⟨rest, hp⟩ := H.pr
  obtain ⟨n1, n2, n3, n4, n5, n6, n7, n8, n9⟩ := H.ne
  have hop : ∀ j (u : Value), j < 7 → (oC x)[j]? = some u → w.cell? ⟨gp, ix * 7 + j, none⟩ = some u := fun j u hj hu => by
    rw [hp.cell, oCs_cells l rest ix x hx j hj]; exact hu
  have hxm := List.mem_of_getElem? hx
  have hs := step_imm w gc gp 22 C5 ix (clS gp gs C5 ix er tm sc) x.bA x.b.length x.bc (.pointer (some ⟨mb, 0, none⟩)) x.c x.h x.u x.m (x.t : Int) x.k.toArray [gc] (fun cs2 _ => cs2 = clS gp gs C5 ((ix + 1 : Nat) : Int) 0 0 sc') e t H.cl (clS_len _ _ _ _ _ _ _) ⟨by simp, by intro j hj; simp at hj; subst hj; exact H.cl.lt⟩
    rfl rfl rfl hix (by omega) n2
    ⟨hop 0 _ (by omega) rfl, hop 1 _ (by omega) rfl, hop 2 _ (by omega) rfl, hop 3 _ (by omega) rfl, hop 4 _ (by omega) rfl, hop 5 _ (by omega) rfl, hop 6 _ (by omega) rfl⟩
    (fun W kW bW => by
      rw [stp0_clS] at bW
      refine (hst W kW bW (kW.blk H.sn (by simp; exact n1)) ((H.bt x hxm).1.keeps kW (fun g hg hm => by simp at hm; exact ((H.bt x hxm).2 g hg).1 hm))).mono ?_
      rintro q w' ⟨rfl, b, k⟩
      exact ⟨rfl, _, b, clS_len _ _ _ _ _ _ _, rfl, k⟩)
    (fun _ _ _ h _ => h) (fun _ _ _ _ h _ _ => h)
  refine hs.mono ?_
  rintro q w' ⟨rfl, cs2, b, rfl, k⟩
  exact ⟨rfl, ⟨by rw [ans_clS] at b; exact b, k.blk H.sn (by simp; exact n1), ⟨rest, k.blk hp (by simp; exact n2)⟩, fun y hy => ⟨(H.bt y hy).1.keeps k (fun g hg hm => by simp at hm; exact ((H.bt y hy).2 g hg).1 hm), (H.bt y hy).2⟩, H.mem.keeps k (by simp; exact n4) (by simp; exact n5), H.ne⟩, k⟩
theorem opx {x : OV} {c : Nat} {k : Str} {t : Nat} {b : List Wrt} {h u m : Int} (hx : x.op = ⟨c, k, t, b, h, u, m⟩) (hc : 1 ≤ c) : x.c = (c : Int) ∧ x.k = k ∧ x.t = t ∧ x.b = b ∧ x.h = h ∧ x.u = u ∧ x.m = m := by
  obtain ⟨xc, xk, xt, xA, xcc, xb, xh, xu, xm⟩ := x
  simp only [OV.op, Opn.mk.injEq] at hx
  obtain ⟨hx1, rfl, rfl, rfl, rfl, rfl, rfl⟩ := hx
  refine ⟨?_, rfl, rfl, rfl, rfl, rfl, rfl⟩
  show xc = (c : Int)
  omega
/-- OpRelease of a closed snapshot. -/
theorem io_rel (H : CS w gc gs gp mb mc C5 l L ix er tm sn sc na) (hix : ix < 22) (x : OV) (hx : l[ix]? = some x) (h : Nat) (hh : h < 2) (ho : x.op = ⟨5, [], 0, [], h, 0, 0⟩) (hs : sn[h * 2]? = some (.bool false)) :
    Calls Tryz.prog 14 #[.pointer (some ⟨gc, 0, none⟩), .pointer (some ⟨mb, 0, none⟩)] w fun q w' => q = .returned (.agg #[.bool true, .bool true, .bool true]) ∧ CS w' gc gs gp mb mc C5 l L (ix + 1) 6 0 sn sc na ∧ Keeps [gc] w w' := by
  obtain ⟨e1, e2, e3, e4, e5, e6, e7⟩ := opx ho (by omega)
  refine imm_step H hix x hx sc 6 0 fun W kW bW bS hR => ?_
  rw [e1, e2, e3, e4, e5, e6, e7]
  exact start_rlcl W gc gs 2 _ sn x.bA _ x.bc #[] 0 0 h 0 hh bW bS rfl hs
/-- OpSnapshot of an open one. -/
theorem io_snap (H : CS w gc gs gp mb mc C5 l L ix er tm sn sc na) (hix : ix < 22) (x : OV) (hx : l[ix]? = some x) (h : Nat) (hh : h < 2) (ho : x.op = ⟨4, [], 0, [], h, 0, 0⟩) (hs : sn[h * 2]? = some (.bool true)) :
    Calls Tryz.prog 14 #[.pointer (some ⟨gc, 0, none⟩), .pointer (some ⟨mb, 0, none⟩)] w fun q w' => q = .returned (.agg #[.bool true, .bool true, .bool true]) ∧ CS w' gc gs gp mb mc C5 l L (ix + 1) 7 0 sn sc na ∧ Keeps [gc] w w' := by
  obtain ⟨e1, e2, e3, e4, e5, e6, e7⟩ := opx ho (by omega)
  refine imm_step H hix x hx sc 7 0 fun W kW bW bS hR => ?_
  rw [e1, e2, e3, e4, e5, e6, e7]
  exact start_snop W gc gs 2 _ sn x.bA _ x.bc #[] 0 0 h 0 hh bW bS rfl hs
/-- OpGet, OpGetAt with long keys. -/
theorem io_get (H : CS w gc gs gp mb mc C5 l L ix er tm sn sc na) (hix : ix < 22) (x : OV) (hx : l[ix]? = some x) (k : Str) (hk : 32 < k.length) (ho : x.op = ⟨1, k, 0, [], 0, 0, 0⟩) :
    Calls Tryz.prog 14 #[.pointer (some ⟨gc, 0, none⟩), .pointer (some ⟨mb, 0, none⟩)] w fun q w' => q = .returned (.agg #[.bool true, .bool true, .bool true]) ∧ CS w' gc gs gp mb mc C5 l L (ix + 1) 8 0 sn sc na ∧ Keeps [gc] w w' := by
  obtain ⟨e1, e2, e3, e4, e5, e6, e7⟩ := opx ho (by omega)
  refine imm_step H hix x hx sc 8 0 fun W kW bW bS hR => ?_
  rw [e1, e2, e3, e4, e5, e6, e7]
  exact start_get1 W gc gs 2 _ sn x.bA _ x.bc k.toArray 0 0 0 0 (by simpa using hk) bW bS
theorem io_getAt (H : CS w gc gs gp mb mc C5 l L ix er tm sn sc na) (hix : ix < 22) (x : OV) (hx : l[ix]? = some x) (k : Str) (hk : 32 < k.length) (ho : x.op = ⟨2, k, 9, [], 0, 0, 0⟩) :
    Calls Tryz.prog 14 #[.pointer (some ⟨gc, 0, none⟩), .pointer (some ⟨mb, 0, none⟩)] w fun q w' => q = .returned (.agg #[.bool true, .bool true, .bool true]) ∧ CS w' gc gs gp mb mc C5 l L (ix + 1) 8 0 sn sc na ∧ Keeps [gc] w w' := by
  obtain ⟨e1, e2, e3, e4, e5, e6, e7⟩ := opx ho (by omega)
  refine imm_step H hix x hx sc 8 0 fun W kW bW bS hR => ?_
  rw [e1, e2, e3, e4, e5, e6, e7]
  exact start_get2 W gc gs 2 _ sn x.bA _ x.bc k.toArray 9 0 0 0 (by simpa using hk) bW bS
/-- OpApply of a batch that Check refuses. -/
theorem io_apply (H : CS w gc gs gp mb mc C5 l L ix er tm sn sc na) (hix : ix < 22) (x : OV) (hx : l[ix]? = some x) (b : List Wrt) (e : Int) (hb : b.length ≤ 1000) (he : checkR 8 1 b = e) (h0 : e ≠ 0) (ho : x.op = ⟨3, [], 0, b, 0, 0, 0⟩) :
    Calls Tryz.prog 14 #[.pointer (some ⟨gc, 0, none⟩), .pointer (some ⟨mb, 0, none⟩)] w fun q w' => q = .returned (.agg #[.bool true, .bool true, .bool true]) ∧ CS w' gc gs gp mb mc C5 l L (ix + 1) e 0 sn sc na ∧ Keeps [gc] w w' := by
  obtain ⟨e1, e2, e3, e4, e5, e6, e7⟩ := opx ho (by omega)
  refine imm_step H hix x hx sc e 0 fun W kW bW bS hR => ?_
  rw [e4] at hR
  rw [e1, e2, e3, e4, e5, e6, e7]
  exact start_apply W gc gs 2 _ sn x.bA _ x.bc #[] 0 0 0 0 e h0 bW bS fun V kV => norm_err b (by omega) _ V (hR.keeps kV (by simp)).lst e he h0
/-- OpMove, OpClose of a closed cursor. -/
theorem io_mov (H : CS w gc gs gp mb mc C5 l L ix er tm sn sc0 na) (hix : ix < 22) (x : OV) (hx : l[ix]? = some x) (r : Nat) (hr : r < 8) (m : Int) (ho : x.op = ⟨7, [], 0, [], 0, r, m⟩) :
    Calls Tryz.prog 14 #[.pointer (some ⟨gc, 0, none⟩), .pointer (some ⟨mb, 0, none⟩)] w fun q w' => q = .returned (.agg #[.bool true, .bool true, .bool true]) ∧ CS w' gc gs gp mb mc C5 l L (ix + 1) 6 0 sn sc0 na ∧ Keeps [gc] w w' := by
  obtain ⟨e1, e2, e3, e4, e5, e6, e7⟩ := opx ho (by omega)
  refine imm_step H hix x hx sc0 6 0 fun W kW bW bS hR => ?_
  rw [e1, e2, e3, e4, e5, e6, e7]
  exact start_cur7 W gc gs 2 _ sn x.bA _ x.bc #[] 0 m 0 r 6 0 _ bW bS fun V kV => scu_cl7 V gc gs 2 _ sn x.bA _ x.bc #[] 0 m 0 r hr (kV.blk bW (by simp)) (kV.blk bS (by simp)) (by rw [get_clS]; exact (sc0_get r hr).1)
theorem io_cls (H : CS w gc gs gp mb mc C5 l L ix er tm sn sc0 na) (hix : ix < 22) (x : OV) (hx : l[ix]? = some x) (r : Nat) (hr : r < 8) (ho : x.op = ⟨8, [], 0, [], 0, r, 0⟩) :
    Calls Tryz.prog 14 #[.pointer (some ⟨gc, 0, none⟩), .pointer (some ⟨mb, 0, none⟩)] w fun q w' => q = .returned (.agg #[.bool true, .bool true, .bool true]) ∧ CS w' gc gs gp mb mc C5 l L (ix + 1) 6 0 sn sc0 na ∧ Keeps [gc] w w' := by
  obtain ⟨e1, e2, e3, e4, e5, e6, e7⟩ := opx ho (by omega)
  refine imm_step H hix x hx sc0 6 0 fun W kW bW bS hR => ?_
  rw [e1, e2, e3, e4, e5, e6, e7]
  exact start_cur8 W gc gs 2 _ sn x.bA _ x.bc #[] 0 0 0 r 6 0 _ bW bS fun V kV => scu_cl8 V gc gs 2 _ sn x.bA _ x.bc #[] 0 0 0 r hr (kV.blk bW (by simp)) (kV.blk bS (by simp)) (by rw [get_clS]; exact (sc0_get r hr).1)
/-- OpOpen on a closed snapshot. -/
theorem io_opcl (H : CS w gc gs gp mb mc C5 l L ix er tm sn sc na) (hix : ix < 22) (x : OV) (hx : l[ix]? = some x) (h r : Nat) (hh : h < 2) (hr : r < 8) (ho : x.op = ⟨6, [], 0, [], h, r, 0⟩) (hs : sn[h * 2]? = some (.bool false)) :
    Calls Tryz.prog 14 #[.pointer (some ⟨gc, 0, none⟩), .pointer (some ⟨mb, 0, none⟩)] w fun q w' => q = .returned (.agg #[.bool true, .bool true, .bool true]) ∧ CS w' gc gs gp mb mc C5 l L (ix + 1) 6 0 sn sc na ∧ Keeps [gc] w w' := by
  obtain ⟨e1, e2, e3, e4, e5, e6, e7⟩ := opx ho (by omega)
  refine imm_step H hix x hx sc 6 0 fun W kW bW bS hR => ?_
  rw [e1, e2, e3, e4, e5, e6, e7]
  exact start_cur6 W gc gs 2 _ sn x.bA _ x.bc #[] 0 0 h r 6 0 _ bW bS fun V kV => scu_opcl V gc gs 2 _ sn x.bA _ x.bc #[] 0 0 h r hr hh (kV.blk bW (by simp)) (kV.blk bS (by simp)) rfl hs
/-- OpOpen of an open cursor. -/
theorem io_opop (h r : Nat) (tp : Int) (hh : h < 2) (hr : r < 8) (H : CS w gc gs gp mb mc C5 l L ix er tm (snO h tp) (scO r h) na) (hix : ix < 22) (x : OV) (hx : l[ix]? = some x) (ho : x.op = ⟨6, [], 0, [], h, r, 0⟩) :
    Calls Tryz.prog 14 #[.pointer (some ⟨gc, 0, none⟩), .pointer (some ⟨mb, 0, none⟩)] w fun q w' => q = .returned (.agg #[.bool true, .bool true, .bool true]) ∧ CS w' gc gs gp mb mc C5 l L (ix + 1) 7 0 (snO h tp) (scO r h) na ∧ Keeps [gc] w w' := by
  obtain ⟨e1, e2, e3, e4, e5, e6, e7⟩ := opx ho (by omega)
  refine imm_step H hix x hx (scO r h) 7 0 fun W kW bW bS hR => ?_
  rw [e1, e2, e3, e4, e5, e6, e7]
  exact start_cur6 W gc gs 2 _ (snO h tp) x.bA _ x.bc #[] 0 0 h r 7 0 _ bW bS fun V kV => scu_opop V gc gs 2 _ (snO h tp) x.bA _ x.bc #[] 0 0 h r hr hh (kV.blk bW (by simp)) (kV.blk bS (by simp)) rfl (snO_get h tp hh).1 (by rw [get_clS]; exact (scO_get r h hr).1)
/-- OpOpen. -/
theorem io_open (h r : Nat) (tp : Int) (hh : h < 2) (hr : r < 8) (H : CS w gc gs gp mb mc C5 l L ix er tm (snO h tp) sc0 na) (hix : ix < 22) (x : OV) (hx : l[ix]? = some x) (ho : x.op = ⟨6, [], 0, [], h, r, 0⟩) :
    Calls Tryz.prog 14 #[.pointer (some ⟨gc, 0, none⟩), .pointer (some ⟨mb, 0, none⟩)] w fun q w' => q = .returned (.agg #[.bool true, .bool true, .bool true]) ∧ CS w' gc gs gp mb mc C5 l L (ix + 1) 0 tp (snO h tp) (scO r h) na ∧ Keeps [gc] w w' := by
  obtain ⟨e1, e2, e3, e4, e5, e6, e7⟩ := opx ho (by omega)
  have n1 := H.ne.1
  refine imm_step H hix x hx (scO r h) 0 tp fun W kW bW bS hR => ?_
  rw [e1, e2, e3, e4, e5, e6, e7]
  refine start_cur6 W gc gs 2 _ (snO h tp) x.bA _ x.bc #[] 0 0 h r 0 tp _ bW bS fun V kV => ?_
  have hg := sc0_get r hr
  have := scu_opok V gc gs 2 (clS gp gs C5 ((ix + 1 : Nat) : Int) 0 0 sc0) (snO h tp) x.bA 0 x.bc #[] 0 0 h r tp _ _ _ hr hh n1 (kV.blk bW (by simp)) (kV.blk bS (by simp)) rfl ⟨(snO_get h tp hh).1, (snO_get h tp hh).2.1⟩ (by rw [get_clS]; exact hg.1) (by rw [Nat.add_assoc, get_clS]; exact hg.2.1) (by rw [Nat.add_assoc, get_clS]; exact hg.2.2.1) (by rw [Nat.add_assoc, get_clS]; exact hg.2.2.2)
  rw [set4_clS, sc0_open r h hr] at this
  exact this
/-- OpMove of an open cursor to a long key. -/
theorem io_long (h r : Nat) (tp : Int) (hh : h < 2) (hr : r < 8) (H : CS w gc gs gp mb mc C5 l L ix er tm (snO h tp) (scO r h) na) (hix : ix < 22) (x : OV) (hx : l[ix]? = some x) (k : Str) (hk : 32 < k.length) (ho : x.op = ⟨7, k, 0, [], 0, r, 0⟩) :
    Calls Tryz.prog 14 #[.pointer (some ⟨gc, 0, none⟩), .pointer (some ⟨mb, 0, none⟩)] w fun q w' => q = .returned (.agg #[.bool true, .bool true, .bool true]) ∧ CS w' gc gs gp mb mc C5 l L (ix + 1) 8 0 (snO h tp) (scO r h) na ∧ Keeps [gc] w w' := by
  obtain ⟨e1, e2, e3, e4, e5, e6, e7⟩ := opx ho (by omega)
  refine imm_step H hix x hx (scO r h) 8 0 fun W kW bW bS hR => ?_
  rw [e1, e2, e3, e4, e5, e6, e7]
  exact start_cur7 W gc gs 2 _ (snO h tp) x.bA _ x.bc k.toArray 0 0 0 r 8 0 _ bW bS fun V kV => scu_long V gc gs 2 _ (snO h tp) x.bA _ x.bc k.toArray 0 0 0 r h tp hr hh (by simpa using hk) (kV.blk bW (by simp)) (kV.blk bS (by simp)) rfl (by rw [get_clS]; exact (scO_get r h hr).1) (by rw [Nat.add_assoc, get_clS]; exact (scO_get r h hr).2.1) (snO_get h tp hh).2.1
/-- OpClose. -/
theorem io_close (h r : Nat) (tp : Int) (hh : h < 2) (hr : r < 8) (H : CS w gc gs gp mb mc C5 l L ix er tm (snO h tp) (scO r h) na) (hix : ix < 22) (x : OV) (hx : l[ix]? = some x) (ho : x.op = ⟨8, [], 0, [], 0, r, 0⟩) :
    Calls Tryz.prog 14 #[.pointer (some ⟨gc, 0, none⟩), .pointer (some ⟨mb, 0, none⟩)] w fun q w' => q = .returned (.agg #[.bool true, .bool true, .bool true]) ∧ CS w' gc gs gp mb mc C5 l L (ix + 1) 0 tp (snO h tp) sc0 na ∧ Keeps [gc] w w' := by
  obtain ⟨e1, e2, e3, e4, e5, e6, e7⟩ := opx ho (by omega)
  have n1 := H.ne.1
  refine imm_step H hix x hx sc0 0 tp fun W kW bW bS hR => ?_
  rw [e1, e2, e3, e4, e5, e6, e7]
  refine start_cur8 W gc gs 2 _ (snO h tp) x.bA _ x.bc #[] 0 0 0 r 0 tp _ bW bS fun V kV => ?_
  have hg := scO_get r (h : Int) hr
  have := scu_close V gc gs 2 (clS gp gs C5 ((ix + 1 : Nat) : Int) 0 0 (scO r h)) (snO h tp) x.bA 0 x.bc #[] 0 0 0 r h tp _ _ hr hh n1 (kV.blk bW (by simp)) (kV.blk bS (by simp)) rfl (by rw [get_clS]; exact hg.1) (by rw [Nat.add_assoc, get_clS]; exact hg.2.1) (by rw [Nat.add_assoc, get_clS]; exact hg.2.2.1) (by rw [Nat.add_assoc, get_clS]; exact hg.2.2.2) (snO_get h tp hh).2.1
  rw [set4_clS, scO_close r h hr] at this
  exact this
end
end Go.Proofs.YtjmhnlbkfbieaaaGreat
