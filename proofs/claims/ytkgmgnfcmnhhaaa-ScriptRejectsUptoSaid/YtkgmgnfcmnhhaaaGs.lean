/- What the laws of scripts share: bytes that were written are bytes to be read, equal scripts are found equal; plain. -/
import Derived.Test.YtkgmgnfcmnhhaaaEnv
import Derived.Test.YtkgmgnfcmnhhaaaScrX
import Derived.Test.YtkgmgnfcmnhhaaaSsc
import Derived.Test.YtkgmgnfcmnhhaaaSamb
import Derived.Test.YtkgmgnfcmnhhaaaScrK
namespace Go.Proofs.Ytkgmgnfcmnhhaaa
open Go.RowKit
set_option linter.unusedSectionVars false
set_option linter.unusedVariables false
set_option linter.unusedSimpArgs false
set_option maxRecDepth 20000
theorem Bw.inB {w : World} {v : Value} {L : Str} (h : Bw w v L) : InB w v L := by
  obtain ⟨h1, ⟨rfl, h0⟩ | ⟨g, cap, rest, rfl, hb, h2, h3, h4⟩⟩ := h
  · obtain rfl : L = [] := List.eq_nil_of_length_eq_zero h0
    exact ⟨none, 0, 0, 0, rfl, fun h => absurd h (by simp), ⟨fun i hi => absurd hi (Nat.not_lt_zero i), fun h => absurd h (Nat.lt_irrefl 0)⟩, Nat.le_refl _, by omega⟩
  · refine ⟨_, cap, g, 0, rfl, fun _ => rfl, ⟨fun i hi => ?_, fun _ => hb.lt⟩, h2, by unfold maxLen at h3; omega⟩
    rw [hb.cell, Nat.zero_add, List.getElem?_append_left hi]
theorem InB.nil (w : World) : InB w (.slice none 0 0) [] := ⟨none, 0, 0, 0, rfl, fun h => absurd h (by simp), ⟨fun i hi => absurd hi (Nat.not_lt_zero i), fun h => absurd h (Nat.lt_irrefl 0)⟩, Nat.le_refl _, by omega⟩
theorem InB.keeps {w w' : World} {v : Value} {L : Str} (h : InB w v L) (k : Keeps [] w w') : InB w' v L := by
  obtain ⟨A, cap, b, o, h1, h2, h3, h4, h5⟩ := h
  exact ⟨A, cap, b, o, h1, h2, h3.keeps k (by simp), h4, h5⟩
theorem InB.lst {w : World} {v : Value} {L : Str} (h : InB w v L) : Lst w v L.length (L.map vB) := by
  obtain ⟨A, cap, b, o, h1, h2, h3, h4, h5⟩ := h
  exact ⟨A, cap, b, o, h1, h2, h3⟩
theorem InB.slice {w : World} {v : Value} {L : Str} (h : InB w v L) : ∃ A cap, v = .slice A L.length cap ∧ L.length ≤ cap ∧ cap ≤ 9223372036854775807 := by
  obtain ⟨A, cap, b, o, h1, h2, h3, h4, h5⟩ := h
  exact ⟨A, cap, h1, h4, h5⟩
/-- The first k bytes. -/
theorem InB.take {w : World} {A : Option Addr} {n cap : Nat} {L : Str} (h : InB w (.slice A n cap) L) (hn : L.length = n) (k : Nat) (hk : k ≤ n) : InB w (.slice A k cap) (L.take k) := by
  obtain ⟨A', cap', b, o, h1, h2, h3, h4, h5⟩ := h
  injection h1 with e1 e2 e3
  subst e1 e3
  have hl : (L.take k).length = k := by rw [List.length_take]; omega
  refine ⟨A, cap, b, o, by rw [hl], fun h0 => h2 (by omega), ⟨fun i hi => ?_, fun h0 => h3.lt (by simp at h0 ⊢; omega)⟩, by omega, h5⟩
  rw [List.length_map, hl] at hi
  rw [h3.cells i (by rw [List.length_map]; omega), List.getElem?_map, List.getElem?_map, List.getElem?_take, if_pos hi]
theorem valid_c : ValidC vld := fun w y h1 h2 h3 h4 h5 => valid_any w y h1 ⟨by
  have h6 := h3.2.2.2.2.2.2.2.1.1
  have h7 : y.scr.ps.length = y.ps.length := List.length_map _
  have h8 := h3.1
  omega, h4, h5⟩
theorem toNat_pos {c : Int} (h : 1 ≤ c.toNat) : 0 ≤ c := by omega
theorem ssc_same (a b : SV) (w : World) (ha : OkS w a) (hb : OkS w b) (he : a.scr = b.scr) (hta : 0 ≤ a.th) (htb : 0 ≤ b.th) (hv : vld a.scr = true) (hz : SzV a) :
    Calls Try.prog 13 #[.agg #[.int .i64 a.th, .int .i64 a.sn, .int .i64 a.no, .int .i64 a.ch, .int .i64 a.re, .int .i64 a.fa, .int .u64 (a.cl : Int), .slice a.pA a.ps.length a.pc, .slice a.kA a.pk.length a.kc], .agg #[.int .i64 b.th, .int .i64 b.sn, .int .i64 b.no, .int .i64 b.ch, .int .i64 b.re, .int .i64 b.fa, .int .u64 (b.cl : Int), .slice b.pA b.ps.length b.pc, .slice b.kA b.pk.length b.kc]] w fun q w' => q = .returned (.bool true) ∧ Keeps [] w w' := by
  have hvb : vld b.scr = true := by rw [← he]; exact hv
  have hca : ∀ p ∈ a.ps, ∀ x ∈ p.2, 0 ≤ x.c := fun p hp x hx => toNat_pos (vOp_code (vld_op hv (List.mem_map.2 ⟨p, hp, rfl⟩) (List.mem_map.2 ⟨x, hx, rfl⟩))).1
  have hcb : ∀ p ∈ b.ps, ∀ x ∈ p.2, 0 ≤ x.c := fun p hp x hx => toNat_pos (vOp_code (vld_op hvb (List.mem_map.2 ⟨p, hp, rfl⟩) (List.mem_map.2 ⟨x, hx, rfl⟩))).1
  obtain ⟨th, sn, no, ch, re, fa, cl, pA, pc, ps, kA, kc, pk⟩ := a
  obtain ⟨th', sn', no', ch', re', fa', cl', pA', pc', ps', kA', kc', pk'⟩ := b
  simp only [SV.scr, Scr.mk.injEq] at he
  obtain ⟨e1, e2, e3, e4, e5, e6, e7, e8, e9⟩ := he
  simp only at hta htb hca hcb
  obtain rfl : th = th' := by omega
  subst e2 e3 e4 e5 e6 e7 e9
  have hl : ps.length = ps'.length := by have := congrArg List.length e8; simpa using this
  refine ssc_any th sn no ch re fa cl pA pA' kA kA' pc pc' kc kc' ps ps' pk w ha hb ⟨hl, fun i p q hp hq => ?_⟩ hz.1 hz.2.2
  have h1 : (ps.map fun p => p.2.map OV.op)[i]? = (ps'.map fun p => p.2.map OV.op)[i]? := by rw [e8]
  rw [List.getElem?_map, List.getElem?_map, hp, hq] at h1
  simp only [Option.map_some, Option.some.injEq] at h1
  have hlen : p.2.length = q.2.length := by have := congrArg List.length h1; simpa using this
  have hpm := List.mem_of_getElem? hp
  refine ⟨hlen, (hz.2.1 p hpm).1, fun j x y hx hy => ?_⟩
  have h2 : (p.2.map OV.op)[j]? = (q.2.map OV.op)[j]? := by rw [h1]
  rw [List.getElem?_map, List.getElem?_map, hx, hy] at h2
  simp only [Option.map_some, Option.some.injEq] at h2
  have hxm := List.mem_of_getElem? hx
  exact OVs.of h2 (hca p hpm x hxm) (hcb q (List.mem_of_getElem? hq) y (List.mem_of_getElem? hy)) ((hz.2.1 p hpm).2 x hxm)
/-- The script of nothing but zeros. -/
def z0 : SV := ⟨0, 0, 0, 0, 0, 0, 0, none, 0, [], none, 0, []⟩
theorem OkS.zero (w : World) : OkS w z0 := ⟨Lst.nil w, by simp [z0], Lst.nil w⟩
theorem ssc_zero (w : World) : Calls Try.prog 13 #[.agg #[.int .i64 0, .int .i64 0, .int .i64 0, .int .i64 0, .int .i64 0, .int .i64 0, .int .u64 0, .slice none 0 0, .slice none 0 0], .agg #[.int .i64 0, .int .i64 0, .int .i64 0, .int .i64 0, .int .i64 0, .int .i64 0, .int .u64 0, .slice none 0 0, .slice none 0 0]] w fun q w' => q = .returned (.bool true) ∧ Keeps [] w w' :=
  ssc_any 0 0 0 0 0 0 0 none none none none 0 0 0 0 [] [] [] w (OkS.zero w) (OkS.zero w) ⟨rfl, by simp⟩ (by simp) (by simp)
end Go.Proofs.Ytkgmgnfcmnhhaaa
