/- ScriptDecodesCanonically: what the walk needs; plain. -/
import Derived.Test.YtkgmgnfcmnhhaaaRt
namespace Go.Proofs.Ytkgmgnfcmnhhaaa
open Go.RowKit
set_option linter.unusedSectionVars false
set_option linter.unusedVariables false
set_option linter.unusedSimpArgs false
set_option maxRecDepth 20000
/-- A script that was decoded from no more than so many bytes. -/
theorem gs_dec {L : Str} {z : SV} (h : dec vld L = .ok z.scr) (ht : 0 ≤ z.th) (hl : L.length ≤ 1073741824) : (SzV z ∧ (∀ p ∈ z.ps, ∀ z ∈ p.2, z.t < 2 ^ 64) ∧ vld z.scr = true) ∧ L = eScr z.scr := by
  obtain ⟨h1, h2, h3⟩ := dec_ok h
  have hps : ∀ p ∈ z.ps, ∀ x ∈ p.2, x.b.length ≤ L.length := fun p hp x hx => by
    have hp' : p.2.map OV.op ∈ z.scr.ps := List.mem_map.2 ⟨p, hp, rfl⟩
    have hx' : x.op ∈ p.2.map OV.op := List.mem_map.2 ⟨x, hx, rfl⟩
    have a1 := eOp_wrts ((h3.2.2.2.2.2.2.2.1.2 _ hp').2 _ hx')
    have a2 := length_le_flatMap eOp hx'
    have a3 : (eOp x.op).length ≤ (eProg (p.2.map OV.op)).length := by unfold eProg; rw [List.length_append]; omega
    have a4 := length_le_flatMap eProg hp'
    have a5 : (z.scr.ps.flatMap eProg).length ≤ (eScr z.scr).length := by unfold eScr; simp only [List.length_append]; omega
    have a6 : x.op.b.length = x.b.length := rfl
    rw [h2]
    omega
  have hv := (vld_iff _).1 h1
  have hth : z.scr.th = z.th.toNat := rfl
  have hpl : z.scr.ps.length = z.ps.length := List.length_map _
  refine ⟨⟨⟨by omega, fun p hp => ⟨?_, fun x hx => by have := hps p hp x hx; omega⟩, ?_⟩, fun p hp x hx => ?_, h1⟩, h2⟩
  · have := hv.2.2.1 _ (List.mem_map.2 ⟨p, hp, rfl⟩)
    unfold vProg at this
    rw [Bool.and_eq_true, decide_eq_true_eq, List.length_map] at this
    have := this.1
    omega
  · have : z.scr.pk = z.pk := rfl
    rw [← this]
    omega
  · have hp' : p.2.map OV.op ∈ z.scr.ps := List.mem_map.2 ⟨p, hp, rfl⟩
    have hx' : x.op ∈ p.2.map OV.op := List.mem_map.2 ⟨x, hx, rfl⟩
    have hok := (h3.2.2.2.2.2.2.2.1.2 _ hp').2 _ hx'
    have hvo := vld_op h1 hp' hx'
    have e : x.op.t = x.t := rfl
    rw [← e]
    generalize x.op = o at hok hvo
    obtain ⟨hc, hb1, hb⟩ := hok
    simp only [vOp, Bool.and_eq_true] at hvo
    have hz := hvo.1.1.1.1
    obtain ⟨c, k, t, b, hh, u, m⟩ := o
    simp only at hc hb1 hb hz ⊢
    obtain rfl | rfl | rfl | rfl | rfl | rfl | rfl | rfl | rfl : c = 1 ∨ c = 2 ∨ c = 3 ∨ c = 4 ∨ c = 5 ∨ c = 6 ∨ c = 7 ∨ c = 8 ∨ c = 9 := by omega
    case inr.inl => exact hb.2.2
    all_goals
      simp only [zrB, Bool.and_eq_true, decide_eq_true_eq] at hz
      have : t = 0 := by simp_all
      omega
theorem InB.drop {w : World} {A : Addr} {n cap : Nat} {L : Str} (h : InB w (.slice (some A) n cap) L) (hn : L.length = n) (k : Nat) (hk : k ≤ n) : InB w (.slice (some (A.add k)) (n - k) (cap - k)) (L.drop k) := by
  obtain ⟨A', cap', b, o, h1, h2, h3, h4, h5⟩ := h
  injection h1 with e1 e2 e3
  subst e3
  have hl : (L.drop k).length = n - k := by rw [List.length_drop]; omega
  refine ⟨some (A.add k), cap - k, b, o + k, by rw [hl], fun h0 => ?_, ⟨fun i hi => ?_, fun h0 => h3.lt (by simp at h0 ⊢; omega)⟩, by omega, by omega⟩
  · have h9 := h2 (by omega)
    rw [← e1] at h9
    injection h9 with h9
    rw [h9, Addr.add_lit]
  · rw [List.length_map, hl] at hi
    have := h3.cells (k + i) (by rw [List.length_map]; omega)
    rw [List.getElem?_map] at this
    rw [List.getElem?_map, List.getElem?_drop, ← this, Nat.add_assoc]
/-- Bytes of whatever slice, appended to bytes in a row of their own. -/
theorem bys_append0 {w : World} {v : Value} {L : Str} (h : Bw w v L) {u : Value} {T : Str} (hu : Lst w u T.length (T.map vB)) (hn : L.length + T.length ≤ 1073741824) :
    ∃ v' w', (∀ ty, (Builtin.append_ #[23, 23] ty #[v, u]).run Try.prog w = .ok v' w') ∧ BQ w v w' v' (L ++ T) := by
  by_cases hL : 0 < L.length
  · exact bys_append h hL hu hn
  · obtain rfl : L = [] := List.eq_nil_of_length_eq_zero (by omega)
    obtain ⟨i0, hi0, hz0, hz1, hz2⟩ := info_parts infoU8
    have hnil : ∀ (c : Nat), T = [] → ∃ v' w', (∀ ty, (Builtin.append_ #[23, 23] ty #[v, .slice none 0 c]).run Try.prog w = .ok v' w') ∧ BQ w v w' v' ([] ++ T) := by
      intro c h0
      subst h0
      obtain ⟨h1, ⟨rfl, h0⟩ | ⟨g, cap, rest, rfl, hb, h2, h3, h4⟩⟩ := id h
      · refine ⟨.slice none 0 0, w, fun ty => ?_, BQ.refl h⟩
        simp [Builtin.append_, run_underlying (P := Try.prog) Try.underlying23, sizeOf, typeInfo, hi0, hz1, Builtin.lenOf, Builtin.firstCells]
      · refine ⟨_, w, fun ty => ?_, BQ.refl h⟩
        simp [Builtin.append_, run_underlying (P := Try.prog) Try.underlying23, sizeOf, typeInfo, hi0, hz1, Builtin.lenOf, Builtin.firstCells, h2, storeCells]
    rcases hu.src (k := 1) (by simp) with ⟨rfl, h0⟩ | ⟨cap, rfl, h0⟩ | ⟨a, cap, rfl, hsrc⟩
    · exact hnil 0 (List.eq_nil_of_length_eq_zero h0)
    · exact hnil cap (List.eq_nil_of_length_eq_zero h0)
    · obtain ⟨v', w', hr, r, k, f⟩ := row_append h 23 23 5 i0 _ 1 Try.underlying23 hi0 hz0 hz1 hz2 rfl (by decide) a T.length cap (T.map vB) (by simp) hsrc (vB_one T) hn (by decide)
      refine ⟨v', w', fun ty => by rw [← hr]; rfl, ⟨?_, k, f⟩⟩
      unfold Bw
      rw [List.length_append, List.map_append]
      exact r
end Go.Proofs.Ytkgmgnfcmnhhaaa
