/- The statement ModelIsPersistent: its walk. -/
import Derived.Test.YtnnpmpdlhojecaaModG
import Derived.Test.YtnnpmpdlhojecaaModF
namespace Go.Proofs.Ytnnpmpdlhojecaa
open Go.RowKit Go.Maps
theorem sCs_cells (l : List Stp) (i : Nat) (e : Stp) (h : l[i]? = some e) : ∀ j, j < 5 → (l.flatMap sC)[i * 5 + j]? = (sC e)[j]? := by
  induction l generalizing i with
  | nil => simp at h
  | cons x l ih =>
    intro j hj
    cases i with
    | zero =>
      simp at h; subst h
      rw [List.flatMap_cons, Nat.zero_mul, Nat.zero_add, List.getElem?_append_left (by simp [sC]; omega)]
    | succ i =>
      rw [List.flatMap_cons, List.getElem?_append_right (by simp [sC]; omega)]
      have := ih i (by simpa using h) j hj
      rw [← this]
      congr 1
      simp [sC]; omega
theorem sCs_length (l : List Stp) : (l.flatMap sC).length = l.length * 5 := by
  induction l with
  | nil => rfl
  | cons x l ih => rw [List.flatMap_cons, List.length_append, ih, List.length_cons]; simp [sC]; omega
theorem Arr.stp {w : World} {b o : Nat} {l : List Stp} (h : Arr w b o (l.flatMap sC)) {i : Nat} {e : Stp} (he : l[i]? = some e) :
    w.cell? ⟨b, o + i * 5, none⟩ = some (.int .i64 e.kind) ∧ w.cell? ⟨b, o + i * 5 + 1, none⟩ = some e.bv ∧ w.cell? ⟨b, o + i * 5 + 2, none⟩ = some (.int .i64 e.t) ∧ w.cell? ⟨b, o + i * 5 + 3, none⟩ = some (.int .i64 e.j) ∧ w.cell? ⟨b, o + i * 5 + 4, none⟩ = some (.int .u64 e.too) ∧ b < w.heap.size := by
  have hi := (List.getElem?_eq_some_iff.1 he).1
  have hl := sCs_length l
  have h0 := sCs_cells l i e he
  refine ⟨?_, ?_, ?_, ?_, ?_, h.lt (by omega)⟩
  · rw [h.cells _ (by omega)]; simpa [sC] using h0 0 (by omega)
  · rw [Nat.add_assoc, h.cells _ (by omega)]; simpa [sC] using h0 1 (by omega)
  · rw [Nat.add_assoc, h.cells _ (by omega)]; simpa [sC] using h0 2 (by omega)
  · rw [Nat.add_assoc, h.cells _ (by omega)]; simpa [sC] using h0 3 (by omega)
  · rw [Nat.add_assoc, h.cells _ (by omega)]; simpa [sC] using h0 4 (by omega)
theorem appendEnil {W : World} (l : List Ent) (hn : l.length < 4096) (xv : Value) (hxv : Lst W xv l.length (eCs l)) :
    ∃ v' w', (Builtin.append_ #[30, 30] 30 #[.slice none 0 0, xv]).run Try.prog W = .ok v' w' ∧ Own w' W.heap.size v' l ∧ Keeps [] W w' := by
  obtain ⟨i0, hi0, hz0, hz1, hz2⟩ := info_parts infoE
  rcases hxv.src (eCs_length l) with ⟨rfl, h0⟩ | ⟨cap, rfl, h0⟩ | ⟨a, cap, rfl, hsrc⟩
  · refine ⟨.slice none 0 0, W, ?_, .inl ⟨rfl, List.eq_nil_of_length_eq_zero h0⟩, Keeps.refl _ _⟩
    simp [Builtin.append_, run_underlying (P := Try.prog) Try.underlying30, sizeOf, typeInfo, hi0, Builtin.lenOf, Builtin.firstCells]
  · refine ⟨.slice none 0 0, W, ?_, .inl ⟨rfl, List.eq_nil_of_length_eq_zero h0⟩, Keeps.refl _ _⟩
    simp [Builtin.append_, run_underlying (P := Try.prog) Try.underlying30, sizeOf, typeInfo, hi0, Builtin.lenOf, Builtin.firstCells]
  · obtain ⟨v', w', hr, h2, h3, _⟩ := run_append_own (P := Try.prog) W W.heap.size 30 30 35 i0 _ 2 32 Try.underlying30 hi0 hz0 hz1 hz2 rfl (by decide) (.slice none 0 0) 0 [] (World.ownsRow_nil _ _ _ _) a l.length cap (eCs l) (eCs_length l) hsrc
      (fun u hu => eCs_one' hu) (by unfold maxLen; omega) (by omega) (Nat.le_refl _)
    exact ⟨v', w', hr, Own.of_row (by simpa using h2), Keeps.of_grownBy h3 [] (by simp [Value.ownBlock])⟩
theorem Own.kp {w w' : World} {base b0 : Nat} {Q : List Nat} {v : Value} {l : List Ent} (h : Own w b0 v l) (k : Kp base Q w w') (hQ : ∀ g, v.ownBlock = some g → g ∈ Q) : Own w' b0 v l := by
  obtain ⟨S, h1, h2⟩ := k
  exact h.keeps h2 (fun g hg hS => (h1 g hS).2 (hQ g hg))
theorem GM.addQ {w w' : World} {base m N F : Nat} {St : List (List Ent)} {D : DataW Unit} {Q : List Nat} (h : GM w base [] m N St F D) (k : Keeps [] w w') (hQ : ∀ q ∈ Q, w.heap.size ≤ q ∧ q < w'.heap.size) : GM w' base Q m N St F D := by
  obtain ⟨⟨sb, cap, mb, nb, sv, rest, hn, h⟩, h1⟩ := h
  have h' := h.keeps k
  have l1 := h.hm.lt
  have l2 := h.hs.lt
  have l3 := h.hmap.lt
  have hd : ∀ v ∈ sv, ∀ g, v.ownBlock = some g → g ∉ Q := fun v hv g hg hq => by
    obtain ⟨i, hi⟩ := List.getElem?_of_mem hv
    have hi2 : i < St.length := by have := (List.getElem?_eq_some_iff.1 hi).1; have := h.hl; omega
    have := ((h.he i v St[i] hi (List.getElem?_eq_getElem hi2)).1.ge g hg).2
    have := (hQ g hq).1
    omega
  exact ⟨⟨sb, cap, mb, nb, sv, rest, hn, { h' with hq := fun q hq => ⟨by have := (hQ q hq).1; omega, by have := (hQ q hq).1; omega, by have := (hQ q hq).1; omega, (hQ q hq).2⟩, hd := hd }⟩, h1⟩
/-- One key at most. -/
def One (kl : Lit) (D : DataW Unit) : Prop := D = .map [] ∨ ∃ d, D = .map [(kl, d)]
theorem One.put {kl : Lit} (hk : kl.sameKey kl = true) {D : DataW Unit} (h : One kl D) (d : DataW Unit) : One kl (D.put kl d) := by
  rcases h with rfl | ⟨x, rfl⟩
  · exact .inr ⟨d, rfl⟩
  · exact .inr ⟨d, by simp [DataW.put, hk, DataW.insert]⟩
theorem One.del {kl : Lit} (hk : kl.sameKey kl = true) {D : DataW Unit} (h : One kl D) : One kl (D.del kl) := by
  rcases h with rfl | ⟨x, rfl⟩
  · exact .inl rfl
  · exact .inl (by simp [DataW.del, hk])
theorem One.size {kl : Lit} {D : DataW Unit} (h : One kl D) : Maps.size D ≤ 12 := by
  rcases h with rfl | ⟨x, rfl⟩ <;> simp [Maps.size]
theorem kl_self {t j : Nat} {k : Lit} (h : IsKl t j k) : k.sameKey k = true := WideAt.sameKey_self (lawK.key h)
end Go.Proofs.Ytnnpmpdlhojecaa
