/- The statement ModelAgrees: lemmas, and the walk of same. -/
import Derived.Test.YtnnpmpdlhojecaaModS
namespace Go.Proofs.Ytnnpmpdlhojecaa
open Go.RowKit Go.Maps
theorem GM.requ {w w' : World} {base m N F : Nat} {Q Q' S : List Nat} {St : List (List Ent)} {D : DataW Unit} (h : GM w base Q m N St F D) (k : Keeps S w w') (hS : ∀ s ∈ S, s ∈ Q) (hQ : ∀ q ∈ Q', q ∈ Q ∨ (w.heap.size ≤ q ∧ q < w'.heap.size)) : GM w' base Q' m N St F D := by
  obtain ⟨⟨sb, cap, mb, nb, sv, rest, hn, h⟩, h1⟩ := h
  have l1 := h.hm.lt
  have l2 := h.hs.lt
  have l3 := h.hmap.lt
  have kz := k.size
  refine ⟨⟨sb, cap, mb, nb, sv, rest, hn, ⟨k.blk h.hm (fun hm => (h.hq m (hS m hm)).1 rfl), k.blk h.hs (fun hm => (h.hq sb (hS sb hm)).2.1 rfl), h.hl, h.hp, h.hcap, h.hcl, h.hcm, h.hne, fun i v l g1 g2 => ⟨(h.he i v l g1 g2).1.keeps k (fun g hg hs => h.hd v (List.mem_of_getElem? g1) g hg (hS g hs)), (h.he i v l g1 g2).2⟩, ownsMap_keepsU h.hmap k (fun hm => (h.hq mb (hS mb hm)).2.2.1 rfl), h.hb, fun q hq => ?_, fun v hv g hg hq => ?_⟩⟩, h1⟩
  · rcases hQ q hq with hq | hq
    · obtain ⟨q1, q2, q3, q4⟩ := h.hq q hq
      exact ⟨q1, q2, q3, by omega⟩
    · exact ⟨by omega, by omega, by omega, hq.2⟩
  · rcases hQ g hq with hq | hq
    · exact h.hd v hv g hg hq
    · obtain ⟨i, hi⟩ := List.getElem?_of_mem hv
      have hi2 : i < St.length := by have := (List.getElem?_eq_some_iff.1 hi).1; have := h.hl; omega
      have := ((h.he i v St[i] hi (List.getElem?_eq_getElem hi2)).1.ge g hg).2
      omega
theorem GM.q_lt {w : World} {base m N F : Nat} {Q : List Nat} {St : List (List Ent)} {D : DataW Unit} (h : GM w base Q m N St F D) : ∀ q ∈ Q, q < w.heap.size := by
  obtain ⟨⟨sb, cap, mb, nb, sv, rest, hn, h⟩, h1⟩ := h
  exact fun q hq => (h.hq q hq).2.2.2
theorem Kp.sub {base : Nat} {Q Q' : List Nat} {w w' : World} (h : Kp base Q w w') (hQ : ∀ q ∈ Q', q ∈ Q) : Kp base Q' w w' := by
  obtain ⟨S, h1, h2⟩ := h
  exact ⟨S, fun s hs => ⟨(h1 s hs).1, fun hq => (h1 s hs).2 (hQ s hq)⟩, h2⟩
/-- The snapshots of both sides. -/
def Lk (Ss : List (Nat × Nat)) (O : Nat → Nat) : Prop := Ss.Pairwise (fun p q => p.1 ≠ q.1) ∧ ∀ i x, (i, x) ∈ Ss ↔ (i < 6 ∧ O i = x + 1)
theorem Lk.nil : Lk [] (fun _ => 0) := ⟨List.Pairwise.nil, fun i x => by simp⟩
theorem Lk.rel {Ss Ss' : List (Nat × Nat)} {O : Nat → Nat} {i : Nat} (h : Lk Ss O) (hi : i < 6) (hr : RelTo Ss i Ss') : Lk Ss' (upd O i 0) := by
  obtain ⟨hp, hm⟩ := h
  rcases hr with ⟨rfl, hno⟩ | ⟨k, p, hk, hpi, rfl⟩
  · refine ⟨hp, fun i' x => ?_⟩
    by_cases e : i' = i
    · subst e
      rw [upd_at]
      constructor
      · intro hx; exact absurd rfl (hno _ hx)
      · rintro ⟨_, h0⟩; omega
    · rw [upd_ne e]; exact hm i' x
  · have hsp : Ss = Ss.take k ++ p :: Ss.drop (k + 1) := by
      obtain ⟨hk1, hk2⟩ := List.getElem?_eq_some_iff.1 hk
      conv => lhs; rw [← List.take_append_drop k Ss, List.drop_eq_getElem_cons hk1, hk2]
    obtain ⟨A, hA⟩ : ∃ A, Ss.take k = A := ⟨_, rfl⟩
    obtain ⟨B, hB⟩ : ∃ B, Ss.drop (k + 1) = B := ⟨_, rfl⟩
    rw [hA, hB] at hsp ⊢
    rw [hsp] at hp hm
    obtain ⟨p1, p2, p3⟩ := List.pairwise_append.1 hp
    obtain ⟨p4, p5⟩ := List.pairwise_cons.1 p2
    refine ⟨List.pairwise_append.2 ⟨p1, p5, fun a ha b hb => p3 a ha b (List.mem_cons_of_mem _ hb)⟩, fun i' x => ?_⟩
    by_cases e : i' = i
    · subst e
      rw [upd_at]
      constructor
      · intro hx
        rcases List.mem_append.1 hx with hx | hx
        · exact absurd hpi.symm (p3 _ hx p (List.mem_cons_self ..))
        · exact absurd hpi (p4 _ hx)
      · rintro ⟨_, h0⟩; omega
    · rw [upd_ne e, ← hm i' x]
      simp only [List.mem_append, List.mem_cons]
      constructor
      · rintro (h | h)
        · exact .inl h
        · exact .inr (.inr h)
      · rintro (h | h | h)
        · exact .inl h
        · exact absurd (by rw [← h] at hpi; exact hpi) e
        · exact .inr h
theorem Lk.open_ {Ss' : List (Nat × Nat)} {O : Nat → Nat} {i T : Nat} (h : Lk Ss' (upd O i 0)) (hi : i < 6) : Lk (Ss' ++ [(i, T)]) (upd O i (T + 1)) := by
  obtain ⟨hp, hm⟩ := h
  refine ⟨List.pairwise_append.2 ⟨hp, List.pairwise_singleton _ _, fun a ha b hb => ?_⟩, fun i' x => ?_⟩
  · simp at hb; subst hb
    intro e
    have := (hm a.1 a.2).1 ha
    have e' : a.1 = i := e
    rw [e', upd_at] at this
    omega
  · rw [List.mem_append, List.mem_singleton, hm i' x]
    by_cases e : i' = i
    · subst e
      rw [upd_at, upd_at]
      constructor
      · rintro (⟨_, h⟩ | h)
        · omega
        · injection h with h1 h2; exact ⟨hi, by omega⟩
      · rintro ⟨_, h⟩; exact .inr (by rw [show x = T by omega])
    · rw [upd_ne e, upd_ne e]
      constructor
      · rintro (h | h)
        · exact h
        · injection h with h1 h2; exact absurd h1 e
      · exact .inl
theorem minS_le (n : Nat) : ∀ (Ss : List (Nat × Nat)), minS Ss n ≤ n ∧ (∀ p ∈ Ss, minS Ss n ≤ p.2) ∧ (minS Ss n = n ∨ ∃ p ∈ Ss, minS Ss n = p.2) := by
  intro Ss
  unfold minS
  induction Ss generalizing n with
  | nil => exact ⟨Nat.le_refl _, by simp, .inl rfl⟩
  | cons p Ss ih =>
    obtain ⟨h1, h2, h3⟩ := ih (min n p.2)
    rw [List.foldl_cons]
    refine ⟨by omega, fun q hq => ?_, ?_⟩
    · rcases List.mem_cons.1 hq with rfl | hq
      · omega
      · exact h2 q hq
    · rcases h3 with h3 | ⟨q, hq, h3⟩
      · by_cases h : n ≤ p.2
        · left; omega
        · right; exact ⟨p, List.mem_cons_self .., by omega⟩
      · exact .inr ⟨q, List.mem_cons_of_mem _ hq, h3⟩
theorem wmk_minS {K : Nat → Lit} {O : Nat → Nat} {D : DataW Unit} {St : List (List Ent)} {Ss : List (Nat × Nat)} {n : Nat} (h : Sn K O D) (hl : Lk Ss O) (hO : ∀ i, i < 6 → O i ≤ St.length) (hn : St.length = n + 1) : wmk St D = ((minS Ss n : Nat) : Int) := by
  obtain ⟨m1, m2, m3⟩ := minS_le n Ss
  rcases h.wmk St with ⟨h1, h2⟩ | ⟨h1, h2⟩
  · obtain ⟨i, hi, h0, e⟩ := mem_tsOf.1 h1
    have a1 := m2 (i, O i - 1) ((hl.2 i (O i - 1)).2 ⟨hi, by omega⟩)
    have a2 := hO i hi
    rcases m3 with m3 | ⟨p, hp, m3⟩
    · simp only at a1
      omega
    · obtain ⟨b1, b2⟩ := (hl.2 p.1 p.2).1 hp
      have := h2 _ (mem_tsOf.2 ⟨p.1, b1, by omega, rfl⟩)
      simp only at a1
      omega
  · rcases m3 with m3 | ⟨p, hp, m3⟩
    · rw [h2]; omega
    · obtain ⟨b1, b2⟩ := (hl.2 p.1 p.2).1 hp
      have : ((O p.1 - 1 : Nat) : Int) ∈ tsOf O := mem_tsOf.2 ⟨p.1, b1, by omega, rfl⟩
      rw [h1] at this
      simp at this
end Go.Proofs.Ytnnpmpdlhojecaa
