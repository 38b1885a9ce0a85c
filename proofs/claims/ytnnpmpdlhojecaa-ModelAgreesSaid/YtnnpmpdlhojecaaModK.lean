/- The open snapshots of the model, as six numbers: 0, or a timestamp plus 1. -/
import Derived.Test.YtnnpmpdlhojecaaModI
import Derived.Test.YtnnpmpdlhojecaaBatV
namespace Go.Proofs.Ytnnpmpdlhojecaa
open Go.RowKit Go.Maps
def Keys6 (K : Nat → Lit) : Prop := ∀ i, i < 6 → IsKl (i / 2) (i % 2) (K i)
theorem keys_ex : ∃ K, Keys6 K := by
  have h : ∀ i, ∃ k, i < 6 → IsKl (i / 2) (i % 2) k := fun i => by
    by_cases hi : i < 6
    · obtain ⟨k, hk⟩ := kl_ex (i / 2) (i % 2) (by omega) (by omega)
      exact ⟨k, fun _ => hk⟩
    · exact ⟨.bool false, fun h => absurd h hi⟩
  exact ⟨fun i => (h i).choose, fun i => (h i).choose_spec⟩
theorem Keys6.at_ {K : Nat → Lit} (h : Keys6 K) {t j : Nat} (ht : t < 3) (hj : j < 2) : IsKl t j (K (2 * t + j)) := by
  have := h (2 * t + j) (by omega)
  rwa [show (2 * t + j) / 2 = t by omega, show (2 * t + j) % 2 = j by omega] at this
theorem Keys6.inj {K : Nat → Lit} (h : Keys6 K) {i j : Nat} (hi : i < 6) (hj : j < 6) (e : K i = K j) : i = j := by
  have h1 := h i hi
  rw [e] at h1
  have := kl_inj h1 (h j hj)
  omega
def ent (K : Nat → Lit) (O : Nat → Nat) (i : Nat) : Option (Lit × DataW Unit) := if O i = 0 then none else some (K i, .lit (.int .u64 ((O i - 1 : Nat) : Int)))
def Sn (K : Nat → Lit) (O : Nat → Nat) (D : DataW Unit) : Prop := ∃ es, D = .map es ∧ es.Perm ((List.range 6).filterMap (ent K O))
def upd (O : Nat → Nat) (i v : Nat) (k : Nat) : Nat := if k = i then v else O k
theorem upd_at (O : Nat → Nat) (i v : Nat) : upd O i v i = v := if_pos rfl
theorem upd_ne {O : Nat → Nat} {i v k : Nat} (h : k ≠ i) : upd O i v k = O k := if_neg h
theorem insert_perm (x : Lit × DataW Unit) (l : List (Lit × DataW Unit)) : (DataW.insert x l).Perm (x :: l) := by
  induction l with
  | nil => simp [DataW.insert]
  | cons y l ih =>
    unfold DataW.insert
    split
    · exact List.Perm.refl _
    · exact (ih.cons y).trans (List.Perm.swap _ _ _)
theorem fm_other {K : Nat → Lit} (hK : Keys6 K) (O : Nat → Nat) {i v : Nat} (hi : i < 6) : ∀ R : List Nat, (∀ k ∈ R, k < 6 ∧ k ≠ i) → (R.filterMap (ent K O)).filter (fun p => !p.1.sameKey (K i)) = R.filterMap (ent K (upd O i v))
  | [], _ => rfl
  | k :: R, h => by
    have ih := fm_other (v := v) hK O hi R (fun k hk => h k (List.mem_cons_of_mem _ hk))
    obtain ⟨h1, h2⟩ := h k (List.mem_cons_self ..)
    have e : ent K (upd O i v) k = ent K O k := by unfold ent; rw [upd_ne h2]
    rw [List.filterMap_cons, List.filterMap_cons, e]
    cases hE : ent K O k with
    | none => exact ih
    | some p =>
      have hp : p.1 = K k := by
        unfold ent at hE
        split at hE
        · cases hE
        · cases hE; rfl
      have hne : p.1 ≠ K i := fun e => h2 (hK.inj h1 hi (hp ▸ e))
      simp only [List.filter_cons, sameKey_ne hne, Bool.not_false, if_true]
      rw [ih]
theorem fm_at {K : Nat → Lit} (hK : Keys6 K) (O : Nat → Nat) {i : Nat} (hi : i < 6) : ([i].filterMap (ent K O)).filter (fun p => !p.1.sameKey (K i)) = [] := by
  have hs := kl_self (hK i hi)
  unfold ent
  by_cases h : O i = 0
  · simp [h]
  · simp [h, hs]
theorem range_at {i : Nat} (hi : i < 6) : ∃ A B, List.range 6 = A ++ [i] ++ B ∧ (∀ k ∈ A, k < 6 ∧ k ≠ i) ∧ (∀ k ∈ B, k < 6 ∧ k ≠ i) := by
  match i, hi with
  | 0, _ => exact ⟨[], [1, 2, 3, 4, 5], rfl, by decide, by decide⟩
  | 1, _ => exact ⟨[0], [2, 3, 4, 5], rfl, by decide, by decide⟩
  | 2, _ => exact ⟨[0, 1], [3, 4, 5], rfl, by decide, by decide⟩
  | 3, _ => exact ⟨[0, 1, 2], [4, 5], rfl, by decide, by decide⟩
  | 4, _ => exact ⟨[0, 1, 2, 3], [5], rfl, by decide, by decide⟩
  | 5, _ => exact ⟨[0, 1, 2, 3, 4], [], rfl, by decide, by decide⟩
theorem Sn.put {K : Nat → Lit} (hK : Keys6 K) {O : Nat → Nat} {D : DataW Unit} (h : Sn K O D) {i : Nat} (hi : i < 6) (v : Nat) :
    Sn K (upd O i (v + 1)) (D.put (K i) (.lit (.int .u64 (v : Int)))) := by
  obtain ⟨es, rfl, hp⟩ := h
  refine ⟨_, rfl, (insert_perm _ _).trans ?_⟩
  have h1 := hp.filter (fun p => !p.1.sameKey (K i))
  refine (h1.cons _).trans ?_
  obtain ⟨A, B, hR, hA, hB⟩ := range_at hi
  rw [hR]
  simp only [List.filterMap_append, List.filter_append]
  rw [fm_at hK O hi, fm_other (v := v + 1) hK O hi A hA, fm_other (v := v + 1) hK O hi B hB]
  have e : [i].filterMap (ent K (upd O i (v + 1))) = [(K i, .lit (.int .u64 (v : Int)))] := by
    simp [ent, upd_at]
  rw [e, List.append_nil, List.append_assoc]
  exact List.perm_middle.symm
theorem Sn.del {K : Nat → Lit} (hK : Keys6 K) {O : Nat → Nat} {D : DataW Unit} (h : Sn K O D) {i : Nat} (hi : i < 6) : Sn K (upd O i 0) (D.del (K i)) := by
  obtain ⟨es, rfl, hp⟩ := h
  refine ⟨_, rfl, (hp.filter _).trans ?_⟩
  obtain ⟨A, B, hR, hA, hB⟩ := range_at hi
  rw [hR]
  simp only [List.filterMap_append, List.filter_append]
  rw [fm_at hK O hi, fm_other (v := 0) hK O hi A hA, fm_other (v := 0) hK O hi B hB]
  have e : [i].filterMap (ent K (upd O i 0)) = [] := by
    simp [ent, upd_at]
  rw [e]
theorem Sn.size {K : Nat → Lit} {O : Nat → Nat} {D : DataW Unit} (h : Sn K O D) : Maps.size D ≤ 12 := by
  obtain ⟨es, rfl, hp⟩ := h
  have h1 := hp.length_eq
  have h2 := List.length_filterMap_le (ent K O) (List.range 6)
  rw [List.length_range] at h2
  show es.length ≤ 12
  omega
theorem Sn.none_ (K : Nat → Lit) : Sn K (fun _ => 0) (.map []) := ⟨[], rfl, by simp [ent]⟩
/-- The timestamps of the open snapshots. -/
def tsOf (O : Nat → Nat) : List Int := (List.range 6).filterMap (fun i => if O i = 0 then none else some ((O i - 1 : Nat) : Int))
theorem mem_tsOf {O : Nat → Nat} {x : Int} : x ∈ tsOf O ↔ ∃ i, i < 6 ∧ 0 < O i ∧ x = ((O i - 1 : Nat) : Int) := by
  unfold tsOf
  rw [List.mem_filterMap]
  constructor
  · rintro ⟨i, h1, h2⟩
    by_cases h : O i = 0
    · rw [if_pos h] at h2; cases h2
    · rw [if_neg h] at h2; cases h2; exact ⟨i, List.mem_range.1 h1, by omega, rfl⟩
  · rintro ⟨i, h1, h2, rfl⟩
    exact ⟨i, List.mem_range.2 h1, by rw [if_neg (by omega)]⟩
theorem Sn.snaps {K : Nat → Lit} {O : Nat → Nat} {D : DataW Unit} (h : Sn K O D) : snaps D = isort (tsOf O) := by
  obtain ⟨es, rfl, hp⟩ := h
  have h1 := hp.map vl
  show isort (es.map vl) = _
  refine isort_of_perm (h1.trans (List.Perm.of_eq ?_))
  rw [List.map_filterMap]
  unfold tsOf
  congr 1
  funext i
  unfold ent
  by_cases h : O i = 0
  · simp [h]
  · simp [h, vl]
/-- The watermark is the least of the time and the open timestamps. -/
theorem Sn.wmk {K : Nat → Lit} {O : Nat → Nat} {D : DataW Unit} (h : Sn K O D) (St : List (List Ent)) :
    (wmk St D ∈ tsOf O ∧ ∀ x ∈ tsOf O, wmk St D ≤ x) ∨ (tsOf O = [] ∧ wmk St D = ((St.length - 1 : Nat) : Int)) := by
  have hs := h.snaps
  have hp := isort_perm (tsOf O)
  have hso := isort_sorted (tsOf O)
  unfold Proofs.Ytnnpmpdlhojecaa.wmk
  rw [hs]
  cases he : isort (tsOf O) with
  | nil =>
    rw [he] at hp
    exact .inr ⟨hp.symm.eq_nil, rfl⟩
  | cons y l =>
    rw [he] at hp hso
    refine .inl ⟨hp.mem_iff.1 (List.mem_cons_self ..), fun x hx => ?_⟩
    rcases List.mem_cons.1 (hp.mem_iff.2 hx) with rfl | hx
    · exact Int.le_refl _
    · exact (List.pairwise_cons.1 hso).1 x hx
/-- The floor is never above the watermark. -/
def Low (F n : Nat) (O : Nat → Nat) : Prop := F + 1 ≤ n ∧ ∀ i, i < 6 → 0 < O i → F + 1 ≤ O i
theorem Low.wmk {K : Nat → Lit} {O : Nat → Nat} {D : DataW Unit} {F : Nat} {St : List (List Ent)} (h : Sn K O D) (hl : Low F St.length O) : (F : Int) ≤ Proofs.Ytnnpmpdlhojecaa.wmk St D := by
  rcases h.wmk St with ⟨h1, _⟩ | ⟨_, h1⟩
  · obtain ⟨i, hi, h0, e⟩ := mem_tsOf.1 h1
    have := hl.2 i hi h0
    omega
  · have := hl.1
    omega
theorem Low.raise {K : Nat → Lit} {O : Nat → Nat} {D : DataW Unit} {F T : Nat} {St : List (List Ent)} (h : Sn K O D) (hl : Low F St.length O) (hO : ∀ i, i < 6 → O i ≤ St.length) (hT : (T : Int) ≤ Proofs.Ytnnpmpdlhojecaa.wmk St D) : Low (max F T) St.length O := by
  rcases h.wmk St with ⟨h1, h2⟩ | ⟨h1, h2⟩
  · refine ⟨?_, fun i hi h0 => ?_⟩
    · obtain ⟨i, hi, h0, e⟩ := mem_tsOf.1 h1
      have := hO i hi
      have := hl.1
      omega
    · have := h2 _ (mem_tsOf.2 ⟨i, hi, h0, rfl⟩)
      have := hl.2 i hi h0
      omega
  · refine ⟨by have := hl.1; omega, fun i hi h0 => ?_⟩
    have : ((O i - 1 : Nat) : Int) ∈ tsOf O := mem_tsOf.2 ⟨i, hi, h0, rfl⟩
    rw [h1] at this
    simp at this
end Go.Proofs.Ytnnpmpdlhojecaa
