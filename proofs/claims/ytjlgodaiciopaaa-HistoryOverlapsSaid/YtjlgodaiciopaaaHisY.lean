/- The walk of HistoryOverlaps: what it asks. -/
import Derived.Test.YtjlgodaiciopaaaHisI
import Derived.Deep.CutBlock
namespace Go.Proofs.Ytjlgodaiciopaaa
open Go.RowKit
set_option linter.unusedSectionVars false
set_option linter.unusedVariables false
set_option linter.unusedSimpArgs false
set_option maxRecDepth 100000
/-- Which of the six threads have a record. -/
def sv (l : List Rec) : List Value := (List.range 6).map (fun t : Nat => Value.bool (!(ofT t l).isEmpty))
theorem ofT_snoc (l : List Rec) (r : Rec) (t : Int) : ofT t (l ++ [r]) = if r.th = t then ofT t l ++ [r] else ofT t l := by
  unfold ofT
  rw [List.filter_append]
  by_cases h : r.th = t
  · rw [if_pos h, List.filter_cons_of_pos (by rw [beq_iff_eq]; exact h)]; rfl
  · rw [if_neg h, List.filter_cons_of_neg (by rw [beq_iff_eq]; exact h)]; simp
theorem sv_at (l : List Rec) (t : Nat) (ht : t < 6) : (sv l)[t]? = some (.bool (!(ofT t l).isEmpty)) := by
  unfold sv
  rw [List.getElem?_map, List.getElem?_range ht]; rfl
theorem sv_len (l : List Rec) : (sv l).length = 6 := by simp [sv]
theorem sv_snoc (l : List Rec) (r : Rec) (t : Nat) (ht : t < 6) (hr : r.th = (t : Int)) : (sv l).set t (.bool true) = sv (l ++ [r]) := by
  apply List.ext_getElem?
  intro i
  by_cases hi : i < 6
  · rw [sv_at _ i hi, ofT_snoc, hr]
    by_cases h : t = i
    · subst h
      rw [List.getElem?_set_self (by rw [sv_len]; exact ht), if_pos rfl]; simp
    · rw [List.getElem?_set_ne h, sv_at _ i hi, if_neg (by omega)]
  · rw [List.getElem?_eq_none (by rw [List.length_set, sv_len]; omega), List.getElem?_eq_none (by rw [sv_len]; omega)]
theorem threads_snoc (l : List Rec) (r : Rec) (t : Nat) (hr : r.th = (t : Int)) : ∀ m, threads (l ++ [r]) m = threads l m + (if t < m ∧ ofT t l = [] then 1 else 0)
  | 0 => by simp [threads]
  | m + 1 => by
    have ih := threads_snoc l r t hr m
    have e : ∀ l : List Rec, threads l (m + 1) = threads l m + (if ofT m l = [] then 0 else 1) := fun l => by
      unfold threads; rw [List.range_succ, List.map_append, List.sum_append]; simp
    rw [e, e, ih, ofT_snoc, hr]
    by_cases h : t = m
    · subst h
      rw [if_pos rfl]
      by_cases h2 : ofT t l = []
      · simp [h2]
      · simp [h2]
    · have h3 : ¬ ((t : Int) = (m : Int)) := by omega
      rw [if_neg h3]
      by_cases h2 : t < m
      · have h4 : t < m + 1 := by omega
        simp only [h2, h4, true_and]; omega
      · have h4 : ¬ t < m + 1 := by omega
        simp only [h2, h4, false_and, if_false]; omega
theorem threads_le (l : List Rec) : threads l 6 ≤ 6 := by
  have : ∀ m, threads l m ≤ m := by
    intro m
    induction m with
    | zero => simp [threads]
    | succ m ih =>
      unfold threads at ih ⊢
      rw [List.range_succ, List.map_append, List.sum_append]
      simp only [List.map_cons, List.map_nil, List.sum_cons, List.sum_nil]
      split <;> omega
  exact this 6
theorem bldOf_th (X : List (Value × List Rn)) : ∀ r ∈ bldOf X, ∃ t : Nat, t < 6 ∧ r.th = (t : Int) := fun r hr => by
  rcases Nat.eq_zero_or_pos (min X.length 6) with h | h
  · rw [bldOf_nil h] at hr; simp at hr
  · obtain ⟨t, h1, h2, h3⟩ := (bld_law _ h (runsOf X) _).2.2 r hr
    exact ⟨t, by omega, h2⟩
theorem bldOf_chain (X : List (Value × List Rn)) (t : Nat) : (ofT t (bldOf X)).Pairwise (fun a b => prec a b = true) := by
  rcases Nat.eq_zero_or_pos (min X.length 6) with h | h
  · rw [bldOf_nil h]; exact List.Pairwise.nil
  · unfold bldOf
    rw [(bld_law _ h (runsOf X) _).2.1 t]
    split
    · exact (recs_chain t _ h 8 0 0 _).imp fun h => h.1
    · exact List.Pairwise.nil
theorem ovM_bnd {l : List Rec} {m : Nat} (h : ∀ x ∈ l, (l.filter (ov x)).length ≤ m) : ∀ k, ovM l k ≤ m
  | 0 => Nat.zero_le _
  | k + 1 => by
    unfold ovM
    cases hk : l[k]? with
    | none => exact ovM_bnd h k
    | some x =>
      have := ovM_bnd h k
      have := h x (List.mem_of_getElem? hk)
      simp only
      omega
theorem ovM_pos {l : List Rec} {m : Nat} (h : ∀ x ∈ l, m ≤ (l.filter (ov x)).length) : ∀ k, 0 < k → k ≤ l.length → m ≤ ovM l k
  | 0, h0, _ => absurd h0 (Nat.lt_irrefl 0)
  | k + 1, _, hk => by
    unfold ovM
    rw [List.getElem?_eq_getElem (show k < l.length by omega)]
    have := h l[k] (List.getElem_mem _)
    simp only
    omega
theorem ov_self {x : Rec} (h : SoundR x) : ov x x = true := by
  obtain ⟨h1, h2, h3, h4, h5, h6, h7⟩ := h
  unfold ov
  rw [Bool.and_eq_true, Bool.or_eq_true]
  refine ⟨decide_eq_true (Int.le_refl _), ?_⟩
  by_cases hr : x.rs = -1
  · left; simpa using hr
  · right
    have := h7 (by omega)
    have := h5 this.1
    exact decide_eq_true (by omega)
theorem bldOf_over (X : List (Value × List Rn)) : ovM (bldOf X) (bldOf X).length ≤ threads (bldOf X) 6 ∧ (0 < (bldOf X).length → 1 ≤ ovM (bldOf X) (bldOf X).length) := by
  constructor
  · exact ovM_bnd (fun x hx => over_le _ 6 (fun y hy => by obtain ⟨t, h1, h2⟩ := bldOf_th X y hy; rw [h2]; omega) (fun t _ => bldOf_chain X t) x) _
  · intro h
    refine ovM_pos (fun x hx => ?_) _ h (Nat.le_refl _)
    have : x ∈ (bldOf X).filter (ov x) := List.mem_filter.2 ⟨hx, ov_self ((bldOf_good X).snd x hx)⟩
    exact List.length_pos_of_mem this
/-- The records that follow each other. -/
def rv0 (r : Rec) : RV := { rvOf r with code := 0 }
def sq (m : Nat) : List RV := (seqL m).map rv0
theorem sq_n (m : Nat) : (sq m).map (·.n) = seqL m := by
  unfold sq
  rw [List.map_map]
  have : ((·.n) ∘ rv0 : Rec → Rec) = id := rfl
  rw [this, List.map_id]
theorem sq_len (m : Nat) : (sq m).length = m := by simp [sq, seqL]
theorem sq_succ (m : Nat) : sq (m + 1) = sq m ++ [rv0 (seqR m)] := by
  unfold sq seqL
  rw [List.range_succ, List.map_append, List.map_append]; rfl
theorem sq_b {m : Nat} : ∀ x ∈ sq m, x.b = [] := fun x hx => by
  obtain ⟨r, _, rfl⟩ := List.mem_map.1 hx; rfl
theorem sq_at {m : Nat} {x : RV} (hx : x ∈ sq m) : ∃ i, x.n = seqR i ∧ i < m := by
  obtain ⟨r, hr, rfl⟩ := List.mem_map.1 hx
  obtain ⟨i, hi⟩ := List.getElem?_of_mem hr
  obtain ⟨e, h⟩ := seq_at hi
  exact ⟨i, e, h⟩
theorem okl_b {w : World} {xs : List RV} (h : ∀ x ∈ xs, x.b = []) (hA : ∀ x ∈ xs, x.bA = none ∧ x.bc = 0) : OkL w xs := fun x hx => by
  refine ⟨?_, by rw [h x hx]; decide⟩
  unfold OkB
  rw [h x hx, (hA x hx).1, (hA x hx).2]
  exact Lst.nil w
theorem sq_ok (w : World) (m : Nat) : OkL w (sq m) := okl_b sq_b (fun x hx => by obtain ⟨r, _, rfl⟩ := List.mem_map.1 hx; exact ⟨rfl, rfl⟩)
theorem sq_over (m : Nat) (h : 0 < m) : ovM (seqL m) m = 1 := by
  have hl : (seqL m).length = m := by simp [seqL]
  have h1 := ovM_bnd (l := seqL m) (m := 1) (fun x hx => by rw [seq_over m x hx]; exact Nat.le_refl _) m
  have h2 := ovM_pos (l := seqL m) (m := 1) (fun x hx => by rw [seq_over m x hx]; exact Nat.le_refl _) m h (by rw [hl]; exact Nat.le_refl _)
  omega
theorem sq_ord (m : Nat) : ordL (sq m) = sq m := by
  unfold ordL
  have e : (sq m).filter (fun x => x.n.pt != -1) = sq m := List.filter_eq_self.2 fun x hx => by
    obtain ⟨i, e, _⟩ := sq_at hx
    rw [e]; simp [seqR]; omega
  rw [e]
  refine stab_self ?_
  unfold SortK sq
  rw [List.pairwise_map]
  exact seq_pair fun i j h => by show (seqR i).pt ≤ (seqR j).pt; simp only [seqR]; omega
theorem sq_pend (m : Nat) : (seqL m).filter (fun r => r.rs == -1) = [] := List.filter_eq_nil_iff.2 fun r hr h => by
  obtain ⟨i, hi⟩ := List.getElem?_of_mem hr
  obtain ⟨rfl, _⟩ := seq_at hi
  have := beq_iff_eq.1 h
  simp only [seqR] at this
  omega
theorem sq_rng {m : Nat} (hm : m ≤ 100) : ∀ x ∈ sq m, RngA x.n := fun x hx => by
  obtain ⟨i, e, hi⟩ := sq_at hx
  rw [e]
  refine ⟨⟨?_, ?_⟩, ⟨?_, ?_⟩, ⟨?_, ?_⟩⟩ <;> simp only [seqR] <;> omega
end Go.Proofs.Ytjlgodaiciopaaa
