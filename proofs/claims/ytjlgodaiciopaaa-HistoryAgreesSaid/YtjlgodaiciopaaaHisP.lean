/- Well-formed lists of records: what build makes, in plain Lean. -/
namespace Go.Proofs.Ytjlgodaiciopaaa
/-- The numbers of a record; the rest is zero, its operation a vacuum. -/
structure Rec where
  th : Int
  ix : Int
  inv : Int
  pt : Int
  rs : Int
deriving DecidableEq
structure Rn where
  pause : Nat
  at_ : Nat
  rest : Nat
  op : Bool
  late : Bool
/-- The record that a run makes: thread t of n, number k, at time now. -/
def mk (t n k now : Nat) (r : Rn) : Rec :=
  let a := now + r.pause % 6
  let p := a + r.at_ % 6
  let e := p + r.rest % 6
  ⟨(t : Int), (k : Int), ((a * n + t : Nat) : Int), if r.op && r.late then -1 else ((p * n + t : Nat) : Int), if r.op then -1 else ((e * n + t : Nat) : Int)⟩
def after (now : Nat) (r : Rn) : Nat := now + r.pause % 6 + r.at_ % 6 + r.rest % 6 + 1
/-- The records of a thread from its k-th run on; j: how many more are taken. -/
def recs (t n : Nat) : Nat → Nat → Nat → List Rn → List Rec
  | _, _, 0, _ => []
  | _, _, _ + 1, [] => []
  | k, now, j + 1, r :: rs => mk t n k now r :: (if r.op then [] else recs t n (k + 1) (after now r) j rs)
/-- x sinks to its place: behind all that are not later. -/
def sink (x : Rec) : List Rec → List Rec
  | [] => [x]
  | y :: l => if l.all (fun z => decide (x.inv < z.inv)) && decide (x.inv < y.inv) then x :: y :: l else y :: sink x l
def Sorted (l : List Rec) : Prop := l.Pairwise (fun a b => a.inv ≤ b.inv)
theorem sink_split {l : List Rec} (hl : Sorted l) (x : Rec) : ∃ A B, l = A ++ B ∧ sink x l = A ++ x :: B ∧ (∀ a ∈ A, a.inv ≤ x.inv) ∧ ∀ b ∈ B, x.inv < b.inv := by
  induction l with
  | nil => exact ⟨[], [], rfl, rfl, by simp, by simp⟩
  | cons y l ih =>
    obtain ⟨h1, h2⟩ := List.pairwise_cons.1 hl
    unfold sink
    split
    · rename_i h
      rw [Bool.and_eq_true, List.all_eq_true] at h
      refine ⟨[], y :: l, rfl, rfl, by simp, fun b hb => ?_⟩
      rcases List.mem_cons.1 hb with rfl | hb
      · exact of_decide_eq_true h.2
      · exact of_decide_eq_true (h.1 b hb)
    · rename_i h
      obtain ⟨A, B, rfl, e2, e3, e4⟩ := ih h2
      have hy : y.inv ≤ x.inv := by
        rw [Bool.and_eq_true, List.all_eq_true] at h
        by_cases hc : x.inv < y.inv
        · exfalso
          apply h
          refine ⟨fun z hz => ?_, decide_eq_true hc⟩
          have := h1 z hz
          exact decide_eq_true (by omega)
        · omega
      refine ⟨y :: A, B, rfl, by rw [e2]; rfl, fun a ha => ?_, e4⟩
      rcases List.mem_cons.1 ha with rfl | ha
      · exact hy
      · exact e3 a ha
theorem sink_sorted {l : List Rec} (hl : Sorted l) (x : Rec) : Sorted (sink x l) := by
  obtain ⟨A, B, rfl, e2, e3, e4⟩ := sink_split hl x
  rw [e2]
  obtain ⟨h1, h2, h3⟩ := List.pairwise_append.1 hl
  refine List.pairwise_append.2 ⟨h1, List.pairwise_cons.2 ⟨fun b hb => by have := e4 b hb; omega, h2⟩, fun a ha b hb => ?_⟩
  rcases List.mem_cons.1 hb with rfl | hb
  · exact e3 a ha
  · exact h3 a ha b hb
theorem sink_length {l : List Rec} (hl : Sorted l) (x : Rec) : (sink x l).length = l.length + 1 := by
  obtain ⟨A, B, rfl, e2, e3, e4⟩ := sink_split hl x
  rw [e2]; simp; omega
theorem sink_mem {l : List Rec} (hl : Sorted l) (x y : Rec) : y ∈ sink x l ↔ y = x ∨ y ∈ l := by
  obtain ⟨A, B, rfl, e2, e3, e4⟩ := sink_split hl x
  rw [e2]
  simp only [List.mem_append, List.mem_cons]
  constructor
  · rintro (h | h | h)
    · exact .inr (.inl h)
    · exact .inl h
    · exact .inr (.inr h)
  · rintro (h | h | h)
    · exact .inr (.inl h)
    · exact .inl h
    · exact .inr (.inr h)
def ofT (t : Int) (l : List Rec) : List Rec := l.filter (fun x => x.th == t)
/-- Another thread's record changes nothing for a thread; an own one comes last. -/
theorem sink_ofT {l : List Rec} (hl : Sorted l) (x : Rec) (t : Int) (hx : ∀ y ∈ l, y.th = x.th → y.inv < x.inv) : ofT t (sink x l) = if x.th = t then ofT t l ++ [x] else ofT t l := by
  obtain ⟨A, B, rfl, e2, e3, e4⟩ := sink_split hl x
  rw [e2]
  unfold ofT
  rw [List.filter_append, List.filter_append, List.filter_cons]
  by_cases h : x.th = t
  · have hB : B.filter (fun x => x.th == t) = [] := List.filter_eq_nil_iff.2 fun b hb hbt => by
      have h1 := e4 b hb
      have h2 := hx b (List.mem_append_right _ hb) (by rw [h]; exact beq_iff_eq.1 hbt)
      omega
    rw [if_pos h, if_pos (by rw [beq_iff_eq]; exact h), hB]; simp
  · rw [if_neg h, if_neg (by rw [beq_iff_eq]; exact h)]
/-- Facts on the records of one thread. -/
theorem mk_inv (t n k now : Nat) (r : Rn) : (mk t n k now r).inv = (((now + r.pause % 6) * n + t : Nat) : Int) := rfl
theorem after_le {now : Nat} (r : Rn) : now + r.pause % 6 < after now r := by unfold after; omega
theorem recs_inv (t n : Nat) : ∀ (j k now : Nat) (rs : List Rn), ∀ x ∈ recs t n k now j rs, ((now * n + t : Nat) : Int) ≤ x.inv ∧ x.th = (t : Int) ∧ (k : Int) ≤ x.ix
  | 0, _, _, _, x, hx => by simp [recs] at hx
  | _ + 1, _, _, [], x, hx => by simp [recs] at hx
  | j + 1, k, now, r :: rs, x, hx => by
    unfold recs at hx
    rcases List.mem_cons.1 hx with rfl | hx
    · refine ⟨?_, rfl, Int.le_refl _⟩
      rw [mk_inv]
      have := Nat.mul_le_mul_right n (Nat.le_add_right now (r.pause % 6))
      omega
    · by_cases ho : r.op = true
      · rw [if_pos ho] at hx; simp at hx
      · rw [if_neg ho] at hx
        obtain ⟨h1, h2, h3⟩ := recs_inv t n j (k + 1) (after now r) rs x hx
        refine ⟨?_, h2, by omega⟩
        have := Nat.mul_le_mul_right n (show now ≤ after now r by unfold after; omega)
        omega
def prec (a b : Rec) : Bool := a.rs != -1 && decide (a.rs < b.inv)
/-- Each precedes the next ones, and only the last may be pending. -/
theorem recs_chain (t n : Nat) (hn : 0 < n) : ∀ (j k now : Nat) (rs : List Rn), (recs t n k now j rs).Pairwise (fun a b => prec a b = true ∧ a.rs ≠ -1)
  | 0, _, _, _ => List.Pairwise.nil
  | _ + 1, _, _, [] => List.Pairwise.nil
  | j + 1, k, now, r :: rs => by
    unfold recs
    by_cases ho : r.op = true
    · rw [if_pos ho]; exact List.pairwise_singleton _ _
    · rw [if_neg ho]
      refine List.pairwise_cons.2 ⟨fun b hb => ?_, recs_chain t n hn j (k + 1) (after now r) rs⟩
      obtain ⟨h1, h2, h3⟩ := recs_inv t n j (k + 1) (after now r) rs b hb
      have e : (mk t n k now r).rs = (((now + r.pause % 6 + r.at_ % 6 + r.rest % 6) * n + t : Nat) : Int) := by
        simp [mk, ho]
      have hlt : (now + r.pause % 6 + r.at_ % 6 + r.rest % 6) * n + n = after now r * n := by
        rw [show after now r = now + r.pause % 6 + r.at_ % 6 + r.rest % 6 + 1 from rfl, Nat.succ_mul]
      have h0 : (mk t n k now r).rs ≠ -1 := by rw [e]; omega
      refine ⟨?_, h0⟩
      unfold prec
      rw [Bool.and_eq_true, bne_iff_ne]
      exact ⟨h0, decide_eq_true (by rw [e]; omega)⟩
theorem recs_ix (t n : Nat) : ∀ (j k now : Nat) (rs : List Rn) (i : Nat) (x : Rec), (recs t n k now j rs)[i]? = some x → x.ix = (k : Int) + i
  | 0, _, _, _, i, x, h => by simp [recs] at h
  | _ + 1, _, _, [], i, x, h => by simp [recs] at h
  | j + 1, k, now, r :: rs, 0, x, h => by
    simp [recs] at h; subst h; simp [mk]
  | j + 1, k, now, r :: rs, i + 1, x, h => by
    unfold recs at h
    by_cases ho : r.op = true
    · rw [if_pos ho] at h; simp at h
    · rw [if_neg ho] at h
      have := recs_ix t n j (k + 1) (after now r) rs i x (by simpa using h)
      omega
theorem mk_le (t n k now : Nat) (r : Rn) : (mk t n k now r).rs = -1 ∨ (mk t n k now r).inv ≤ (mk t n k now r).rs := by
  by_cases ho : r.op = true
  · left; simp [mk, ho]
  · right
    have e : (mk t n k now r).rs = (((now + r.pause % 6 + r.at_ % 6 + r.rest % 6) * n + t : Nat) : Int) := by simp [mk, ho]
    rw [e, mk_inv]
    have := Nat.mul_le_mul_right n (show now + r.pause % 6 ≤ now + r.pause % 6 + r.at_ % 6 + r.rest % 6 by omega)
    omega
theorem recs_asc (t n : Nat) (hn : 0 < n) : ∀ (j k now : Nat) (rs : List Rn), (recs t n k now j rs).Pairwise (fun a b => a.inv < b.inv)
  | 0, _, _, _ => List.Pairwise.nil
  | _ + 1, _, _, [] => List.Pairwise.nil
  | j + 1, k, now, r :: rs => by
    unfold recs
    by_cases ho : r.op = true
    · rw [if_pos ho]; exact List.pairwise_singleton _ _
    · rw [if_neg ho]
      refine List.pairwise_cons.2 ⟨fun b hb => ?_, recs_asc t n hn j (k + 1) (after now r) rs⟩
      obtain ⟨h1, _, _⟩ := recs_inv t n j (k + 1) (after now r) rs b hb
      rw [mk_inv]
      have h2 := Nat.mul_le_mul_right n (after_le (now := now) r)
      rw [Nat.succ_mul] at h2
      omega
def adds (l : List Rec) (xs : List Rec) : List Rec := xs.foldl (fun l x => sink x l) l
theorem adds_snoc (l xs : List Rec) (x : Rec) : adds l (xs ++ [x]) = sink x (adds l xs) := by unfold adds; rw [List.foldl_append]; rfl
/-- A thread's records have been added, one after the other. -/
theorem adds_ofT {t : Int} : ∀ (l xs : List Rec), Sorted l → ofT t l = [] → (∀ x ∈ xs, x.th = t) → xs.Pairwise (fun a b => a.inv < b.inv) →
    Sorted (adds l xs) ∧ ofT t (adds l xs) = xs ∧ (∀ t', t' ≠ t → ofT t' (adds l xs) = ofT t' l) ∧ (∀ y, y ∈ adds l xs ↔ y ∈ l ∨ y ∈ xs) ∧ (adds l xs).length = l.length + xs.length := by
  intro l xs
  induction hk : xs.length generalizing xs with
  | zero =>
    intro h1 h2 h3 h4
    obtain rfl := List.eq_nil_of_length_eq_zero hk
    exact ⟨h1, h2, fun _ _ => rfl, fun y => by simp [adds], rfl⟩
  | succ k ih =>
    intro h1 h2 h3 h4
    obtain ⟨ys, x, rfl⟩ : ∃ ys x, xs = ys ++ [x] := ⟨xs.dropLast, xs.getLast (by intro e; simp [e] at hk), (List.dropLast_concat_getLast _).symm⟩
    obtain ⟨p1, _, p3⟩ := List.pairwise_append.1 h4
    obtain ⟨a1, a2, a3, a4, a5⟩ := ih ys (by simp at hk; omega) h1 h2 (fun y hy => h3 y (List.mem_append_left _ hy)) p1
    have hx : x.th = t := h3 x (by simp)
    have hlt : ∀ y ∈ adds l ys, y.th = x.th → y.inv < x.inv := fun y hy hyt => by
      have : y ∈ ofT t (adds l ys) := List.mem_filter.2 ⟨hy, by rw [beq_iff_eq, hyt, hx]⟩
      rw [a2] at this
      exact p3 y this x (by simp)
    rw [adds_snoc]
    refine ⟨sink_sorted a1 x, ?_, fun t' ht' => ?_, fun y => ?_, ?_⟩
    · rw [sink_ofT a1 x t hlt, if_pos hx, a2]
    · rw [sink_ofT a1 x t' hlt, if_neg (by rw [hx]; exact fun e => ht' e.symm), a3 t' ht']
    · rw [sink_mem a1, a4, List.mem_append, List.mem_singleton]
      constructor
      · rintro (h | h | h)
        · exact .inr (.inr h)
        · exact .inl h
        · exact .inr (.inl h)
      · rintro (h | h | h)
        · exact .inr (.inl h)
        · exact .inr (.inr h)
        · exact .inl h
    · rw [sink_length a1, a5]; omega
/-- The list after the first m threads. -/
def bld (n : Nat) (f : Nat → List Rn) (m : Nat) : List Rec := (List.range m).foldl (fun l t => adds l (recs t n 0 0 8 (f t))) []
theorem bld_succ (n : Nat) (f : Nat → List Rn) (m : Nat) : bld n f (m + 1) = adds (bld n f m) (recs m n 0 0 8 (f m)) := by
  unfold bld; rw [List.range_succ, List.foldl_append]; rfl
theorem recs_th (t n : Nat) (rs : List Rn) : ∀ x ∈ recs t n 0 0 8 rs, x.th = (t : Int) := fun x hx => (recs_inv t n 8 0 0 rs x hx).2.1
theorem bld_law (n : Nat) (hn : 0 < n) (f : Nat → List Rn) : ∀ m, Sorted (bld n f m) ∧ (∀ t : Nat, ofT t (bld n f m) = if t < m then recs t n 0 0 8 (f t) else []) ∧ ∀ x ∈ bld n f m, ∃ t : Nat, t < m ∧ x.th = (t : Int) ∧ x ∈ recs t n 0 0 8 (f t) := by
  intro m
  induction m with
  | zero => exact ⟨List.Pairwise.nil, fun t => rfl, fun x hx => by simp [bld] at hx⟩
  | succ m ih =>
    obtain ⟨h1, h2, h3⟩ := ih
    have hnil : ofT m (bld n f m) = [] := by rw [h2 m, if_neg (Nat.lt_irrefl m)]
    obtain ⟨a1, a2, a3, a4, a5⟩ := adds_ofT (bld n f m) (recs m n 0 0 8 (f m)) h1 hnil (recs_th m n (f m)) (recs_asc m n hn 8 0 0 (f m))
    rw [bld_succ]
    refine ⟨a1, fun t => ?_, fun x hx => ?_⟩
    · by_cases h : t = m
      · subst h; rw [a2, if_pos (Nat.lt_succ_self t)]
      · rw [a3 t (by omega), h2 t]
        by_cases h' : t < m
        · rw [if_pos h', if_pos (by omega)]
        · rw [if_neg h', if_neg (by omega)]
    · rcases (a4 x).1 hx with hx | hx
      · obtain ⟨t, q1, q2, q3⟩ := h3 x hx
        exact ⟨t, by omega, q2, q3⟩
      · exact ⟨m, Nat.lt_succ_self m, recs_th m n (f m) x hx, hx⟩
/-- The lengths of the threads' parts sum up to the whole. -/
theorem ofT_sum (l : List Rec) (m : Nat) (h : ∀ x ∈ l, 0 ≤ x.th ∧ x.th < m) : ((List.range m).map (fun t : Nat => (ofT t l).length)).sum = l.length := by
  induction l with
  | nil =>
    have : (List.range m).map (fun t : Nat => (ofT t ([] : List Rec)).length) = (List.range m).map (fun _ => 0) := rfl
    rw [this]
    clear h this
    induction m with
    | zero => rfl
    | succ m ih => rw [List.range_succ, List.map_append, List.sum_append, ih]; simp
  | cons x l ih =>
    obtain ⟨hx0, hx⟩ := h x (List.mem_cons_self ..)
    have ih' := ih (fun y hy => h y (List.mem_cons_of_mem _ hy))
    have e : ∀ m : Nat, ((List.range m).map (fun t : Nat => (ofT t (x :: l)).length)).sum = ((List.range m).map (fun t : Nat => (ofT t l).length)).sum + (if x.th < m then 1 else 0) := by
      intro m
      induction m with
      | zero => simp; omega
      | succ m ihm =>
        rw [List.range_succ, List.map_append, List.map_append, List.sum_append, List.sum_append, ihm]
        have : (ofT m (x :: l)).length = (ofT m l).length + (if x.th = (m : Int) then 1 else 0) := by
          unfold ofT
          by_cases h : x.th = (m : Int)
          · rw [List.filter_cons_of_pos (by rw [beq_iff_eq]; exact h), if_pos h]; rfl
          · rw [List.filter_cons_of_neg (by rw [beq_iff_eq]; exact h), if_neg h]; rfl
        simp only [List.map_cons, List.map_nil, List.sum_cons, List.sum_nil, this]
        have h12 : x.th < ((m + 1 : Nat) : Int) ↔ x.th < (m : Int) ∨ x.th = (m : Int) := by omega
        simp only [h12]
        by_cases h1 : x.th < (m : Int)
        · have h2 : ¬ x.th = (m : Int) := by omega
          simp only [h1, h2, or_false, if_true, if_false]; omega
        · by_cases h2 : x.th = (m : Int)
          · simp only [h2, or_true, if_true, Int.lt_irrefl, if_false]; omega
          · simp only [h1, h2, or_false, if_false]; omega
    rw [e m, ih', if_pos hx, List.length_cons]
/-- Whether r is in progress when x is invoked. -/
def ov (x r : Rec) : Bool := decide (r.inv ≤ x.inv) && (r.rs == -1 || decide (x.inv ≤ r.rs))
theorem pair_one {l : List Rec} (h : l.Pairwise (fun a b => prec a b = true)) (x : Rec) : (l.filter (ov x)).length ≤ 1 := by
  have hp : (l.filter (ov x)).Pairwise (fun a b => prec a b = true) := h.sublist List.filter_sublist
  have hm : ∀ a ∈ l.filter (ov x), ov x a = true := fun a ha => (List.mem_filter.1 ha).2
  match hl : l.filter (ov x) with
  | [] => simp
  | [_] => simp
  | a :: b :: r =>
    exfalso
    rw [hl] at hp hm
    have h1 := (List.pairwise_cons.1 hp).1 b (List.mem_cons_self ..)
    have ha := hm a (List.mem_cons_self ..)
    have hb := hm b (List.mem_cons_of_mem _ (List.mem_cons_self ..))
    simp only [ov, prec, Bool.and_eq_true, Bool.or_eq_true, decide_eq_true_eq, bne_iff_ne, beq_iff_eq] at h1 ha hb
    rcases ha.2 with h | h
    · exact h1.1 h
    · omega
def threads (l : List Rec) (m : Nat) : Nat := ((List.range m).map (fun t : Nat => if ofT t l = [] then 0 else 1)).sum
theorem sum_le (f g : Nat → Nat) (m : Nat) (h : ∀ t, t < m → f t ≤ g t) : ((List.range m).map f).sum ≤ ((List.range m).map g).sum := by
  induction m with
  | zero => simp
  | succ m ih =>
    rw [List.range_succ, List.map_append, List.map_append, List.sum_append, List.sum_append]
    have := ih (fun t ht => h t (by omega))
    have := h m (Nat.lt_succ_self m)
    simp only [List.map_cons, List.map_nil, List.sum_cons, List.sum_nil]
    omega
theorem over_le (l : List Rec) (m : Nat) (h1 : ∀ x ∈ l, 0 ≤ x.th ∧ x.th < m) (h2 : ∀ t : Nat, t < m → (ofT t l).Pairwise (fun a b => prec a b = true)) (x : Rec) : (l.filter (ov x)).length ≤ threads l m := by
  rw [← ofT_sum (l.filter (ov x)) m (fun y hy => h1 y (List.mem_filter.1 hy).1)]
  refine sum_le _ _ m (fun t ht => ?_)
  have e : ofT t (l.filter (ov x)) = (ofT t l).filter (ov x) := by
    unfold ofT
    rw [List.filter_filter, List.filter_filter]
    congr 1
    funext y
    exact Bool.and_comm _ _
  rw [e]
  by_cases hz : ofT t l = []
  · rw [if_pos hz, hz]; simp
  · rw [if_neg hz]; exact pair_one (h2 t ht) x
/-- Check as the program does it: record by record, against the ones before. -/
def SoundO (r : Rec) : Prop := 0 ≤ r.th ∧ 0 ≤ r.ix ∧ 0 ≤ r.inv ∧ (r.pt = -1 ∨ r.inv ≤ r.pt) ∧ (r.rs = -1 ∨ (r.pt ≠ -1 ∧ r.pt ≤ r.rs))
def lastOf (th : Int) (l : List Rec) : Option Rec := (l.filter (fun y => y.th == th)).getLast?
def StepO (l : List Rec) (r : Rec) : Prop := SoundO r ∧ (∀ y, l.getLast? = some y → y.inv < r.inv) ∧ (r.pt = -1 ∨ ∀ y ∈ l, y.pt ≠ r.pt) ∧ (∀ y, lastOf r.th l = some y → r.ix = y.ix + 1 ∧ y.rs ≠ -1 ∧ y.rs < r.inv) ∧ (lastOf r.th l = none → r.ix = 0)
/-- Check as the reference does it. -/
def SoundR (r : Rec) : Prop := 0 ≤ r.th ∧ 0 ≤ r.ix ∧ 0 ≤ r.inv ∧ -1 ≤ r.pt ∧ (0 ≤ r.pt → r.inv ≤ r.pt) ∧ -1 ≤ r.rs ∧ (0 ≤ r.rs → 0 ≤ r.pt ∧ r.pt ≤ r.rs)
theorem sound_iff (r : Rec) : SoundO r ↔ SoundR r := by
  unfold SoundO SoundR
  constructor
  · rintro ⟨h1, h2, h3, h4, h5⟩; refine ⟨h1, h2, h3, ?_, ?_, ?_, ?_⟩ <;> omega
  · rintro ⟨h1, h2, h3, h4, h5, h6, h7⟩; refine ⟨h1, h2, h3, ?_, ?_⟩ <;> omega
/-- What both say of a list, symmetric in its parts. -/
structure Good (l : List Rec) : Prop where
  snd : ∀ r ∈ l, SoundR r
  asc : l.Pairwise (fun a b => a.inv < b.inv)
  pts : l.Pairwise (fun a b => a.pt = -1 ∨ a.pt ≠ b.pt)
  pre : l.Pairwise (fun a b => a.th = b.th → 0 ≤ a.rs ∧ a.rs < b.inv)
  ixs : ∀ (i : Nat) (r : Rec), l[i]? = some r → r.ix = (((l.take i).filter (fun y => y.th == r.th)).length : Int)
theorem Good.snoc {l : List Rec} {r : Rec} (h : Good l) : Good (l ++ [r]) ↔ SoundR r ∧ (∀ y ∈ l, y.inv < r.inv) ∧ (∀ y ∈ l, y.pt = -1 ∨ y.pt ≠ r.pt) ∧ (∀ y ∈ l, y.th = r.th → 0 ≤ y.rs ∧ y.rs < r.inv) ∧ r.ix = ((l.filter (fun y => y.th == r.th)).length : Int) := by
  constructor
  · intro g
    refine ⟨g.snd r (by simp), ?_, ?_, ?_, ?_⟩
    · exact fun y hy => (List.pairwise_append.1 g.asc).2.2 y hy r (by simp)
    · exact fun y hy => (List.pairwise_append.1 g.pts).2.2 y hy r (by simp)
    · exact fun y hy => (List.pairwise_append.1 g.pre).2.2 y hy r (by simp)
    · have := g.ixs l.length r (by simp)
      rwa [List.take_append_of_le_length (Nat.le_refl _), List.take_length] at this
  · rintro ⟨h1, h2, h3, h4, h5⟩
    refine ⟨fun y hy => ?_, List.pairwise_append.2 ⟨h.asc, List.pairwise_singleton _ _, fun a ha b hb => ?_⟩, List.pairwise_append.2 ⟨h.pts, List.pairwise_singleton _ _, fun a ha b hb => ?_⟩, List.pairwise_append.2 ⟨h.pre, List.pairwise_singleton _ _, fun a ha b hb => ?_⟩, fun i y hy => ?_⟩
    · rcases List.mem_append.1 hy with hy | hy
      · exact h.snd y hy
      · simp at hy; subst hy; exact h1
    · simp at hb; subst hb; exact h2 a ha
    · simp at hb; subst hb; exact h3 a ha
    · simp at hb; subst hb; exact h4 a ha
    · by_cases hi : i < l.length
      · rw [List.getElem?_append_left hi] at hy
        rw [List.take_append_of_le_length (by omega)]
        exact h.ixs i y hy
      · have hi2 : i = l.length := by
          have := (List.getElem?_eq_some_iff.1 hy).1
          simp at this; omega
        subst hi2
        simp at hy
        subst hy
        rw [List.take_append_of_le_length (Nat.le_refl _), List.take_length]
        exact h5
/-- The last record of a thread, in a good list. -/
theorem Good.last {l : List Rec} (h : Good l) (th : Int) : (lastOf th l = none → (l.filter (fun y => y.th == th)) = []) ∧ ∀ y, lastOf th l = some y → y ∈ l ∧ y.th = th ∧ y.ix + 1 = ((l.filter (fun y => y.th == th)).length : Int) ∧ ∀ z ∈ l, z.th = th → z = y ∨ (0 ≤ z.rs ∧ z.rs < y.inv) := by
  refine ⟨fun hn => by simpa [lastOf] using hn, fun y hy => ?_⟩
  unfold lastOf at hy
  obtain ⟨ys, hys⟩ := List.getLast?_eq_some_iff.1 hy
  have hmem : y ∈ l.filter (fun y => y.th == th) := by rw [hys]; simp
  obtain ⟨hyl, hyt⟩ := List.mem_filter.1 hmem
  have hyt' : y.th = th := beq_iff_eq.1 hyt
  refine ⟨hyl, hyt', ?_, fun z hz hzt => ?_⟩
  · obtain ⟨i, hi⟩ := List.getElem?_of_mem hyl
    have h1 := h.ixs i y hi
    rw [hyt'] at h1
    have hlt := (List.getElem?_eq_some_iff.1 hi).1
    have hsp : l = l.take i ++ y :: l.drop (i + 1) := by
      obtain ⟨hk1, hk2⟩ := List.getElem?_eq_some_iff.1 hi
      conv => lhs; rw [← List.take_append_drop i l, List.drop_eq_getElem_cons hk1, hk2]
    have hf : l.filter (fun y => y.th == th) = (l.take i).filter (fun y => y.th == th) ++ y :: (l.drop (i + 1)).filter (fun y => y.th == th) := by
      have e0 : (y :: l.drop (i + 1)).filter (fun y => y.th == th) = y :: (l.drop (i + 1)).filter (fun y => y.th == th) := List.filter_cons_of_pos (p := fun y : Rec => y.th == th) hyt
      conv => lhs; rw [hsp, List.filter_append, e0]
    have hnil : (l.drop (i + 1)).filter (fun y => y.th == th) = [] := by
      cases hc : (l.drop (i + 1)).filter (fun y => y.th == th) with
      | nil => rfl
      | cons u us =>
        exfalso
        rw [hc] at hf
        have hu : u ∈ l.drop (i + 1) := (List.mem_filter.1 (by rw [hc]; simp : u ∈ (l.drop (i + 1)).filter (fun y => y.th == th))).1
        have hasc := h.asc
        rw [hsp] at hasc
        have hlast : (y :: u :: us).getLast? = some y := by
          have e := hys ▸ hf
          have e2 := congrArg List.getLast? e
          rw [List.getLast?_append, List.getLast?_append] at e2
          simpa using e2.symm
        have hyin : y ∈ u :: us := by
          rw [List.getLast?_cons_cons] at hlast
          exact List.mem_of_getLast? hlast
        have hyin2 : y ∈ l.drop (i + 1) := (List.mem_filter.1 (by rw [hc]; exact hyin : y ∈ (l.drop (i + 1)).filter (fun y => y.th == th))).1
        have := (List.pairwise_cons.1 (List.pairwise_append.1 hasc).2.1).1 y hyin2
        omega
    rw [h1, hf, hnil]
    simp
  · have hzf : z ∈ l.filter (fun y => y.th == th) := List.mem_filter.2 ⟨hz, by rw [beq_iff_eq]; exact hzt⟩
    have hpre := h.pre.sublist (List.filter_sublist (l := l) (p := fun y => y.th == th))
    rw [hys] at hzf hpre
    rcases List.mem_append.1 hzf with hzf | hzf
    · exact .inr ((List.pairwise_append.1 hpre).2.2 z hzf y (by simp) (by rw [hzt, hyt']))
    · simp at hzf; exact .inl hzf
theorem last_max {l : List Rec} (h : l.Pairwise (fun a b => a.inv < b.inv)) {x : Int} (hx : ∀ y, l.getLast? = some y → y.inv < x) : ∀ y ∈ l, y.inv < x := by
  intro y hy
  cases hl : l.getLast? with
  | none => rw [List.getLast?_eq_none_iff] at hl; subst hl; simp at hy
  | some z =>
    have hz := hx z hl
    obtain ⟨ys, rfl⟩ := List.getLast?_eq_some_iff.1 hl
    rcases List.mem_append.1 hy with hy | hy
    · have := (List.pairwise_append.1 h).2.2 y hy z (by simp); omega
    · simp at hy; subst hy; exact hz
/-- One step of the program's Check. -/
theorem stepO_iff {l : List Rec} (h : Good l) (r : Rec) : StepO l r ↔ Good (l ++ [r]) := by
  rw [Good.snoc h]
  obtain ⟨ln, ls⟩ := h.last r.th
  constructor
  · rintro ⟨h1, h2, h3, h4, h5⟩
    refine ⟨(sound_iff r).1 h1, last_max h.asc h2, fun y hy => ?_, fun y hy hyt => ?_, ?_⟩
    · rcases h3 with h3 | h3
      · omega
      · exact .inr (h3 y hy)
    · cases hl : lastOf r.th l with
      | none =>
        have := ln hl
        have hm : y ∈ l.filter (fun y => y.th == r.th) := List.mem_filter.2 ⟨hy, by rw [beq_iff_eq]; exact hyt⟩
        rw [this] at hm; simp at hm
      | some z =>
        obtain ⟨hz1, hz2, hz3, hz4⟩ := ls z hl
        obtain ⟨_, e2, e3⟩ := h4 z hl
        have hzs := h.snd z hz1
        have hzi := last_max h.asc h2 z hz1
        rcases hz4 y hy hyt with rfl | hh
        · exact ⟨by have := hzs.2.2.2.2.2.1; omega, e3⟩
        · exact ⟨hh.1, by omega⟩
    · cases hl : lastOf r.th l with
      | none => rw [ln hl, h5 hl]; rfl
      | some z =>
        obtain ⟨hz1, hz2, hz3, hz4⟩ := ls z hl
        rw [← hz3]; exact (h4 z hl).1
  · rintro ⟨h1, h2, h3, h4, h5⟩
    refine ⟨(sound_iff r).2 h1, fun y hy => h2 y (List.mem_of_getLast? hy), ?_, fun y hy => ?_, fun hn => ?_⟩
    · by_cases hp : r.pt = -1
      · exact .inl hp
      · right
        intro y hy e
        rcases h3 y hy with h | h
        · omega
        · exact h e
    · obtain ⟨hz1, hz2, hz3, hz4⟩ := ls y hy
      obtain ⟨q1, q2⟩ := h4 y hz1 hz2
      exact ⟨by rw [h5, ← hz3], by omega, q2⟩
    · rw [h5, ln hn]; rfl
theorem Good.nil : Good [] := ⟨by simp, List.Pairwise.nil, List.Pairwise.nil, List.Pairwise.nil, by simp⟩
theorem Good.take {l : List Rec} (h : Good l) (i : Nat) : Good (l.take i) :=
  ⟨fun r hr => h.snd r (List.mem_of_mem_take hr), h.asc.sublist (List.take_sublist i l), h.pts.sublist (List.take_sublist i l), h.pre.sublist (List.take_sublist i l), fun j r hr => by
    have hj := (List.getElem?_eq_some_iff.1 hr).1
    rw [List.length_take] at hj
    rw [List.getElem?_take] at hr
    rw [if_pos (by omega)] at hr
    rw [List.take_take, Nat.min_eq_left (by omega)]
    exact h.ixs j r hr⟩
/-- The program's Check says whether the list is good. -/
theorem chkO_iff (l : List Rec) : (∀ (i : Nat) (r : Rec), l[i]? = some r → StepO (l.take i) r) ↔ Good l := by
  constructor
  · intro h
    have key : ∀ i, i ≤ l.length → Good (l.take i) := by
      intro i
      induction i with
      | zero => intro _; rw [List.take_zero]; exact Good.nil
      | succ i ih =>
        intro hi
        have hg := ih (by omega)
        obtain ⟨r, hr⟩ : ∃ r, l[i]? = some r := ⟨_, List.getElem?_eq_getElem (by omega)⟩
        have := (stepO_iff hg r).1 (h i r hr)
        rw [List.take_add_one, hr]; exact this
    have := key l.length (Nat.le_refl _)
    rwa [List.take_length] at this
  · intro h i r hr
    refine (stepO_iff (h.take i) r).2 ?_
    have := h.take (i + 1)
    rwa [List.take_add_one, hr] at this
/-- One round of the reference's Check. -/
def RefOk (l : List Rec) (i : Nat) (r : Rec) : Prop := SoundR r ∧ (∀ y, 0 < i → l[i - 1]? = some y → y.inv < r.inv) ∧ (∀ (k : Nat) (z : Rec), l[k]? = some z → (k ≠ i → 0 ≤ r.pt → z.pt ≠ r.pt) ∧ (k < i → z.th = r.th → 0 ≤ z.rs ∧ z.rs < r.inv)) ∧ r.ix = (((l.take i).filter (fun y => y.th == r.th)).length : Int)
theorem asc_of_next {l : List Rec} (h : ∀ (i : Nat) (r y : Rec), l[i]? = some r → 0 < i → l[i - 1]? = some y → y.inv < r.inv) : l.Pairwise (fun a b => a.inv < b.inv) := by
  rw [List.pairwise_iff_getElem]
  have key : ∀ d i (hi : i + d + 1 < l.length), l[i].inv < l[i + d + 1].inv := by
    intro d
    induction d with
    | zero =>
      intro i hi
      exact h (i + 1) l[i + 1] l[i] (List.getElem?_eq_getElem (by omega)) (by omega) (by rw [Nat.add_sub_cancel]; exact List.getElem?_eq_getElem (by omega))
    | succ d ih =>
      intro i hi
      have h1 := ih i (by omega)
      have h2 := h (i + d + 1 + 1) l[i + d + 1 + 1] l[i + d + 1] (List.getElem?_eq_getElem (by omega)) (by omega) (by rw [Nat.add_sub_cancel]; exact List.getElem?_eq_getElem (by omega))
      have e : i + (d + 1) + 1 = i + d + 1 + 1 := by omega
      simp only [e]
      omega
  intro i j hi hj hij
  have := key (j - i - 1) i (by omega)
  have e : i + (j - i - 1) + 1 = j := by omega
  simp only [e] at this
  exact this
theorem chkR_iff (l : List Rec) : (∀ (i : Nat) (r : Rec), l[i]? = some r → RefOk l i r) ↔ Good l := by
  constructor
  · intro h
    refine ⟨fun r hr => ?_, asc_of_next (fun i r y hr h0 hy => (h i r hr).2.1 y h0 hy), ?_, ?_, fun i r hr => (h i r hr).2.2.2⟩
    · obtain ⟨i, hi⟩ := List.getElem?_of_mem hr
      exact (h i r hi).1
    · rw [List.pairwise_iff_getElem]
      intro i j hi hj hij
      have h1 := h i l[i] (List.getElem?_eq_getElem hi)
      have h2 := (h1.2.2.1 j l[j] (List.getElem?_eq_getElem hj)).1 (by omega)
      have h3 := h1.1.2.2.2.1
      by_cases hp : 0 ≤ l[i].pt
      · exact .inr (fun e => h2 hp e.symm)
      · left; omega
    · rw [List.pairwise_iff_getElem]
      intro i j hi hj hij
      exact ((h j l[j] (List.getElem?_eq_getElem hj)).2.2.1 i l[i] (List.getElem?_eq_getElem hi)).2 hij
  · intro h i r hr
    have hr1 := List.getElem?_eq_some_iff.1 hr
    refine ⟨h.snd r (List.mem_of_getElem? hr), fun y h0 hy => ?_, fun k z hz => ⟨fun hk hp e => ?_, fun hk hth => ?_⟩, h.ixs i r hr⟩
    · obtain ⟨q1, rfl⟩ := hr1
      obtain ⟨q2, rfl⟩ := List.getElem?_eq_some_iff.1 hy
      exact (List.pairwise_iff_getElem.1 h.asc) (i - 1) i q2 q1 (by omega)
    · obtain ⟨q1, rfl⟩ := hr1
      obtain ⟨q2, rfl⟩ := List.getElem?_eq_some_iff.1 hz
      rcases Nat.lt_or_gt_of_ne hk with hk | hk
      · rcases (List.pairwise_iff_getElem.1 h.pts) k i q2 q1 hk with h | h
        · omega
        · exact h e
      · rcases (List.pairwise_iff_getElem.1 h.pts) i k q1 q2 hk with h | h
        · omega
        · exact h e.symm
    · obtain ⟨q1, rfl⟩ := hr1
      obtain ⟨q2, rfl⟩ := List.getElem?_eq_some_iff.1 hz
      exact (List.pairwise_iff_getElem.1 h.pre) k i q2 q1 hk hth
theorem mk_facts (t n k now : Nat) (r : Rn) : SoundR (mk t n k now r) ∧ (∃ q : Nat, (mk t n k now r).inv = ((q * n + t : Nat) : Int)) ∧ ((mk t n k now r).pt = -1 ∨ ∃ q : Nat, (mk t n k now r).pt = ((q * n + t : Nat) : Int)) := by
  have e1 := Nat.mul_le_mul_right n (show now + r.pause % 6 ≤ now + r.pause % 6 + r.at_ % 6 by omega)
  have e2 := Nat.mul_le_mul_right n (show now + r.pause % 6 + r.at_ % 6 ≤ now + r.pause % 6 + r.at_ % 6 + r.rest % 6 by omega)
  have d1 : (mk t n k now r).th = (t : Int) := rfl
  have d2 : (mk t n k now r).ix = (k : Int) := rfl
  have d3 : (mk t n k now r).inv = (((now + r.pause % 6) * n + t : Nat) : Int) := rfl
  have d4 : (mk t n k now r).pt = if r.op && r.late then -1 else (((now + r.pause % 6 + r.at_ % 6) * n + t : Nat) : Int) := rfl
  have d5 : (mk t n k now r).rs = if r.op then -1 else (((now + r.pause % 6 + r.at_ % 6 + r.rest % 6) * n + t : Nat) : Int) := rfl
  refine ⟨?_, ⟨_, d3⟩, ?_⟩
  · unfold SoundR
    rw [d1, d2, d3, d4, d5]
    cases r.op <;> cases r.late <;> simp only [Bool.true_and, Bool.false_and, if_true, if_false, Bool.false_eq_true] <;> refine ⟨?_, ?_, ?_, ?_, ?_, ?_, ?_⟩ <;> omega
  · rw [d4]
    by_cases h : (r.op && r.late) = true
    · left; rw [if_pos h]
    · right; rw [if_neg h]; exact ⟨_, rfl⟩
theorem recs_facts (t n : Nat) : ∀ (j k now : Nat) (rs : List Rn), ∀ x ∈ recs t n k now j rs, SoundR x ∧ (∃ q : Nat, x.inv = ((q * n + t : Nat) : Int)) ∧ (x.pt = -1 ∨ ∃ q : Nat, x.pt = ((q * n + t : Nat) : Int))
  | 0, _, _, _, x, hx => by simp [recs] at hx
  | _ + 1, _, _, [], x, hx => by simp [recs] at hx
  | j + 1, k, now, r :: rs, x, hx => by
    unfold recs at hx
    rcases List.mem_cons.1 hx with rfl | hx
    · exact mk_facts t n k now r
    · by_cases ho : r.op = true
      · rw [if_pos ho] at hx; simp at hx
      · rw [if_neg ho] at hx
        exact recs_facts t n j (k + 1) (after now r) rs x hx
theorem mod_ne {n t t' q q' : Nat} (ht : t < n) (ht' : t' < n) (h : q * n + t = q' * n + t') : t = t' := by
  have h1 : (q * n + t) % n = t := by rw [Nat.add_comm, Nat.add_mul_mod_self_right, Nat.mod_eq_of_lt ht]
  have h2 : (q' * n + t') % n = t' := by rw [Nat.add_comm, Nat.add_mul_mod_self_right, Nat.mod_eq_of_lt ht']
  rw [← h1, h, h2]
/-- What holds within each thread's part holds for the records of one thread in the whole. -/
theorem pair_th {S : Rec → Rec → Prop} : ∀ {l : List Rec}, (∀ t, (ofT t l).Pairwise S) → l.Pairwise (fun a b => a.th = b.th → S a b)
  | [], _ => List.Pairwise.nil
  | x :: l, h => by
    refine List.pairwise_cons.2 ⟨fun b hb e => ?_, pair_th (fun t => (h t).sublist ?_)⟩
    · have := h x.th
      unfold ofT at this
      rw [List.filter_cons_of_pos (p := fun y : Rec => y.th == x.th) (by simp)] at this
      exact (List.pairwise_cons.1 this).1 b (List.mem_filter.2 ⟨hb, by rw [beq_iff_eq]; exact e.symm⟩)
    · unfold ofT
      exact (List.sublist_cons_self x l).filter _
/-- What build makes is good. -/
theorem bld_good (n : Nat) (hn : 0 < n) (f : Nat → List Rn) (m : Nat) (hm : m ≤ n) : Good (bld n f m) := by
  obtain ⟨h1, h2, h3⟩ := bld_law n hn f m
  have hsnd : ∀ r ∈ bld n f m, SoundR r := fun r hr => by
    obtain ⟨t, _, _, hx⟩ := h3 r hr
    exact (recs_facts t n 8 0 0 (f t) r hx).1
  have hpart : ∀ t, (ofT t (bld n f m)).Pairwise (fun a b => (prec a b = true ∧ a.rs ≠ -1) ∧ a.inv < b.inv) := fun t => by
    by_cases ht : ∃ t' : Nat, t = (t' : Int)
    · obtain ⟨t', rfl⟩ := ht
      rw [h2 t']
      by_cases hlt : t' < m
      · rw [if_pos hlt]
        exact (recs_chain t' n hn 8 0 0 (f t')).and (recs_asc t' n hn 8 0 0 (f t'))
      · rw [if_neg hlt]; exact List.Pairwise.nil
    · have : ofT t (bld n f m) = [] := List.filter_eq_nil_iff.2 fun x hx hxt => by
        obtain ⟨t', _, e, _⟩ := h3 x hx
        exact ht ⟨t', by rw [← e]; exact (beq_iff_eq.1 hxt).symm⟩
      rw [this]; exact List.Pairwise.nil
  have hth := pair_th hpart
  have hmem : ∀ (i : Nat) (hi : i < (bld n f m).length), (bld n f m)[i] ∈ bld n f m := fun i hi => List.getElem_mem hi
  refine ⟨hsnd, ?_, ?_, ?_, fun i r hr => ?_⟩
  · rw [List.pairwise_iff_getElem]
    intro i j hi hj hij
    have hle := (List.pairwise_iff_getElem.1 h1) i j hi hj hij
    have hs := (List.pairwise_iff_getElem.1 hth) i j hi hj hij
    obtain ⟨t, ht, et, hx⟩ := h3 _ (hmem i hi)
    obtain ⟨t', ht', et', hx'⟩ := h3 _ (hmem j hj)
    by_cases e : (bld n f m)[i].th = (bld n f m)[j].th
    · exact (hs e).2
    · obtain ⟨_, ⟨q, hq⟩, _⟩ := recs_facts t n 8 0 0 (f t) _ hx
      obtain ⟨_, ⟨q', hq'⟩, _⟩ := recs_facts t' n 8 0 0 (f t') _ hx'
      have hne : (bld n f m)[i].inv ≠ (bld n f m)[j].inv := fun h => by
        rw [hq, hq'] at h
        have := mod_ne (n := n) (by omega) (by omega) (Int.ofNat.inj h)
        exact e (by rw [et, et', this])
      omega
  · rw [List.pairwise_iff_getElem]
    intro i j hi hj hij
    have hs := (List.pairwise_iff_getElem.1 hth) i j hi hj hij
    obtain ⟨t, ht, et, hx⟩ := h3 _ (hmem i hi)
    obtain ⟨t', ht', et', hx'⟩ := h3 _ (hmem j hj)
    obtain ⟨sa, _, pa⟩ := recs_facts t n 8 0 0 (f t) _ hx
    obtain ⟨sb, _, pb⟩ := recs_facts t' n 8 0 0 (f t') _ hx'
    by_cases e : (bld n f m)[i].th = (bld n f m)[j].th
    · obtain ⟨⟨hp, hr⟩, _⟩ := hs e
      simp only [prec, Bool.and_eq_true, decide_eq_true_eq] at hp
      obtain ⟨a1, a2, a3, a4, a5, a6, a7⟩ := sa
      obtain ⟨b1, b2, b3, b4, b5, b6, b7⟩ := sb
      have := hp.2
      by_cases hz : (bld n f m)[i].pt = -1
      · exact .inl hz
      · right; intro h; omega
    · rcases pa with pa | ⟨q, hq⟩
      · exact .inl pa
      · rcases pb with pb | ⟨q', hq'⟩
        · right; rw [pb, hq]; omega
        · right; intro h
          rw [hq, hq'] at h
          have := mod_ne (n := n) (by omega) (by omega) (Int.ofNat.inj h)
          exact e (by rw [et, et', this])
  · refine hth.imp_of_mem (fun {a b} ha hb h e => ?_)
    obtain ⟨⟨hp, hr⟩, _⟩ := h e
    simp only [prec, Bool.and_eq_true, decide_eq_true_eq] at hp
    have := (hsnd a ha).2.2.2.2.2.1
    exact ⟨by omega, hp.2⟩
  · obtain ⟨t, ht, et, hx⟩ := h3 r (List.mem_of_getElem? hr)
    have hsp : bld n f m = (bld n f m).take i ++ r :: (bld n f m).drop (i + 1) := by
      obtain ⟨hk1, hk2⟩ := List.getElem?_eq_some_iff.1 hr
      conv => lhs; rw [← List.take_append_drop i (bld n f m), List.drop_eq_getElem_cons hk1, hk2]
    have hf := h2 t
    rw [if_pos ht] at hf
    unfold ofT at hf
    rw [hsp, List.filter_append, List.filter_cons_of_pos (p := fun y : Rec => y.th == (t : Int)) (by rw [beq_iff_eq]; exact et)] at hf
    have hix := recs_ix t n 8 0 0 (f t) (((bld n f m).take i).filter (fun y => y.th == (t : Int))).length r (by
      rw [← hf, List.getElem?_append_right (Nat.le_refl _), Nat.sub_self]; rfl)
    rw [et, hix]; omega
/-- The plain law of HistoryThreads. -/
theorem threads_law (n : Nat) (hn : 0 < n) (f : Nat → List Rn) (m : Nat) (_hm : m ≤ 6) (t : Nat) :
    (∀ (i : Nat) (a b : Rec), (ofT t (bld n f m))[i]? = some a → (ofT t (bld n f m))[i + 1]? = some b → prec a b = true ∧ b.ix = (i : Int) + 1) ∧ ((ofT t (bld n f m)).filter (fun r => r.rs == -1)).length ≤ 1 := by
  obtain ⟨h1, h2, h3⟩ := bld_law n hn f m
  rw [h2 t]
  by_cases ht : t < m
  · rw [if_pos ht]
    have hc := recs_chain t n hn 8 0 0 (f t)
    refine ⟨fun i a b ha hb => ⟨?_, ?_⟩, ?_⟩
    · obtain ⟨q1, rfl⟩ := List.getElem?_eq_some_iff.1 ha
      obtain ⟨q2, rfl⟩ := List.getElem?_eq_some_iff.1 hb
      exact ((List.pairwise_iff_getElem.1 hc) i (i + 1) q1 q2 (by omega)).1
    · have := recs_ix t n 8 0 0 (f t) (i + 1) b hb
      omega
    · have hp := hc.sublist (List.filter_sublist (p := fun r : Rec => r.rs == -1))
      match hl : (recs t n 0 0 8 (f t)).filter (fun r => r.rs == -1) with
      | [] => rw [hl]; simp
      | [_] => rw [hl]; simp
      | a :: b :: r =>
        exfalso
        rw [hl] at hp
        have h1 := (List.pairwise_cons.1 hp).1 b (List.mem_cons_self ..)
        have ha : a ∈ (recs t n 0 0 8 (f t)).filter (fun r => r.rs == -1) := by rw [hl]; exact List.mem_cons_self ..
        exact h1.2 (beq_iff_eq.1 (List.mem_filter.1 ha).2)
  · rw [if_neg ht]; simp
theorem threads_sum (n : Nat) (hn : 0 < n) (f : Nat → List Rn) (m : Nat) (hm : m ≤ 6) : ((List.range 6).map (fun t : Nat => (ofT t (bld n f m)).length)).sum = (bld n f m).length :=
  ofT_sum _ 6 fun x hx => by
    obtain ⟨t, ht, e, _⟩ := (bld_law n hn f m).2.2 x hx
    rw [e]; omega
/-- The plain law of HistoryOrderIsCompatible. -/
theorem order_law (o : List Rec) (hs : ∀ r ∈ o, SoundR r ∧ 0 ≤ r.pt) (ho : o.Pairwise (fun a b => a.pt ≤ b.pt)) (i k : Nat) (a b : Rec) (ha : o[i]? = some a) (hb : o[k]? = some b) (h : prec a b = true) : i < k := by
  obtain ⟨sa, pa⟩ := hs a (List.mem_of_getElem? ha)
  obtain ⟨sb, pb⟩ := hs b (List.mem_of_getElem? hb)
  obtain ⟨a1, a2, a3, a4, a5, a6, a7⟩ := sa
  obtain ⟨b1, b2, b3, b4, b5, b6, b7⟩ := sb
  simp only [prec, Bool.and_eq_true, decide_eq_true_eq, bne_iff_ne] at h
  have hlt : a.pt < b.pt := by
    have := h.1
    omega
  obtain ⟨q1, rfl⟩ := List.getElem?_eq_some_iff.1 ha
  obtain ⟨q2, rfl⟩ := List.getElem?_eq_some_iff.1 hb
  rcases Nat.lt_trichotomy i k with hik | hik | hik
  · exact hik
  · subst hik; omega
  · have := (List.pairwise_iff_getElem.1 ho) k i q2 q1 hik
    omega
theorem prec_trans {a b c : Rec} (hb : SoundR b) (h1 : prec a b = true) (h2 : prec b c = true) : prec a c = true := by
  obtain ⟨b1, b2, b3, b4, b5, b6, b7⟩ := hb
  simp only [prec, Bool.and_eq_true, decide_eq_true_eq, bne_iff_ne] at h1 h2 ⊢
  exact ⟨h1.1, by have := h2.1; omega⟩
/-- Operations that follow each other. -/
def seqR (i : Nat) : Rec := ⟨(i : Int), 0, ((3 * i : Nat) : Int), ((3 * i + 1 : Nat) : Int), ((3 * i + 2 : Nat) : Int)⟩
def seqL (m : Nat) : List Rec := (List.range m).map seqR
theorem seq_at {m i : Nat} {r : Rec} (h : (seqL m)[i]? = some r) : r = seqR i ∧ i < m := by
  unfold seqL at h
  rw [List.getElem?_map] at h
  by_cases hi : i < m
  · rw [List.getElem?_range hi] at h
    exact ⟨(Option.some.inj h).symm, hi⟩
  · rw [List.getElem?_eq_none (by simp; omega)] at h; cases h
theorem seq_pair {m : Nat} {S : Rec → Rec → Prop} (h : ∀ i j, i < j → S (seqR i) (seqR j)) : (seqL m).Pairwise S := by
  rw [List.pairwise_iff_getElem]
  intro i j hi hj hij
  obtain ⟨e1, _⟩ := seq_at (List.getElem?_eq_getElem hi)
  obtain ⟨e2, _⟩ := seq_at (List.getElem?_eq_getElem hj)
  rw [e1, e2]
  exact h i j hij
theorem seq_prec {i j : Nat} (h : i < j) : prec (seqR i) (seqR j) = true := by
  unfold prec
  rw [Bool.and_eq_true]
  exact ⟨bne_iff_ne.2 (by simp only [seqR]; omega), decide_eq_true (by simp only [seqR]; omega)⟩
theorem seq_good (m : Nat) : Good (seqL m) := by
  refine ⟨fun r hr => ?_, seq_pair fun i j h => ?_, seq_pair fun i j h => ?_, seq_pair fun i j h e => ?_, fun i r hr => ?_⟩
  · obtain ⟨i, hi⟩ := List.getElem?_of_mem hr
    obtain ⟨rfl, _⟩ := seq_at hi
    unfold SoundR seqR
    refine ⟨?_, ?_, ?_, ?_, ?_, ?_, ?_⟩ <;> simp only <;> omega
  · show (seqR i).inv < (seqR j).inv
    simp only [seqR]; omega
  · right
    simp only [seqR]; omega
  · simp only [seqR] at e
    omega
  · obtain ⟨rfl, hi⟩ := seq_at hr
    have : ((seqL m).take i).filter (fun y => y.th == (seqR i).th) = [] := List.filter_eq_nil_iff.2 fun y hy hyt => by
      obtain ⟨j, hj⟩ := List.getElem?_of_mem hy
      have hjl := (List.getElem?_eq_some_iff.1 hj).1
      rw [List.length_take] at hjl
      rw [List.getElem?_take, if_pos (by omega)] at hj
      obtain ⟨rfl, _⟩ := seq_at hj
      have := beq_iff_eq.1 hyt
      simp only [seqR] at this
      omega
    rw [this]; rfl
theorem seq_over (m : Nat) (x : Rec) (hx : x ∈ seqL m) : ((seqL m).filter (ov x)).length = 1 := by
  have h1 := pair_one (seq_pair (m := m) (S := fun a b => prec a b = true) fun i j h => seq_prec h) x
  have h2 : x ∈ (seqL m).filter (ov x) := List.mem_filter.2 ⟨hx, by
    obtain ⟨i, hi⟩ := List.getElem?_of_mem hx
    obtain ⟨rfl, _⟩ := seq_at hi
    unfold ov
    rw [Bool.and_eq_true, Bool.or_eq_true]
    exact ⟨decide_eq_true (Int.le_refl _), .inr (decide_eq_true (by simp only [seqR]; omega))⟩⟩
  have := List.length_pos_of_mem h2
  omega
end Go.Proofs.Ytjlgodaiciopaaa
