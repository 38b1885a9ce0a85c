/- Ascending lists of entries, batches of writes: what the functions of the layer answer, and the laws. No program. -/
namespace Go.Proofs.YtjmhnlbkfbieaaaGreat
abbrev Str := List UInt8
structure Ent where
  k : Str
  v : Str
structure Wrt where
  k : Str
  v : Str
  d : Bool
theorem slt_irrefl (a : Str) : ¬ a < a := List.lt_irrefl a
theorem slt_trans {a b c : Str} (h : a < b) (h' : b < c) : a < c := List.lt_trans h h'
theorem slt_asymm {a b : Str} (h : a < b) : ¬ b < a := List.lt_asymm h
theorem slt_tri {a b : Str} (h : ¬ a < b) (h' : ¬ b < a) : a = b := List.le_antisymm (α := UInt8) (as := a) (bs := b) (List.not_lt.1 h') (List.not_lt.1 h)
theorem slt_ne {a b : Str} (h : a < b) : a ≠ b := fun e => by subst e; exact slt_irrefl _ h
theorem slt_of {a b : Str} (h : ¬ a < b) (h' : a ≠ b) : b < a := by
  by_cases h2 : b < a
  · exact h2
  · exact absurd (slt_tri h h2) h'
theorem sle_trans {a b c : Str} (h : ¬ b < a) (h' : b < c) : a < c := by
  by_cases e : a = b
  · subst e; exact h'
  · exact slt_trans (slt_of h (fun x => e x.symm)) h'
def Asc (l : List Ent) : Prop := l.Pairwise (fun a b => a.k < b.k)
def lk : List Ent → Str → Option Str
  | [], _ => none
  | e :: t, k => if e.k = k then some e.v else lk t k
theorem lk_none {l : List Ent} {k : Str} (h : ∀ x ∈ l, x.k ≠ k) : lk l k = none := by
  induction l with
  | nil => rfl
  | cons e t ih => rw [lk, if_neg (h e (by simp)), ih (fun x hx => h x (by simp [hx]))]
theorem lk_ext : ∀ {l m : List Ent}, Asc l → Asc m → (∀ k, lk l k = lk m k) → l = m
  | [], [], _, _, _ => rfl
  | [], f :: m, _, _, h => by have := h f.k; simp [lk] at this
  | e :: l, [], _, _, h => by have := h e.k; simp [lk] at this
  | e :: l, f :: m, hl, hm, h => by
    have hl' := List.pairwise_cons.1 hl
    have hm' := List.pairwise_cons.1 hm
    have e1 : e.k = f.k := by
      refine slt_tri (fun hlt => ?_) (fun hlt => ?_)
      · have := h e.k
        rw [lk, if_pos rfl, lk, if_neg (fun x => slt_ne hlt x.symm), lk_none (fun x hx => fun y => ?_)] at this
        · exact absurd this (by simp)
        · have := slt_trans hlt (hm'.1 x hx); rw [y] at this; exact slt_irrefl _ this
      · have := h f.k
        rw [lk, if_neg (fun x => slt_ne hlt x.symm), lk_none (fun x hx => fun y => ?_), lk, if_pos rfl] at this
        · exact absurd this (by simp)
        · have := slt_trans hlt (hl'.1 x hx); rw [y] at this; exact slt_irrefl _ this
    have e2 : e.v = f.v := by
      have := h e.k
      rw [lk, if_pos rfl, lk, if_pos e1.symm] at this
      exact Option.some.inj this
    have e3 : e = f := by cases e; cases f; simp_all
    subst e3
    have : l = m := lk_ext hl'.2 hm'.2 (fun k => by
      by_cases hk : e.k = k
      · subst hk
        rw [lk_none (fun x hx => fun y => slt_ne (hl'.1 x hx) y.symm), lk_none (fun x hx => fun y => slt_ne (hm'.1 x hx) y.symm)]
      · have := h k
        rw [lk, if_neg hk, lk, if_neg hk] at this
        exact this)
    rw [this]
/-- Put of the reference. -/
def putR (e : Ent) : List Ent → List Ent
  | [] => [e]
  | x :: xs => if x.k < e.k then x :: putR e xs else e :: (x :: xs).filter (fun y => decide (y.k ≠ e.k))
def dropR (k : Str) (l : List Ent) : List Ent := l.filter (fun y => decide (y.k ≠ k))
theorem lk_filter (l : List Ent) (k k' : Str) : lk (l.filter (fun y => decide (y.k ≠ k))) k' = if k = k' then none else lk l k' := by
  induction l with
  | nil => simp [lk]
  | cons e t ih =>
    by_cases h : e.k = k
    · rw [List.filter_cons_of_neg (by simp [h]), ih]
      by_cases h2 : k = k'
      · simp [h2]
      · rw [if_neg h2, if_neg h2, lk, if_neg (by rw [h]; exact h2)]
    · rw [List.filter_cons_of_pos (by simp [h]), lk, ih]
      by_cases h2 : k = k'
      · rw [if_pos h2, if_pos h2, if_neg (by rw [← h2]; exact h)]
      · rw [if_neg h2, if_neg h2, lk]
theorem lk_dropR (l : List Ent) (k k' : Str) : lk (dropR k l) k' = if k = k' then none else lk l k' := lk_filter l k k'
theorem lk_putR (e : Ent) (l : List Ent) (k : Str) : lk (putR e l) k = if e.k = k then some e.v else lk l k := by
  induction l with
  | nil => simp [putR, lk]
  | cons x xs ih =>
    by_cases h : x.k < e.k
    · rw [putR, if_pos h, lk, ih]
      by_cases h2 : x.k = k
      · rw [if_pos h2, if_neg (by rw [← h2]; exact fun y => slt_ne h y.symm), lk, if_pos h2]
      · rw [if_neg h2, lk, if_neg h2]
    · rw [putR, if_neg h, lk, lk_filter]
      by_cases h2 : e.k = k
      · rw [if_pos h2, if_pos h2]
      · rw [if_neg h2, if_neg h2, if_neg h2]
theorem mem_putR {e x : Ent} {l : List Ent} (h : x ∈ putR e l) : x = e ∨ x ∈ l := by
  induction l with
  | nil => simpa [putR] using h
  | cons y ys ih =>
    rw [putR] at h
    split at h
    · rcases List.mem_cons.1 h with rfl | h
      · exact .inr (by simp)
      · rcases ih h with h | h
        · exact .inl h
        · exact .inr (by simp [h])
    · rcases List.mem_cons.1 h with rfl | h
      · exact .inl rfl
      · exact .inr (List.mem_filter.1 h).1
theorem asc_dropR {l : List Ent} (k : Str) (h : Asc l) : Asc (dropR k l) := h.filter _
theorem asc_putR {l : List Ent} (e : Ent) (h : Asc l) : Asc (putR e l) := by
  induction l with
  | nil => simp [putR, Asc]
  | cons x xs ih =>
    have h' := List.pairwise_cons.1 h
    rw [putR]
    split
    · rename_i hlt
      refine List.pairwise_cons.2 ⟨fun y hy => ?_, ih h'.2⟩
      rcases mem_putR hy with rfl | hy
      · exact hlt
      · exact h'.1 y hy
    · rename_i hlt
      refine List.pairwise_cons.2 ⟨fun y hy => ?_, h.filter _⟩
      obtain ⟨hy, hne⟩ := List.mem_filter.1 hy
      have hne : y.k ≠ e.k := by simpa using hne
      rcases List.mem_cons.1 hy with rfl | hy
      · exact slt_of hlt hne
      · exact sle_trans hlt (h'.1 y hy)
/-- One write. -/
def stepR (l : List Ent) (w : Wrt) : List Ent := if w.d then dropR w.k l else putR ⟨w.k, w.v⟩ l
def applyR (l : List Ent) (b : List Wrt) : List Ent := b.foldl stepR l
theorem asc_stepR {l : List Ent} (w : Wrt) (h : Asc l) : Asc (stepR l w) := by
  unfold stepR; split
  · exact asc_dropR _ h
  · exact asc_putR _ h
theorem asc_applyR {l : List Ent} (b : List Wrt) (h : Asc l) : Asc (applyR l b) := by
  induction b generalizing l with
  | nil => exact h
  | cons w b ih => exact ih (asc_stepR w h)
/-- The program's forms, for an ascending list split at the key. -/
theorem putR_split (e : Ent) (A B : List Ent) (hA : ∀ x ∈ A, x.k < e.k) (hB : ∀ x ∈ B, e.k < x.k) : putR e (A ++ B) = A ++ e :: B := by
  induction A with
  | nil =>
    cases B with
    | nil => rfl
    | cons b B =>
      have hf : (b :: B).filter (fun y => decide (y.k ≠ e.k)) = b :: B := List.filter_eq_self.2 fun x hx => by simp only [decide_eq_true_eq]; exact fun y => slt_ne (hB x hx) y.symm
      rw [List.nil_append, putR, if_neg (slt_asymm (hB b (by simp))), hf, List.nil_append]
  | cons a A ih => rw [List.cons_append, putR, if_pos (hA a (by simp)), ih (fun x hx => hA x (by simp [hx])), List.cons_append]
theorem putR_split' (e : Ent) (v : Str) (A B : List Ent) (hA : ∀ x ∈ A, x.k < e.k) (hB : ∀ x ∈ B, e.k < x.k) : putR e (A ++ ⟨e.k, v⟩ :: B) = A ++ e :: B := by
  induction A with
  | nil =>
    have hf : B.filter (fun y => decide (y.k ≠ e.k)) = B := List.filter_eq_self.2 fun x hx => by simp only [decide_eq_true_eq]; exact fun y => slt_ne (hB x hx) y.symm
    rw [List.nil_append, putR, if_neg (slt_irrefl _), List.filter_cons_of_neg (by simp), hf, List.nil_append]
  | cons a A ih => rw [List.cons_append, putR, if_pos (hA a (by simp)), ih (fun x hx => hA x (by simp [hx])), List.cons_append]
theorem dropR_split (k : Str) (A B : List Ent) (hA : ∀ x ∈ A, x.k < k) (hB : ∀ x ∈ B, k < x.k) : dropR k (A ++ B) = A ++ B := by
  refine List.filter_eq_self.2 fun x hx => ?_
  simp only [decide_eq_true_eq]
  rcases List.mem_append.1 hx with h | h
  · exact slt_ne (hA x h)
  · exact fun y => slt_ne (hB x h) y.symm
theorem dropR_split' (k v : Str) (A B : List Ent) (hA : ∀ x ∈ A, x.k < k) (hB : ∀ x ∈ B, k < x.k) : dropR k (A ++ ⟨k, v⟩ :: B) = A ++ B := by
  have := dropR_split k A B hA hB
  unfold dropR at this ⊢
  rw [List.filter_append, List.filter_cons_of_neg (by simp), ← List.filter_append, this]
/-- The last write of a key. -/
def lastW : List Wrt → Str → Option Wrt
  | [], _ => none
  | w :: b, k => match lastW b k with
    | some x => some x
    | none => if w.k = k then some w else none
theorem lastW_append (a b : List Wrt) (k : Str) : lastW (a ++ b) k = match lastW b k with | some x => some x | none => lastW a k := by
  induction a with
  | nil => cases h : lastW b k <;> simp [lastW, h]
  | cons w a ih =>
    rw [List.cons_append, lastW, ih]
    cases h : lastW b k with
    | some x => rfl
    | none => rfl
theorem lastW_some {b : List Wrt} {k : Str} {w : Wrt} (h : lastW b k = some w) : w ∈ b ∧ w.k = k := by
  induction b with
  | nil => simp [lastW] at h
  | cons x b ih =>
    rw [lastW] at h
    cases h2 : lastW b k with
    | some y =>
      rw [h2] at h
      obtain ⟨h3, h4⟩ := ih (by rw [h2]; exact h)
      exact ⟨by simp [h3], h4⟩
    | none =>
      rw [h2] at h
      by_cases h3 : x.k = k
      · simp [h3] at h; subst h; exact ⟨by simp, h3⟩
      · simp [h3] at h
theorem lastW_mem {b : List Wrt} {w : Wrt} (h : w ∈ b) : ∃ x, lastW b w.k = some x := by
  induction b with
  | nil => simp at h
  | cons y b ih =>
    rw [lastW]
    cases h2 : lastW b w.k with
    | some x => exact ⟨x, rfl⟩
    | none =>
      rcases List.mem_cons.1 h with rfl | h
      · exact ⟨w, by simp⟩
      · obtain ⟨x, hx⟩ := ih h
        rw [h2] at hx; exact absurd hx (by simp)
theorem lk_applyR (l : List Ent) (b : List Wrt) (k : Str) : lk (applyR l b) k = match lastW b k with | some w => if w.d then none else some w.v | none => lk l k := by
  induction b generalizing l with
  | nil => rfl
  | cons w b ih =>
    rw [show applyR l (w :: b) = applyR (stepR l w) b from rfl, ih, lastW]
    cases lastW b k with
    | some x => rfl
    | none =>
      by_cases h : w.k = k
      · by_cases hd : w.d <;> simp [h, hd, stepR, lk_dropR, lk_putR]
      · by_cases hd : w.d <;> simp [h, hd, stepR, lk_dropR, lk_putR]
theorem applyR_same {l : List Ent} {a b : List Wrt} (hl : Asc l) (h : ∀ k, lastW a k = lastW b k) : applyR l a = applyR l b :=
  lk_ext (asc_applyR a hl) (asc_applyR b hl) fun k => by rw [lk_applyR, lk_applyR, h]
theorem applyR_compose (l : List Ent) (a b : List Wrt) : applyR (applyR l a) b = applyR l (a ++ b) := (List.foldl_append ..).symm
theorem applyR_twice {l : List Ent} (b : List Wrt) (hl : Asc l) : applyR (applyR l b) b = applyR l b := by
  rw [applyR_compose]
  refine applyR_same hl fun k => ?_
  rw [lastW_append]
  cases h : lastW b k <;> rfl
theorem applyR_commute {l : List Ent} (a b : List Wrt) (hl : Asc l) (h : ∀ x ∈ a, ∀ y ∈ b, x.k ≠ y.k) : applyR (applyR l a) b = applyR (applyR l b) a := by
  rw [applyR_compose, applyR_compose]
  refine applyR_same hl fun k => ?_
  rw [lastW_append, lastW_append]
  cases h1 : lastW a k with
  | none => cases h2 : lastW b k <;> rfl
  | some x =>
    cases h2 : lastW b k with
    | none => rfl
    | some y =>
      obtain ⟨h3, h4⟩ := lastW_some h1
      obtain ⟨h5, h6⟩ := lastW_some h2
      exact absurd (h4.trans h6.symm) (h x h3 y h5)
/-- The keys of a batch, ascending. -/
def keyL (l : List Ent) (b : List Wrt) : List Ent := b.foldl (fun l w => putR ⟨w.k, []⟩ l) l
def ksOf (b : List Wrt) : List Str := (keyL [] b).map (·.k)
def norm (b : List Wrt) : List Wrt := (ksOf b).filterMap (lastW b)
theorem mem_putR_self (e : Ent) (l : List Ent) : e ∈ putR e l := by
  induction l with
  | nil => simp [putR]
  | cons x xs ih => rw [putR]; split <;> simp [ih]
theorem key_putR {e : Ent} {l : List Ent} {k : Str} : k ∈ (putR e l).map (·.k) ↔ k = e.k ∨ k ∈ l.map (·.k) := by
  constructor
  · intro h
    obtain ⟨x, hx, rfl⟩ := List.mem_map.1 h
    rcases mem_putR hx with rfl | h
    · exact .inl rfl
    · exact .inr (List.mem_map_of_mem h)
  · rintro (rfl | h)
    · exact List.mem_map_of_mem (f := (·.k)) (mem_putR_self e l)
    · induction l with
      | nil => simp at h
      | cons x xs ih =>
        rw [putR]
        by_cases hk : k = e.k
        · subst hk
          split
          · exact List.mem_cons_of_mem _ (List.mem_map_of_mem (f := (·.k)) (mem_putR_self e xs))
          · simp
        · split
          · rcases List.mem_cons.1 h with rfl | h
            · simp
            · exact List.mem_cons_of_mem _ (ih h)
          · obtain ⟨y, hy, rfl⟩ := List.mem_map.1 h
            exact List.mem_cons_of_mem _ (List.mem_map_of_mem (List.mem_filter.2 ⟨hy, by simpa using hk⟩))
theorem keyL_mem (l : List Ent) (b : List Wrt) (k : Str) : k ∈ (keyL l b).map (·.k) ↔ k ∈ l.map (·.k) ∨ k ∈ b.map (·.k) := by
  induction b generalizing l with
  | nil => simp [keyL]
  | cons w b ih =>
    rw [show keyL l (w :: b) = keyL (putR ⟨w.k, []⟩ l) b from rfl, ih, key_putR]
    simp only [List.map_cons, List.mem_cons]
    constructor
    · rintro ((h | h) | h)
      · exact .inr (.inl h)
      · exact .inl h
      · exact .inr (.inr h)
    · rintro (h | h | h)
      · exact .inl (.inr h)
      · exact .inl (.inl h)
      · exact .inr h
theorem mem_ksOf (b : List Wrt) (k : Str) : k ∈ ksOf b ↔ k ∈ b.map (·.k) := by
  unfold ksOf; rw [keyL_mem]; simp
theorem asc_keyL {l : List Ent} (b : List Wrt) (h : Asc l) : Asc (keyL l b) := by
  induction b generalizing l with
  | nil => exact h
  | cons w b ih => exact ih (asc_putR _ h)
theorem asc_ksOf (b : List Wrt) : (ksOf b).Pairwise (· < ·) := by
  have : Asc (keyL [] b) := asc_keyL b List.Pairwise.nil
  unfold ksOf
  rw [List.pairwise_map]
  exact this
theorem asc_ext : ∀ {l m : List Str}, l.Pairwise (· < ·) → m.Pairwise (· < ·) → (∀ k, k ∈ l ↔ k ∈ m) → l = m
  | [], [], _, _, _ => rfl
  | [], f :: m, _, _, h => by have := (h f).2 (by simp); simp at this
  | e :: l, [], _, _, h => by have := (h e).1 (by simp); simp at this
  | e :: l, f :: m, hl, hm, h => by
    have hl' := List.pairwise_cons.1 hl
    have hm' := List.pairwise_cons.1 hm
    have e1 : e = f := by
      refine slt_tri (fun hlt => ?_) (fun hlt => ?_)
      · rcases List.mem_cons.1 ((h e).1 (by simp)) with x | x
        · exact slt_ne hlt x
        · exact slt_asymm hlt (hm'.1 e x)
      · rcases List.mem_cons.1 ((h f).2 (by simp)) with x | x
        · exact slt_ne hlt x
        · exact slt_asymm hlt (hl'.1 f x)
    subst e1
    have : l = m := asc_ext hl'.2 hm'.2 (fun k => by
      constructor
      · intro hk
        rcases List.mem_cons.1 ((h k).1 (by simp [hk])) with x | x
        · exact absurd (hl'.1 k hk) (by rw [x]; exact slt_irrefl _)
        · exact x
      · intro hk
        rcases List.mem_cons.1 ((h k).2 (by simp [hk])) with x | x
        · exact absurd (hm'.1 k hk) (by rw [x]; exact slt_irrefl _)
        · exact x)
    rw [this]
theorem lastW_of_mem_ks {b : List Wrt} {k : Str} (h : k ∈ ksOf b) : ∃ w, lastW b k = some w ∧ w.k = k ∧ w ∈ b := by
  obtain ⟨w, hw, rfl⟩ := List.mem_map.1 ((mem_ksOf b k).1 h)
  obtain ⟨x, hx⟩ := lastW_mem hw
  exact ⟨x, hx, (lastW_some hx).2, (lastW_some hx).1⟩
theorem filterMap_keys (b : List Wrt) : ∀ (ks : List Str), (∀ k ∈ ks, k ∈ ksOf b) → (ks.filterMap (lastW b)).map (·.k) = ks
  | [], _ => rfl
  | k :: ks, h => by
    obtain ⟨w, hw, hk, _⟩ := lastW_of_mem_ks (h k (by simp))
    rw [List.filterMap_cons, hw]
    simp only [List.map_cons, hk]
    rw [filterMap_keys b ks (fun x hx => h x (by simp [hx]))]
theorem norm_keys (b : List Wrt) : (norm b).map (·.k) = ksOf b := filterMap_keys b _ (fun _ h => h)
theorem norm_asc (b : List Wrt) : (norm b).Pairwise (fun x y => x.k < y.k) := by
  have := asc_ksOf b
  rw [← norm_keys, List.pairwise_map] at this
  exact this
theorem norm_mem {b : List Wrt} {w : Wrt} (h : w ∈ norm b) : w ∈ b ∧ lastW b w.k = some w := by
  obtain ⟨k, _, hk⟩ := List.mem_filterMap.1 h
  obtain ⟨h1, h2⟩ := lastW_some hk
  subst h2
  exact ⟨h1, hk⟩
theorem lastW_asc : ∀ {b : List Wrt} {w : Wrt}, b.Pairwise (fun x y => x.k < y.k) → w ∈ b → lastW b w.k = some w
  | x :: b, w, hb, hw => by
    have hb' := List.pairwise_cons.1 hb
    rw [lastW]
    rcases List.mem_cons.1 hw with rfl | hw
    · cases h2 : lastW b w.k with
      | none => simp
      | some y =>
        obtain ⟨h3, h4⟩ := lastW_some h2
        have := hb'.1 y h3
        rw [h4] at this
        exact absurd this (slt_irrefl _)
    · rw [lastW_asc hb'.2 hw]
theorem lastW_norm (b : List Wrt) (k : Str) : lastW (norm b) k = lastW b k := by
  cases h : lastW b k with
  | some w =>
    obtain ⟨h1, h2⟩ := lastW_some h
    subst h2
    refine lastW_asc (norm_asc b) ?_
    exact List.mem_filterMap.2 ⟨w.k, (mem_ksOf b _).2 (List.mem_map_of_mem h1), h⟩
  | none =>
    cases h2 : lastW (norm b) k with
    | none => rfl
    | some w =>
      obtain ⟨h3, h4⟩ := lastW_some h2
      obtain ⟨h5, h6⟩ := norm_mem h3
      rw [h4, h] at h6
      exact absurd h6 (by simp)
theorem filterMap_asc (b : List Wrt) (hb : b.Pairwise (fun x y => x.k < y.k)) : ∀ c : List Wrt, (∀ w ∈ c, w ∈ b) → (c.map (·.k)).filterMap (lastW b) = c
  | [], _ => rfl
  | w :: c, h => by
    rw [List.map_cons, List.filterMap_cons, lastW_asc hb (h w (by simp))]
    simp only []
    rw [filterMap_asc b hb c (fun x hx => h x (by simp [hx]))]
theorem norm_of_asc {b : List Wrt} (hb : b.Pairwise (fun x y => x.k < y.k)) : norm b = b := by
  have h1 : ksOf b = b.map (·.k) := asc_ext (asc_ksOf b) (List.pairwise_map.2 hb) (mem_ksOf b)
  unfold norm
  rw [h1]
  exact filterMap_asc b hb b (fun _ h => h)
theorem norm_norm (b : List Wrt) : norm (norm b) = norm b := norm_of_asc (norm_asc b)
theorem applyR_norm {l : List Ent} (b : List Wrt) (hl : Asc l) : applyR l b = applyR l (norm b) := applyR_same hl fun k => (lastW_norm b k).symm
theorem length_putR (e : Ent) {l : List Ent} (h : Asc l) : (putR e l).length = l.length + (if e.k ∈ l.map (·.k) then 0 else 1) := by
  induction l with
  | nil => simp [putR]
  | cons x xs ih =>
    have h' := List.pairwise_cons.1 h
    rw [putR]
    by_cases hlt : x.k < e.k
    · rw [if_pos hlt, List.length_cons, ih h'.2, List.length_cons]
      have : e.k ≠ x.k := fun y => slt_ne hlt y.symm
      simp only [List.map_cons, List.mem_cons, this, false_or]
      omega
    · rw [if_neg hlt, List.length_cons]
      by_cases he : x.k = e.k
      · have hf : (x :: xs).filter (fun y => decide (y.k ≠ e.k)) = xs := by
          rw [List.filter_cons_of_neg (by simp [he])]
          exact List.filter_eq_self.2 fun y hy => by simp only [decide_eq_true_eq]; rw [← he]; exact fun z => slt_ne (h'.1 y hy) z.symm
        rw [hf]; simp [he]
      · have hx := slt_of hlt he
        have hf : (x :: xs).filter (fun y => decide (y.k ≠ e.k)) = x :: xs := List.filter_eq_self.2 fun y hy => by
          simp only [decide_eq_true_eq]
          rcases List.mem_cons.1 hy with rfl | hy
          · exact he
          · exact fun z => slt_ne (slt_trans hx (h'.1 y hy)) z.symm
        rw [hf, if_neg]
        · intro hm
          obtain ⟨y, hy, hyk⟩ := List.mem_map.1 hm
          rcases List.mem_cons.1 hy with rfl | hy
          · exact he hyk
          · exact slt_ne (slt_trans hx (h'.1 y hy)) hyk.symm
theorem keyL_append (l : List Ent) (a b : List Wrt) : keyL l (a ++ b) = keyL (keyL l a) b := List.foldl_append ..
theorem ksOf_snoc (b : List Wrt) (w : Wrt) : (ksOf (b ++ [w])).length = (ksOf b).length + (if w.k ∈ b.map (·.k) then 0 else 1) := by
  unfold ksOf
  rw [List.length_map, List.length_map, keyL_append]
  show (putR ⟨w.k, []⟩ (keyL [] b)).length = _
  rw [length_putR _ (asc_keyL b List.Pairwise.nil)]
  congr 1
  have := mem_ksOf b w.k
  unfold ksOf at this
  simp only [this]
/-- How many keys: the count of the statement. -/
def firsts (b : List Wrt) : Nat → Nat
  | 0 => 0
  | i + 1 => firsts b i + (match b[i]? with | some w => if w.k ∈ (b.take i).map (·.k) then 0 else 1 | none => 0)
theorem firsts_take (b : List Wrt) : ∀ i, i ≤ b.length → firsts b i = (ksOf (b.take i)).length
  | 0, _ => by simp [firsts, ksOf, keyL]
  | i + 1, h => by
    have hi : i < b.length := by omega
    rw [firsts, firsts_take b i (by omega), List.take_add_one, List.getElem?_eq_getElem hi]
    simp only [Option.toList_some]
    rw [ksOf_snoc]
theorem norm_length (b : List Wrt) : (norm b).length = firsts b b.length := by
  rw [firsts_take b _ (Nat.le_refl _), List.take_length, ← norm_keys, List.length_map]
theorem firsts_le (b : List Wrt) : ∀ i, firsts b i ≤ i
  | 0 => Nat.le_refl _
  | i + 1 => by
    rw [firsts]
    have := firsts_le b i
    split
    · split <;> omega
    · omega
theorem norm_le (b : List Wrt) : (norm b).length ≤ b.length := by rw [norm_length]; exact firsts_le b _
/-- Check. -/
def okW (w : Wrt) : Bool := decide (w.k.length ≤ 32) && decide (w.v.length ≤ 64)
def okD (w : Wrt) : Bool := !w.d || decide (w.v = [])
def checkR (tl iv : Int) (b : List Wrt) : Int := if 16 < b.length then tl else if b.all okW then (if b.all okD then 0 else iv) else tl
def fitW (w : Wrt) : Wrt := ⟨w.k.take 32, if w.d then [] else w.v.take 64, w.d⟩
def fitL (b : List Wrt) : List Wrt := (b.take 16).map fitW
theorem fitL_len (b : List Wrt) : (fitL b).length ≤ 16 := by simp [fitL]; omega
theorem fitL_mem {b : List Wrt} {w : Wrt} (h : w ∈ fitL b) : okW w = true ∧ okD w = true ∧ (w.d = true → w.v = []) := by
  obtain ⟨x, _, rfl⟩ := List.mem_map.1 h
  refine ⟨?_, ?_, ?_⟩
  · unfold okW fitW
    cases x.d <;> simp <;> omega
  · unfold okD fitW
    cases x.d <;> simp
  · unfold fitW
    intro hd
    simp at hd
    simp [hd]
theorem checkR_ok {tl iv : Int} {b : List Wrt} (h1 : b.length ≤ 16) (h2 : ∀ w ∈ b, okW w = true ∧ okD w = true) : checkR tl iv b = 0 := by
  unfold checkR
  rw [if_neg (by omega), if_pos (List.all_eq_true.2 fun w hw => (h2 w hw).1), if_pos (List.all_eq_true.2 fun w hw => (h2 w hw).2)]
theorem checkR_fit (tl iv : Int) (b : List Wrt) : checkR tl iv (fitL b) = 0 := checkR_ok (fitL_len b) fun _ hw => ⟨(fitL_mem hw).1, (fitL_mem hw).2.1⟩
theorem checkR_norm_fit (tl iv : Int) (b : List Wrt) : checkR tl iv (norm (fitL b)) = 0 :=
  checkR_ok (Nat.le_trans (norm_le _) (fitL_len b)) fun _ hw => ⟨(fitL_mem (norm_mem hw).1).1, (fitL_mem (norm_mem hw).1).2.1⟩
def listR (raw : List Ent) : List Ent := (raw.take 30).foldl (fun l e => putR e l) []
theorem asc_foldl_put : ∀ (raw l : List Ent), Asc l → Asc (raw.foldl (fun l e => putR e l) l)
  | [], _, h => h
  | e :: raw, l, h => asc_foldl_put raw (putR e l) (asc_putR e h)
theorem asc_listR (raw : List Ent) : Asc (listR raw) := asc_foldl_put _ _ List.Pairwise.nil
theorem length_putR_le (e : Ent) (l : List Ent) : (putR e l).length ≤ l.length + 1 := by
  induction l with
  | nil => simp [putR]
  | cons x xs ih =>
    rw [putR]
    split
    · simp; omega
    · have := List.length_filter_le (fun y : Ent => decide (y.k ≠ e.k)) (x :: xs)
      simp only [List.length_cons] at this ⊢; omega
theorem length_foldl_put : ∀ (raw l : List Ent), (raw.foldl (fun l e => putR e l) l).length ≤ l.length + raw.length
  | [], _ => by simp
  | e :: raw, l => by
    have := length_foldl_put raw (putR e l)
    have := length_putR_le e l
    simp only [List.foldl_cons, List.length_cons]; omega
theorem length_listR (raw : List Ent) : (listR raw).length ≤ 30 := by
  have := length_foldl_put (raw.take 30) []
  simp only [List.length_nil, List.length_take] at this
  unfold listR; omega
theorem length_stepR_le (l : List Ent) (w : Wrt) : (stepR l w).length ≤ l.length + 1 := by
  unfold stepR; split
  · have := List.length_filter_le (fun y : Ent => decide (y.k ≠ w.k)) l
    unfold dropR; omega
  · exact length_putR_le _ _
theorem length_applyR (l : List Ent) (b : List Wrt) : (applyR l b).length ≤ l.length + b.length := by
  induction b generalizing l with
  | nil => simp [applyR]
  | cons w b ih =>
    have h1 := ih (stepR l w)
    have h2 := length_stepR_le l w
    rw [show applyR l (w :: b) = applyR (stepR l w) b from rfl, List.length_cons]; omega
end Go.Proofs.YtjmhnlbkfbieaaaGreat
