/- Stable sorting by a key: the one list that is sorted and keeps the order of equals. Arrays under exchanges. No program. -/
import Derived.Sort.LotA
import Derived.Sort.Lot0
namespace Go.Proofs.Ytjlgodaiciopaaa
open Go.Sort
section
variable {α : Type} (k : α → Int)
def SortK (l : List α) : Prop := l.Pairwise (fun a b => k a ≤ k b)
def Same2 (l m : List α) : Prop := ∀ c : Int, l.filter (fun x => k x == c) = m.filter (fun x => k x == c)
variable {k}
theorem Same2.rfl' (l : List α) : Same2 k l l := fun _ => rfl
theorem Same2.symm {l m : List α} (h : Same2 k l m) : Same2 k m l := fun c => (h c).symm
theorem Same2.trans {l m n : List α} (h : Same2 k l m) (h' : Same2 k m n) : Same2 k l n := fun c => (h c).trans (h' c)
theorem Same2.app {l l' m m' : List α} (h : Same2 k l l') (h' : Same2 k m m') : Same2 k (l ++ m) (l' ++ m') := fun c => by rw [List.filter_append, List.filter_append, h c, h' c]
theorem Same2.mem {l m : List α} (h : Same2 k l m) (x : α) : x ∈ l ↔ x ∈ m := by
  have := h (k x)
  have h1 : ∀ l : List α, x ∈ l ↔ x ∈ l.filter (fun y => k y == k x) := fun l => by simp [List.mem_filter]
  rw [h1 l, h1 m, this]
theorem Same2.comm {A B : List α} (h : ∀ x ∈ A, ∀ y ∈ B, k x ≠ k y) : Same2 k (A ++ B) (B ++ A) := fun c => by
  rw [List.filter_append, List.filter_append]
  by_cases hA : ∃ x ∈ A, k x = c
  · obtain ⟨x, hx, rfl⟩ := hA
    have : B.filter (fun y => k y == k x) = [] := List.filter_eq_nil_iff.2 fun y hy e => h x hx y hy (by simpa using (beq_iff_eq.1 e).symm)
    rw [this]; simp
  · have : A.filter (fun y => k y == c) = [] := List.filter_eq_nil_iff.2 fun y hy e => hA ⟨y, hy, beq_iff_eq.1 e⟩
    rw [this]; simp
theorem Same2.nil_iff {l : List α} (h : Same2 k [] l) : l = [] := by
  cases l with
  | nil => rfl
  | cons y l =>
    have := h (k y)
    simp at this
theorem Same2.uniq : ∀ {l m : List α}, SortK k l → SortK k m → Same2 k l m → l = m
  | [], m, _, _, h => h.nil_iff.symm
  | x :: l, [], _, _, h => h.symm.nil_iff
  | x :: l, y :: m, hl, hm, h => by
    obtain ⟨l1, l2⟩ := List.pairwise_cons.1 hl
    obtain ⟨m1, m2⟩ := List.pairwise_cons.1 hm
    have hxy : k x = k y := by
      rcases Int.lt_trichotomy (k x) (k y) with h1 | h1 | h1
      · exfalso
        have := (h.mem x).1 (List.mem_cons_self ..)
        rcases List.mem_cons.1 this with e | e
        · subst e; omega
        · have := m1 x e; omega
      · exact h1
      · exfalso
        have := (h.mem y).2 (List.mem_cons_self ..)
        rcases List.mem_cons.1 this with e | e
        · subst e; omega
        · have := l1 y e; omega
    have h0 := h (k x)
    rw [List.filter_cons_of_pos (by simp), List.filter_cons_of_pos (by rw [beq_iff_eq]; exact hxy.symm)] at h0
    injection h0 with e1 e2
    subst e1
    have : l = m := Same2.uniq l2 m2 fun c => by
      by_cases hc : k x = c
      · subst hc; exact e2
      · have := h c
        rwa [List.filter_cons_of_neg (by rw [beq_iff_eq]; exact hc), List.filter_cons_of_neg (by rw [beq_iff_eq]; exact hc)] at this
    rw [this]
theorem Same2.cancel {P M M' S : List α} (h : Same2 k (P ++ (M ++ S)) (P ++ (M' ++ S))) : Same2 k M M' := fun c => by
  have := h c
  rw [List.filter_append, List.filter_append, List.filter_append, List.filter_append] at this
  exact List.append_cancel_right (List.append_cancel_left this)
variable (k) in
def ins (x : α) : List α → List α
  | [] => [x]
  | y :: l => if k y < k x then y :: ins x l else x :: y :: l
variable (k) in
def stab : List α → List α
  | [] => []
  | x :: l => ins k x (stab l)
theorem ins_mem (x y : α) : ∀ l : List α, y ∈ ins k x l ↔ y = x ∨ y ∈ l
  | [] => by simp [ins]
  | z :: l => by
    unfold ins
    split
    · rw [List.mem_cons, ins_mem x y l, List.mem_cons]
      constructor
      · rintro (h | h | h)
        · exact .inr (.inl h)
        · exact .inl h
        · exact .inr (.inr h)
      · rintro (h | h | h)
        · exact .inr (.inl h)
        · exact .inl h
        · exact .inr (.inr h)
    · simp
theorem ins_sort (x : α) : ∀ l : List α, SortK k l → SortK k (ins k x l)
  | [], _ => List.pairwise_singleton _ _
  | z :: l, h => by
    obtain ⟨h1, h2⟩ := List.pairwise_cons.1 h
    unfold ins
    split
    · rename_i hz
      refine List.pairwise_cons.2 ⟨fun y hy => ?_, ins_sort x l h2⟩
      rcases (ins_mem x y l).1 hy with rfl | hy
      · omega
      · exact h1 y hy
    · rename_i hz
      refine List.pairwise_cons.2 ⟨fun y hy => ?_, h⟩
      rcases List.mem_cons.1 hy with rfl | hy
      · omega
      · have := h1 y hy; omega
theorem ins_same (x : α) : ∀ l : List α, Same2 k (x :: l) (ins k x l)
  | [] => Same2.rfl' _
  | z :: l => by
    unfold ins
    split
    · rename_i hz
      have h1 : Same2 k ([x] ++ [z]) ([z] ++ [x]) := Same2.comm (by simp; omega)
      have h2 : Same2 k (x :: z :: l) (z :: x :: l) := h1.app (Same2.rfl' l)
      have h3 : Same2 k (z :: x :: l) (z :: ins k x l) := (Same2.rfl' [z]).app (ins_same x l)
      exact h2.trans h3
    · exact Same2.rfl' _
theorem stab_sort : ∀ l : List α, SortK k (stab k l)
  | [] => List.Pairwise.nil
  | x :: l => ins_sort x _ (stab_sort l)
theorem stab_same : ∀ l : List α, Same2 k l (stab k l)
  | [] => Same2.rfl' _
  | x :: l => ((Same2.rfl' [x]).app (stab_same l)).trans (ins_same x _)
theorem ins_len (x : α) : ∀ l : List α, (ins k x l).length = l.length + 1
  | [] => rfl
  | z :: l => by
    unfold ins
    split
    · rw [List.length_cons, ins_len x l, List.length_cons]
    · rfl
theorem stab_len : ∀ l : List α, (stab k l).length = l.length
  | [] => rfl
  | x :: l => by rw [stab, ins_len, stab_len l, List.length_cons]
theorem stab_eq {l m : List α} (hs : SortK k m) (h : Same2 k l m) : m = stab k l := Same2.uniq hs (stab_sort l) (h.symm.trans (stab_same l))
theorem stab_self {l : List α} (hs : SortK k l) : stab k l = l := (stab_eq hs (Same2.rfl' l)).symm
theorem stab_mem (l : List α) (x : α) : x ∈ stab k l ↔ x ∈ l := ((stab_same l).mem x).symm
/-- Two parts that are in order each by itself. -/
theorem stab_split {A1 A2 B1 B2 : List α} (h1 : ∀ x ∈ A1, ∀ y ∈ A2, k x ≤ k y) (h2 : ∀ x ∈ A1, ∀ y ∈ B2, k x ≤ k y) (h3 : ∀ x ∈ B1, ∀ y ∈ A2, k x < k y) (h4 : ∀ x ∈ B1, ∀ y ∈ B2, k x ≤ k y) :
    stab k ((A1 ++ A2) ++ (B1 ++ B2)) = stab k (A1 ++ B1) ++ stab k (A2 ++ B2) := by
  symm
  refine stab_eq (List.pairwise_append.2 ⟨stab_sort _, stab_sort _, fun x hx y hy => ?_⟩) ?_
  · rw [stab_mem, List.mem_append] at hx hy
    rcases hx with hx | hx <;> rcases hy with hy | hy
    · exact h1 x hx y hy
    · exact h2 x hx y hy
    · exact Int.le_of_lt (h3 x hx y hy)
    · exact h4 x hx y hy
  · have e1 : Same2 k ((A1 ++ A2) ++ (B1 ++ B2)) ((A1 ++ B1) ++ (A2 ++ B2)) := by
      have : Same2 k (A2 ++ B1) (B1 ++ A2) := Same2.comm fun x hx y hy => by have := h3 y hy x hx; omega
      have h := (Same2.rfl' A1).app (this.app (Same2.rfl' B2))
      simpa [List.append_assoc] using h
    exact e1.trans ((stab_same _).app (stab_same _))
/-- Sorting the parts first changes nothing. -/
theorem stab_stab (A B : List α) : stab k (stab k A ++ stab k B) = stab k (A ++ B) :=
  Same2.uniq (stab_sort _) (stab_sort _) ((stab_same _).symm.trans (((stab_same A).app (stab_same B)).symm.trans (stab_same _)))
/-- One element before a sorted list, one behind it. -/
theorem stab_front {x : α} {M1 M2 : List α} (h : SortK k (M1 ++ M2)) (h1 : ∀ y ∈ M1, k y < k x) (h2 : ∀ y ∈ M2, k x ≤ k y) : stab k ([x] ++ (M1 ++ M2)) = M1 ++ ([x] ++ M2) := by
  symm
  obtain ⟨p1, p2, p3⟩ := List.pairwise_append.1 h
  refine stab_eq (List.pairwise_append.2 ⟨p1, List.pairwise_cons.2 ⟨h2, p2⟩, fun a ha b hb => ?_⟩) ?_
  · rcases List.mem_cons.1 hb with rfl | hb
    · exact Int.le_of_lt (h1 a ha)
    · exact p3 a ha b hb
  · have : Same2 k ([x] ++ M1) (M1 ++ [x]) := Same2.comm (fun a ha b hb => by simp at ha; subst ha; have := h1 b hb; omega)
    have := this.app (Same2.rfl' M2)
    simpa [List.append_assoc] using this
theorem stab_back {x : α} {M1 M2 : List α} (h : SortK k (M1 ++ M2)) (h1 : ∀ y ∈ M1, k y ≤ k x) (h2 : ∀ y ∈ M2, k x < k y) : stab k ((M1 ++ M2) ++ [x]) = M1 ++ ([x] ++ M2) := by
  symm
  obtain ⟨p1, p2, p3⟩ := List.pairwise_append.1 h
  refine stab_eq (List.pairwise_append.2 ⟨p1, List.pairwise_cons.2 ⟨fun y hy => Int.le_of_lt (h2 y hy), p2⟩, fun a ha b hb => ?_⟩) ?_
  · rcases List.mem_cons.1 hb with rfl | hb
    · exact h1 a ha
    · exact p3 a ha b hb
  · have : Same2 k (M2 ++ [x]) ([x] ++ M2) := Same2.comm (fun a ha b hb => by simp at hb; subst hb; have := h2 a ha; omega)
    have := (Same2.rfl' M1).app this
    simpa [List.append_assoc] using this
end
section
variable {α : Type} [Inhabited α]
theorem swp_list (X Z Y : List α) (u v : α) (i j : Nat) (hi : X.length = i) (hj : X.length + 1 + Z.length = j) :
    swp (X ++ u :: (Z ++ v :: Y)).toArray i j = (X ++ v :: (Z ++ u :: Y)).toArray := by
  subst hi; subst hj
  have h1 : (X ++ u :: (Z ++ v :: Y)).toArray[X.length]! = u := by simp
  have h2 : (X ++ u :: (Z ++ v :: Y)).toArray[X.length + 1 + Z.length]! = v := by
    rw [List.getElem!_toArray, List.getElem!_eq_getElem?_getD, List.getElem?_append_right (by omega), show X.length + 1 + Z.length - X.length = Z.length + 1 by omega]
    simp
  unfold swp
  rw [h1, h2]
  simp only [List.setIfInBounds_toArray]
  congr 1
  rw [List.set_append_right _ _ (Nat.le_refl _), Nat.sub_self, List.set_cons_zero, List.set_append_right _ _ (by omega), show X.length + 1 + Z.length - X.length = Z.length + 1 by omega, List.set_cons_succ, List.set_append_right _ _ (Nat.le_refl _), Nat.sub_self, List.set_cons_zero]
theorem swp_list' (X Z Y : List α) (u v : α) (i j : Nat) (hi : X.length = i) (hj : X.length + 1 + Z.length = j) :
    swp (X ++ u :: (Z ++ v :: Y)).toArray j i = (X ++ v :: (Z ++ u :: Y)).toArray := by
  subst hi; subst hj
  have h1 : (X ++ u :: (Z ++ v :: Y)).toArray[X.length]! = u := by simp
  have h2 : (X ++ u :: (Z ++ v :: Y)).toArray[X.length + 1 + Z.length]! = v := by
    rw [List.getElem!_toArray, List.getElem!_eq_getElem?_getD, List.getElem?_append_right (by omega), show X.length + 1 + Z.length - X.length = Z.length + 1 by omega]
    simp
  unfold swp
  rw [h1, h2]
  simp only [List.setIfInBounds_toArray]
  congr 1
  rw [List.set_append_right _ _ (by omega), show X.length + 1 + Z.length - X.length = Z.length + 1 by omega, List.set_cons_succ, List.set_append_right _ _ (Nat.le_refl _), Nat.sub_self, List.set_cons_zero, List.set_append_right _ _ (Nat.le_refl _), Nat.sub_self, List.set_cons_zero]
omit [Inhabited α] in
/-- The list cut at two places. -/
theorem cut2 (L : List α) (i j : Nat) (hij : i < j) (hj : j < L.length) : ∃ X u Z v Y, L = X ++ u :: (Z ++ v :: Y) ∧ X.length = i ∧ X.length + 1 + Z.length = j := by
  refine ⟨L.take i, L[i], (L.drop (i + 1)).take (j - i - 1), L[j], L.drop (j + 1), ?_, by simp; omega, by simp; omega⟩
  conv => lhs; rw [← List.take_append_drop i L, List.drop_eq_getElem_cons (by omega)]
  congr 2
  conv => lhs; rw [← List.take_append_drop (j - i - 1) (L.drop (i + 1))]
  congr 1
  rw [List.drop_drop, show i + 1 + (j - i - 1) = j by omega, List.drop_eq_getElem_cons hj]
variable (k : α → Int)
def ltK (x y : α) : Bool := decide (k x < k y)
omit [Inhabited α] in
theorem swo_ltK : SWO (ltK k) := by
  refine ⟨fun x => by simp [ltK], fun x y z h1 h2 => ?_, fun x y z h1 h2 => ?_⟩ <;> simp [ltK] at * <;> omega
theorem inner_same (a b : Nat) : ∀ (j : Nat) (d : Array α), j < d.size → (insInner (ltK k) a j d).size = d.size ∧ Same2 k d.toList (insInner (ltK k) a j d).toList
  | 0, d, _ => ⟨rfl, Same2.rfl' _⟩
  | j + 1, d, h => by
    unfold insInner
    split
    · rename_i hc
      rw [Bool.and_eq_true] at hc
      obtain ⟨X, u, Z, v, Y, e, h1, h2⟩ := cut2 d.toList j (j + 1) (by omega) (by simpa using h)
      obtain rfl : Z = [] := List.eq_nil_of_length_eq_zero (by omega)
      obtain rfl : d = (X ++ u :: ([] ++ v :: Y)).toArray := by rw [← e]
      have g1 : (X ++ u :: ([] ++ v :: Y)).toArray[j]! = u := by subst h1; simp
      have g2 : (X ++ u :: ([] ++ v :: Y)).toArray[j + 1]! = v := by
        subst h1
        rw [List.getElem!_toArray, List.getElem!_eq_getElem?_getD, List.getElem?_append_right (by omega), Nat.add_sub_cancel_left]
        simp
      rw [g1, g2] at hc
      have hlt : k v < k u := by simpa [ltK] using hc.2
      rw [swp_list' X [] Y u v j (j + 1) h1 h2]
      obtain ⟨i1, i2⟩ := inner_same a b j (X ++ v :: ([] ++ u :: Y)).toArray (by simp; omega)
      refine ⟨by rw [i1]; simp, Same2.trans ?_ i2⟩
      have : Same2 k ([u] ++ [v]) ([v] ++ [u]) := Same2.comm (by simp; omega)
      have := (Same2.rfl' X).app (this.app (Same2.rfl' Y))
      simpa using this
    · exact ⟨rfl, Same2.rfl' _⟩
theorem outer_same (a b : Nat) : ∀ (n i : Nat) (d : Array α), b - i ≤ n → b ≤ d.size → (insOuter (ltK k) a b i d).size = d.size ∧ Same2 k d.toList (insOuter (ltK k) a b i d).toList
  | 0, i, d, hn, hb => by
    unfold insOuter
    rw [if_neg (by omega)]
    exact ⟨rfl, Same2.rfl' _⟩
  | n + 1, i, d, hn, hb => by
    unfold insOuter
    split
    · obtain ⟨h1, h2⟩ := inner_same k a b i d (by omega)
      obtain ⟨h3, h4⟩ := outer_same a b n (i + 1) _ (by omega) (by rw [h1]; exact hb)
      exact ⟨h3.trans h1, h2.trans h4⟩
    · exact ⟨rfl, Same2.rfl' _⟩
/-- The insertion sort of a part is the stable sort of that part. -/
theorem insertion_stab (P M S : List α) (a b : Nat) (ha : P.length = a) (hb : a + M.length = b) :
    insertionSort (ltK k) (P ++ (M ++ S)).toArray a b = (P ++ (stab k M ++ S)).toArray := by
  have hsz : b ≤ (P ++ (M ++ S)).toArray.size := by simp; omega
  obtain ⟨⟨q1, q2, _⟩, q4⟩ := insertionSort_holds (lt := ltK k) (swo_ltK k) (P ++ (M ++ S)).toArray a b (by omega) hsz
  obtain ⟨_, s2⟩ := outer_same k a b (b - (a + 1)) (a + 1) (P ++ (M ++ S)).toArray (Nat.le_refl _) hsz
  change Same2 k _ (insertionSort (ltK k) (P ++ (M ++ S)).toArray a b).toList at s2
  obtain ⟨r, hr⟩ : ∃ r, insertionSort (ltK k) (P ++ (M ++ S)).toArray a b = r := ⟨_, rfl⟩
  rw [hr] at q1 q2 q4 s2 ⊢
  obtain ⟨l, rfl⟩ : ∃ l : List α, r = l.toArray := ⟨r.toList, by simp⟩
  simp only [List.size_toArray, List.length_append] at q1
  have hget : ∀ i, i < a ∨ b ≤ i → i < l.length → l[i]? = (P ++ (M ++ S))[i]? := fun i hi hl => by
    have := q2 i hi
    rw [List.getElem!_toArray, List.getElem!_toArray, List.getElem!_eq_getElem?_getD, List.getElem!_eq_getElem?_getD] at this
    rw [List.getElem?_eq_getElem hl, List.getElem?_eq_getElem (by simp; omega)] at this ⊢
    simpa using this
  have e1 : l.take a = P := by
    apply List.ext_getElem?
    intro i
    rw [List.getElem?_take]
    split
    · rename_i h
      rw [hget i (.inl h) (by omega), List.getElem?_append_left (by omega)]
    · rw [List.getElem?_eq_none (by omega)]
  have e2 : l.drop b = S := by
    apply List.ext_getElem?
    intro i
    rw [List.getElem?_drop]
    by_cases h : b + i < l.length
    · rw [hget (b + i) (.inr (by omega)) h, List.getElem?_append_right (by omega), List.getElem?_append_right (by omega)]
      congr 1; omega
    · rw [List.getElem?_eq_none (by omega), List.getElem?_eq_none (by omega)]
  have e3 : l = P ++ ((l.drop a).take M.length ++ S) := by
    conv => lhs; rw [← List.take_append_drop a l, e1, ← List.take_append_drop M.length (l.drop a), List.drop_drop, hb, e2]
  have hMlen : ((l.drop a).take M.length).length = M.length := by rw [List.length_take, List.length_drop]; omega
  obtain ⟨M', hM'⟩ : ∃ M', (l.drop a).take M.length = M' := ⟨_, rfl⟩
  rw [hM'] at e3 hMlen
  have s3 : Same2 k (P ++ (M ++ S)) (P ++ (M' ++ S)) := by
    rw [← e3]; simpa using s2
  have hsort : SortK k M' := by
    unfold SortK
    rw [List.pairwise_iff_getElem]
    intro i j hi hj hij
    have := q4 (a + i) (a + j) (by omega) (by omega) (by omega)
    have gg : ∀ t (ht : t < M'.length), l.toArray[a + t]! = M'[t] := fun t ht => by
      rw [e3, List.getElem!_toArray, List.getElem!_eq_getElem?_getD, List.getElem?_append_right (by omega), show a + t - P.length = t by omega, List.getElem?_append_left ht, List.getElem?_eq_getElem ht]
      rfl
    rw [gg i hi, gg j hj] at this
    simp [ltK] at this
    exact this
  rw [e3, stab_eq hsort s3.cancel]
end
section
variable {α : Type}
/-- Two parts of one length on their way to be exchanged. -/
def swR (X U Z V Y : List α) (i : Nat) : List α := X ++ (V.take i ++ (U.drop i ++ (Z ++ (U.take i ++ (V.drop i ++ Y)))))
theorem swR_zero (X U Z V Y : List α) : swR X U Z V Y 0 = X ++ (U ++ (Z ++ (V ++ Y))) := by simp [swR]
theorem swR_full (X U Z V Y : List α) (n : Nat) (hU : U.length = n) (hV : V.length = n) : swR X U Z V Y n = X ++ (V ++ (Z ++ (U ++ Y))) := by
  unfold swR
  rw [List.take_of_length_le (by omega), List.take_of_length_le (by omega), List.drop_of_length_le (by omega), List.drop_of_length_le (by omega)]
  simp
theorem swR_len (X U Z V Y : List α) (i : Nat) : (swR X U Z V Y i).length = (X ++ (U ++ (Z ++ (V ++ Y)))).length := by
  simp only [swR, List.length_append, List.length_take, List.length_drop]
  omega
theorem swR_step [Inhabited α] (X U Z V Y : List α) (i n a b : Nat) (hU : U.length = n) (hV : V.length = n) (hi : i < n) (ha : X.length = a) (hb : a + n + Z.length = b) : swp (swR X U Z V Y i).toArray (a + i) (b + i) = (swR X U Z V Y (i + 1)).toArray := by
  obtain ⟨u, hu⟩ : ∃ u, U[i]? = some u := ⟨_, List.getElem?_eq_getElem (by omega)⟩
  obtain ⟨v, hv⟩ : ∃ v, V[i]? = some v := ⟨_, List.getElem?_eq_getElem (by omega)⟩
  have hu' := (List.getElem?_eq_some_iff.1 hu)
  have hv' := (List.getElem?_eq_some_iff.1 hv)
  have e1 : U.drop i = u :: U.drop (i + 1) := by rw [List.drop_eq_getElem_cons hu'.1, hu'.2]
  have e2 : V.drop i = v :: V.drop (i + 1) := by rw [List.drop_eq_getElem_cons hv'.1, hv'.2]
  have e3 : U.take (i + 1) = U.take i ++ [u] := by rw [List.take_add_one, hu]; rfl
  have e4 : V.take (i + 1) = V.take i ++ [v] := by rw [List.take_add_one, hv]; rfl
  have h := swp_list (X ++ V.take i) (U.drop (i + 1) ++ (Z ++ U.take i)) (V.drop (i + 1) ++ Y) u v (a + i) (b + i) (by simp; omega) (by simp; omega)
  unfold swR
  rw [e1, e2, e3, e4]
  simpa [List.append_assoc] using h
end
end Go.Proofs.Ytjlgodaiciopaaa
