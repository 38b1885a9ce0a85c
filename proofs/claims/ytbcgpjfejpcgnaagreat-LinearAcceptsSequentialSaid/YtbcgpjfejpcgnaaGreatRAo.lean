/- Lemmas on the way to LinearAcceptsSequential. No condition. -/
import Derived.Test.YtbcgpjfejpcgnaaGreatRAc
import Derived.Sort.LotA
import Derived.Sort.Lot0
import Derived.Shelf.SlSortCmp.InsertionK
import Derived.Ground.SlsfProg
import Derived.Shelf.SlGeneric
import Derived.Test.YtbcgpjfejpcgnaaGreatProg
import Derived.Shelf.SlSortCmp.KitK
import Derived.Deep.LoopGhost
import Derived.BigQuiet
set_option linter.unusedSimpArgs false
set_option linter.unusedVariables false
set_option linter.unusedSectionVars false
section
namespace Go.Proofs.YtbcgpjfejpcgnaaGreat
open Go.RowKit
set_option maxRecDepth 100000
set_option maxHeartbeats 1000000
def OkL (w : World) (xs : List RV) : Prop := ∀ x ∈ xs, OkB w x ∧ x.b.length * 40 ≤ 140737488355328
theorem OkL.keeps {w w' : World} {xs : List RV} (h : OkL w xs) (k : Keeps [] w w') : OkL w' xs := fun x hx => ⟨(h x hx).1.keeps k, (h x hx).2⟩
end Go.Proofs.YtbcgpjfejpcgnaaGreat
end
section
namespace Go.Proofs.YtbcgpjfejpcgnaaGreat
open Go.Sort
section
variable {α : Type} (k : α → Int)
def SortK (l : List α) : Prop := l.Pairwise (fun a b => k a ≤ k b)
def Same2 (l m : List α) : Prop := ∀ c : Int, l.filter (fun x => k x == c) = m.filter (fun x => k x == c)
variable {k}
theorem Same2.rfl' (l : List α) : Same2 k l l := fun _ => rfl
theorem Same2.symm {l m : List α} (h : Same2 k l m) : Same2 k m l := fun c => (h c).symm
theorem Same2.trans {l m n : List α} (h : Same2 k l m) (h' : Same2 k m n) : Same2 k l n := fun c => (h c).trans (h' c)
theorem Same2.app {l l' m m' : List α} (h : Same2 k l l') (h' : Same2 k m m') : Same2 k (l ++ m) (l' ++ m') := fun c => by rw [List.filter_append, List.filter_append, h c, h' c]
theorem Same2.mem {l m : List α} (h : Same2 k l m) (x : α) : x ∈ l ↔ x ∈ m := by
  have := h (k x)
  have h1 : ∀ l : List α, x ∈ l ↔ x ∈ l.filter (fun y => k y == k x) := fun l => by simp [List.mem_filter]
  rw [h1 l, h1 m, this]
theorem Same2.comm {A B : List α} (h : ∀ x ∈ A, ∀ y ∈ B, k x ≠ k y) : Same2 k (A ++ B) (B ++ A) := fun c => by
  rw [List.filter_append, List.filter_append]
  by_cases hA : ∃ x ∈ A, k x = c
  · obtain ⟨x, hx, rfl⟩ := hA
    have : B.filter (fun y => k y == k x) = [] := List.filter_eq_nil_iff.2 fun y hy e => h x hx y hy (by simpa using (beq_iff_eq.1 e).symm)
    rw [this]; simp
  · have : A.filter (fun y => k y == c) = [] := List.filter_eq_nil_iff.2 fun y hy e => hA ⟨y, hy, beq_iff_eq.1 e⟩
    rw [this]; simp
theorem Same2.nil_iff {l : List α} (h : Same2 k [] l) : l = [] := by
  cases l with
  | nil => rfl
  | cons y l =>
    have := h (k y)
    simp at this
theorem Same2.uniq : ∀ {l m : List α}, SortK k l → SortK k m → Same2 k l m → l = m
  | [], m, _, _, h => h.nil_iff.symm
  | x :: l, [], _, _, h => h.symm.nil_iff
  | x :: l, y :: m, hl, hm, h => by
    obtain ⟨l1, l2⟩ := List.pairwise_cons.1 hl
    obtain ⟨m1, m2⟩ := List.pairwise_cons.1 hm
    have hxy : k x = k y := by
      rcases Int.lt_trichotomy (k x) (k y) with h1 | h1 | h1
      · exfalso
        have := (h.mem x).1 (List.mem_cons_self ..)
        rcases List.mem_cons.1 this with e | e
        · subst e; omega
        · have := m1 x e; omega
      · exact h1
      · exfalso
        have := (h.mem y).2 (List.mem_cons_self ..)
        rcases List.mem_cons.1 this with e | e
        · subst e; omega
        · have := l1 y e; omega
    have h0 := h (k x)
    rw [List.filter_cons_of_pos (by simp), List.filter_cons_of_pos (by rw [beq_iff_eq]; exact hxy.symm)] at h0
    injection h0 with e1 e2
    subst e1
    have : l = m := Same2.uniq l2 m2 fun c => by
      by_cases hc : k x = c
      · subst hc; exact e2
      · have := h c
        rwa [List.filter_cons_of_neg (by rw [beq_iff_eq]; exact hc), List.filter_cons_of_neg (by rw [beq_iff_eq]; exact hc)] at this
    rw [this]
theorem Same2.cancel {P M M' S : List α} (h : Same2 k (P ++ (M ++ S)) (P ++ (M' ++ S))) : Same2 k M M' := fun c => by
  have := h c
  rw [List.filter_append, List.filter_append, List.filter_append, List.filter_append] at this
  exact List.append_cancel_right (List.append_cancel_left this)
variable (k) in
def ins (x : α) : List α → List α
  | [] => [x]
  | y :: l => if k y < k x then y :: ins x l else x :: y :: l
variable (k) in
def stab : List α → List α
  | [] => []
  | x :: l => ins k x (stab l)
theorem ins_mem (x y : α) : ∀ l : List α, y ∈ ins k x l ↔ y = x ∨ y ∈ l
  | [] => by simp [ins]
  | z :: l => by
    unfold ins
    split
    · rw [List.mem_cons, ins_mem x y l, List.mem_cons]
      constructor
      · rintro (h | h | h)
        · exact .inr (.inl h)
        · exact .inl h
        · exact .inr (.inr h)
      · rintro (h | h | h)
        · exact .inr (.inl h)
        · exact .inl h
        · exact .inr (.inr h)
    · simp
theorem ins_sort (x : α) : ∀ l : List α, SortK k l → SortK k (ins k x l)
  | [], _ => List.pairwise_singleton _ _
  | z :: l, h => by
    obtain ⟨h1, h2⟩ := List.pairwise_cons.1 h
    unfold ins
    split
    · rename_i hz
      refine List.pairwise_cons.2 ⟨fun y hy => ?_, ins_sort x l h2⟩
      rcases (ins_mem x y l).1 hy with rfl | hy
      · omega
      · exact h1 y hy
    · rename_i hz
      refine List.pairwise_cons.2 ⟨fun y hy => ?_, h⟩
      rcases List.mem_cons.1 hy with rfl | hy
      · omega
      · have := h1 y hy; omega
theorem ins_same (x : α) : ∀ l : List α, Same2 k (x :: l) (ins k x l)
  | [] => Same2.rfl' _
  | z :: l => by
    unfold ins
    split
    · rename_i hz
      have h1 : Same2 k ([x] ++ [z]) ([z] ++ [x]) := Same2.comm (by simp; omega)
      have h2 : Same2 k (x :: z :: l) (z :: x :: l) := h1.app (Same2.rfl' l)
      have h3 : Same2 k (z :: x :: l) (z :: ins k x l) := (Same2.rfl' [z]).app (ins_same x l)
      exact h2.trans h3
    · exact Same2.rfl' _
theorem stab_sort : ∀ l : List α, SortK k (stab k l)
  | [] => List.Pairwise.nil
  | x :: l => ins_sort x _ (stab_sort l)
theorem stab_same : ∀ l : List α, Same2 k l (stab k l)
  | [] => Same2.rfl' _
  | x :: l => ((Same2.rfl' [x]).app (stab_same l)).trans (ins_same x _)
theorem ins_len (x : α) : ∀ l : List α, (ins k x l).length = l.length + 1
  | [] => rfl
  | z :: l => by
    unfold ins
    split
    · rw [List.length_cons, ins_len x l, List.length_cons]
    · rfl
theorem stab_len : ∀ l : List α, (stab k l).length = l.length
  | [] => rfl
  | x :: l => by rw [stab, ins_len, stab_len l, List.length_cons]
theorem stab_eq {l m : List α} (hs : SortK k m) (h : Same2 k l m) : m = stab k l := Same2.uniq hs (stab_sort l) (h.symm.trans (stab_same l))
theorem stab_self {l : List α} (hs : SortK k l) : stab k l = l := (stab_eq hs (Same2.rfl' l)).symm
theorem stab_mem (l : List α) (x : α) : x ∈ stab k l ↔ x ∈ l := ((stab_same l).mem x).symm
theorem stab_split {A1 A2 B1 B2 : List α} (h1 : ∀ x ∈ A1, ∀ y ∈ A2, k x ≤ k y) (h2 : ∀ x ∈ A1, ∀ y ∈ B2, k x ≤ k y) (h3 : ∀ x ∈ B1, ∀ y ∈ A2, k x < k y) (h4 : ∀ x ∈ B1, ∀ y ∈ B2, k x ≤ k y) :
    stab k ((A1 ++ A2) ++ (B1 ++ B2)) = stab k (A1 ++ B1) ++ stab k (A2 ++ B2) := by
  symm
  refine stab_eq (List.pairwise_append.2 ⟨stab_sort _, stab_sort _, fun x hx y hy => ?_⟩) ?_
  · rw [stab_mem, List.mem_append] at hx hy
    rcases hx with hx | hx <;> rcases hy with hy | hy
    · exact h1 x hx y hy
    · exact h2 x hx y hy
    · exact Int.le_of_lt (h3 x hx y hy)
    · exact h4 x hx y hy
  · have e1 : Same2 k ((A1 ++ A2) ++ (B1 ++ B2)) ((A1 ++ B1) ++ (A2 ++ B2)) := by
      have : Same2 k (A2 ++ B1) (B1 ++ A2) := Same2.comm fun x hx y hy => by have := h3 y hy x hx; omega
      have h := (Same2.rfl' A1).app (this.app (Same2.rfl' B2))
      simpa [List.append_assoc] using h
    exact e1.trans ((stab_same _).app (stab_same _))
theorem stab_front {x : α} {M1 M2 : List α} (h : SortK k (M1 ++ M2)) (h1 : ∀ y ∈ M1, k y < k x) (h2 : ∀ y ∈ M2, k x ≤ k y) : stab k ([x] ++ (M1 ++ M2)) = M1 ++ ([x] ++ M2) := by
  symm
  obtain ⟨p1, p2, p3⟩ := List.pairwise_append.1 h
  refine stab_eq (List.pairwise_append.2 ⟨p1, List.pairwise_cons.2 ⟨h2, p2⟩, fun a ha b hb => ?_⟩) ?_
  · rcases List.mem_cons.1 hb with rfl | hb
    · exact Int.le_of_lt (h1 a ha)
    · exact p3 a ha b hb
  · have : Same2 k ([x] ++ M1) (M1 ++ [x]) := Same2.comm (fun a ha b hb => by simp at ha; subst ha; have := h1 b hb; omega)
    have := this.app (Same2.rfl' M2)
    simpa [List.append_assoc] using this
theorem stab_back {x : α} {M1 M2 : List α} (h : SortK k (M1 ++ M2)) (h1 : ∀ y ∈ M1, k y ≤ k x) (h2 : ∀ y ∈ M2, k x < k y) : stab k ((M1 ++ M2) ++ [x]) = M1 ++ ([x] ++ M2) := by
  symm
  obtain ⟨p1, p2, p3⟩ := List.pairwise_append.1 h
  refine stab_eq (List.pairwise_append.2 ⟨p1, List.pairwise_cons.2 ⟨fun y hy => Int.le_of_lt (h2 y hy), p2⟩, fun a ha b hb => ?_⟩) ?_
  · rcases List.mem_cons.1 hb with rfl | hb
    · exact h1 a ha
    · exact p3 a ha b hb
  · have : Same2 k (M2 ++ [x]) ([x] ++ M2) := Same2.comm (fun a ha b hb => by simp at hb; subst hb; have := h2 a ha; omega)
    have := (Same2.rfl' M1).app this
    simpa [List.append_assoc] using this
end
section
variable {α : Type} [Inhabited α]
theorem swp_list (X Z Y : List α) (u v : α) (i j : Nat) (hi : X.length = i) (hj : X.length + 1 + Z.length = j) :
    swp (X ++ u :: (Z ++ v :: Y)).toArray i j = (X ++ v :: (Z ++ u :: Y)).toArray := by
  subst hi; subst hj
  have h1 : (X ++ u :: (Z ++ v :: Y)).toArray[X.length]! = u := by simp
  have h2 : (X ++ u :: (Z ++ v :: Y)).toArray[X.length + 1 + Z.length]! = v := by
    rw [List.getElem!_toArray, List.getElem!_eq_getElem?_getD, List.getElem?_append_right (by omega), show X.length + 1 + Z.length - X.length = Z.length + 1 by omega]
    simp
  unfold swp
  rw [h1, h2]
  simp only [List.setIfInBounds_toArray]
  congr 1
  rw [List.set_append_right _ _ (Nat.le_refl _), Nat.sub_self, List.set_cons_zero, List.set_append_right _ _ (by omega), show X.length + 1 + Z.length - X.length = Z.length + 1 by omega, List.set_cons_succ, List.set_append_right _ _ (Nat.le_refl _), Nat.sub_self, List.set_cons_zero]
theorem swp_list' (X Z Y : List α) (u v : α) (i j : Nat) (hi : X.length = i) (hj : X.length + 1 + Z.length = j) :
    swp (X ++ u :: (Z ++ v :: Y)).toArray j i = (X ++ v :: (Z ++ u :: Y)).toArray := by
  subst hi; subst hj
  have h1 : (X ++ u :: (Z ++ v :: Y)).toArray[X.length]! = u := by simp
  have h2 : (X ++ u :: (Z ++ v :: Y)).toArray[X.length + 1 + Z.length]! = v := by
    rw [List.getElem!_toArray, List.getElem!_eq_getElem?_getD, List.getElem?_append_right (by omega), show X.length + 1 + Z.length - X.length = Z.length + 1 by omega]
    simp
  unfold swp
  rw [h1, h2]
  simp only [List.setIfInBounds_toArray]
  congr 1
  rw [List.set_append_right _ _ (by omega), show X.length + 1 + Z.length - X.length = Z.length + 1 by omega, List.set_cons_succ, List.set_append_right _ _ (Nat.le_refl _), Nat.sub_self, List.set_cons_zero, List.set_append_right _ _ (Nat.le_refl _), Nat.sub_self, List.set_cons_zero]
omit [Inhabited α] in
theorem cut2 (L : List α) (i j : Nat) (hij : i < j) (hj : j < L.length) : ∃ X u Z v Y, L = X ++ u :: (Z ++ v :: Y) ∧ X.length = i ∧ X.length + 1 + Z.length = j := by
  refine ⟨L.take i, L[i], (L.drop (i + 1)).take (j - i - 1), L[j], L.drop (j + 1), ?_, by simp; omega, by simp; omega⟩
  conv => lhs; rw [← List.take_append_drop i L, List.drop_eq_getElem_cons (by omega)]
  congr 2
  conv => lhs; rw [← List.take_append_drop (j - i - 1) (L.drop (i + 1))]
  congr 1
  rw [List.drop_drop, show i + 1 + (j - i - 1) = j by omega, List.drop_eq_getElem_cons hj]
variable (k : α → Int)
def ltK (x y : α) : Bool := decide (k x < k y)
omit [Inhabited α] in
theorem swo_ltK : SWO (ltK k) := by
  refine ⟨fun x => by simp [ltK], fun x y z h1 h2 => ?_, fun x y z h1 h2 => ?_⟩ <;> simp [ltK] at * <;> omega
theorem inner_same (a b : Nat) : ∀ (j : Nat) (d : Array α), j < d.size → (insInner (ltK k) a j d).size = d.size ∧ Same2 k d.toList (insInner (ltK k) a j d).toList
  | 0, d, _ => ⟨rfl, Same2.rfl' _⟩
  | j + 1, d, h => by
    unfold insInner
    split
    · rename_i hc
      rw [Bool.and_eq_true] at hc
      obtain ⟨X, u, Z, v, Y, e, h1, h2⟩ := cut2 d.toList j (j + 1) (by omega) (by simpa using h)
      obtain rfl : Z = [] := List.eq_nil_of_length_eq_zero (by omega)
      obtain rfl : d = (X ++ u :: ([] ++ v :: Y)).toArray := by rw [← e]
      have g1 : (X ++ u :: ([] ++ v :: Y)).toArray[j]! = u := by subst h1; simp
      have g2 : (X ++ u :: ([] ++ v :: Y)).toArray[j + 1]! = v := by
        subst h1
        rw [List.getElem!_toArray, List.getElem!_eq_getElem?_getD, List.getElem?_append_right (by omega), Nat.add_sub_cancel_left]
        simp
      rw [g1, g2] at hc
      have hlt : k v < k u := by simpa [ltK] using hc.2
      rw [swp_list' X [] Y u v j (j + 1) h1 h2]
      obtain ⟨i1, i2⟩ := inner_same a b j (X ++ v :: ([] ++ u :: Y)).toArray (by simp; omega)
      refine ⟨by rw [i1]; simp, Same2.trans ?_ i2⟩
      have : Same2 k ([u] ++ [v]) ([v] ++ [u]) := Same2.comm (by simp; omega)
      have := (Same2.rfl' X).app (this.app (Same2.rfl' Y))
      simpa using this
    · exact ⟨rfl, Same2.rfl' _⟩
theorem outer_same (a b : Nat) : ∀ (n i : Nat) (d : Array α), b - i ≤ n → b ≤ d.size → (insOuter (ltK k) a b i d).size = d.size ∧ Same2 k d.toList (insOuter (ltK k) a b i d).toList
  | 0, i, d, hn, hb => by
    unfold insOuter
    rw [if_neg (by omega)]
    exact ⟨rfl, Same2.rfl' _⟩
  | n + 1, i, d, hn, hb => by
    unfold insOuter
    split
    · obtain ⟨h1, h2⟩ := inner_same k a b i d (by omega)
      obtain ⟨h3, h4⟩ := outer_same a b n (i + 1) _ (by omega) (by rw [h1]; exact hb)
      exact ⟨h3.trans h1, h2.trans h4⟩
    · exact ⟨rfl, Same2.rfl' _⟩
theorem insertion_stab (P M S : List α) (a b : Nat) (ha : P.length = a) (hb : a + M.length = b) :
    insertionSort (ltK k) (P ++ (M ++ S)).toArray a b = (P ++ (stab k M ++ S)).toArray := by
  have hsz : b ≤ (P ++ (M ++ S)).toArray.size := by simp; omega
  obtain ⟨⟨q1, q2, _⟩, q4⟩ := insertionSort_holds (lt := ltK k) (swo_ltK k) (P ++ (M ++ S)).toArray a b (by omega) hsz
  obtain ⟨_, s2⟩ := outer_same k a b (b - (a + 1)) (a + 1) (P ++ (M ++ S)).toArray (Nat.le_refl _) hsz
  change Same2 k _ (insertionSort (ltK k) (P ++ (M ++ S)).toArray a b).toList at s2
  obtain ⟨r, hr⟩ : ∃ r, insertionSort (ltK k) (P ++ (M ++ S)).toArray a b = r := ⟨_, rfl⟩
  rw [hr] at q1 q2 q4 s2 ⊢
  obtain ⟨l, rfl⟩ : ∃ l : List α, r = l.toArray := ⟨r.toList, by simp⟩
  simp only [List.size_toArray, List.length_append] at q1
  have hget : ∀ i, i < a ∨ b ≤ i → i < l.length → l[i]? = (P ++ (M ++ S))[i]? := fun i hi hl => by
    have := q2 i hi
    rw [List.getElem!_toArray, List.getElem!_toArray, List.getElem!_eq_getElem?_getD, List.getElem!_eq_getElem?_getD] at this
    rw [List.getElem?_eq_getElem hl, List.getElem?_eq_getElem (by simp; omega)] at this ⊢
    simpa using this
  have e1 : l.take a = P := by
    apply List.ext_getElem?
    intro i
    rw [List.getElem?_take]
    split
    · rename_i h
      rw [hget i (.inl h) (by omega), List.getElem?_append_left (by omega)]
    · rw [List.getElem?_eq_none (by omega)]
  have e2 : l.drop b = S := by
    apply List.ext_getElem?
    intro i
    rw [List.getElem?_drop]
    by_cases h : b + i < l.length
    · rw [hget (b + i) (.inr (by omega)) h, List.getElem?_append_right (by omega), List.getElem?_append_right (by omega)]
      congr 1; omega
    · rw [List.getElem?_eq_none (by omega), List.getElem?_eq_none (by omega)]
  have e3 : l = P ++ ((l.drop a).take M.length ++ S) := by
    conv => lhs; rw [← List.take_append_drop a l, e1, ← List.take_append_drop M.length (l.drop a), List.drop_drop, hb, e2]
  have hMlen : ((l.drop a).take M.length).length = M.length := by rw [List.length_take, List.length_drop]; omega
  obtain ⟨M', hM'⟩ : ∃ M', (l.drop a).take M.length = M' := ⟨_, rfl⟩
  rw [hM'] at e3 hMlen
  have s3 : Same2 k (P ++ (M ++ S)) (P ++ (M' ++ S)) := by
    rw [← e3]; simpa using s2
  have hsort : SortK k M' := by
    unfold SortK
    rw [List.pairwise_iff_getElem]
    intro i j hi hj hij
    have := q4 (a + i) (a + j) (by omega) (by omega) (by omega)
    have gg : ∀ t (ht : t < M'.length), l.toArray[a + t]! = M'[t] := fun t ht => by
      rw [e3, List.getElem!_toArray, List.getElem!_eq_getElem?_getD, List.getElem?_append_right (by omega), show a + t - P.length = t by omega, List.getElem?_append_left ht, List.getElem?_eq_getElem ht]
      rfl
    rw [gg i hi, gg j hj] at this
    simp [ltK] at this
    exact this
  rw [e3, stab_eq hsort s3.cancel]
end
section
variable {α : Type}
def swR (X U Z V Y : List α) (i : Nat) : List α := X ++ (V.take i ++ (U.drop i ++ (Z ++ (U.take i ++ (V.drop i ++ Y)))))
theorem swR_zero (X U Z V Y : List α) : swR X U Z V Y 0 = X ++ (U ++ (Z ++ (V ++ Y))) := by simp [swR]
theorem swR_full (X U Z V Y : List α) (n : Nat) (hU : U.length = n) (hV : V.length = n) : swR X U Z V Y n = X ++ (V ++ (Z ++ (U ++ Y))) := by
  unfold swR
  rw [List.take_of_length_le (by omega), List.take_of_length_le (by omega), List.drop_of_length_le (by omega), List.drop_of_length_le (by omega)]
  simp
theorem swR_len (X U Z V Y : List α) (i : Nat) : (swR X U Z V Y i).length = (X ++ (U ++ (Z ++ (V ++ Y)))).length := by
  simp only [swR, List.length_append, List.length_take, List.length_drop]
  omega
theorem swR_step [Inhabited α] (X U Z V Y : List α) (i n a b : Nat) (hU : U.length = n) (hV : V.length = n) (hi : i < n) (ha : X.length = a) (hb : a + n + Z.length = b) : swp (swR X U Z V Y i).toArray (a + i) (b + i) = (swR X U Z V Y (i + 1)).toArray := by
  obtain ⟨u, hu⟩ : ∃ u, U[i]? = some u := ⟨_, List.getElem?_eq_getElem (by omega)⟩
  obtain ⟨v, hv⟩ : ∃ v, V[i]? = some v := ⟨_, List.getElem?_eq_getElem (by omega)⟩
  have hu' := (List.getElem?_eq_some_iff.1 hu)
  have hv' := (List.getElem?_eq_some_iff.1 hv)
  have e1 : U.drop i = u :: U.drop (i + 1) := by rw [List.drop_eq_getElem_cons hu'.1, hu'.2]
  have e2 : V.drop i = v :: V.drop (i + 1) := by rw [List.drop_eq_getElem_cons hv'.1, hv'.2]
  have e3 : U.take (i + 1) = U.take i ++ [u] := by rw [List.take_add_one, hu]; rfl
  have e4 : V.take (i + 1) = V.take i ++ [v] := by rw [List.take_add_one, hv]; rfl
  have h := swp_list (X ++ V.take i) (U.drop (i + 1) ++ (Z ++ U.take i)) (V.drop (i + 1) ++ Y) u v (a + i) (b + i) (by simp; omega) (by simp; omega)
  unfold swR
  rw [e1, e2, e3, e4]
  simpa [List.append_assoc] using h
end
end Go.Proofs.YtbcgpjfejpcgnaaGreat
end
section
namespace Go.Proofs
open Go.Shelf
def Tryz.ins72_ren : Go.Shelf.Ren := ⟨fun | 20 => 72 | n => n, fun | 24 => 34 | 22 => 25 | 3 => 3 | 25 => 101 | 4 => 4 | 0 => 0 | n => n, fun | n => n⟩
theorem Tryz.ins72 : Go.Proofs.SlLaysF0.n20 Tryz.prog Tryz.ins72_ren := {
  mixed := by kernel_rfl
  f20 := ⟨Tryz.f72.name, by decide, Tryz.func72.trans (congrArg some (by kernel_rfl))⟩
  t0 := Tryz.underlying0
  a0 := Tryz.isAgg0
  z0 := Tryz.sizeOf0
  v0 := Tryz.zeroValue0
  t3 := Tryz.underlying3
  a3 := Tryz.isAgg3
  z3 := Tryz.sizeOf3
  v3 := Tryz.zeroValue3
  t4 := Tryz.underlying4
  a4 := Tryz.isAgg4
  z4 := Tryz.sizeOf4
  v4 := Tryz.zeroValue4
  t22 := Tryz.underlying25
  a22 := Tryz.isAgg25
  z22 := Tryz.sizeOf25
  v22 := Tryz.zeroValue25
  t25 := Tryz.underlying101
  a25 := Tryz.isAgg101
  z25 := Tryz.sizeOf101
  v25 := Tryz.zeroValue101 }
end Go.Proofs
end
section
namespace Go.Proofs.YtbcgpjfejpcgnaaGreat
open Go.RowKit Go.Shelf Go.Lib Go.Sort
set_option maxRecDepth 100000
structure SL (P : Program) (k : Nat) : Prop where
  mixed : P.follows .mixedOrders = true
  f94 : P.funcs[94]? = some Tryz.f94
  f81 : P.funcs[81]? = some Tryz.f81
  f73 : P.funcs[73]? = some Tryz.f73
  f59 : P.funcs[59]? = some Tryz.f59
  f45 : P.funcs[45]? = some Tryz.f45
  t3 : P.underlying 3 = some (.int .i64)
  a3 : ∀ w, (isAgg 3).run P w = .ok false w
  z3 : ∀ w, (Go.sizeOf 3).run P w = .ok 1 w
  v3 : ∀ w, (zeroValue 3).run P w = .ok (.int .i64 0) w
  t4 : P.underlying 4 = some (.bool)
  a4 : ∀ w, (isAgg 4).run P w = .ok false w
  z4 : ∀ w, (Go.sizeOf 4).run P w = .ok 1 w
  v4 : ∀ w, (zeroValue 4).run P w = .ok (.bool false) w
  t136 : P.underlying 136 = some (.int .u64)
  a136 : ∀ w, (isAgg 136).run P w = .ok false w
  z136 : ∀ w, (Go.sizeOf 136).run P w = .ok 1 w
  v136 : ∀ w, (zeroValue 136).run P w = .ok (.int .u64 0) w
  t25 : P.underlying 25 = some (.slice 34)
  a25 : ∀ w, (isAgg 25).run P w = .ok false w
  z25 : ∀ w, (Go.sizeOf 25).run P w = .ok 1 w
  v25 : ∀ w, (zeroValue 25).run P w = .ok (.slice none 0 0) w
  aE : ∀ w, (isAgg 34).run P w = .ok true w
  zE : ∀ w, (Go.sizeOf 34).run P w = .ok k w
theorem sl : SL Tryz.prog 16 := {
  mixed := by kernel_rfl
  f94 := Tryz.func94
  f81 := Tryz.func81
  f73 := Tryz.func73
  f59 := Tryz.func59
  f45 := Tryz.func45
  t3 := Tryz.underlying3
  a3 := Tryz.isAgg3
  z3 := Tryz.sizeOf3
  v3 := Tryz.zeroValue3
  t4 := Tryz.underlying4
  a4 := Tryz.isAgg4
  z4 := Tryz.sizeOf4
  v4 := Tryz.zeroValue4
  t136 := Tryz.underlying136
  a136 := Tryz.isAgg136
  z136 := Tryz.sizeOf136
  v136 := Tryz.zeroValue136
  t25 := Tryz.underlying25
  a25 := Tryz.isAgg25
  z25 := Tryz.sizeOf25
  v25 := Tryz.zeroValue25
  aE := Tryz.isAgg34
  zE := Tryz.sizeOf34 }
end Go.Proofs.YtbcgpjfejpcgnaaGreat
end
section
namespace Go.Proofs.YtbcgpjfejpcgnaaGreat
open Go.RowKit Go.Shelf Go.Lib Go.Sort
variable {P : Program} {α : Type} [Inhabited α] {enc : α → List Value} {k : Nat} {w0 : World} {blk off : Nat} {d0 : Array α}
set_option maxHeartbeats 4000000 in
set_option maxRecDepth 1000000 in
theorem swapRange_any (L : SL P k) (R : RowK enc k w0 blk off d0) (cap g : Nat) (cb : Array Value) (X U Z V Y : List α) (a b n N : Nat) (hX : X.length = a) (hb : a + n + Z.length = b) (hU : U.length = n) (hV : V.length = n) (hN : (X ++ (U ++ (Z ++ (V ++ Y)))).length = N) (hd : d0.size = N) (hsz : N < 4611686018427387904)
    (w : World) (S : SWK enc k w0 blk off (X ++ (U ++ (Z ++ (V ++ Y)))).toArray w) :
    Calls P 94 #[.slice (some ⟨blk, off, none⟩) N cap, .int .i64 a, .int .i64 b, .int .i64 n, .func (.func g) #[] cb] w fun e w' => e = .returned (.tuple #[]) ∧ SWK enc k w0 blk off (X ++ (V ++ (Z ++ (U ++ Y)))).toArray w' := by
  have mixed := L.mixed; have t3 := L.t3; have a3 := L.a3; have z3 := L.z3; have v3 := L.v3; have t4 := L.t4; have a4 := L.a4; have z4 := L.z4; have v4 := L.v4; have t22 := L.t25; have a22 := L.a25; have z22 := L.z25; have v22 := L.v25; have aE := L.aE; have zE := L.zE
  have hbN : b + n ≤ N := by simp at hN; omega
  have hab : a + n ≤ b := by omega
  have hlen : ∀ i, (swR X U Z V Y i).toArray.size = N := fun i => by simp only [List.size_toArray, swR_len, hN]
  have hstep := fun i (hi : i < n) => swR_step X U Z V Y i n a b hU hV hi hX hb
  have hfull := swR_full X U Z V Y n hU hV
  rw [← swR_zero] at S
  have S0 : Aside (SWK enc k w0 blk off (swR X U Z V Y 0).toArray w) := S
  have HL := Lib.hid hlen
  have HS := Lib.hid hstep
  have HF := Lib.hid hfull
  have HD := Lib.hid hd
  clear S hlen hstep hfull hX hb hU hV hN hd
  go_enter L.f94, Tryz.ntmps94
  go_wp2
  go_loopg [10] n (fun kx s wr => ∃ i : Nat, s = .int .i64 i ∧ i ≤ n ∧ n - i ≤ kx ∧ Aside (SWK enc k w0 blk off (swR X U Z V Y i).toArray wr))
  case atStart => exact ⟨0, rfl, by omega, by omega, S0⟩
  case round =>
    clear S0
    obtain ⟨i, rfl, hi, hkx, S1⟩ := hrel
    by_cases hlt : i < n
    · have hltz : (i : Int) < (n : Int) := by omega
      go_wp2_with fail
      have hda : (swR X U Z V Y i).toArray.size = N := HL.out i
      obtain ⟨dk, hdk⟩ : ∃ dk, (swR X U Z V Y i).toArray = dk := ⟨_, rfl⟩
      have hsw := HS.out i hlt
      rw [hdk] at S1 hda hsw
      have HSW := Lib.hid hsw
      clear hdk hsw
      have hd1 : dk.size = d0.size := by rw [hda, HD.out]
      have ea44 : ((a : Int) + (i : Int)).toNat = a + i := by omega
      have pa44 : (0 : Int) ≤ (a : Int) + (i : Int) := by omega
      have ba44 : (a : Int) + (i : Int) < (N : Int) := by omega
      have ra44 : IntKind.i64.wrap ((a : Int) + (i : Int)) = (a : Int) + (i : Int) := by rw [IntKind.wrap_i64]; omega
      have ec44 : ((b : Int) + (i : Int)).toNat = b + i := by omega
      have pc44 : (0 : Int) ≤ (b : Int) + (i : Int) := by omega
      have bc44 : (b : Int) + (i : Int) < (N : Int) := by omega
      have rc44 : IntKind.i64.wrap ((b : Int) + (i : Int)) = (b : Int) + (i : Int) := by rw [IntKind.wrap_i64]; omega
      have S2 : Aside (SWK enc k w0 blk off (swp dk (a + i) (b + i)) ((wr.drew.setCells blk (off + (a + i) * k) (enc dk[b + i]!)).setCells blk (off + (b + i) * k) (enc dk[a + i]!))) := S1.out.swapped R (a + i) (b + i) (by omega) (by omega)
      have l44a := S1.out.ld1 R (by omega) P (a + i) (by omega)
      have l44b := S1.out.ld1 R (by omega) P (b + i) (by omega)
      have s44a := S1.out.st1 R (by omega) P (a + i) (by omega) dk[b + i]!
      have s44b := S1.out.st2 R (by omega) P (a + i) (b + i) (by omega) (by omega) dk[b + i]! dk[a + i]!
      have n44a : (enc dk[a + i]!).length = k := R.hk _
      have n44b : (enc dk[b + i]!).length = k := R.hk _
      generalize enc dk[a + i]! = cI44 at S2 l44a s44b n44a
      generalize enc dk[b + i]! = cJ44 at S2 l44b s44a s44b n44b
      clear S1 hd1 hda
      go_wp2_with fail
      go_big_region_o
      clear l44a l44b s44a s44b
      generalize (wr.drew.setCells blk (off + (a + i) * k) cJ44).setCells blk (off + (b + i) * k) cI44 = w2 at S2 ⊢
      go_wp2
      go_roundg (n - (i + 1))
      case measure => omega
      case rel =>
        refine ⟨i + 1, by go_num, by omega, by omega, ?_⟩
        show SWK enc k w0 blk off _ _
        rw [← HSW.out]
        exact S2
    · obtain rfl : i = n := by omega
      rw [HF.out] at S1
      go_wp2
      go_end0
      exact ⟨rfl, S1.out⟩
set_option maxHeartbeats 4000000 in
set_option maxRecDepth 1000000 in
theorem rotate_any (L : SL P k) (R : RowK enc k w0 blk off d0) (cap g : Nat) (cb : Array Value) (X A B Y : List α) (a m b N : Nat) (hX : X.length = a) (hm : a + A.length = m) (hb : m + B.length = b) (hA : 0 < A.length) (hB : 0 < B.length) (hN : (X ++ (A ++ (B ++ Y))).length = N) (hd : d0.size = N) (hsz : N < 4611686018427387904)
    (w : World) (S : SWK enc k w0 blk off (X ++ (A ++ (B ++ Y))).toArray w) :
    Calls P 81 #[.slice (some ⟨blk, off, none⟩) N cap, .int .i64 a, .int .i64 m, .int .i64 b, .func (.func g) #[] cb] w fun e w' => e = .returned (.tuple #[]) ∧ SWK enc k w0 blk off (X ++ (B ++ (A ++ Y))).toArray w' := by
  have mixed := L.mixed; have t3 := L.t3; have a3 := L.a3; have z3 := L.z3; have v3 := L.v3; have t4 := L.t4; have a4 := L.a4; have z4 := L.z4; have v4 := L.v4; have t22 := L.t25; have a22 := L.a25; have z22 := L.z25; have v22 := L.v25; have aE := L.aE; have zE := L.zE
  have eg : ∀ args w, (callFunc 94 args).run P w = .ok (.enter 94 args) w := enters_of L.f94 (by kernel_rfl) rfl
  obtain ⟨i0, hi0⟩ : ∃ i0, A.length = i0 := ⟨_, rfl⟩
  obtain ⟨j0, hj0⟩ : ∃ j0, B.length = j0 := ⟨_, rfl⟩
  rw [hi0] at hm hA
  rw [hj0] at hb hB
  have hmb : m + j0 ≤ N := by simp at hN; omega
  have S0 : Aside (X.length + i0 = m ∧ A.length = i0 ∧ B.length = j0 ∧ (X ++ (A ++ (B ++ Y))).length = N ∧ SWK enc k w0 blk off (X ++ (A ++ (B ++ Y))).toArray w) := ⟨by omega, hi0, hj0, hN, S⟩
  have HD := Lib.hid hd
  obtain ⟨T, hT⟩ : ∃ T, X ++ (B ++ (A ++ Y)) = T := ⟨_, rfl⟩
  have T0 : Aside (X ++ (B ++ (A ++ Y)) = T) := hT
  rw [hT]
  have wi : IntKind.i64.wrap ((m : Int) - (a : Int)) = (i0 : Int) := by rw [IntKind.wrap_i64]; omega
  have wj : IntKind.i64.wrap ((b : Int) - (m : Int)) = (j0 : Int) := by rw [IntKind.wrap_i64]; omega
  have ei : (m : Int) - (a : Int) = (i0 : Int) := by omega
  have ej : (b : Int) - (m : Int) = (j0 : Int) := by omega
  have Hab : Hid (a + i0 = m ∧ m + j0 = b) := ⟨hm, hb⟩
  clear S hX hm hb hN hd hi0 hj0 hT
  go_enter L.f81, Tryz.ntmps81
  go_wp2_with fail
  go_loopg [10, 11] (i0 + j0) (fun kx s t wr => ∃ (i j : Nat) (X A B Y : List α), s = .int .i64 i ∧ t = .int .i64 j ∧ 0 < i ∧ 0 < j ∧ i ≤ m ∧ m + j ≤ N ∧ i + j ≤ kx ∧ Aside (X ++ (B ++ (A ++ Y)) = T) ∧ Aside (X.length + i = m ∧ A.length = i ∧ B.length = j ∧ (X ++ (A ++ (B ++ Y))).length = N ∧ SWK enc k w0 blk off (X ++ (A ++ (B ++ Y))).toArray wr))
  case atStart => exact ⟨i0, j0, X, A, B, Y, by first | rfl | rw [← ei] | (congr 1; omega), by first | rfl | rw [← ej] | (congr 1; omega), hA, hB, by have := Hab.out; omega, hmb, Nat.le_refl _, T0, S0⟩
  case round =>
    clear S0 T0 wi wj ei ej
    obtain ⟨i, j, X, A, B, Y, rfl, rfl, hi, hj, him, hmj, hkx, hT, hS⟩ := hrel
    have wmi : IntKind.i64.wrap ((m : Int) - (i : Int)) = (m : Int) - (i : Int) := by rw [IntKind.wrap_i64]; omega
    have emi : (m : Int) - (i : Int) = ((m - i : Nat) : Int) := by omega
    rcases Nat.lt_trichotomy i j with h | h | h
    · -- i < j
      have b1 : (((i : Int)) != (j : Int)) = true := by rw [bne_iff_ne]; omega
      have b2 : ¬ (j : Int) < (i : Int) := by omega
      obtain ⟨C, D, hCD, hC, hD⟩ : ∃ C D, B = C ++ D ∧ C.length = j - i ∧ D.length = i := ⟨B.take (j - i), B.drop (j - i), (List.take_append_drop _ _).symm, by have := hS.out.2.2.1; rw [List.length_take]; omega, by have := hS.out.2.2.1; rw [List.length_drop]; omega⟩
      have hc := swapRange_any L R cap g cb X A C D Y (m - i) (m + j - i) i N (by have := hS.out.1; omega) (by omega) hS.out.2.1 hD (by rw [← hS.out.2.2.2.1, hCD, List.append_assoc]) HD.out hsz wr (by have := hS.out.2.2.2.2; rwa [hCD, List.append_assoc] at this)
      have e1 : ((m - i : Nat) : Int) = (m : Int) - (i : Int) := by omega
      have e2 : ((m + j - i : Nat) : Int) = (m : Int) + (j : Int) - (i : Int) := by omega
      rw [e1, e2] at hc
      have wmj : IntKind.i64.wrap ((m : Int) + (j : Int)) = (m : Int) + (j : Int) := by rw [IntKind.wrap_i64]; omega
      have wmji : IntKind.i64.wrap ((m : Int) + (j : Int) - (i : Int)) = (m : Int) + (j : Int) - (i : Int) := by rw [IntKind.wrap_i64]; omega
      have wji : IntKind.i64.wrap ((j : Int) - (i : Int)) = (j : Int) - (i : Int) := by rw [IntKind.wrap_i64]; omega
      have S2 : Aside (C.length = j - i ∧ D.length = i ∧ B = C ++ D) := ⟨hC, hD, hCD⟩
      clear e1 e2 emi hC hD hCD
      go_wp2_with fail
      refine hc.mono ?_
      rintro e w2 ⟨rfl, S3⟩
      have S3 : Aside (SWK enc k w0 blk off (X ++ (D ++ (C ++ (A ++ Y)))).toArray w2) := S3
      clear hc
      go_wp2_with fail
      go_roundg j
      case measure => omega
      case rel =>
        obtain ⟨q1, q2, q3⟩ := S2.out
        obtain ⟨p1, p2, p3, p4, _⟩ := hS.out
        refine ⟨i, j - i, X, D, C, A ++ Y, rfl, by first | go_num | (congr 1; omega), hi, by omega, him, by omega, by omega, ?_, p1, q2, q1, ?_, S3.out⟩
        · show _ = _
          rw [← hT.out, q3]; simp [List.append_assoc]
        · rw [← p4, q3]; simp only [List.length_append]; omega
    · -- i = j
      subst h
      have b1 : (((i : Int)) != (i : Int)) = false := by simp
      have hc := swapRange_any L R cap g cb X A [] B Y (m - i) m i N (by have := hS.out.1; omega) (by simp; omega) hS.out.2.1 hS.out.2.2.1 (by rw [← hS.out.2.2.2.1]; simp) HD.out hsz wr (by simpa using hS.out.2.2.2.2)
      have e1 : ((m - i : Nat) : Int) = (m : Int) - (i : Int) := by omega
      rw [e1, List.nil_append, hT.out] at hc
      clear e1 emi
      go_wp2_with fail
      refine hc.mono ?_
      rintro e w2 ⟨rfl, S3⟩
      have S3 : Aside (SWK enc k w0 blk off T.toArray w2) := S3
      clear hc
      go_wp2_with fail
      go_end0
      exact ⟨rfl, S3.out⟩
    · -- j < i
      have b1 : (((i : Int)) != (j : Int)) = true := by rw [bne_iff_ne]; omega
      have b2 : (j : Int) < (i : Int) := by omega
      obtain ⟨C, D, hCD, hC, hD⟩ : ∃ C D, A = C ++ D ∧ C.length = j ∧ D.length = i - j := ⟨A.take j, A.drop j, (List.take_append_drop _ _).symm, by have := hS.out.2.1; rw [List.length_take]; omega, by have := hS.out.2.1; rw [List.length_drop]; omega⟩
      have hc := swapRange_any L R cap g cb X C D B Y (m - i) m j N (by have := hS.out.1; omega) (by omega) hC hS.out.2.2.1 (by rw [← hS.out.2.2.2.1, hCD, List.append_assoc]) HD.out hsz wr (by have := hS.out.2.2.2.2; rwa [hCD, List.append_assoc] at this)
      have e1 : ((m - i : Nat) : Int) = (m : Int) - (i : Int) := by omega
      rw [e1] at hc
      have wij : IntKind.i64.wrap ((i : Int) - (j : Int)) = (i : Int) - (j : Int) := by rw [IntKind.wrap_i64]; omega
      have S2 : Aside (C.length = j ∧ D.length = i - j ∧ A = C ++ D) := ⟨hC, hD, hCD⟩
      clear e1 emi hC hD hCD
      go_wp2_with fail
      refine hc.mono ?_
      rintro e w2 ⟨rfl, S3⟩
      have S3 : Aside (SWK enc k w0 blk off (X ++ (B ++ (D ++ (C ++ Y)))).toArray w2) := S3
      clear hc
      go_wp2_with fail
      go_roundg i
      case measure => omega
      case rel =>
        obtain ⟨q1, q2, q3⟩ := S2.out
        obtain ⟨p1, p2, p3, p4, _⟩ := hS.out
        refine ⟨i - j, j, X ++ B, D, C, Y, by first | go_num | (congr 1; omega), rfl, by omega, hj, by omega, hmj, by omega, ?_, ?_, q2, q1, ?_, ?_⟩
        · show _ = _
          rw [← hT.out, q3]; simp [List.append_assoc]
        · rw [List.length_append]; omega
        · rw [← p4, q3]; simp only [List.length_append]; omega
        · have := S3.out
          simpa [List.append_assoc] using this
end Go.Proofs.YtbcgpjfejpcgnaaGreat
end
