/- Lemmas on the way to LinearAcceptsSequential. No condition. -/
import Derived.Test.YtbcgpjfejpcgnaaGreatRAp
set_option linter.unusedSimpArgs false
set_option linter.unusedVariables false
set_option linter.unusedSectionVars false
section
namespace Go.Proofs.YtbcgpjfejpcgnaaGreat
open Go.RowKit Go.Shelf Go.Lib Go.Sort
set_option linter.unusedSectionVars false
set_option linter.unusedVariables false
set_option linter.unusedSimpArgs false
theorem bisect (p : Nat → Bool) (lo : Nat) : ∀ (n hi : Nat), hi - lo ≤ n → lo ≤ hi → (∀ t u, lo ≤ t → t ≤ u → u < hi → p t = true → p u = true) → ∃ s, lo ≤ s ∧ s ≤ hi ∧ (∀ t, lo ≤ t → t < s → p t = false) ∧ ∀ t, s ≤ t → t < hi → p t = true
  | 0, hi, hn, h, _ => ⟨lo, Nat.le_refl _, h, fun t h1 h2 => by omega, fun t h1 h2 => by omega⟩
  | n + 1, hi, hn, h, hm => by
    rcases Nat.eq_or_lt_of_le h with h0 | h0
    · exact ⟨lo, Nat.le_refl _, h, fun t h1 h2 => by omega, fun t h1 h2 => by omega⟩
    · cases hp : p (hi - 1) with
      | false => exact ⟨hi, h, Nat.le_refl _, fun t h1 h2 => by
          cases ht : p t with
          | false => rfl
          | true => have := hm t (hi - 1) h1 (by omega) (by omega) ht; rw [hp] at this; exact absurd this (by simp), fun t h1 h2 => by omega⟩
      | true =>
        obtain ⟨s, s1, s2, s3, s4⟩ := bisect p lo n (hi - 1) (by omega) (by omega) (fun t u h1 h2 h3 h4 => hm t u h1 h2 (by omega) h4)
        refine ⟨s, s1, by omega, s3, fun t h1 h2 => ?_⟩
        by_cases ht : t = hi - 1
        · rw [ht]; exact hp
        · exact s4 t h1 (by omega)
theorem sort_le {α : Type} {key : α → Int} {l : List α} (h : SortK key l) {i j : Nat} {x y : α} (hi : l[i]? = some x) (hj : l[j]? = some y) (hij : i ≤ j) : key x ≤ key y := by
  obtain ⟨q1, rfl⟩ := List.getElem?_eq_some_iff.1 hi
  obtain ⟨q2, rfl⟩ := List.getElem?_eq_some_iff.1 hj
  rcases Nat.eq_or_lt_of_le hij with h1 | h1
  · subst h1; exact Int.le_refl _
  · exact (List.pairwise_iff_getElem.1 h) i j q1 q2 h1
theorem mem_take {α : Type} {l : List α} {s : Nat} {x : α} (h : x ∈ l.take s) : ∃ i, i < s ∧ l[i]? = some x := by
  obtain ⟨i, hi⟩ := List.getElem?_of_mem h
  rw [List.getElem?_take] at hi
  split at hi
  · exact ⟨i, by assumption, hi⟩
  · cases hi
theorem mem_drop {α : Type} {l : List α} {s : Nat} {x : α} (h : x ∈ l.drop s) : ∃ i, s ≤ i ∧ l[i]? = some x := by
  obtain ⟨i, hi⟩ := List.getElem?_of_mem h
  rw [List.getElem?_drop] at hi
  exact ⟨s + i, by omega, hi⟩
theorem sym_plan {α : Type} (key : α → Int) (A B : List α) (hA : SortK key A) (hB : SortK key B) (la lb mid lo hi : Nat) (hla : A.length = la) (hlb : B.length = lb) (hmid : (la + lb) / 2 = mid) (h0a : 0 < la) (h0b : 0 < lb)
    (hcase : (mid < la ∧ lo = mid - lb ∧ hi = mid) ∨ (la ≤ mid ∧ lo = 0 ∧ hi = la)) :
    ∃ s, lo ≤ s ∧ s ≤ hi ∧ s ≤ mid ∧ mid - s ≤ lb ∧ s ≤ la ∧ (∀ t x y, lo ≤ t → t < s → A[t]? = some x → B[mid - 1 - t]? = some y → ¬ key y < key x) ∧ (∀ t x y, s ≤ t → t < hi → A[t]? = some x → B[mid - 1 - t]? = some y → key y < key x) ∧
      stab key ((A.take s ++ A.drop s) ++ (B.take (mid - s) ++ B.drop (mid - s))) = stab key (A.take s ++ B.take (mid - s)) ++ stab key (A.drop s ++ B.drop (mid - s)) := by
  have hlohi : lo ≤ hi := by omega
  have hin : ∀ t, lo ≤ t → t < hi → t < la ∧ t < mid ∧ mid - 1 - t < lb := fun t h1 h2 => by omega
  obtain ⟨p, hp⟩ : ∃ p : Nat → Bool, ∀ t x y, A[t]? = some x → B[mid - 1 - t]? = some y → p t = decide (key y < key x) :=
    ⟨fun t => match A[t]?, B[mid - 1 - t]? with | some x, some y => decide (key y < key x) | _, _ => false, fun t x y h1 h2 => by simp [h1, h2]⟩
  obtain ⟨s, s1, s2, s3, s4⟩ := bisect p lo (hi - lo) hi (Nat.le_refl _) hlohi (fun t u h1 h2 h3 h4 => by
    obtain ⟨a1, a2, a3⟩ := hin t h1 (by omega)
    obtain ⟨b1, b2, b3⟩ := hin u (by omega) h3
    obtain ⟨x, hx⟩ : ∃ x, A[t]? = some x := ⟨_, List.getElem?_eq_getElem (by omega)⟩
    obtain ⟨y, hy⟩ : ∃ y, B[mid - 1 - t]? = some y := ⟨_, List.getElem?_eq_getElem (by omega)⟩
    obtain ⟨x', hx'⟩ : ∃ x, A[u]? = some x := ⟨_, List.getElem?_eq_getElem (by omega)⟩
    obtain ⟨y', hy'⟩ : ∃ y, B[mid - 1 - u]? = some y := ⟨_, List.getElem?_eq_getElem (by omega)⟩
    rw [hp t x y hx hy] at h4
    rw [hp u x' y' hx' hy']
    have e1 := sort_le hA hx hx' h2
    have e2 := sort_le hB hy' hy (by omega)
    have := of_decide_eq_true h4
    exact decide_eq_true (by omega))
  have k1 : ∀ t x y, lo ≤ t → t < s → A[t]? = some x → B[mid - 1 - t]? = some y → ¬ key y < key x := fun t x y h1 h2 hx hy => by
    have := s3 t h1 h2
    rw [hp t x y hx hy] at this
    exact of_decide_eq_false this
  have k2 : ∀ t x y, s ≤ t → t < hi → A[t]? = some x → B[mid - 1 - t]? = some y → key y < key x := fun t x y h1 h2 hx hy => by
    have := s4 t h1 h2
    rw [hp t x y hx hy] at this
    exact of_decide_eq_true this
  refine ⟨s, s1, s2, by omega, by omega, by omega, k1, k2, stab_split ?_ ?_ ?_ ?_⟩
  · intro x hx y hy
    obtain ⟨i, hi1, hi2⟩ := mem_take hx
    obtain ⟨j, hj1, hj2⟩ := mem_drop hy
    exact sort_le hA hi2 hj2 (by omega)
  · intro x hx y hy
    obtain ⟨i, hi1, hi2⟩ := mem_take hx
    obtain ⟨j, hj1, hj2⟩ := mem_drop hy
    have hil := (List.getElem?_eq_some_iff.1 hi2).1
    have hjl := (List.getElem?_eq_some_iff.1 hj2).1
    have hs : lo < s := by omega
    obtain ⟨x', hx'⟩ : ∃ x, A[s - 1]? = some x := ⟨_, List.getElem?_eq_getElem (by omega)⟩
    obtain ⟨y', hy'⟩ : ∃ y, B[mid - 1 - (s - 1)]? = some y := ⟨_, List.getElem?_eq_getElem (by omega)⟩
    have e1 := sort_le hA hi2 hx' (by omega)
    have e2 := sort_le hB hy' hj2 (by omega)
    have e3 := k1 (s - 1) x' y' (by omega) (by omega) hx' hy'
    omega
  · intro x hx y hy
    obtain ⟨i, hi1, hi2⟩ := mem_take hx
    obtain ⟨j, hj1, hj2⟩ := mem_drop hy
    have hil := (List.getElem?_eq_some_iff.1 hi2).1
    have hjl := (List.getElem?_eq_some_iff.1 hj2).1
    have hs : s < hi := by omega
    obtain ⟨x', hx'⟩ : ∃ x, A[s]? = some x := ⟨_, List.getElem?_eq_getElem (by omega)⟩
    obtain ⟨y', hy'⟩ : ∃ y, B[mid - 1 - s]? = some y := ⟨_, List.getElem?_eq_getElem (by omega)⟩
    have e1 := sort_le hA hx' hj2 (by omega)
    have e2 := sort_le hB hi2 hy' (by omega)
    have e3 := k2 s x' y' (by omega) hs hx' hy'
    omega
  · intro x hx y hy
    obtain ⟨i, hi1, hi2⟩ := mem_take hx
    obtain ⟨j, hj1, hj2⟩ := mem_drop hy
    exact sort_le hB hi2 hj2 (by omega)
variable {P : Program} {α : Type} [Inhabited α] {enc : α → List Value} {k : Nat} {w0 : World} {blk off : Nat} {d0 : Array α}
def SymDoes (P : Program) (enc : α → List Value) (k : Nat) (w0 : World) (blk off : Nat) (key : α → Int) (cap g : Nat) (cb : Array Value) (N n : Nat) : Prop :=
  ∀ (X A B Y : List α) (a m b : Nat), X.length = a → a + A.length = m → m + B.length = b → 0 < A.length → 0 < B.length → A.length + B.length ≤ n → (X ++ (A ++ (B ++ Y))).length = N → SortK key A → SortK key B →
    ∀ w, SWK enc k w0 blk off (X ++ (A ++ (B ++ Y))).toArray w →
    Calls P 73 #[.slice (some ⟨blk, off, none⟩) N cap, .int .i64 a, .int .i64 m, .int .i64 b, .func (.func g) #[] cb] w (SymPost enc k w0 blk off (X ++ (stab key (A ++ B) ++ Y)))
set_option maxHeartbeats 4000000 in
set_option maxRecDepth 1000000 in
theorem sym_many (L : SL P k) (R : RowK enc k w0 blk off d0) (key : α → Int) (cf : α → α → Int) (cap g : Nat) (cb : Array Value) (eg : ∀ args w, (callFunc g args).run P w = .ok (.enter g args) w) (hcf0 : ∀ x y, (cf x y < 0) = (key x < key y)) (hC : CmpLays P g cb enc k cf blk off d0.size w0)
    (N n0 : Nat) (hd : d0.size = N) (hsz : N < 4611686018427387904) (ih : SymDoes P enc k w0 blk off key cap g cb N n0)
    (X A B Y : List α) (a m b la lb : Nat) (hX : X.length = a) (hla : A.length = la) (hlb : B.length = lb) (hm : a + la = m) (hb : m + lb = b) (hA : 2 ≤ la) (hB : 2 ≤ lb) (hn : la + lb ≤ n0 + 1) (hN : (X ++ (A ++ (B ++ Y))).length = N) (sA : SortK key A) (sB : SortK key B)
    (w : World) (S : SWK enc k w0 blk off (X ++ (A ++ (B ++ Y))).toArray w) :
    Calls P 73 #[.slice (some ⟨blk, off, none⟩) N cap, .int .i64 a, .int .i64 m, .int .i64 b, .func (.func g) #[] cb] w (SymPost enc k w0 blk off (X ++ (stab key (A ++ B) ++ Y))) := by
  have mixed := L.mixed; have t3 := L.t3; have a3 := L.a3; have z3 := L.z3; have v3 := L.v3; have t4 := L.t4; have a4 := L.a4; have z4 := L.z4; have v4 := L.v4; have t22 := L.t25; have a22 := L.a25; have z22 := L.z25; have v22 := L.v25; have t67 := L.t136; have a67 := L.a136; have z67 := L.z136; have v67 := L.v136; have aE := L.aE; have zE := L.zE
  have egr : ∀ args w, (callFunc 81 args).run P w = .ok (.enter 81 args) w := enters_of L.f81 (by kernel_rfl) rfl
  have egs : ∀ args w, (callFunc 73 args).run P w = .ok (.enter 73 args) w := enters_of L.f73 (by kernel_rfl) rfl
  obtain ⟨mid, hmid⟩ : ∃ mid, (la + lb) / 2 = mid := ⟨_, rfl⟩
  obtain ⟨lo, hi, hcase⟩ : ∃ lo hi, (mid < la ∧ lo = mid - lb ∧ hi = mid) ∨ (la ≤ mid ∧ lo = 0 ∧ hi = la) := by
    by_cases h : mid < la
    · exact ⟨_, _, .inl ⟨h, rfl, rfl⟩⟩
    · exact ⟨_, _, .inr ⟨by omega, rfl, rfl⟩⟩
  obtain ⟨s, s1, s2, s3, s4, s5, k1, k2, hst⟩ := sym_plan key A B sA sB la lb mid lo hi hla hlb hmid (by omega) (by omega) hcase
  rw [List.take_append_drop, List.take_append_drop] at hst
  obtain ⟨d, hds⟩ : ∃ d, mid - s = d := ⟨_, rfl⟩
  rw [hds] at s4 hst
  have hsd : s + d = mid := by omega
  clear hds
  rw [hst]
  have hbN : b ≤ N := by simp at hN; omega
  obtain ⟨dk, hdk⟩ : ∃ dk, (X ++ (A ++ (B ++ Y))).toArray = dk := ⟨_, rfl⟩
  have hsz1 : dk.size = N := by rw [← hdk, List.size_toArray]; exact hN
  have hgA : ∀ t x, A[t]? = some x → dk[a + t]! = x := fun t x hx => by
    have := (List.getElem?_eq_some_iff.1 hx).1
    rw [← hdk]
    exact get_at _ _ _ (by rw [List.getElem?_append_right (by omega), show a + t - X.length = t by omega, List.getElem?_append_left this, hx])
  have hgB : ∀ t y, B[t]? = some y → dk[m + t]! = y := fun t y hy => by
    have := (List.getElem?_eq_some_iff.1 hy).1
    rw [← hdk]
    exact get_at _ _ _ (by rw [List.getElem?_append_right (by omega), List.getElem?_append_right (by omega), show m + t - X.length - A.length = t by omega, List.getElem?_append_left this, hy])
  have hlow : ∀ t, lo ≤ t → t < s → ¬ key dk[m + (mid - 1 - t)]! < key dk[a + t]! := fun t g1 g2 => by
    obtain ⟨x, hx⟩ : ∃ x, A[t]? = some x := ⟨_, List.getElem?_eq_getElem (by omega)⟩
    obtain ⟨y, hy⟩ : ∃ y, B[mid - 1 - t]? = some y := ⟨_, List.getElem?_eq_getElem (by omega)⟩
    rw [hgA t x hx, hgB _ y hy]
    exact k1 t x y g1 g2 hx hy
  have hhigh : ∀ t, s ≤ t → t < hi → key dk[m + (mid - 1 - t)]! < key dk[a + t]! := fun t g1 g2 => by
    obtain ⟨x, hx⟩ : ∃ x, A[t]? = some x := ⟨_, List.getElem?_eq_getElem (by omega)⟩
    obtain ⟨y, hy⟩ : ∃ y, B[mid - 1 - t]? = some y := ⟨_, List.getElem?_eq_getElem (by omega)⟩
    rw [hgA t x hx, hgB _ y hy]
    exact k2 t x y g1 g2 hx hy
  rw [hdk] at S
  have hd1 : dk.size = d0.size := by rw [hsz1, hd]
  -- the three calls behind the loop
  obtain ⟨A1, eA1⟩ : ∃ A1, A.take s = A1 := ⟨_, rfl⟩
  obtain ⟨A2, eA2⟩ : ∃ A2, A.drop s = A2 := ⟨_, rfl⟩
  obtain ⟨B1, eB1⟩ : ∃ B1, B.take (d) = B1 := ⟨_, rfl⟩
  obtain ⟨B2, eB2⟩ : ∃ B2, B.drop (d) = B2 := ⟨_, rfl⟩
  have lA1 : A1.length = s := by rw [← eA1, List.length_take]; omega
  have lA2 : A2.length = la - s := by rw [← eA2, List.length_drop]; omega
  have lB1 : B1.length = d := by rw [← eB1, List.length_take]; omega
  have lB2 : B2.length = lb - (d) := by rw [← eB2, List.length_drop]; omega
  have sA1 : SortK key A1 := by rw [← eA1]; exact sA.sublist (List.take_sublist _ _)
  have sA2 : SortK key A2 := by rw [← eA2]; exact sA.sublist (List.drop_sublist _ _)
  have sB1 : SortK key B1 := by rw [← eB1]; exact sB.sublist (List.take_sublist _ _)
  have sB2 : SortK key B2 := by rw [← eB2]; exact sB.sublist (List.drop_sublist _ _)
  have eA : A = A1 ++ A2 := by rw [← eA1, ← eA2, List.take_append_drop]
  have eB : B = B1 ++ B2 := by rw [← eB1, ← eB2, List.take_append_drop]
  rw [eA1, eA2, eB1, eB2]
  have hdk2 : dk = ((X ++ A1) ++ (A2 ++ (B1 ++ (B2 ++ Y)))).toArray := by rw [← hdk, eA, eB]; simp [List.append_assoc]
  have hN2 : ((X ++ A1) ++ (A2 ++ (B1 ++ (B2 ++ Y)))).length = N := by rw [← hN, eA, eB]; simp [List.append_assoc]
  have lT : (stab key (A1 ++ B1)).length = mid := by rw [stab_len, List.length_append]; omega
  -- rotate
  have hrot : s < la → s < mid → ∀ w, SWK enc k w0 blk off dk w → Calls P 81 #[.slice (some ⟨blk, off, none⟩) N cap, .int .i64 ((a : Int) + (s : Int)), .int .i64 m, .int .i64 ((m : Int) + (d : Int)), .func (.func g) #[] cb] w fun e w' => e = .returned (.tuple #[]) ∧ SWK enc k w0 blk off (X ++ (A1 ++ (B1 ++ (A2 ++ (B2 ++ Y))))).toArray w' := fun c1 c2 w hw => by
    have := rotate_any L R cap g cb (X ++ A1) A2 B1 (B2 ++ Y) (a + s) m (m + (d)) N (by rw [List.length_append]; omega) (by omega) (by omega) (by omega) (by omega) hN2 hd hsz w (by rw [← hdk2]; exact hw)
    simp only [Int.natCast_add] at this
    simpa [List.append_assoc] using this
  have hrot' : ¬ (s < la ∧ s < mid) → ∀ w, SWK enc k w0 blk off dk w → SWK enc k w0 blk off (X ++ (A1 ++ (B1 ++ (A2 ++ (B2 ++ Y))))).toArray w := fun c w hw => by
    rw [hdk2] at hw
    rcases Nat.lt_or_ge s la with c1 | c1
    · obtain rfl : B1 = [] := List.eq_nil_of_length_eq_zero (by omega)
      simpa [List.append_assoc] using hw
    · obtain rfl : A2 = [] := List.eq_nil_of_length_eq_zero (by omega)
      simpa [List.append_assoc] using hw
  have hr1 : 0 < s → s < mid → ∀ w, SWK enc k w0 blk off (X ++ (A1 ++ (B1 ++ (A2 ++ (B2 ++ Y))))).toArray w → Calls P 73 #[.slice (some ⟨blk, off, none⟩) N cap, .int .i64 a, .int .i64 ((a : Int) + (s : Int)), .int .i64 ((a : Int) + (mid : Int)), .func (.func g) #[] cb] w (SymPost enc k w0 blk off (X ++ (stab key (A1 ++ B1) ++ (A2 ++ (B2 ++ Y))))) := fun c1 c2 w hw => by
    have := ih X A1 B1 (A2 ++ (B2 ++ Y)) a (a + s) (a + mid) hX (by omega) (by omega) (by omega) (by omega) (by omega) (by rw [← hN2]; simp only [List.length_append]; omega) sA1 sB1 w hw
    simp only [Int.natCast_add] at this
    exact this
  have hr1' : ¬ (0 < s ∧ s < mid) → ∀ w, SWK enc k w0 blk off (X ++ (A1 ++ (B1 ++ (A2 ++ (B2 ++ Y))))).toArray w → SWK enc k w0 blk off (X ++ (stab key (A1 ++ B1) ++ (A2 ++ (B2 ++ Y)))).toArray w := fun c w hw => by
    have : SortK key (A1 ++ B1) := by
      rcases Nat.eq_zero_or_pos s with c1 | c1
      · obtain rfl : A1 = [] := List.eq_nil_of_length_eq_zero (by omega)
        exact sB1
      · obtain rfl : B1 = [] := List.eq_nil_of_length_eq_zero (by omega)
        rw [List.append_nil]; exact sA1
    rw [stab_self this]
    simpa [List.append_assoc] using hw
  have hr2 : s < la → d < lb → ∀ w, SWK enc k w0 blk off (X ++ (stab key (A1 ++ B1) ++ (A2 ++ (B2 ++ Y)))).toArray w → Calls P 73 #[.slice (some ⟨blk, off, none⟩) N cap, .int .i64 ((a : Int) + (mid : Int)), .int .i64 ((m : Int) + (d : Int)), .int .i64 b, .func (.func g) #[] cb] w (SymPost enc k w0 blk off (X ++ (stab key (A1 ++ B1) ++ stab key (A2 ++ B2) ++ Y))) := fun c1 c2 w hw => by
    have := ih (X ++ stab key (A1 ++ B1)) A2 B2 Y (a + mid) (m + (d)) b (by rw [List.length_append, lT]; omega) (by omega) (by omega) (by omega) (by omega) (by omega) (by rw [← hN2]; simp only [List.length_append, lT]; omega) sA2 sB2 w (by simpa [List.append_assoc] using hw)
    simp only [Int.natCast_add] at this
    simpa [List.append_assoc] using this
  have hr2' : ¬ (s < la ∧ d < lb) → ∀ w, SWK enc k w0 blk off (X ++ (stab key (A1 ++ B1) ++ (A2 ++ (B2 ++ Y)))).toArray w → SWK enc k w0 blk off (X ++ (stab key (A1 ++ B1) ++ stab key (A2 ++ B2) ++ Y)).toArray w := fun c w hw => by
    have : SortK key (A2 ++ B2) := by
      rcases Nat.lt_or_ge s la with c1 | c1
      · obtain rfl : B2 = [] := List.eq_nil_of_length_eq_zero (by omega)
        rw [List.append_nil]; exact sA2
      · obtain rfl : A2 = [] := List.eq_nil_of_length_eq_zero (by omega)
        exact sB2
    rw [stab_self this]
    simpa [List.append_assoc] using hw
  have S0 : Aside (SWK enc k w0 blk off dk w) := S
  have HLO := Lib.hid hlow
  have HHI := Lib.hid hhigh
  have HC : Aside _ := hC
  have hcf := Lib.hid hcf0
  obtain ⟨T1, eT1⟩ : ∃ T1, (X ++ (A1 ++ (B1 ++ (A2 ++ (B2 ++ Y))))).toArray = T1 := ⟨_, rfl⟩
  obtain ⟨T2, eT2⟩ : ∃ T2, X ++ (stab key (A1 ++ B1) ++ (A2 ++ (B2 ++ Y))) = T2 := ⟨_, rfl⟩
  obtain ⟨T3, eT3⟩ : ∃ T3, X ++ (stab key (A1 ++ B1) ++ stab key (A2 ++ B2) ++ Y) = T3 := ⟨_, rfl⟩
  rw [eT1] at hrot hrot' hr1 hr1'
  rw [eT2] at hr1 hr1' hr2 hr2'
  rw [eT3] at hr2 hr2'
  rw [eT3]
  have HR := Lib.hid hrot
  have HR' := Lib.hid hrot'
  have H1 := Lib.hid hr1
  have H1' := Lib.hid hr1'
  have H2 := Lib.hid hr2
  have H2' := Lib.hid hr2'
  have hmid1 : mid ≤ la + lb := by omega
  have HCS := Lib.hid hcase
  have HMB := Lib.hid (And.intro hm hb)
  have HMID := Lib.hid hmid
  clear S hdk hdk2 hN hN2 hgA hgB hlow hhigh hrot hrot' hr1 hr1' hr2 hr2' eT1 eT2 eT3 eA1 eA2 eB1 eB2 lA1 lA2 lB1 lB2 sA1 sA2 sB1 sB2 eA eB lT hst k1 k2 hla hlb hX ih sA sB hC hcf0 hd
  have wm : IntKind.i64.wrap ((m : Int) - (a : Int)) = (m : Int) - (a : Int) := by rw [IntKind.wrap_i64]; omega
  have b0 : (((m : Int) - (a : Int)) == 1) = false := by rw [beq_eq_false_iff_ne]; omega
  have wb : IntKind.i64.wrap ((b : Int) - (m : Int)) = (b : Int) - (m : Int) := by rw [IntKind.wrap_i64]; omega
  have b1 : (((b : Int) - (m : Int)) == 1) = false := by rw [beq_eq_false_iff_ne]; omega
  have hab : ((a : Int) + (b : Int)) / 2 = (a : Int) + (mid : Int) := by omega
  have hab2 : IntKind.i64.wrap ((a : Int) + (b : Int)) = (a : Int) + (b : Int) := by rw [IntKind.wrap_i64]; omega
  have hab3 : IntKind.u64.wrap ((a : Int) + (b : Int)) = (a : Int) + (b : Int) := IntWalk.u64_in _ ⟨by omega, by omega⟩
  have hw1 : IntKind.i64.wrap ((a : Int) + (mid : Int)) = (a : Int) + (mid : Int) := by rw [IntKind.wrap_i64]; omega
  have hw2 : IntKind.i64.wrap ((a : Int) + (mid : Int) + (m : Int)) = (a : Int) + (mid : Int) + (m : Int) := by rw [IntKind.wrap_i64]; omega
  have hw3 : IntKind.i64.wrap ((a : Int) + (mid : Int) + (m : Int) - (b : Int)) = (a : Int) + (mid : Int) + (m : Int) - (b : Int) := by rw [IntKind.wrap_i64]; omega
  have hw4 : IntKind.i64.wrap ((a : Int) + (mid : Int) + (m : Int) - 1) = (a : Int) + (mid : Int) + (m : Int) - 1 := by rw [IntKind.wrap_i64]; omega
  clear hm hb hmid hcase
  go_enter L.f73, Tryz.ntmps73
  go_upto_if 140 with fail
  go_cut [20, 21] from 20 to 146 (fun s20 s21 wx => s20 = .int .i64 ((a : Int) + (lo : Int)) ∧ s21 = .int .i64 ((a : Int) + (hi : Int)) ∧ wx = w)
  case first => as_aux_lemma =>
    have hmb := HMB.out
    have hmd := HMID.out
    rcases HCS.out with ⟨c1, c2, c3⟩ | ⟨c1, c2, c3⟩
    · have ht : (a : Int) + (mid : Int) < (m : Int) := by omega
      have hL : (a : Int) + (mid : Int) + (m : Int) - (b : Int) = (a : Int) + (lo : Int) := by omega
      have hH : (mid : Int) = (hi : Int) := by omega
      have HL := Lib.hid hL
      have HH := Lib.hid hH
      clear hL hH hmb hmd c1 c2 c3
      go_wp2_with fail
      go_meet
      exact ⟨by first | (rw [HL.out]) | rfl, by first | (rw [HH.out]) | rfl, rfl⟩
    · have ht : ¬ (a : Int) + (mid : Int) < (m : Int) := by omega
      have hL : (a : Int) = (a : Int) + (lo : Int) := by omega
      have hH : (m : Int) = (a : Int) + (hi : Int) := by omega
      have HL := Lib.hid hL
      have HH := Lib.hid hH
      clear hL hH hmb hmd c1 c2 c3
      go_wp2_with fail
      go_meet
      exact ⟨congrArg (Value.int .i64) HL.out, congrArg (Value.int .i64) HH.out, rfl⟩
  case rest =>
    obtain ⟨rfl, rfl, rfl⟩ := hcut
    have hmb := HMB.out
    have hmd := HMID.out
    have hmm : (m : Int) = (a : Int) + (la : Int) := by omega
    have hcs := HCS.out
    have hir : lo ≤ hi ∧ hi ≤ mid ∧ hi ≤ la ∧ mid - lo ≤ lb ∧ lo + lb ≥ mid := by omega
    have HMM := Lib.hid hmm
    clear hmb hmd hmm hcs
    go_wp2_with fail
    go_loopg [20, 21] (hi - lo) (fun kx s20 s21 wr => ∃ i j : Nat, s20 = .int .i64 ((a : Int) + (i : Int)) ∧ s21 = .int .i64 ((a : Int) + (j : Int)) ∧ lo ≤ i ∧ i ≤ s ∧ s ≤ j ∧ j ≤ hi ∧ j - i ≤ kx ∧ Aside (SWK enc k w0 blk off dk wr))
    case atStart => exact ⟨lo, hi, rfl, rfl, Nat.le_refl _, s1, s2, Nat.le_refl _, Nat.le_refl _, S0⟩
    case round =>
      clear S0
      obtain ⟨i, j, rfl, rfl, hi1, hi2, hj1, hj2, hkx, S1⟩ := hrel
      by_cases hlt : i < j
      · have hltz : (a : Int) + (i : Int) < (a : Int) + (j : Int) := by omega
        obtain ⟨h, hh⟩ : ∃ h, (i + j) / 2 = h := ⟨_, rfl⟩
        have hh1 : i ≤ h := by omega
        have hh2 : h < j := by omega
        have hmm := HMM.out
        have hmb := HMB.out
        have hjN : a + j ≤ N := by omega
        have hsum : ((a : Int) + (i : Int) + ((a : Int) + (j : Int))) / 2 = (a : Int) + (h : Int) := by omega
        have hsum2 : IntKind.i64.wrap ((a : Int) + (i : Int) + ((a : Int) + (j : Int))) = (a : Int) + (i : Int) + ((a : Int) + (j : Int)) := by rw [IntKind.wrap_i64]; omega
        have hsum3 : IntKind.u64.wrap ((a : Int) + (i : Int) + ((a : Int) + (j : Int))) = (a : Int) + (i : Int) + ((a : Int) + (j : Int)) := IntWalk.u64_in _ ⟨by omega, by omega⟩
        have hah : IntKind.i64.wrap ((a : Int) + (h : Int)) = (a : Int) + (h : Int) := by rw [IntKind.wrap_i64]; omega
        have Hh := Lib.hid hh
        obtain ⟨u0, hu⟩ : ∃ u0, mid - 1 - h = u0 := ⟨_, rfl⟩
        have hpc : (a : Int) + (mid : Int) + (m : Int) - 1 - ((a : Int) + (h : Int)) = (m : Int) + (u0 : Int) := by omega
        have hpc2 : IntKind.i64.wrap ((a : Int) + (mid : Int) + (m : Int) - 1 - ((a : Int) + (h : Int))) = (m : Int) + (u0 : Int) := by rw [IntKind.wrap_i64]; omega
        have hix : m + u0 < N := by omega
        have hahN : a + h < N := by omega
        have HU := Lib.hid hu
        clear hh hmm hmb hu
        by_cases hc : h < s
        · as_aux_lemma =>
          have eat1 : ((m : Int) + (u0 : Int)).toNat = m + u0 := by omega
          have pat1 : (0 : Int) ≤ (m : Int) + (u0 : Int) := by omega
          have bat1 : (m : Int) + (u0 : Int) < (N : Int) := by omega
          have rat1 : IntKind.i64.wrap ((m : Int) + (u0 : Int)) = (m : Int) + (u0 : Int) := by rw [IntKind.wrap_i64]; omega
          have ect1 : ((a : Int) + (h : Int)).toNat = a + h := by omega
          have pct1 : (0 : Int) ≤ (a : Int) + (h : Int) := by omega
          have bct1 : (a : Int) + (h : Int) < (N : Int) := by omega
          have rct1 : IntKind.i64.wrap ((a : Int) + (h : Int)) = (a : Int) + (h : Int) := by rw [IntKind.wrap_i64]; omega
          obtain ⟨xt1, hxt1⟩ : ∃ x, x = dk[m + u0]! := ⟨_, rfl⟩
          obtain ⟨yt1, hyt1⟩ : ∃ x, x = dk[a + h]! := ⟨_, rfl⟩
          have lt1a := S1.out.ld R (by omega) P (m + u0) (by omega)
          have lt1b := S1.out.ld R (by omega) P (a + h) (by omega)
          rw [← hxt1] at lt1a
          rw [← hyt1] at lt1b
          have hct1 := S1.out.cmp HC.out (by omega) xt1 yt1
          have hvt1 : ¬ cf xt1 yt1 < 0 := by rw [hcf.out, hxt1, hyt1]; exact (by have := HLO.out h (by omega) hc; rw [HU.out] at this; omega)
          have hdt1 : decide (cf xt1 yt1 < 0) = false := decide_eq_false hvt1
          clear hxt1 hyt1
          go_wp2_with fail
          go_quiet_grown (first | (go_at_fn g; refine Calls.grown_of (hct1 _ _)))
          have SV : Aside (SWK enc k w0 blk off dk (grow (wr.drewN nq) osq)) := S1.out.grown nq osq
          clear lt1a lt1b hct1 S1
          generalize grow (wr.drewN nq) osq = wv1 at SV ⊢
          clear nq osq
          go_wp2_with fail
          go_roundg (j - (h + 1))
          case measure => omega
          case rel => exact ⟨h + 1, j, by first | go_num | (congr 1; omega), rfl, by omega, by omega, hj1, hj2, Nat.le_refl _, SV⟩
        · as_aux_lemma =>
          have eat2 : ((m : Int) + (u0 : Int)).toNat = m + u0 := by omega
          have pat2 : (0 : Int) ≤ (m : Int) + (u0 : Int) := by omega
          have bat2 : (m : Int) + (u0 : Int) < (N : Int) := by omega
          have rat2 : IntKind.i64.wrap ((m : Int) + (u0 : Int)) = (m : Int) + (u0 : Int) := by rw [IntKind.wrap_i64]; omega
          have ect2 : ((a : Int) + (h : Int)).toNat = a + h := by omega
          have pct2 : (0 : Int) ≤ (a : Int) + (h : Int) := by omega
          have bct2 : (a : Int) + (h : Int) < (N : Int) := by omega
          have rct2 : IntKind.i64.wrap ((a : Int) + (h : Int)) = (a : Int) + (h : Int) := by rw [IntKind.wrap_i64]; omega
          obtain ⟨xt2, hxt2⟩ : ∃ x, x = dk[m + u0]! := ⟨_, rfl⟩
          obtain ⟨yt2, hyt2⟩ : ∃ x, x = dk[a + h]! := ⟨_, rfl⟩
          have lt2a := S1.out.ld R (by omega) P (m + u0) (by omega)
          have lt2b := S1.out.ld R (by omega) P (a + h) (by omega)
          rw [← hxt2] at lt2a
          rw [← hyt2] at lt2b
          have hct2 := S1.out.cmp HC.out (by omega) xt2 yt2
          have hvt2 : cf xt2 yt2 < 0 := by rw [hcf.out, hxt2, hyt2]; exact (by have := HHI.out h (by omega) (by omega); rw [HU.out] at this; omega)
          have hdt2 : decide (cf xt2 yt2 < 0) = true := decide_eq_true hvt2
          clear hxt2 hyt2
          go_wp2_with fail
          go_quiet_grown (first | (go_at_fn g; refine Calls.grown_of (hct2 _ _)))
          have SV : Aside (SWK enc k w0 blk off dk (grow (wr.drewN nq) osq)) := S1.out.grown nq osq
          clear lt2a lt2b hct2 S1
          generalize grow (wr.drewN nq) osq = wv1 at SV ⊢
          clear nq osq
          go_wp2_with fail
          go_roundg (h - i)
          case measure => omega
          case rel => exact ⟨i, h, rfl, by first | go_num | (congr 1; omega), hi1, hi2, by omega, by omega, Nat.le_refl _, SV⟩
      · as_aux_lemma =>
        obtain rfl : i = s := by omega
        obtain rfl : j = i := by omega
        have hmb := HMB.out
        have hee : IntKind.i64.wrap ((a : Int) + (mid : Int) + (m : Int) - ((a : Int) + (j : Int))) = (m : Int) + (d : Int) := by rw [IntKind.wrap_i64]; omega
        have hee2 : (a : Int) + (mid : Int) + (m : Int) - ((a : Int) + (j : Int)) = (m : Int) + (d : Int) := by omega
        have hee3 : IntKind.i64.wrap ((m : Int) + (d : Int)) = (m : Int) + (d : Int) := by rw [IntKind.wrap_i64]; omega
        clear hmb
        go_upto_region 39 with fail
        go_cut [185] from 178 to 185 (fun sx wx => sx = .bool (decide (j < la ∧ j < mid)) ∧ wx = wr)
        case first => as_aux_lemma =>
          have hmm := HMM.out
          have hmb := HMB.out
          by_cases q1 : j < la
          · have q1i : (a : Int) + (j : Int) < (m : Int) := by omega
            by_cases q2 : j < mid
            · have q2i : (m : Int) < (m : Int) + (d : Int) := by omega
              have hQ : decide (j < la ∧ j < mid) = true := decide_eq_true ⟨q1, q2⟩
              have HQ := Lib.hid hQ
              clear hmm hmb hQ q1 q2
              go_wp2_with fail
              go_meet
              exact ⟨by rw [HQ.out], rfl⟩
            · have q2i : ¬ (m : Int) < (m : Int) + (d : Int) := by omega
              have hQ : decide (j < la ∧ j < mid) = false := decide_eq_false (fun h => q2 h.2)
              have HQ := Lib.hid hQ
              clear hmm hmb hQ q1 q2
              go_wp2_with fail
              go_meet
              exact ⟨by rw [HQ.out], rfl⟩
          · have q1i : decide ((a : Int) + (j : Int) < (m : Int)) = false := decide_eq_false (by omega)
            have hQ : decide (j < la ∧ j < mid) = false := decide_eq_false (fun h => q1 h.1)
            have HQ := Lib.hid hQ
            clear hmm hmb hQ q1
            go_wp2_with fail
            go_meet
            exact ⟨by rw [HQ.out], rfl⟩
        case rest =>
        obtain ⟨rfl, rfl⟩ := hcut
        go_upto_if 185 with fail
        go_cut [185, 186] from 185 to 191 (fun _ _ wx => Aside (SWK enc k w0 blk off T1 wx))
        case first => as_aux_lemma =>
          by_cases c : j < la ∧ j < mid
          · have hb : decide (j < la ∧ j < mid) = true := decide_eq_true c
            have hcall := HR.out c.1 c.2 _ S1.out
            rw [hb]
            clear hb c
            go_wp2_with fail
            refine hcall.mono ?_
            rintro e wv ⟨rfl, SV⟩
            have SV : Aside (SWK enc k w0 blk off T1 wv) := SV
            clear hcall
            go_wp2_with fail
            go_meet
            exact SV
          · have hb : decide (j < la ∧ j < mid) = false := decide_eq_false c
            have SV : Aside (SWK enc k w0 blk off T1 wc) := HR'.out c _ S1.out
            rw [hb]
            clear hb c
            go_wp2_with fail
            go_meet
            exact SV
        case rest =>
        clear S1
        have S1 := hcut
        clear hcut
        go_upto_region 41 with fail
        go_cut [199] from 192 to 199 (fun sx wx => sx = .bool (decide (0 < j ∧ j < mid)) ∧ wx = wc)
        case first => as_aux_lemma =>
          have hmm := HMM.out
          have hmb := HMB.out
          by_cases q1 : 0 < j
          · have q1i : (a : Int) < (a : Int) + (j : Int) := by omega
            by_cases q2 : j < mid
            · have q2i : (a : Int) + (j : Int) < (a : Int) + (mid : Int) := by omega
              have hQ : decide (0 < j ∧ j < mid) = true := decide_eq_true ⟨q1, q2⟩
              have HQ := Lib.hid hQ
              clear hmm hmb hQ q1 q2
              go_wp2_with fail
              go_meet
              exact ⟨by rw [HQ.out], rfl⟩
            · have q2i : ¬ (a : Int) + (j : Int) < (a : Int) + (mid : Int) := by omega
              have hQ : decide (0 < j ∧ j < mid) = false := decide_eq_false (fun h => q2 h.2)
              have HQ := Lib.hid hQ
              clear hmm hmb hQ q1 q2
              go_wp2_with fail
              go_meet
              exact ⟨by rw [HQ.out], rfl⟩
          · have q1i : decide ((a : Int) < (a : Int) + (j : Int)) = false := decide_eq_false (by omega)
            have hQ : decide (0 < j ∧ j < mid) = false := decide_eq_false (fun h => q1 h.1)
            have HQ := Lib.hid hQ
            clear hmm hmb hQ q1
            go_wp2_with fail
            go_meet
            exact ⟨by rw [HQ.out], rfl⟩
        case rest =>
        obtain ⟨rfl, rfl⟩ := hcut
        go_upto_if 199 with fail
        go_cut [199, 200] from 199 to 205 (fun _ _ wx => Aside (SWK enc k w0 blk off T2.toArray wx))
        case first => as_aux_lemma =>
          by_cases c : 0 < j ∧ j < mid
          · have hb : decide (0 < j ∧ j < mid) = true := decide_eq_true c
            have hcall := H1.out c.1 c.2 _ S1.out
            rw [hb]
            clear hb c
            go_wp2_with fail
            refine hcall.mono ?_
            rintro e wv ⟨rfl, SV⟩
            have SV : Aside (SWK enc k w0 blk off T2.toArray wv) := SV
            clear hcall
            go_wp2_with fail
            go_meet
            exact SV
          · have hb : decide (0 < j ∧ j < mid) = false := decide_eq_false c
            have SV : Aside (SWK enc k w0 blk off T2.toArray wc) := H1'.out c _ S1.out
            rw [hb]
            clear hb c
            go_wp2_with fail
            go_meet
            exact SV
        case rest =>
        clear S1
        have S1 := hcut
        clear hcut
        go_upto_region 43 with fail
        go_cut [213] from 206 to 213 (fun sx wx => sx = .bool (decide (j < la ∧ d < lb)) ∧ wx = wc)
        case first => as_aux_lemma =>
          have hmm := HMM.out
          have hmb := HMB.out
          by_cases q1 : j < la
          · have q1i : (a : Int) + (mid : Int) < (m : Int) + (d : Int) := by omega
            by_cases q2 : d < lb
            · have q2i : (m : Int) + (d : Int) < (b : Int) := by omega
              have hQ : decide (j < la ∧ d < lb) = true := decide_eq_true ⟨q1, q2⟩
              have HQ := Lib.hid hQ
              clear hmm hmb hQ q1 q2
              go_wp2_with fail
              go_meet
              exact ⟨by rw [HQ.out], rfl⟩
            · have q2i : ¬ (m : Int) + (d : Int) < (b : Int) := by omega
              have hQ : decide (j < la ∧ d < lb) = false := decide_eq_false (fun h => q2 h.2)
              have HQ := Lib.hid hQ
              clear hmm hmb hQ q1 q2
              go_wp2_with fail
              go_meet
              exact ⟨by rw [HQ.out], rfl⟩
          · have q1i : decide ((a : Int) + (mid : Int) < (m : Int) + (d : Int)) = false := decide_eq_false (by omega)
            have hQ : decide (j < la ∧ d < lb) = false := decide_eq_false (fun h => q1 h.1)
            have HQ := Lib.hid hQ
            clear hmm hmb hQ q1
            go_wp2_with fail
            go_meet
            exact ⟨by rw [HQ.out], rfl⟩
        case rest =>
        obtain ⟨rfl, rfl⟩ := hcut
        by_cases c : j < la ∧ d < lb
        · have hb : decide (j < la ∧ d < lb) = true := decide_eq_true c
          have hcall := H2.out c.1 c.2 _ S1.out
          rw [hb]
          clear hb c
          go_wp2_with fail
          refine hcall.mono ?_
          rintro e wv ⟨rfl, SV⟩
          have SV : Aside (SWK enc k w0 blk off T3.toArray wv) := SV
          clear hcall
          go_wp2_with fail
          go_end0
          exact ⟨rfl, SV.out⟩
        · have hb : decide (j < la ∧ d < lb) = false := decide_eq_false c
          have SV : Aside (SWK enc k w0 blk off T3.toArray wc) := H2'.out c _ S1.out
          rw [hb]
          clear hb c
          go_wp2_with fail
          go_end0
          exact ⟨rfl, SV.out⟩
theorem sym_any (L : SL P k) (R : RowK enc k w0 blk off d0) (key : α → Int) (cf : α → α → Int) (cap g : Nat) (cb : Array Value) (eg : ∀ args w, (callFunc g args).run P w = .ok (.enter g args) w) (hcf0 : ∀ x y, (cf x y < 0) = (key x < key y)) (hC : CmpLays P g cb enc k cf blk off d0.size w0)
    (N : Nat) (hd : d0.size = N) (hsz : N < 4611686018427387904) : ∀ n, SymDoes P enc k w0 blk off key cap g cb N n
  | 0 => fun X A B Y a m b hX hm hb hA hB hn => by omega
  | n + 1 => fun X A B Y a m b hX hm hb hA hB hn hN sA sB w S => by
    rcases Nat.lt_or_ge 1 A.length with h1 | h1
    · rcases Nat.lt_or_ge 1 B.length with h2 | h2
      · exact sym_many L R key cf cap g cb eg hcf0 hC N n hd hsz (sym_any L R key cf cap g cb eg hcf0 hC N hd hsz n) X A B Y a m b A.length B.length hX rfl rfl hm hb (by omega) (by omega) hn hN sA sB w S
      · match B, hB, h2 with
        | [y], _, _ =>
          obtain rfl : b = m + 1 := by simpa using hb.symm
          have := sym_last L R key cf cap g cb eg hcf0 hC X A Y y a m N hX hm (by omega) (by simpa using hN) hd hsz sA w (by simpa using S)
          simpa using this
    · match A, hA, h1 with
      | [x], _, _ =>
        obtain rfl : m = a + 1 := by simpa using hm.symm
        have := sym_one L R key cf cap g cb eg hcf0 hC X B Y x a b N hX hb (by simpa using hN) hd hsz sB w (by simpa using S)
        simpa using this
end Go.Proofs.YtbcgpjfejpcgnaaGreat
end
