/- The statement ModelSnapshots: lemmas. -/
import Derived.Test.YtnnpmpdlhojecaaModL
namespace Go.Proofs.Ytnnpmpdlhojecaa
open Go.RowKit Go.Maps
theorem Rd.lst {w : World} {v : Value} {ys : List Int} (h : Rd w v ys) : Lst w v ys.length (ys.map uV) := by
  rcases h with ⟨rfl, rfl⟩ | ⟨b, cap, rest, rfl, hb⟩
  · exact Lst.nil w
  · exact Lst.blk hb
set_option maxHeartbeats 1000000 in
set_option maxRecDepth 100000 in
theorem sameU (X : List Int) (hx : X.length ≤ 4000) (u v : Value) (w : World) (hu : Lst w u X.length (X.map uV)) (hv : Lst w v X.length (X.map uV)) :
    Calls Try.prog 25 #[u, v] w fun e w' => e = .returned (.bool true) ∧ Keeps [] w w' := by
  obtain ⟨A, cap, b, o, rfl, hA, har⟩ := hu
  obtain ⟨A', cap', b', o', rfl, hA', har'⟩ := hv
  obtain ⟨n, hn⟩ : ∃ n, X.length = n := ⟨_, rfl⟩
  rw [hn] at hA hA' hx ⊢
  have hc : ∀ k, k < n → ∃ x : Int, w.cell? ⟨b, o + k, none⟩ = some (.int .u64 x) ∧ w.cell? ⟨b', o' + k, none⟩ = some (.int .u64 x) := by
    intro k hk
    refine ⟨X[k]'(by omega), ?_, ?_⟩
    · rw [har.cells k (by simp; omega)]; simp [show k < X.length by omega, uV]
    · rw [har'.cells k (by simp; omega)]; simp [show k < X.length by omega, uV]
  have Hc := Lib.hid hc
  have Hb : Hid (0 < n → b < w.heap.size ∧ b' < w.heap.size) := Lib.hid fun h => ⟨har.lt (by simp; omega), har'.lt (by simp; omega)⟩
  clear hc har har' hn
  have hself : ((n : Int) != (n : Int)) = false := by simp
  go_enter Try.func25, Try.ntmps25
  go_wp2_with fail
  go_loopw [5] (fun i wr => ∃ k : Nat, k ≤ n ∧ i = .int .i64 k ∧ ∃ j, wr = w.drewN j) (fun i _ => n - (intOf i).toNat)
  case atStart => exact ⟨0, by omega, rfl, 0, rfl⟩
  case round =>
    obtain ⟨k, hk, rfl, j, rfl⟩ := hrel
    by_cases hlt : k < n
    · obtain rfl := hA (by omega)
      obtain rfl := hA' (by omega)
      obtain ⟨x, e1, e2⟩ := Hc.out k hlt
      obtain ⟨l1, l2⟩ := Hb.out (by omega)
      have hne : (x != x) = false := by simp
      have hk0 : (0 : Int) ≤ k := by omega
      have hk1 : (k : Int) < n := by omega
      go_wp2_with fail
      go_quiet (fail)
      go_wp2_with fail
      exact ⟨⟨k + 1, by omega, by go_num, _, rfl⟩, by simp [intOf]; omega⟩
    · go_wp2_with fail
      go_ret
      exact ⟨rfl, (Keeps.refl [] w).drewN j⟩
variable {w w' : World} {base m N F : Nat} {Q : List Nat} {St : List (List Ent)} {D : DataW Unit}
theorem gm_snap (h : GM w base Q m N St F D) (hsz : Maps.size D ≤ 12) :
    Calls Try.prog 26 #[.pointer (some ⟨m, 0, none⟩)] w fun e w' => ∃ v, e = .returned v ∧ Rd w' v (snaps D) ∧ Keeps [] w w' := by
  obtain ⟨⟨sb, cap, mb, nb, sv, rest, hnN, hM⟩, hp, hg⟩ := h
  exact msnap_any hM hsz
/-- Own rows stay own where six numbers of another kind change. -/
theorem Own.setArr {b0 a : Nat} {v : Value} {l : List Ent} (h : Own w b0 v l) (k : Keeps [a] w w') (xs ys : List Int) (hx : Blk w a (xs.map (Value.int .i64))) (hy : Blk w' a (ys.map (Value.int .i64))) (hl : xs.length = ys.length) : Own w' b0 v l := by
  rcases h with h | ⟨g, cap, rest, rfl, hb, h1, h2, h3, h4⟩
  · exact .inl h
  · by_cases e : g = a
    · subst e
      cases l with
      | nil =>
        obtain ⟨T, e1⟩ := hx
        obtain ⟨T', e2⟩ := hb
        rw [e1] at e2
        have hr : rest.length = xs.length := by
          have e3 := Option.some.inj e2
          injection e3 with e4
          have := congrArg Array.size e4
          simp [eCs] at this
          omega
        refine .inr ⟨g, cap, ys.map (Value.int .i64), rfl, by simpa [eCs] using hy, h1, h2, h3, ?_⟩
        rw [← h4]
        simp [eCs, hr, hl]
      | cons e l =>
        exfalso
        obtain ⟨c0, _⟩ := (show w.cell? ⟨g, 0, none⟩ = some (.string ⟨e.k.toArray⟩) ∧ True from ⟨by rw [hb.cell]; simp [eCs, eC], trivial⟩)
        rw [hx.cell] at c0
        cases xs with
        | nil => simp at c0
        | cons x xs => simp at c0
    · exact .inr ⟨g, cap, rest, rfl, k.blk hb (by simpa using e), h1, h2, h3, h4⟩
theorem GM.setArr {a : Nat} (h : GM w base Q m N St F D) (ha : a ∈ Q) (k : Keeps [a] w w') (xs ys : List Int) (hx : Blk w a (xs.map (Value.int .i64))) (hy : Blk w' a (ys.map (Value.int .i64))) (hl : xs.length = ys.length) : GM w' base Q m N St F D := by
  obtain ⟨⟨sb, cap, mb, nb, sv, rest, hn, h⟩, h1⟩ := h
  obtain ⟨q1, q2, q3, q4⟩ := h.hq a ha
  refine ⟨⟨sb, cap, mb, nb, sv, rest, hn, ⟨k.blk h.hm (by simpa using q1.symm), k.blk h.hs (by simpa using q2.symm), h.hl, h.hp, h.hcap, h.hcl, h.hcm, h.hne, fun i v l g1 g2 => ⟨(h.he i v l g1 g2).1.setArr k xs ys hx hy hl, (h.he i v l g1 g2).2⟩, ownsMap_keepsU h.hmap k (by simpa using q3.symm), h.hb, fun q hq => ⟨(h.hq q hq).1, (h.hq q hq).2.1, (h.hq q hq).2.2.1, Nat.lt_of_lt_of_le (h.hq q hq).2.2.2 k.size⟩, h.hd⟩⟩, h1⟩
/-- The six numbers. -/
def six (O : Nat → Nat) : List Int := (List.range 6).map (fun i => (O i : Int))
theorem six_at (O : Nat → Nat) {i : Nat} (hi : i < 6) : ((six O).map (Value.int .i64))[i]? = some (.int .i64 (O i)) := by
  unfold six
  simp [List.getElem?_map, List.getElem?_range hi]
theorem six_upd (O : Nat → Nat) {i : Nat} (hi : i < 6) (v : Nat) : ((six O).map (Value.int .i64)).set i (.int .i64 (v : Int)) = (six (upd O i v)).map (Value.int .i64) := by
  match i, hi with
  | 0, _ => rfl
  | 1, _ => rfl
  | 2, _ => rfl
  | 3, _ => rfl
  | 4, _ => rfl
  | 5, _ => rfl
/-- The timestamp x, as often as it is open in the first i numbers. -/
def rowW (O : Nat → Nat) (x i : Nat) : List Int := (List.range i).filterMap (fun k => if O k = x + 1 then some (x : Int) else none)
def wantW (O : Nat → Nat) (n : Nat) : List Int := (List.range n).flatMap (fun x => rowW O x 6)
theorem rowW_succ (O : Nat → Nat) (x i : Nat) : rowW O x (i + 1) = rowW O x i ++ (if O i = x + 1 then [(x : Int)] else []) := by
  unfold rowW
  rw [List.range_succ, List.filterMap_append]
  congr 1
  by_cases h : O i = x + 1 <;> simp [h]
theorem wantW_succ (O : Nat → Nat) (n : Nat) : wantW O (n + 1) = wantW O n ++ rowW O n 6 := by
  unfold wantW
  rw [List.range_succ, List.flatMap_append]; simp
theorem mem_rowW {O : Nat → Nat} {x i : Nat} {y : Int} (h : y ∈ rowW O x i) : y = x := by
  unfold rowW at h
  obtain ⟨k, _, h⟩ := List.mem_filterMap.1 h
  by_cases e : O k = x + 1
  · rw [if_pos e] at h; exact (Option.some.inj h).symm
  · rw [if_neg e] at h; cases h
theorem mem_wantW {O : Nat → Nat} {n : Nat} {y : Int} (h : y ∈ wantW O n) : 0 ≤ y ∧ y < n := by
  unfold wantW at h
  obtain ⟨x, hx, h⟩ := List.mem_flatMap.1 h
  rw [mem_rowW h]
  have := List.mem_range.1 hx
  omega
theorem wantW_sorted (O : Nat → Nat) : ∀ n, (wantW O n).Pairwise (· ≤ ·)
  | 0 => List.Pairwise.nil
  | n + 1 => by
    rw [wantW_succ, List.pairwise_append]
    refine ⟨wantW_sorted O n, ?_, fun a ha b hb => ?_⟩
    · rw [List.pairwise_iff_forall_sublist]
      intro a b h
      have ha := mem_rowW (h.subset (List.mem_cons_self ..))
      have hb := mem_rowW (h.subset (List.mem_cons_of_mem _ (List.mem_cons_self ..)))
      omega
    · have := mem_wantW ha
      rw [mem_rowW hb]; omega
theorem flatMap_append_perm' {α β : Type} (L : List α) (f g : α → List β) : (L.flatMap (fun x => f x ++ g x)).Perm (L.flatMap f ++ L.flatMap g) := by
  induction L with
  | nil => exact List.Perm.refl _
  | cons a L ih =>
    simp only [List.flatMap_cons]
    have h1 := ih.append_left (f a ++ g a)
    refine h1.trans ?_
    simp only [List.append_assoc]
    refine List.Perm.append_left _ ?_
    rw [← List.append_assoc, ← List.append_assoc]
    exact List.Perm.append_right _ List.perm_append_comm
theorem one_flat (o n : Nat) : (List.range n).flatMap (fun x => if o = x + 1 then [(x : Int)] else []) = if o = 0 ∨ n < o then [] else [((o - 1 : Nat) : Int)] := by
  induction n with
  | zero => simp
  | succ n ih =>
    rw [List.range_succ, List.flatMap_append, ih]
    by_cases h : o = n + 1
    · subst h; simp
    · by_cases h0 : o = 0 ∨ n < o
      · rw [if_pos h0, if_pos (by omega)]; simp [h]
      · rw [if_neg h0, if_neg (by omega)]; simp [h]
theorem wantW_perm (O : Nat → Nat) (n : Nat) (hO : ∀ i, i < 6 → O i ≤ n) : (wantW O n).Perm (tsOf O) := by
  have key : ∀ k, k ≤ 6 → ((List.range n).flatMap (fun x => rowW O x k)).Perm ((List.range k).filterMap (fun i => if O i = 0 then none else some ((O i - 1 : Nat) : Int))) := by
    intro k
    induction k with
    | zero =>
      intro _
      have : (List.range n).flatMap (fun x => rowW O x 0) = [] := by
        rw [List.flatMap_eq_nil_iff]; intro x _; rfl
      rw [this]; exact List.Perm.refl _
    | succ k ih =>
      intro hk
      have h1 := flatMap_append_perm' (List.range n) (fun x => rowW O x k) (fun x => if O k = x + 1 then [(x : Int)] else [])
      have e : (fun x => rowW O x (k + 1)) = (fun x => rowW O x k ++ (if O k = x + 1 then [(x : Int)] else [])) := funext fun x => rowW_succ O x k
      rw [e]
      refine h1.trans ?_
      rw [one_flat, List.range_succ, List.filterMap_append]
      refine (ih (by omega)).append (List.Perm.of_eq ?_)
      have := hO k (by omega)
      by_cases h : O k = 0
      · simp [h]
      · rw [if_neg (by omega)]; simp [h]
  exact key 6 (Nat.le_refl _)
theorem wantW_snaps {K : Nat → Lit} {O : Nat → Nat} (h : Sn K O D) (n : Nat) (hO : ∀ i, i < 6 → O i ≤ n) : wantW O n = snaps D := by
  rw [h.snaps, ← isort_of_perm (wantW_perm O n hO)]
  exact List.Perm.eq_of_pairwise (le := (· ≤ ·)) (fun _ _ _ _ h1 h2 => Int.le_antisymm h1 h2) (wantW_sorted O n) (isort_sorted _) (isort_perm _).symm
theorem wantW_len (O : Nat → Nat) (n : Nat) (hO : ∀ i, i < 6 → O i ≤ n) : (wantW O n).length ≤ 6 := by
  rw [(wantW_perm O n hO).length_eq]
  have := List.length_filterMap_le (fun i => if O i = 0 then none else some ((O i - 1 : Nat) : Int)) (List.range 6)
  rwa [List.length_range] at this
theorem rowW_len (O : Nat → Nat) (x i : Nat) : (rowW O x i).length ≤ i := by
  have := List.length_filterMap_le (fun k => if O k = x + 1 then some (x : Int) else none) (List.range i)
  rwa [List.length_range] at this
theorem wantW_len2 (O : Nat → Nat) (n : Nat) : (wantW O n).length ≤ 6 * n := by
  induction n with
  | zero => simp [wantW]
  | succ n ih =>
    rw [wantW_succ, List.length_append]
    have := rowW_len O n 6
    omega
theorem wmk_head (St : List (List Ent)) (D : DataW Unit) : wmk St D = (snaps D).headD ((St.length - 1 : Nat) : Int) := by
  unfold wmk
  cases snaps D <;> rfl
theorem head_snoc {A : List Int} {n k : Int} (hA : ∀ y ∈ A, y ≤ k) (hk : k ≤ n) : min (A.headD n) k = (A ++ [k]).headD n := by
  cases A with
  | nil => simp; omega
  | cons a A =>
    have := hA a (List.mem_cons_self ..)
    simp; omega
theorem mem_part {O : Nat → Nat} {k i : Nat} {y : Int} (h : y ∈ wantW O k ++ rowW O k i) : y ≤ k := by
  rcases List.mem_append.1 h with h | h
  · have := mem_wantW h; omega
  · rw [mem_rowW h]; omega
theorem OwnU.lst {w : World} {base : Nat} {v : Value} {l : List Int} (h : OwnU w base v l) : Lst w v l.length (l.map uV) := Lst.own h
theorem OwnU.keeps {w w' : World} {base : Nat} {v : Value} {l : List Int} (h : OwnU w base v l) (k : Keeps [] w w') : OwnU w' base v l := ownsRow_keeps h k (by simp)
end Go.Proofs.Ytnnpmpdlhojecaa
