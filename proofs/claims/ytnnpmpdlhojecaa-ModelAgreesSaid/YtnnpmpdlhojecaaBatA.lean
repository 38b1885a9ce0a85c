/- The contract of batch.Apply. -/
import Derived.Test.YtnnpmpdlhojecaaBatI
namespace Go.Proofs.Ytnnpmpdlhojecaa
open Go.RowKit
theorem applyR_take_succ (l : List Ent) (b : List Wrt) (k : Nat) (x : Wrt) (h : b[k]? = some x) : applyR l (b.take (k + 1)) = stepR (applyR l (b.take k)) x := by
  rw [List.take_add_one, h]
  simp [applyR, List.foldl_append]
/-- The list parted at the key. -/
theorem parted {l : List Ent} (hl : Asc l) (k : Str) (h : at_ l k = true) : ∃ A e B, l = A ++ e :: B ∧ A.length = pos l k ∧ e.k = k ∧ (∀ x ∈ A, x.k < k) ∧ (∀ x ∈ B, k < x.k) := by
  have hlt : pos l k < l.length := by
    rcases Nat.lt_or_ge (pos l k) l.length with h1 | h1
    · exact h1
    · simp [at_, List.getElem?_eq_none h1] at h
  have he : l[pos l k]? = some l[pos l k] := List.getElem?_eq_getElem hlt
  have hek : l[pos l k].k = k := by
    unfold at_ at h
    rw [he] at h
    simpa using h
  refine ⟨l.take (pos l k), l[pos l k], l.drop (pos l k + 1), ?_, ?_, hek, ?_, ?_⟩
  · rw [List.getElem_cons_drop, List.take_append_drop]
  · rw [List.length_take]; omega
  · intro x hx
    obtain ⟨t, ht, rfl⟩ := List.mem_iff_getElem.1 hx
    rw [List.length_take] at ht
    rw [List.getElem_take]
    exact pos_lt (t := t) (by omega) (List.getElem?_eq_getElem (by omega))
  · intro x hx
    have hd : l.drop (pos l k) = l[pos l k] :: l.drop (pos l k + 1) := by rw [List.getElem_cons_drop]
    have := (hl.drop (i := pos l k))
    rw [hd] at this
    rw [← hek]
    exact (List.pairwise_cons.1 this).1 x hx
theorem parted' {l : List Ent} (hl : Asc l) (k : Str) (h : at_ l k = false) : ∃ A B, l = A ++ B ∧ A.length = pos l k ∧ (∀ x ∈ A, x.k < k) ∧ (∀ x ∈ B, k < x.k) := by
  have hle := pos_le l k
  refine ⟨l.take (pos l k), l.drop (pos l k), by rw [List.take_append_drop], by rw [List.length_take]; omega, ?_, ?_⟩
  · intro x hx
    obtain ⟨t, ht, rfl⟩ := List.mem_iff_getElem.1 hx
    rw [List.length_take] at ht
    rw [List.getElem_take]
    exact pos_lt (t := t) (by omega) (List.getElem?_eq_getElem (by omega))
  · intro x hx
    by_cases hlt : pos l k < l.length
    · have he : l[pos l k]? = some l[pos l k] := List.getElem?_eq_getElem hlt
      have hek : l[pos l k].k ≠ k := by
        unfold at_ at h
        rw [he] at h
        simpa using h
      have hgt : k < l[pos l k].k := slt_of (pos_ge hl (Nat.le_refl _) he) hek
      have hd : l.drop (pos l k) = l[pos l k] :: l.drop (pos l k + 1) := by rw [List.getElem_cons_drop]
      have hp := (hl.drop (i := pos l k))
      rw [hd] at hp hx
      rcases List.mem_cons.1 hx with rfl | hx
      · exact hgt
      · exact slt_trans hgt ((List.pairwise_cons.1 hp).1 x hx)
    · rw [List.drop_of_length_le (by omega)] at hx; simp at hx
theorem set_val (P R : List Ent) (k v v' : Str) (i : Nat) (hi : P.length = i) (rest : List Value) : (eCs (P ++ (⟨k, v⟩ : Ent) :: R) ++ rest).set (i * 2 + 1) (.string ⟨v'.toArray⟩) = eCs (P ++ (⟨k, v'⟩ : Ent) :: R) ++ rest := by
  have h : (eCs P).length = i * 2 := by rw [eCs_length, hi]
  rw [eCs_append, eCs_append, eCs_cons, eCs_cons, List.append_assoc, List.append_assoc, List.set_append_right _ _ (by omega), h, show i * 2 + 1 - i * 2 = 1 by omega]
  simp [eC]
theorem search_nil (k : Str) (w : World) :
    Calls Try.prog 50 #[.slice none 0 0, .string ⟨k.toArray⟩, .func (.func 64) #[] #[]] w fun x w' => x = .returned (.tuple #[.int .i64 0, .bool false]) ∧ Keeps [] w w' := by
  go_enter Try.func50, Try.ntmps50
  go_wp2_with fail
  go_loopw [9, 10] (fun i j wr => i = .int .i64 0 ∧ j = .int .i64 0 ∧ wr = w) (fun _ _ _ => 0)
  case atStart => exact ⟨rfl, rfl, rfl⟩
  case round =>
    obtain ⟨rfl, rfl, rfl⟩ := hrel
    go_wp2_with fail
    go_ret2
    exact ⟨rfl, Keeps.refl _ _⟩
theorem search_own (l : List Ent) (k : Str) (hl : Asc l) (hn : l.length ≤ 4096) (base : Nat) (v : Value) (w : World) (ho : Own w base v l) :
    Calls Try.prog 50 #[v, .string ⟨k.toArray⟩, .func (.func 64) #[] #[]] w fun x w' => x = .returned (.tuple #[.int .i64 (pos l k), .bool (at_ l k)]) ∧ Keeps [] w w' := by
  rcases ho with ⟨rfl, rfl⟩ | ⟨g, cap, rest, rfl, hb, _⟩
  · exact search_nil k w
  · exact search_any l k hl hn g cap rest w hb
set_option maxHeartbeats 2000000 in
set_option maxRecDepth 100000 in
theorem apply_any (l : List Ent) (b : List Wrt) (hl : Asc l) (hn : l.length + b.length ≤ 4000) (lv bv : Value) (w : World) (hlv : Lst w lv l.length (eCs l)) (hbv : Lst w bv b.length (wCs b)) :
    Calls Try.prog 42 #[lv, bv] w fun e w' => ∃ u, e = .returned u ∧ Own w' w.heap.size u (applyR l b) ∧ Keeps [] w w' := by
  obtain ⟨A, cap, bb, bo, rfl, hA, har⟩ := hbv
  obtain ⟨n, hnn⟩ : ∃ n, b.length = n := ⟨_, rfl⟩
  rw [hnn] at hA hn ⊢
  have Hn := Lib.hid hnn
  clear hnn
  go_enter Try.func42, Try.ntmps42
  go_wp2_with fail
  refine (clone_any l (by omega) lv w hlv).mono ?_
  rintro e w1 ⟨u1, rfl, ho1, k1⟩
  go_wp2_with fail
  go_loopw [5, 14] (fun v i wr => ∃ k : Nat, k ≤ n ∧ i = .int .i64 k ∧ Own wr w.heap.size v (applyR l (b.take k)) ∧ Keeps [] w wr) (fun _ i _ => n - (intOf i).toNat)
  case atStart => exact ⟨0, by omega, rfl, by rw [List.take_zero]; exact ho1, k1⟩
  case round =>
    obtain ⟨k, hk, rfl, ho, hkp⟩ := hrel
    by_cases hlt : k < n
    · obtain rfl := hA (by omega)
      obtain ⟨x, hx⟩ : ∃ x, b[k]? = some x := ⟨_, List.getElem?_eq_getElem (by rw [Hn.out]; exact hlt)⟩
      obtain ⟨c0, c1, c2, c3⟩ := (har.keeps hkp (by simp)).wrt hx
      have hst := applyR_take_succ l b k x hx
      have haL : Asc (applyR l (b.take k)) := asc_applyR _ hl
      have hlL := length_applyR l (b.take k)
      rw [List.length_take] at hlL
      obtain ⟨L, hL⟩ : ∃ L, applyR l (b.take k) = L := ⟨_, rfl⟩
      rw [hL] at hst haL hlL ho
      have hLn : L.length ≤ 4000 := by omega
      have Hst := Lib.hid hst
      clear hst hL hlL
      have hge := ho.ge
      have ho2 := ho.keeps ((Keeps.refl [] wr).alloc (.cells #[.string ⟨x.k.toArray⟩, .string ⟨x.v.toArray⟩, .bool x.d] 57)) (by simp)
      have hbx : Blk (wr.alloc (.cells #[.string ⟨x.k.toArray⟩, .string ⟨x.v.toArray⟩, .bool x.d] 57)) wr.heap.size (wC x) := Blk.new wr [.string ⟨x.k.toArray⟩, .string ⟨x.v.toArray⟩, .bool x.d] 57
      have kx := hkp.alloc (.cells #[.string ⟨x.k.toArray⟩, .string ⟨x.v.toArray⟩, .bool x.d] 57)
      have Hsz : wr.heap.size < (wr.alloc (.cells #[.string ⟨x.k.toArray⟩, .string ⟨x.v.toArray⟩, .bool x.d] 57)).heap.size := by simp
      go_wp2_with fail
      refine (search_own L x.k haL (by omega) w.heap.size u5 _ ho2).mono ?_
      rintro e w2 ⟨rfl, k2⟩
      have hb2 := k2.blk hbx (by simp)
      have ho3 := ho2.keeps k2 (by simp)
      have K2 := kx.trans k2 (by simp)
      clear k2 hbx ho2 kx c0 c1 c2 c3
      obtain ⟨d0, d1, d2, d3, d4⟩ := hb2.o3
      have hs2 := hkp.size
      obtain ⟨q, hq⟩ : ∃ q, wr.heap.size = q := ⟨_, rfl⟩
      rw [hq] at d0 d1 d2 d3 d4 hb2 hs2 hge ⊢
      clear hq
      by_cases hat : at_ L x.k = true
      · obtain ⟨P, e, R, rfl, hP, hek, hPl, hRl⟩ := parted haL x.k hat
        obtain ⟨ek, ev⟩ := e
        simp only at hek
        subst hek
        rw [hat, ← hP]
        have hlen : (P ++ (⟨x.k, ev⟩ : Ent) :: R).length = P.length + 1 + R.length := by rw [List.length_append, List.length_cons]; omega
        rcases ho3 with ⟨_, h0⟩ | ⟨g, gc, rest, rfl, hgb, hg1, hg2, hg3, hg4⟩
        · simp at h0
        · obtain ⟨-, hgq⟩ := hge g rfl
          rw [hlen] at hg2 hLn ⊢
          obtain ⟨i, hi⟩ : ∃ i, P.length = i := ⟨_, rfl⟩
          rw [hi] at hg2 hLn ⊢
          cases hd : x.d with
          | true =>
            rw [hd] at d2
            have hres : applyR l (b.take (k + 1)) = P ++ R := by rw [Hst.out, stepR, if_pos hd, dropR_split' x.k ev P R hPl hRl]
            have Hres := Lib.hid hres
            clear hres
            go_wp2_with fail
            refine (delete_any P R ⟨x.k, ev⟩ i R.length hi rfl (by omega) g gc rest _ hgb hg2 hg3 hg4).mono ?_
            rintro e w4 ⟨rfl, ⟨rest', hb4, hl4⟩, k4⟩
            go_wp2_with fail
            refine ⟨⟨k + 1, by omega, by go_num, ?_, K2.trans k4 (by simp; omega)⟩, by simp [intOf]; omega⟩
            rw [Hres.out]
            exact .inr ⟨g, gc, rest', by rw [List.length_append, hi], hb4, hg1, by rw [List.length_append, hi]; omega, hg3, hl4⟩
          | false =>
            rw [hd] at d2
            have hres : applyR l (b.take (k + 1)) = P ++ ⟨x.k, x.v⟩ :: R := by rw [Hst.out, stepR, if_neg (by simp [hd]), putR_split' ⟨x.k, x.v⟩ ev P R hPl hRl]
            have Hres := Lib.hid hres
            clear hres
            have hgl := hgb.lt
            have hgf := hgb.frozen
            have e0 : (eCs (P ++ (⟨x.k, ev⟩ : Ent) :: R) ++ rest)[i * 2 + 1]? = some (.string ⟨ev.toArray⟩) := (eCs_cells _ i ⟨x.k, ev⟩ (by rw [← hi]; simp) rest).2
            have hgc := (hgb.cell (i * 2 + 1)).trans e0
            go_wp2_with fail
            refine ⟨⟨k + 1, by omega, by go_num, ?_, K2.setCell _ _ (.inr hg1)⟩, by simp [intOf]; omega⟩
            rw [Hres.out]
            have hset := hgb.set (i * 2 + 1) (.string ⟨x.v.toArray⟩)
            have eset : (eCs (P ++ (⟨x.k, ev⟩ : Ent) :: R) ++ rest).set (i * 2 + 1) (.string ⟨x.v.toArray⟩) = eCs (P ++ (⟨x.k, x.v⟩ : Ent) :: R) ++ rest := set_val P R x.k ev x.v i hi rest
            rw [eset] at hset
            refine .inr ⟨g, gc, rest, by rw [List.length_append, List.length_cons, hi]; congr 1; omega, hset, hg1, by rw [List.length_append, List.length_cons, hi]; omega, hg3, ?_⟩
            rw [← eset, List.length_set]; exact hg4
      · have hat : at_ L x.k = false := by simpa using hat
        obtain ⟨P, R, rfl, hP, hPl, hRl⟩ := parted' haL x.k hat
        rw [hat, ← hP]
        cases hd : x.d with
        | true =>
          rw [hd] at d2
          have hres : applyR l (b.take (k + 1)) = P ++ R := by rw [Hst.out, stepR, if_pos hd, dropR_split x.k P R hPl hRl]
          go_wp2_with fail
          exact ⟨⟨k + 1, by omega, by go_num, by rw [hres]; exact ho3, K2⟩, by simp [intOf]; omega⟩
        | false =>
          rw [hd] at d2
          have hres : applyR l (b.take (k + 1)) = P ++ ⟨x.k, x.v⟩ :: R := by rw [Hst.out, stepR, if_neg (by simp [hd]), putR_split ⟨x.k, x.v⟩ P R hPl hRl]
          have Hres := Lib.hid hres
          have hsz := K2.size
          have hge3 := ho3.ge
          have ho4 := ho3.keeps ((Keeps.refl [] w2).alloc (.cells #[.string ⟨x.k.toArray⟩, .string ⟨x.v.toArray⟩] 35)) (by simp)
          have hb4 : Blk (w2.alloc (.cells #[.string ⟨x.k.toArray⟩, .string ⟨x.v.toArray⟩] 35)) w2.heap.size (eC ⟨x.k, x.v⟩) := Blk.new w2 [.string ⟨x.k.toArray⟩, .string ⟨x.v.toArray⟩] 35
          have k4 := K2.alloc (.cells #[.string ⟨x.k.toArray⟩, .string ⟨x.v.toArray⟩] 35)
          clear hres
          go_wp2_with fail
          refine (insert_any P R ⟨x.k, x.v⟩ _ hP (by omega) w.heap.size u5 _ ho4 (by simp; omega) w2.heap.size hb4 (fun g hg => by have := (hge3 g hg).2; omega)).mono ?_
          rintro e w5 ⟨u, rfl, ho5, k5⟩
          go_wp2_with fail
          refine ⟨⟨k + 1, by omega, by go_num, by rw [Hres.out]; exact ho5, k4.trans k5 (fun g hg => .inr (hge3 g (by simpa using hg)).1)⟩, by simp [intOf]; omega⟩
    · obtain rfl : k = n := by omega
      go_wp2_with fail
      go_ret
      rw [← Hn.out, List.take_length] at ho
      exact ⟨_, rfl, ho, hkp⟩
end Go.Proofs.Ytnnpmpdlhojecaa
