/- The contracts of the reference's functions on entries. -/
import Derived.Test.YtnnpmpdlhojecaaBatA
namespace Go.Proofs.Ytnnpmpdlhojecaa
open Go.RowKit
theorem Own.len {w : World} {base : Nat} {v : Value} {l : List Ent} (h : Own w base v l) : ∃ A cap, v = .slice A l.length cap ∧ (0 < l.length → ∃ g, A = some ⟨g, 0, none⟩ ∧ Arr w g 0 (eCs l)) := by
  rcases h with ⟨rfl, rfl⟩ | ⟨g, cap, rest, rfl, hb, _⟩
  · exact ⟨none, 0, rfl, fun h => absurd h (Nat.lt_irrefl 0)⟩
  · exact ⟨_, cap, rfl, fun _ => ⟨g, rfl, ⟨fun i hi => by rw [hb.cell, Nat.zero_add, List.getElem?_append_left hi], fun _ => hb.lt⟩⟩⟩
theorem drop_cons {α : Type} {l : List α} {k : Nat} {x : α} (h : l[k]? = some x) : l.drop k = x :: l.drop (k + 1) := by
  obtain ⟨h1, rfl⟩ := List.getElem?_eq_some_iff.1 h
  rw [List.getElem_cons_drop]
/-- What Put still has to append. -/
def putRest (e : Ent) (d : Bool) (l : List Ent) : List Ent := if d then l.filter (fun y => decide (y.k ≠ e.k)) else putR e l
theorem appendX {wb W : World} {base : Nat} {v : Value} {acc : List Ent} (ho : Own W base v acc) (hn : acc.length < 4096) (x : Ent) (hk : Keeps [] wb W) (hb : wb.heap.size ≤ base) (hbase : base ≤ W.heap.size) :
    ∃ v' w', (∀ ty, (Builtin.append_ #[30, 30] ty #[v, .slice (some ⟨W.heap.size, 0, none⟩) 1 1]).run Try.prog (W.alloc (.cells #[.string ⟨x.k.toArray⟩, .string ⟨x.v.toArray⟩] 35)) = .ok v' w') ∧ Own w' base v' (acc ++ [x]) ∧ Keeps [] wb w' ∧ (∀ q cs, q < base → Blk W q cs → Blk w' q cs) := by
  have ho1 := ho.keeps ((Keeps.refl [] W).alloc (.cells #[.string ⟨x.k.toArray⟩, .string ⟨x.v.toArray⟩] 35)) (by simp)
  obtain ⟨v', w', h1, h2, h3⟩ := appendO ho1 hn (by simp; omega) ⟨W.heap.size, 0, none⟩ 1 x (cells2_new W _ _ _)
  refine ⟨v', w', h1, h2, (hk.alloc _).trans h3 (fun g hg => .inr ?_), fun q cs hq hbq => h3.blk (hbq.alloc _) (fun hg => ?_)⟩
  · have := (ho.ge g (by simpa using hg)).1; omega
  · have := (ho.ge q (by simpa using hg)).1; omega
theorem Own.mono {w : World} {base base' : Nat} {v : Value} {l : List Ent} (h : Own w base v l) (hb : base' ≤ base) : Own w base' v l := by
  rcases h with h | ⟨g, cap, rest, rfl, h1, hg, r⟩
  · exact .inl h
  · exact .inr ⟨g, cap, rest, rfl, h1, Nat.le_trans hb hg, r⟩
set_option maxHeartbeats 2000000 in
set_option maxRecDepth 100000 in
theorem put_any (l : List Ent) (hn : l.length ≤ 4000) (x : Ent) (lv : Value) (w : World) (hlv : Lst w lv l.length (eCs l)) :
    Calls Try.prog 57 #[lv, .agg #[.string ⟨x.k.toArray⟩, .string ⟨x.v.toArray⟩]] w fun e w' => ∃ u, e = .returned u ∧ Own w' w.heap.size u (putR x l) ∧ Keeps [] w w' := by
  obtain ⟨A, cap, b, o, rfl, hA, har⟩ := hlv
  obtain ⟨n, hnn⟩ : ∃ n, l.length = n := ⟨_, rfl⟩
  rw [hnn] at hA hn ⊢
  have Hn := Lib.hid hnn
  clear hnn
  go_enter Try.func57, Try.ntmps57
  go_wp2_with fail
  go_loopw [5, 6, 7] (fun v d i wr => ∃ (k : Nat) (dn : Bool) (acc : List Ent), k ≤ n ∧ d = .bool dn ∧ i = .int .i64 k ∧ Own wr (w.heap.size + 1) v acc ∧ Hid (acc ++ putRest x dn (l.drop k) = putR x l) ∧ Keeps [] w wr ∧ Blk wr w.heap.size (eC x)) (fun _ _ i _ => n - (intOf i).toNat)
  case atStart => exact ⟨0, false, [], by omega, rfl, rfl, .inl ⟨rfl, rfl⟩, Lib.hid (by simp [putRest]), (Keeps.refl _ _).alloc _, Blk.new w [.string ⟨x.k.toArray⟩, .string ⟨x.v.toArray⟩] _⟩
  case round =>
    obtain ⟨k, dn, acc, hk, rfl, rfl, ho, heq, hkp, hbx⟩ := hrel
    have hacc : acc.length ≤ n + 1 := by
      have h1 := congrArg List.length heq.out
      have h2 := length_putR_le x l
      rw [List.length_append, Hn.out] at *
      omega
    obtain ⟨d0, d1, d2, d3⟩ := hbx.o2
    by_cases hlt : k < n
    · obtain rfl := hA (by omega)
      obtain ⟨y, hy⟩ : ∃ y, l[k]? = some y := ⟨_, List.getElem?_eq_getElem (by rw [Hn.out]; exact hlt)⟩
      obtain ⟨c0, c1, c2⟩ := (har.keeps hkp (by simp)).ent hy
      have hdc := drop_cons hy
      have heq' := heq.out
      rw [hdc] at heq'
      cases dn with
      | true =>
        by_cases hyx : y.k = x.k
        · have hb : (y.k == x.k) = true := by simpa using hyx
          have e2 : acc ++ putRest x true (l.drop (k + 1)) = putR x l := by rw [← heq']; simp [putRest, hyx]
          have E2 := Lib.hid e2
          clear e2 heq' hdc heq
          go_wp2_with fail
          go_region
          go_wp2_with fail
          go_region
          go_wp2_with fail
          exact ⟨⟨k + 1, true, acc, by omega, rfl, by go_num, (ho.keeps (((Keeps.refl [] wr).drew).drew) (by simp)), E2, (hkp.drew).drew, (hbx.drew).drew⟩, by simp [intOf]; omega⟩
        · have hb : (y.k == x.k) = false := by simpa using hyx
          have e2 : acc ++ [y] ++ putRest x true (l.drop (k + 1)) = putR x l := by rw [← heq']; simp [putRest, hyx]
          have E2 := Lib.hid e2
          clear e2 heq' hdc heq
          go_wp2_with fail
          go_region
          go_wp2_with fail
          go_region
          obtain ⟨v', w5, hr, ho5, k5, hq5⟩ := appendX (wb := w) (W := wr.drew.drew) (ho.keeps (((Keeps.refl [] wr).drew).drew) (by simp)) (by omega) y (hkp.drew.drew) (by omega) d3
          go_wp2_with (at_builtin; refine list_append_eq rfl _ _ 30 30 rfl _ _ rfl rfl (hr _) ?_)
          exact ⟨⟨k + 1, true, acc ++ [y], by omega, rfl, by go_num, ho5, E2, k5, hq5 _ _ (by omega) hbx.drew.drew⟩, by simp [intOf]; omega⟩
      | false =>
        by_cases hyl : y.k < x.k
        · have hb1 := less_pos hyl
          have hb : (y.k == x.k) = false := by simpa using slt_ne hyl
          have e2 : acc ++ [y] ++ putRest x false (l.drop (k + 1)) = putR x l := by rw [← heq']; simp [putRest, putR, hyl]
          have E2 := Lib.hid e2
          clear e2 heq' hdc heq
          go_wp2_with fail
          go_region
          go_wp2_with fail
          go_region
          obtain ⟨v', w5, hr, ho5, k5, hq5⟩ := appendX (wb := w) (W := wr.drew.drew) (ho.keeps (((Keeps.refl [] wr).drew).drew) (by simp)) (by omega) y (hkp.drew.drew) (by omega) d3
          go_wp2_with (at_builtin; refine list_append_eq rfl _ _ 30 30 rfl _ _ rfl rfl (hr _) ?_)
          exact ⟨⟨k + 1, false, acc ++ [y], by omega, rfl, by go_num, ho5, E2, k5, hq5 _ _ (by omega) hbx.drew.drew⟩, by simp [intOf]; omega⟩
        · have hb1 := less_neg hyl
          by_cases hyx : y.k = x.k
          · have hb : (y.k == x.k) = true := by simpa using hyx
            have e2 : acc ++ [x] ++ putRest x true (l.drop (k + 1)) = putR x l := by rw [← heq']; simp [putRest, putR, hyx, slt_irrefl]
            have E2 := Lib.hid e2
            clear e2 heq' hdc heq hyx
            go_wp2_with fail
            go_region
            obtain ⟨v', w5, hr, ho5, k5, hq5⟩ := appendX (wb := w) (W := wr.drew) (ho.keeps ((Keeps.refl [] wr).drew) (by simp)) (by omega) x hkp.drew (by omega) d3
            have hbx5 := hq5 _ _ (by omega) hbx.drew
            obtain ⟨f0, f1, f2, f3⟩ := hbx5.o2
            obtain ⟨g0, g1, g2⟩ := (har.keeps k5 (by simp)).ent hy
            go_wp2_with (at_builtin; refine list_append_eq rfl _ _ 30 30 rfl _ _ rfl rfl (hr _) ?_)
            go_region
            go_wp2_with fail
            exact ⟨⟨k + 1, true, acc ++ [x], by omega, rfl, by go_num, ho5.keeps ((Keeps.refl [] w5).drew) (by simp), E2, k5.drew, hbx5.drew⟩, by simp [intOf]; omega⟩
          · have hb : (y.k == x.k) = false := by simpa using hyx
            have e2 : acc ++ [x] ++ [y] ++ putRest x true (l.drop (k + 1)) = putR x l := by rw [← heq']; simp [putRest, putR, hyl, hyx]
            have E2 := Lib.hid e2
            clear e2 heq' hdc heq
            go_wp2_with fail
            go_region
            obtain ⟨v', w5, hr, ho5, k5, hq5⟩ := appendX (wb := w) (W := wr.drew) (ho.keeps ((Keeps.refl [] wr).drew) (by simp)) (by omega) x hkp.drew (by omega) d3
            have hbx5 := hq5 _ _ (by omega) hbx.drew
            obtain ⟨f0, f1, f2, f3⟩ := hbx5.o2
            obtain ⟨g0, g1, g2⟩ := (har.keeps k5 (by simp)).ent hy
            go_wp2_with (at_builtin; refine list_append_eq rfl _ _ 30 30 rfl _ _ rfl rfl (hr _) ?_)
            go_region
            obtain ⟨v6, w6, hr6, ho6, k6, hq6⟩ := appendX (wb := w) (W := w5.drew) (ho5.keeps ((Keeps.refl [] w5).drew) (by simp)) (by simp; omega) y k5.drew (by omega) f3
            go_wp2_with (at_builtin; refine list_append_eq rfl _ _ 30 30 rfl _ _ rfl rfl (hr6 _) ?_)
            exact ⟨⟨k + 1, true, acc ++ [x] ++ [y], by omega, rfl, by go_num, ho6, E2, k6, hq6 _ _ (by omega) hbx5.drew⟩, by simp [intOf]; omega⟩
    · obtain rfl : k = n := by omega
      have hdr : l.drop k = [] := List.drop_of_length_le (by rw [Hn.out]; omega)
      have heq' := heq.out
      rw [hdr] at heq'
      cases dn with
      | true =>
        have e2 : acc = putR x l := by simpa [putRest] using heq'
        have E2 := Lib.hid e2
        clear e2 heq' hdr heq
        go_wp2_with fail
        go_ret
        refine ⟨_, rfl, ?_, hkp⟩
        rw [← E2.out]; exact ho.mono (by omega)
      | false =>
        have e2 : acc ++ [x] = putR x l := by simpa [putRest, putR] using heq'
        have E2 := Lib.hid e2
        clear e2 heq' hdr heq
        obtain ⟨v', w5, hr, ho5, k5, hq5⟩ := appendX (wb := w) (W := wr) ho (by omega) x hkp (by omega) d3
        go_wp2_with (at_builtin; refine list_append_eq rfl _ _ 30 30 rfl _ _ rfl rfl (hr _) ?_)
        go_ret
        refine ⟨_, rfl, ?_, k5⟩
        rw [← E2.out]; exact ho5.mono (by omega)
set_option maxHeartbeats 1000000 in
set_option maxRecDepth 100000 in
theorem drop_any (l : List Ent) (hn : l.length ≤ 4000) (key : Str) (lv : Value) (w : World) (hlv : Lst w lv l.length (eCs l)) :
    Calls Try.prog 68 #[lv, .string ⟨key.toArray⟩] w fun e w' => ∃ u, e = .returned u ∧ Own w' w.heap.size u (dropR key l) ∧ Keeps [] w w' := by
  obtain ⟨A, cap, b, o, rfl, hA, har⟩ := hlv
  obtain ⟨n, hnn⟩ : ∃ n, l.length = n := ⟨_, rfl⟩
  rw [hnn] at hA hn ⊢
  have Hn := Lib.hid hnn
  clear hnn
  go_enter Try.func68, Try.ntmps68
  go_wp2_with fail
  go_loopw [5, 6] (fun v i wr => ∃ (k : Nat) (acc : List Ent), k ≤ n ∧ i = .int .i64 k ∧ Own wr w.heap.size v acc ∧ Hid (acc ++ dropR key (l.drop k) = dropR key l) ∧ acc.length ≤ k ∧ Keeps [] w wr) (fun _ i _ => n - (intOf i).toNat)
  case atStart => exact ⟨0, [], by omega, rfl, .inl ⟨rfl, rfl⟩, Lib.hid (by simp), by simp, Keeps.refl _ _⟩
  case round =>
    obtain ⟨k, acc, hk, rfl, ho, heq, hacc, hkp⟩ := hrel
    by_cases hlt : k < n
    · obtain rfl := hA (by omega)
      obtain ⟨y, hy⟩ : ∃ y, l[k]? = some y := ⟨_, List.getElem?_eq_getElem (by rw [Hn.out]; exact hlt)⟩
      obtain ⟨c0, c1, c2⟩ := (har.keeps hkp (by simp)).ent hy
      have hdc := drop_cons hy
      have heq' := heq.out
      have hsz := hkp.size
      rw [hdc] at heq'
      by_cases hyx : y.k = key
      · have hb : (y.k == key) = true := by simpa using hyx
        have e2 : acc ++ dropR key (l.drop (k + 1)) = dropR key l := by rw [← heq']; simp [dropR, hyx]
        have E2 := Lib.hid e2
        clear e2 heq' hdc heq
        go_wp2_with fail
        exact ⟨⟨k + 1, acc, by omega, by go_num, ho, E2, by omega, hkp⟩, by simp [intOf]; omega⟩
      · have hb : (y.k == key) = false := by simpa using hyx
        have e2 : acc ++ [y] ++ dropR key (l.drop (k + 1)) = dropR key l := by rw [← heq']; simp [dropR, hyx]
        have E2 := Lib.hid e2
        clear e2 heq' hdc heq
        obtain ⟨v', w5, hr, ho5, k5, hq5⟩ := appendX (wb := w) (W := wr) ho (by omega) y hkp (Nat.le_refl _) hsz
        go_wp2_with (at_builtin; refine list_append_eq rfl _ _ 30 30 rfl _ _ rfl rfl (hr _) ?_)
        exact ⟨⟨k + 1, acc ++ [y], by omega, by go_num, ho5, E2, by simp; omega, k5⟩, by simp [intOf]; omega⟩
    · obtain rfl : k = n := by omega
      have hdr : l.drop k = [] := List.drop_of_length_le (by rw [Hn.out]; omega)
      have heq' := heq.out
      rw [hdr] at heq'
      have e2 : acc = dropR key l := by simpa [dropR] using heq'
      have E2 := Lib.hid e2
      clear e2 heq' hdr heq
      go_wp2_with fail
      go_ret
      refine ⟨_, rfl, ?_, hkp⟩
      rw [← E2.out]; exact ho
set_option maxHeartbeats 1000000 in
set_option maxRecDepth 100000 in
theorem get_any (l : List Ent) (hn : l.length ≤ 4000) (key : Str) (lv : Value) (w : World) (hlv : Lst w lv l.length (eCs l)) :
    Calls Try.prog 47 #[lv, .string ⟨key.toArray⟩] w fun e w' => e = .returned (.tuple #[.string ⟨((lk l key).getD []).toArray⟩, .bool (lk l key).isSome]) ∧ w' = w := by
  obtain ⟨A, cap, b, o, rfl, hA, har⟩ := hlv
  obtain ⟨n, hnn⟩ : ∃ n, l.length = n := ⟨_, rfl⟩
  rw [hnn] at hA hn ⊢
  have Hn := Lib.hid hnn
  obtain ⟨res, hres⟩ : ∃ res, lk l key = res := ⟨_, rfl⟩
  rw [hres]
  have Hres := Lib.hid hres
  clear hnn hres
  go_enter Try.func47, Try.ntmps47
  go_wp2_with fail
  go_loopw [6] (fun i wr => ∃ (k : Nat), k ≤ n ∧ i = .int .i64 k ∧ Hid (lk (l.drop k) key = res) ∧ wr = w) (fun i _ => n - (intOf i).toNat)
  case atStart => exact ⟨0, by omega, rfl, Lib.hid (by simpa using Hres.out), rfl⟩
  case round =>
    obtain ⟨k, hk, rfl, heq, rfl⟩ := hrel
    by_cases hlt : k < n
    · obtain rfl := hA (by omega)
      obtain ⟨y, hy⟩ : ∃ y, l[k]? = some y := ⟨_, List.getElem?_eq_getElem (by rw [Hn.out]; exact hlt)⟩
      obtain ⟨c0, c1, c2⟩ := har.ent hy
      have hdc := drop_cons hy
      have heq' := heq.out
      rw [hdc] at heq'
      by_cases hyx : y.k = key
      · have hb : (y.k == key) = true := by simpa using hyx
        have e2 : res = some y.v := by rw [← heq', lk, if_pos hyx]
        subst e2
        clear heq' hdc heq
        go_wp2_with fail
        go_ret2
        exact ⟨rfl, rfl⟩
      · have hb : (y.k == key) = false := by simpa using hyx
        have e2 : lk (l.drop (k + 1)) key = res := by rw [← heq', lk, if_neg hyx]
        have E2 := Lib.hid e2
        clear e2 heq' hdc heq
        go_wp2_with fail
        exact ⟨⟨k + 1, by omega, by go_num, E2, trivial⟩, by simp [intOf]; omega⟩
    · obtain rfl : k = n := by omega
      have hdr : l.drop k = [] := List.drop_of_length_le (by rw [Hn.out]; omega)
      have heq' := heq.out
      rw [hdr] at heq'
      have e2 : res = none := by simpa [lk] using heq'.symm
      subst e2
      clear heq' hdr heq
      go_wp2_with fail
      go_ret2
      exact ⟨rfl, rfl⟩
end Go.Proofs.Ytnnpmpdlhojecaa
