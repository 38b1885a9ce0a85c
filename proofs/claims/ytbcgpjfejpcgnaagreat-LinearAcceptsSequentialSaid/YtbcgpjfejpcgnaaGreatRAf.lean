/- Lemmas on the way to LinearAcceptsSequential. No condition. -/
import Derived.Test.YtbcgpjfejpcgnaaGreatRAe
import Derived.Lib.Bytealg
set_option linter.unusedSimpArgs false
set_option linter.unusedVariables false
set_option linter.unusedSectionVars false
section
namespace Go.Proofs.YtbcgpjfejpcgnaaGreat
open Go.RowKit
theorem Own.len {w : World} {base : Nat} {v : Value} {l : List Ent} (h : Own w base v l) : ∃ A cap, v = .slice A l.length cap ∧ (0 < l.length → ∃ g, A = some ⟨g, 0, none⟩ ∧ Arr w g 0 (eCs l)) := by
  rcases h with ⟨rfl, rfl⟩ | ⟨g, cap, rest, rfl, hb, _⟩
  · exact ⟨none, 0, rfl, fun h => absurd h (Nat.lt_irrefl 0)⟩
  · exact ⟨_, cap, rfl, fun _ => ⟨g, rfl, ⟨fun i hi => by rw [hb.cell, Nat.zero_add, List.getElem?_append_left hi], fun _ => hb.lt⟩⟩⟩
theorem drop_cons {α : Type} {l : List α} {k : Nat} {x : α} (h : l[k]? = some x) : l.drop k = x :: l.drop (k + 1) := by
  obtain ⟨h1, rfl⟩ := List.getElem?_eq_some_iff.1 h
  rw [List.getElem_cons_drop]
def putRest (e : Ent) (d : Bool) (l : List Ent) : List Ent := if d then l.filter (fun y => decide (y.k ≠ e.k)) else putR e l
theorem appendX {wb W : World} {base : Nat} {v : Value} {acc : List Ent} (ho : Own W base v acc) (hn : acc.length < 4096) (x : Ent) (hk : Keeps [] wb W) (hb : wb.heap.size ≤ base) (hbase : base ≤ W.heap.size) :
    ∃ v' w', (∀ ty, (Builtin.append_ #[84, 84] ty #[v, .slice (some ⟨W.heap.size, 0, none⟩) 1 1]).run Tryz.prog (W.alloc (.cells #[.string ⟨x.k.toArray⟩, .string ⟨x.v.toArray⟩] 104)) = .ok v' w') ∧ Own w' base v' (acc ++ [x]) ∧ Keeps [] wb w' ∧ (∀ q cs, q < base → Blk W q cs → Blk w' q cs) := by
  have ho1 := ho.keeps ((Keeps.refl [] W).alloc (.cells #[.string ⟨x.k.toArray⟩, .string ⟨x.v.toArray⟩] 104)) (by simp)
  obtain ⟨v', w', h1, h2, h3⟩ := appendO ho1 hn (by simp; omega) ⟨W.heap.size, 0, none⟩ 1 x (cells2_new W _ _ _)
  refine ⟨v', w', h1, h2, (hk.alloc _).trans h3 (fun g hg => .inr ?_), fun q cs hq hbq => h3.blk (hbq.alloc _) (fun hg => ?_)⟩
  · have := (ho.ge g (by simpa using hg)).1; omega
  · have := (ho.ge q (by simpa using hg)).1; omega
theorem Own.mono {w : World} {base base' : Nat} {v : Value} {l : List Ent} (h : Own w base v l) (hb : base' ≤ base) : Own w base' v l := by
  rcases h with h | ⟨g, cap, rest, rfl, h1, hg, r⟩
  · exact .inl h
  · exact .inr ⟨g, cap, rest, rfl, h1, Nat.le_trans hb hg, r⟩
set_option maxHeartbeats 2000000 in
set_option maxRecDepth 100000 in
theorem put_any (l : List Ent) (hn : l.length ≤ 4000) (x : Ent) (lv : Value) (w : World) (hlv : Lst w lv l.length (eCs l)) :
    Calls Tryz.prog 71 #[lv, .agg #[.string ⟨x.k.toArray⟩, .string ⟨x.v.toArray⟩]] w fun e w' => ∃ u, e = .returned u ∧ Own w' w.heap.size u (putR x l) ∧ Keeps [] w w' := by
  obtain ⟨A, cap, b, o, rfl, hA, har⟩ := hlv
  obtain ⟨n, hnn⟩ : ∃ n, l.length = n := ⟨_, rfl⟩
  rw [hnn] at hA hn ⊢
  have Hn := Lib.hid hnn
  clear hnn
  go_enter Tryz.func71, Tryz.ntmps71
  go_wp2_with fail
  go_loopw [5, 6, 7] (fun v d i wr => ∃ (k : Nat) (dn : Bool) (acc : List Ent), k ≤ n ∧ d = .bool dn ∧ i = .int .i64 k ∧ Own wr (w.heap.size + 1) v acc ∧ Hid (acc ++ putRest x dn (l.drop k) = putR x l) ∧ Keeps [] w wr ∧ Blk wr w.heap.size (eC x)) (fun _ _ i _ => n - (intOf i).toNat)
  case atStart => exact ⟨0, false, [], by omega, rfl, rfl, .inl ⟨rfl, rfl⟩, Lib.hid (by simp [putRest]), (Keeps.refl _ _).alloc _, Blk.new w [.string ⟨x.k.toArray⟩, .string ⟨x.v.toArray⟩] _⟩
  case round =>
    obtain ⟨k, dn, acc, hk, rfl, rfl, ho, heq, hkp, hbx⟩ := hrel
    have hacc : acc.length ≤ n + 1 := by
      have h1 := congrArg List.length heq.out
      have h2 := length_putR_le x l
      rw [List.length_append, Hn.out] at *
      omega
    obtain ⟨d0, d1, d2, d3⟩ := hbx.o2
    by_cases hlt : k < n
    · obtain rfl := hA (by omega)
      obtain ⟨y, hy⟩ : ∃ y, l[k]? = some y := ⟨_, List.getElem?_eq_getElem (by rw [Hn.out]; exact hlt)⟩
      obtain ⟨c0, c1, c2⟩ := (har.keeps hkp (by simp)).ent hy
      have hdc := drop_cons hy
      have heq' := heq.out
      rw [hdc] at heq'
      cases dn with
      | true =>
        by_cases hyx : y.k = x.k
        · have hb : (y.k == x.k) = true := by simpa using hyx
          have e2 : acc ++ putRest x true (l.drop (k + 1)) = putR x l := by rw [← heq']; simp [putRest, hyx]
          have E2 := Lib.hid e2
          clear e2 heq' hdc heq
          go_wp2_with fail
          go_region
          go_wp2_with fail
          go_region
          go_wp2_with fail
          exact ⟨⟨k + 1, true, acc, by omega, rfl, by go_num, (ho.keeps (((Keeps.refl [] wr).drew).drew) (by simp)), E2, (hkp.drew).drew, (hbx.drew).drew⟩, by simp [intOf]; omega⟩
        · have hb : (y.k == x.k) = false := by simpa using hyx
          have e2 : acc ++ [y] ++ putRest x true (l.drop (k + 1)) = putR x l := by rw [← heq']; simp [putRest, hyx]
          have E2 := Lib.hid e2
          clear e2 heq' hdc heq
          go_wp2_with fail
          go_region
          go_wp2_with fail
          go_region
          obtain ⟨v', w5, hr, ho5, k5, hq5⟩ := appendX (wb := w) (W := wr.drew.drew) (ho.keeps (((Keeps.refl [] wr).drew).drew) (by simp)) (by omega) y (hkp.drew.drew) (by omega) d3
          go_wp2_with (at_builtin; refine list_append_eq rfl _ _ 84 84 rfl _ _ rfl rfl (hr _) ?_)
          exact ⟨⟨k + 1, true, acc ++ [y], by omega, rfl, by go_num, ho5, E2, k5, hq5 _ _ (by omega) hbx.drew.drew⟩, by simp [intOf]; omega⟩
      | false =>
        by_cases hyl : y.k < x.k
        · have hb1 := less_pos hyl
          have hb : (y.k == x.k) = false := by simpa using slt_ne hyl
          have e2 : acc ++ [y] ++ putRest x false (l.drop (k + 1)) = putR x l := by rw [← heq']; simp [putRest, putR, hyl]
          have E2 := Lib.hid e2
          clear e2 heq' hdc heq
          go_wp2_with fail
          go_region
          go_wp2_with fail
          go_region
          obtain ⟨v', w5, hr, ho5, k5, hq5⟩ := appendX (wb := w) (W := wr.drew.drew) (ho.keeps (((Keeps.refl [] wr).drew).drew) (by simp)) (by omega) y (hkp.drew.drew) (by omega) d3
          go_wp2_with (at_builtin; refine list_append_eq rfl _ _ 84 84 rfl _ _ rfl rfl (hr _) ?_)
          exact ⟨⟨k + 1, false, acc ++ [y], by omega, rfl, by go_num, ho5, E2, k5, hq5 _ _ (by omega) hbx.drew.drew⟩, by simp [intOf]; omega⟩
        · have hb1 := less_neg hyl
          by_cases hyx : y.k = x.k
          · have hb : (y.k == x.k) = true := by simpa using hyx
            have e2 : acc ++ [x] ++ putRest x true (l.drop (k + 1)) = putR x l := by rw [← heq']; simp [putRest, putR, hyx, slt_irrefl]
            have E2 := Lib.hid e2
            clear e2 heq' hdc heq hyx
            go_wp2_with fail
            go_region
            obtain ⟨v', w5, hr, ho5, k5, hq5⟩ := appendX (wb := w) (W := wr.drew) (ho.keeps ((Keeps.refl [] wr).drew) (by simp)) (by omega) x hkp.drew (by omega) d3
            have hbx5 := hq5 _ _ (by omega) hbx.drew
            obtain ⟨f0, f1, f2, f3⟩ := hbx5.o2
            obtain ⟨g0, g1, g2⟩ := (har.keeps k5 (by simp)).ent hy
            go_wp2_with (at_builtin; refine list_append_eq rfl _ _ 84 84 rfl _ _ rfl rfl (hr _) ?_)
            go_region
            go_wp2_with fail
            exact ⟨⟨k + 1, true, acc ++ [x], by omega, rfl, by go_num, ho5.keeps ((Keeps.refl [] w5).drew) (by simp), E2, k5.drew, hbx5.drew⟩, by simp [intOf]; omega⟩
          · have hb : (y.k == x.k) = false := by simpa using hyx
            have e2 : acc ++ [x] ++ [y] ++ putRest x true (l.drop (k + 1)) = putR x l := by rw [← heq']; simp [putRest, putR, hyl, hyx]
            have E2 := Lib.hid e2
            clear e2 heq' hdc heq
            go_wp2_with fail
            go_region
            obtain ⟨v', w5, hr, ho5, k5, hq5⟩ := appendX (wb := w) (W := wr.drew) (ho.keeps ((Keeps.refl [] wr).drew) (by simp)) (by omega) x hkp.drew (by omega) d3
            have hbx5 := hq5 _ _ (by omega) hbx.drew
            obtain ⟨f0, f1, f2, f3⟩ := hbx5.o2
            obtain ⟨g0, g1, g2⟩ := (har.keeps k5 (by simp)).ent hy
            go_wp2_with (at_builtin; refine list_append_eq rfl _ _ 84 84 rfl _ _ rfl rfl (hr _) ?_)
            go_region
            obtain ⟨v6, w6, hr6, ho6, k6, hq6⟩ := appendX (wb := w) (W := w5.drew) (ho5.keeps ((Keeps.refl [] w5).drew) (by simp)) (by simp; omega) y k5.drew (by omega) f3
            go_wp2_with (at_builtin; refine list_append_eq rfl _ _ 84 84 rfl _ _ rfl rfl (hr6 _) ?_)
            exact ⟨⟨k + 1, true, acc ++ [x] ++ [y], by omega, rfl, by go_num, ho6, E2, k6, hq6 _ _ (by omega) hbx5.drew⟩, by simp [intOf]; omega⟩
    · obtain rfl : k = n := by omega
      have hdr : l.drop k = [] := List.drop_of_length_le (by rw [Hn.out]; omega)
      have heq' := heq.out
      rw [hdr] at heq'
      cases dn with
      | true =>
        have e2 : acc = putR x l := by simpa [putRest] using heq'
        have E2 := Lib.hid e2
        clear e2 heq' hdr heq
        go_wp2_with fail
        go_ret
        refine ⟨_, rfl, ?_, hkp⟩
        rw [← E2.out]; exact ho.mono (by omega)
      | false =>
        have e2 : acc ++ [x] = putR x l := by simpa [putRest, putR] using heq'
        have E2 := Lib.hid e2
        clear e2 heq' hdr heq
        obtain ⟨v', w5, hr, ho5, k5, hq5⟩ := appendX (wb := w) (W := wr) ho (by omega) x hkp (by omega) d3
        go_wp2_with (at_builtin; refine list_append_eq rfl _ _ 84 84 rfl _ _ rfl rfl (hr _) ?_)
        go_ret
        refine ⟨_, rfl, ?_, k5⟩
        rw [← E2.out]; exact ho5.mono (by omega)
set_option maxHeartbeats 1000000 in
set_option maxRecDepth 100000 in
theorem drop_any (l : List Ent) (hn : l.length ≤ 4000) (key : Str) (lv : Value) (w : World) (hlv : Lst w lv l.length (eCs l)) :
    Calls Tryz.prog 70 #[lv, .string ⟨key.toArray⟩] w fun e w' => ∃ u, e = .returned u ∧ Own w' w.heap.size u (dropR key l) ∧ Keeps [] w w' := by
  obtain ⟨A, cap, b, o, rfl, hA, har⟩ := hlv
  obtain ⟨n, hnn⟩ : ∃ n, l.length = n := ⟨_, rfl⟩
  rw [hnn] at hA hn ⊢
  have Hn := Lib.hid hnn
  clear hnn
  go_enter Tryz.func70, Tryz.ntmps70
  go_wp2_with fail
  go_loopw [5, 6] (fun v i wr => ∃ (k : Nat) (acc : List Ent), k ≤ n ∧ i = .int .i64 k ∧ Own wr w.heap.size v acc ∧ Hid (acc ++ dropR key (l.drop k) = dropR key l) ∧ acc.length ≤ k ∧ Keeps [] w wr) (fun _ i _ => n - (intOf i).toNat)
  case atStart => exact ⟨0, [], by omega, rfl, .inl ⟨rfl, rfl⟩, Lib.hid (by simp), by simp, Keeps.refl _ _⟩
  case round =>
    obtain ⟨k, acc, hk, rfl, ho, heq, hacc, hkp⟩ := hrel
    by_cases hlt : k < n
    · obtain rfl := hA (by omega)
      obtain ⟨y, hy⟩ : ∃ y, l[k]? = some y := ⟨_, List.getElem?_eq_getElem (by rw [Hn.out]; exact hlt)⟩
      obtain ⟨c0, c1, c2⟩ := (har.keeps hkp (by simp)).ent hy
      have hdc := drop_cons hy
      have heq' := heq.out
      have hsz := hkp.size
      rw [hdc] at heq'
      by_cases hyx : y.k = key
      · have hb : (y.k == key) = true := by simpa using hyx
        have e2 : acc ++ dropR key (l.drop (k + 1)) = dropR key l := by rw [← heq']; simp [dropR, hyx]
        have E2 := Lib.hid e2
        clear e2 heq' hdc heq
        go_wp2_with fail
        exact ⟨⟨k + 1, acc, by omega, by go_num, ho, E2, by omega, hkp⟩, by simp [intOf]; omega⟩
      · have hb : (y.k == key) = false := by simpa using hyx
        have e2 : acc ++ [y] ++ dropR key (l.drop (k + 1)) = dropR key l := by rw [← heq']; simp [dropR, hyx]
        have E2 := Lib.hid e2
        clear e2 heq' hdc heq
        obtain ⟨v', w5, hr, ho5, k5, hq5⟩ := appendX (wb := w) (W := wr) ho (by omega) y hkp (Nat.le_refl _) hsz
        go_wp2_with (at_builtin; refine list_append_eq rfl _ _ 84 84 rfl _ _ rfl rfl (hr _) ?_)
        exact ⟨⟨k + 1, acc ++ [y], by omega, by go_num, ho5, E2, by simp; omega, k5⟩, by simp [intOf]; omega⟩
    · obtain rfl : k = n := by omega
      have hdr : l.drop k = [] := List.drop_of_length_le (by rw [Hn.out]; omega)
      have heq' := heq.out
      rw [hdr] at heq'
      have e2 : acc = dropR key l := by simpa [dropR] using heq'
      have E2 := Lib.hid e2
      clear e2 heq' hdr heq
      go_wp2_with fail
      go_ret
      refine ⟨_, rfl, ?_, hkp⟩
      rw [← E2.out]; exact ho
set_option maxHeartbeats 1000000 in
set_option maxRecDepth 100000 in
theorem get_any (l : List Ent) (hn : l.length ≤ 4000) (key : Str) (lv : Value) (w : World) (hlv : Lst w lv l.length (eCs l)) :
    Calls Tryz.prog 32 #[lv, .string ⟨key.toArray⟩] w fun e w' => e = .returned (.tuple #[.string ⟨((lk l key).getD []).toArray⟩, .bool (lk l key).isSome]) ∧ w' = w := by
  obtain ⟨A, cap, b, o, rfl, hA, har⟩ := hlv
  obtain ⟨n, hnn⟩ : ∃ n, l.length = n := ⟨_, rfl⟩
  rw [hnn] at hA hn ⊢
  have Hn := Lib.hid hnn
  obtain ⟨res, hres⟩ : ∃ res, lk l key = res := ⟨_, rfl⟩
  rw [hres]
  have Hres := Lib.hid hres
  clear hnn hres
  go_enter Tryz.func32, Tryz.ntmps32
  go_wp2_with fail
  go_loopw [6] (fun i wr => ∃ (k : Nat), k ≤ n ∧ i = .int .i64 k ∧ Hid (lk (l.drop k) key = res) ∧ wr = w) (fun i _ => n - (intOf i).toNat)
  case atStart => exact ⟨0, by omega, rfl, Lib.hid (by simpa using Hres.out), rfl⟩
  case round =>
    obtain ⟨k, hk, rfl, heq, rfl⟩ := hrel
    by_cases hlt : k < n
    · obtain rfl := hA (by omega)
      obtain ⟨y, hy⟩ : ∃ y, l[k]? = some y := ⟨_, List.getElem?_eq_getElem (by rw [Hn.out]; exact hlt)⟩
      obtain ⟨c0, c1, c2⟩ := har.ent hy
      have hdc := drop_cons hy
      have heq' := heq.out
      rw [hdc] at heq'
      by_cases hyx : y.k = key
      · have hb : (y.k == key) = true := by simpa using hyx
        have e2 : res = some y.v := by rw [← heq', lk, if_pos hyx]
        subst e2
        clear heq' hdc heq
        go_wp2_with fail
        go_ret2
        exact ⟨rfl, rfl⟩
      · have hb : (y.k == key) = false := by simpa using hyx
        have e2 : lk (l.drop (k + 1)) key = res := by rw [← heq', lk, if_neg hyx]
        have E2 := Lib.hid e2
        clear e2 heq' hdc heq
        go_wp2_with fail
        exact ⟨⟨k + 1, by omega, by go_num, E2, trivial⟩, by simp [intOf]; omega⟩
    · obtain rfl : k = n := by omega
      have hdr : l.drop k = [] := List.drop_of_length_le (by rw [Hn.out]; omega)
      have heq' := heq.out
      rw [hdr] at heq'
      have e2 : res = none := by simpa [lk] using heq'.symm
      subst e2
      clear heq' hdr heq
      go_wp2_with fail
      go_ret2
      exact ⟨rfl, rfl⟩
end Go.Proofs.YtbcgpjfejpcgnaaGreat
end
section
namespace Go.Proofs.YtbcgpjfejpcgnaaGreat
open Go.RowKit
set_option maxHeartbeats 1000000 in
set_option maxRecDepth 100000 in
theorem refApply_any (l : List Ent) (b : List Wrt) (hn : l.length + b.length ≤ 4000) (lv bv : Value) (w : World) (hlv : Lst w lv l.length (eCs l)) (hbv : Lst w bv b.length (wCs b)) :
    Calls Tryz.prog 51 #[lv, bv] w fun e w' => ∃ u, e = .returned u ∧ Lst w' u (applyR l b).length (eCs (applyR l b)) ∧ Keeps [] w w' := by
  obtain ⟨A, cap, bb, bo, rfl, hA, har⟩ := hbv
  obtain ⟨n, hnn⟩ : ∃ n, b.length = n := ⟨_, rfl⟩
  rw [hnn] at hA hn ⊢
  have Hn := Lib.hid hnn
  clear hnn
  go_enter Tryz.func51, Tryz.ntmps51
  go_wp2_with fail
  go_loopw [0, 5] (fun v i wr => ∃ (k : Nat) (acc : List Ent), k ≤ n ∧ i = .int .i64 k ∧ Hid (acc = applyR l (b.take k)) ∧ Lst wr v acc.length (eCs acc) ∧ Keeps [] w wr) (fun _ i _ => n - (intOf i).toNat)
  case atStart => exact ⟨0, l, by omega, rfl, Lib.hid (by simp [applyR]), hlv, Keeps.refl _ _⟩
  case round =>
    obtain ⟨k, acc, hk, rfl, hacc, hl, hkp⟩ := hrel
    by_cases hlt : k < n
    · obtain rfl := hA (by omega)
      obtain ⟨y, hy⟩ : ∃ y, b[k]? = some y := ⟨_, List.getElem?_eq_getElem (by rw [Hn.out]; exact hlt)⟩
      obtain ⟨c0, c1, c2, c3⟩ := (har.keeps hkp (by simp)).wrt hy
      have e2 := applyR_take_succ l b k y hy
      rw [← hacc.out] at e2
      have hlen : acc.length ≤ 4000 := by
        have := length_applyR l (b.take k)
        rw [← hacc.out, List.length_take] at this
        omega
      cases hd : y.d with
      | true =>
        rw [hd] at c2
        rw [stepR, if_pos hd] at e2
        have E2 := Lib.hid e2
        clear e2
        go_wp2_with fail
        refine (drop_any acc (by omega) y.k _ _ hl).mono ?_
        rintro e w2 ⟨u, rfl, ho, k2⟩
        go_wp2_with fail
        exact ⟨⟨k + 1, _, by omega, by go_num, Lib.hid E2.out.symm, ho.lst, hkp.trans k2 (by simp)⟩, by simp [intOf]; omega⟩
      | false =>
        rw [hd] at c2
        rw [stepR, if_neg (by simp [hd])] at e2
        have E2 := Lib.hid e2
        clear e2
        go_wp2_with fail
        have hld := hl.keeps ((Keeps.refl [] wr).drew)
        go_region_held3 (fun w' => w'.cell? ⟨bb, bo + k * 3, none⟩ = some (.string ⟨y.k.toArray⟩) ∧ w'.cell? ⟨bb, bo + k * 3 + 1, none⟩ = some (.string ⟨y.v.toArray⟩))
          (first
            | exact ⟨k2.cellEq c0 (by simp), k2.cellEq c1 (by simp)⟩
            | go_keep)
          ((go_at_call 71; refine (put_any acc (by omega) ⟨y.k, y.v⟩ _ _ hld).mono ?_; rintro e w2 ⟨u, rfl, ho, k2⟩))
        go_wp2_with fail
        exact ⟨⟨k + 1, _, by omega, by go_num, Lib.hid E2.out.symm, ho.lst, hkp.trans k2.undrew (by simp)⟩, by simp [intOf]; omega⟩
    · obtain rfl : k = n := by omega
      have hr : acc = applyR l b := by
        rw [hacc.out, List.take_of_length_le (by rw [Hn.out]; omega)]
      have Hr := Lib.hid hr
      clear hr
      go_wp2_with fail
      go_ret
      exact ⟨_, rfl, by rw [← Hr.out]; exact hl, hkp⟩
theorem validK_any (s : Str) (w : World) : Calls Tryz.prog 20 #[.string ⟨s.toArray⟩] w fun e w' => e = .returned (.bool (decide (s.length ≤ 32))) ∧ w' = w := by
  go_enter Tryz.func20, Tryz.ntmps20
  go_wp2
  go_ret
  exact ⟨by simp; omega, rfl⟩
theorem validV_any (s : Str) (w : World) : Calls Tryz.prog 52 #[.string ⟨s.toArray⟩] w fun e w' => e = .returned (.bool (decide (s.length ≤ 64))) ∧ w' = w := by
  go_enter Tryz.func52, Tryz.ntmps52
  go_wp2
  go_ret
  exact ⟨by simp; omega, rfl⟩
theorem kvalidK_any (s : Str) (w : World) : Calls Tryz.prog 62 #[.string ⟨s.toArray⟩] w fun e w' => e = .returned (.bool (decide (s.length ≤ 32))) ∧ w' = w := by
  go_enter Tryz.func62, Tryz.ntmps62
  go_wp2
  go_ret
  exact ⟨by simp; omega, rfl⟩
theorem kvalidV_any (s : Str) (w : World) : Calls Tryz.prog 63 #[.string ⟨s.toArray⟩] w fun e w' => e = .returned (.bool (decide (s.length ≤ 64))) ∧ w' = w := by
  go_enter Tryz.func63, Tryz.ntmps63
  go_wp2
  go_ret
  exact ⟨by simp; omega, rfl⟩
theorem all_snoc (f : Wrt → Bool) (b : List Wrt) (k : Nat) (x : Wrt) (h : b[k]? = some x) (h1 : (b.take k).all f = true) (h2 : f x = true) : (b.take (k + 1)).all f = true := by
  rw [List.take_add_one, h, List.all_append, h1]; simpa using h2
theorem all_not (f : Wrt → Bool) (b : List Wrt) (k : Nat) (x : Wrt) (h : b[k]? = some x) (h2 : f x = false) : b.all f = false := by
  rw [List.all_eq_false]
  exact ⟨x, List.mem_of_getElem? h, by simp [h2]⟩
set_option maxHeartbeats 1000000 in
set_option maxRecDepth 100000 in
theorem refCheck_any (b : List Wrt) (hn : b.length ≤ 9223372036854775807) (bv : Value) (w : World) (hbv : Lst w bv b.length (wCs b)) :
    Calls Tryz.prog 34 #[bv] w fun e w' => e = .returned (.int .i64 (checkR 8 1 b)) ∧ Keeps [] w w' := by
  obtain ⟨A, cap, bb, bo, rfl, hA, har⟩ := hbv
  obtain ⟨n, hnn⟩ : ∃ n, b.length = n := ⟨_, rfl⟩
  rw [hnn] at hA hn ⊢
  have Hn := Lib.hid hnn
  clear hnn
  by_cases h16 : 16 < n
  · have hr : checkR 8 1 b = 8 := by rw [checkR, Hn.out, if_pos h16]
    have Hr := Lib.hid hr
    clear hr
    go_enter Tryz.func34, Tryz.ntmps34
    go_wp2_with fail
    go_ret
    exact ⟨by rw [Hr.out]; rfl, Keeps.refl _ _⟩
  · go_enter Tryz.func34, Tryz.ntmps34
    go_wp2_with fail
    go_loopw [3] (fun i wr => ∃ (k : Nat), k ≤ n ∧ i = .int .i64 k ∧ Hid ((b.take k).all okW = true) ∧ Keeps [] w wr) (fun i _ => n - (intOf i).toNat)
    case atStart => exact ⟨0, by omega, rfl, Lib.hid (by simp), Keeps.refl _ _⟩
    case round =>
      obtain ⟨k, hk, rfl, hall, hkp⟩ := hrel
      by_cases hlt : k < n
      · obtain rfl := hA (by omega)
        obtain ⟨y, hy⟩ : ∃ y, b[k]? = some y := ⟨_, List.getElem?_eq_getElem (by rw [Hn.out]; exact hlt)⟩
        obtain ⟨c0, c1, c2, c3⟩ := (har.keeps hkp (by simp)).wrt hy
        have kx := hkp
        by_cases hk32 : y.k.length ≤ 32
        · have hd1 : decide (y.k.length ≤ 32) = true := by simpa using hk32
          by_cases hv64 : y.v.length ≤ 64
          · have hok : okW y = true := by simp [okW, hk32, hv64]
            have H2 := Lib.hid (all_snoc okW b k y hy hall.out hok)
            have hd2 : decide (y.v.length ≤ 64) = true := by simpa using hv64
            go_wp2_with fail
            refine (validK_any y.k _).mono ?_
            rintro e w2 ⟨rfl, rfl⟩
            rw [hd1]
            go_wp2_with fail
            refine (validV_any y.v _).mono ?_
            rintro e w3 ⟨rfl, rfl⟩
            rw [hd2]
            go_wp2_with fail
            exact ⟨⟨k + 1, by omega, by go_num, H2, kx⟩, by simp [intOf]; omega⟩
          · have hok : okW y = false := by simp [okW]; omega
            have hd2 : decide (y.v.length ≤ 64) = false := by simpa using hv64
            have hr : checkR 8 1 b = 8 := by rw [checkR, Hn.out, if_neg h16, all_not okW b k y hy hok]; simp
            have Hr := Lib.hid hr
            clear hr
            go_wp2_with fail
            refine (validK_any y.k _).mono ?_
            rintro e w2 ⟨rfl, rfl⟩
            rw [hd1]
            go_wp2_with fail
            refine (validV_any y.v _).mono ?_
            rintro e w3 ⟨rfl, rfl⟩
            rw [hd2]
            go_wp2_with fail
            go_ret
            exact ⟨by rw [Hr.out]; rfl, kx⟩
        · have hd1 : decide (y.k.length ≤ 32) = false := by simpa using hk32
          have hok : okW y = false := by simp [okW]; omega
          have hr : checkR 8 1 b = 8 := by rw [checkR, Hn.out, if_neg h16, all_not okW b k y hy hok]; simp
          have Hr := Lib.hid hr
          clear hr
          go_wp2_with fail
          refine (validK_any y.k _).mono ?_
          rintro e w2 ⟨rfl, rfl⟩
          rw [hd1]
          go_wp2_with fail
          go_ret
          exact ⟨by rw [Hr.out]; rfl, kx⟩
      · obtain rfl : k = n := by omega
        have hokb : b.all okW = true := by
          have := hall.out
          rwa [List.take_of_length_le (by rw [Hn.out]; omega)] at this
        have Hok := Lib.hid hokb
        clear hokb hall
        go_wp2_with fail
        go_loopw [4] (fun i wr => ∃ (j : Nat), j ≤ k ∧ i = .int .i64 j ∧ Hid ((b.take j).all okD = true) ∧ Keeps [] w wr) (fun i _ => k - (intOf i).toNat)
        case atStart => exact ⟨0, by omega, rfl, Lib.hid (by simp), hkp⟩
        case round =>
          clear hkp
          obtain ⟨j, hj, rfl, hall, hkp⟩ := hrel
          by_cases hlt : j < k
          · obtain rfl := hA (by omega)
            obtain ⟨y, hy⟩ : ∃ y, b[j]? = some y := ⟨_, List.getElem?_eq_getElem (by rw [Hn.out]; exact hlt)⟩
            obtain ⟨c0, c1, c2, c3⟩ := (har.keeps hkp (by simp)).wrt hy
            have kx := hkp
            cases hd : y.d with
            | false =>
              rw [hd] at c2
              have hok : okD y = true := by simp [okD, hd]
              have H2 := Lib.hid (all_snoc okD b j y hy hall.out hok)
              go_wp2_with fail
              exact ⟨⟨j + 1, by omega, by go_num, H2, kx⟩, by simp [intOf]; omega⟩
            | true =>
              rw [hd] at c2
              by_cases hv : y.v = []
              · have hok : okD y = true := by simp [okD, hv]
                have H2 := Lib.hid (all_snoc okD b j y hy hall.out hok)
                have hb : (y.v == []) = true := by simp [hv]
                go_wp2_with fail
                exact ⟨⟨j + 1, by omega, by go_num, H2, kx⟩, by simp [intOf]; omega⟩
              · have hok : okD y = false := by simp [okD, hd, hv]
                have hr : checkR 8 1 b = 1 := by rw [checkR, Hn.out, if_neg h16, Hok.out, all_not okD b j y hy hok]; simp
                have Hr := Lib.hid hr
                have hb : (y.v == []) = false := by simpa using hv
                clear hr
                go_wp2_with fail
                go_ret
                exact ⟨by rw [Hr.out]; rfl, kx⟩
          · obtain rfl : j = k := by omega
            have hokd : b.all okD = true := by
              have := hall.out
              rwa [List.take_of_length_le (by rw [Hn.out]; omega)] at this
            have hr : checkR 8 1 b = 0 := by rw [checkR, Hn.out, if_neg h16, Hok.out, hokd]; simp
            have Hr := Lib.hid hr
            clear hr hokd hall
            go_wp2_with fail
            go_ret
            exact ⟨by rw [Hr.out]; rfl, hkp⟩
set_option maxHeartbeats 1000000 in
set_option maxRecDepth 100000 in
theorem check_any (b : List Wrt) (hn : b.length ≤ 9223372036854775807) (bv : Value) (w : World) (hbv : Lst w bv b.length (wCs b)) :
    Calls Tryz.prog 49 #[bv] w fun e w' => e = .returned (.int .i64 (checkR 8 1 b)) ∧ Keeps [] w w' := by
  obtain ⟨A, cap, bb, bo, rfl, hA, har⟩ := hbv
  obtain ⟨n, hnn⟩ : ∃ n, b.length = n := ⟨_, rfl⟩
  rw [hnn] at hA hn ⊢
  have Hn := Lib.hid hnn
  clear hnn
  by_cases h16 : 16 < n
  · have hr : checkR 8 1 b = 8 := by rw [checkR, Hn.out, if_pos h16]
    have Hr := Lib.hid hr
    clear hr
    go_enter Tryz.func49, Tryz.ntmps49
    go_wp2_with fail
    go_ret
    exact ⟨by rw [Hr.out]; rfl, Keeps.refl _ _⟩
  · go_enter Tryz.func49, Tryz.ntmps49
    go_wp2_with fail
    go_loopw [12] (fun i wr => ∃ (k : Nat), k ≤ n ∧ i = .int .i64 k ∧ Hid ((b.take k).all okW = true) ∧ Keeps [] w wr) (fun i _ => n - (intOf i).toNat)
    case atStart => exact ⟨0, by omega, rfl, Lib.hid (by simp), Keeps.refl _ _⟩
    case round =>
      obtain ⟨k, hk, rfl, hall, hkp⟩ := hrel
      by_cases hlt : k < n
      · obtain rfl := hA (by omega)
        obtain ⟨y, hy⟩ : ∃ y, b[k]? = some y := ⟨_, List.getElem?_eq_getElem (by rw [Hn.out]; exact hlt)⟩
        obtain ⟨c0, c1, c2, c3⟩ := (har.keeps hkp (by simp)).wrt hy
        have kx := (hkp.alloc (.cells #[.string ⟨y.k.toArray⟩, .string ⟨y.v.toArray⟩, .bool y.d] 53))
        by_cases hk32 : y.k.length ≤ 32
        · have hd1 : decide (y.k.length ≤ 32) = true := by simpa using hk32
          by_cases hv64 : y.v.length ≤ 64
          · have hok : okW y = true := by simp [okW, hk32, hv64]
            have H2 := Lib.hid (all_snoc okW b k y hy hall.out hok)
            have hd2 : decide (y.v.length ≤ 64) = true := by simpa using hv64
            go_wp2_with fail
            refine (kvalidK_any y.k _).mono ?_
            rintro e w2 ⟨rfl, rfl⟩
            rw [hd1]
            go_wp2_with fail
            refine (kvalidV_any y.v _).mono ?_
            rintro e w3 ⟨rfl, rfl⟩
            rw [hd2]
            go_wp2_with fail
            exact ⟨⟨k + 1, by omega, by go_num, H2, kx⟩, by simp [intOf]; omega⟩
          · have hok : okW y = false := by simp [okW]; omega
            have hd2 : decide (y.v.length ≤ 64) = false := by simpa using hv64
            have hr : checkR 8 1 b = 8 := by rw [checkR, Hn.out, if_neg h16, all_not okW b k y hy hok]; simp
            have Hr := Lib.hid hr
            clear hr
            go_wp2_with fail
            refine (kvalidK_any y.k _).mono ?_
            rintro e w2 ⟨rfl, rfl⟩
            rw [hd1]
            go_wp2_with fail
            refine (kvalidV_any y.v _).mono ?_
            rintro e w3 ⟨rfl, rfl⟩
            rw [hd2]
            go_wp2_with fail
            go_ret
            exact ⟨by rw [Hr.out]; rfl, kx⟩
        · have hd1 : decide (y.k.length ≤ 32) = false := by simpa using hk32
          have hok : okW y = false := by simp [okW]; omega
          have hr : checkR 8 1 b = 8 := by rw [checkR, Hn.out, if_neg h16, all_not okW b k y hy hok]; simp
          have Hr := Lib.hid hr
          clear hr
          go_wp2_with fail
          refine (kvalidK_any y.k _).mono ?_
          rintro e w2 ⟨rfl, rfl⟩
          rw [hd1]
          go_wp2_with fail
          go_ret
          exact ⟨by rw [Hr.out]; rfl, kx⟩
      · obtain rfl : k = n := by omega
        have hokb : b.all okW = true := by
          have := hall.out
          rwa [List.take_of_length_le (by rw [Hn.out]; omega)] at this
        have Hok := Lib.hid hokb
        clear hokb hall
        go_wp2_with fail
        go_loopw [29] (fun i wr => ∃ (j : Nat), j ≤ k ∧ i = .int .i64 j ∧ Hid ((b.take j).all okD = true) ∧ Keeps [] w wr) (fun i _ => k - (intOf i).toNat)
        case atStart => exact ⟨0, by omega, rfl, Lib.hid (by simp), hkp⟩
        case round =>
          clear hkp
          obtain ⟨j, hj, rfl, hall, hkp⟩ := hrel
          by_cases hlt : j < k
          · obtain rfl := hA (by omega)
            obtain ⟨y, hy⟩ : ∃ y, b[j]? = some y := ⟨_, List.getElem?_eq_getElem (by rw [Hn.out]; exact hlt)⟩
            obtain ⟨c0, c1, c2, c3⟩ := (har.keeps hkp (by simp)).wrt hy
            have kx := (hkp.alloc (.cells #[.string ⟨y.k.toArray⟩, .string ⟨y.v.toArray⟩, .bool y.d] 53))
            cases hd : y.d with
            | false =>
              rw [hd] at c2 kx
              have hok : okD y = true := by simp [okD, hd]
              have H2 := Lib.hid (all_snoc okD b j y hy hall.out hok)
              go_wp2_with fail
              exact ⟨⟨j + 1, by omega, by go_num, H2, kx⟩, by simp [intOf]; omega⟩
            | true =>
              rw [hd] at c2 kx
              by_cases hv : y.v = []
              · have hok : okD y = true := by simp [okD, hv]
                have H2 := Lib.hid (all_snoc okD b j y hy hall.out hok)
                have hb : (y.v == []) = true := by simp [hv]
                rw [hv] at kx
                go_wp2_with fail
                exact ⟨⟨j + 1, by omega, by go_num, H2, kx⟩, by simp [intOf]; omega⟩
              · have hok : okD y = false := by simp [okD, hd, hv]
                have hr : checkR 8 1 b = 1 := by rw [checkR, Hn.out, if_neg h16, Hok.out, all_not okD b j y hy hok]; simp
                have Hr := Lib.hid hr
                have hb : (y.v == []) = false := by simpa using hv
                clear hr
                go_wp2_with fail
                go_ret
                exact ⟨by rw [Hr.out]; rfl, kx⟩
          · obtain rfl : j = k := by omega
            have hokd : b.all okD = true := by
              have := hall.out
              rwa [List.take_of_length_le (by rw [Hn.out]; omega)] at this
            have hr : checkR 8 1 b = 0 := by rw [checkR, Hn.out, if_neg h16, Hok.out, hokd]; simp
            have Hr := Lib.hid hr
            clear hr hokd hall
            go_wp2_with fail
            go_ret
            exact ⟨by rw [Hr.out]; rfl, hkp⟩
end Go.Proofs.YtbcgpjfejpcgnaaGreat
end
section
namespace Go.Proofs.YtbcgpjfejpcgnaaGreat
open Go.RowKit
theorem cmp_bytes : ∀ a b : Str, Lib.compareBytes a b = cmpS a b
  | [], [] => by simp [Lib.compareBytes, cmpS]
  | [], _ :: _ => by simp [Lib.compareBytes, cmpS]
  | _ :: _, [] => by simp [Lib.compareBytes, cmpS]
  | a :: xs, b :: ys => by
    rw [Lib.compareBytes, cmp_bytes xs ys]
    unfold cmpS
    by_cases h1 : a < b
    · simp [h1, List.cons_lt_cons_iff]
    · by_cases h2 : b < a
      · have h3 : ¬ a = b := fun e => by subst e; exact h1 h2
        have h4 : ¬ b = a := fun e => h3 e.symm
        simp [h1, h2, h3, List.cons_lt_cons_iff]
      · have h3 : a = b := UInt8.le_antisymm (UInt8.not_lt.1 h2) (UInt8.not_lt.1 h1)
        subst h3
        simp [List.cons_lt_cons_iff]
theorem sCompare_any (a b : Str) (w : World) : Calls Tryz.prog 91 #[.string ⟨a.toArray⟩, .string ⟨b.toArray⟩] w fun e w' => e = .returned (.int .i64 (cmpS a b)) ∧ w' = w := by
  have e70 : ∀ w, (callFunc 112 #[.string ⟨a.toArray⟩, .string ⟨b.toArray⟩]).run Tryz.prog w = .ok (.value (.int .i64 (cmpS a b))) w := fun w => by
    rw [run_callFunc_extern Tryz.func112 (by kernel_rfl) (by kernel_rfl) (by kernel_rfl) (e := Extern.BytealgCompare.compare) (by kernel_rfl), Lib.run_compareString, cmp_bytes]
    rfl
  have hc : ∀ w, Calls Tryz.prog 99 #[.string ⟨a.toArray⟩, .string ⟨b.toArray⟩] w fun e w' => e = .returned (.int .i64 (cmpS a b)) ∧ w' = w := fun w => by
    go_enter Tryz.func99, Tryz.ntmps99
    go_wp2_with (simp only [e70])
    go_ret
    exact ⟨rfl, rfl⟩
  go_enter Tryz.func91, Tryz.ntmps91
  go_wp2_with (go_at_call 99; refine (hc _).mono ?_; rintro e w' ⟨rfl, rfl⟩)
  go_ret
  exact ⟨rfl, rfl⟩
theorem cloM_any (e : Ent) (k : Str) (w : World) : Calls Tryz.prog 90 #[.agg #[.string ⟨e.k.toArray⟩, .string ⟨e.v.toArray⟩], .string ⟨k.toArray⟩] w fun x w' => x = .returned (.int .i64 (cmpS e.k k)) ∧ Keeps [] w w' := by
  go_enter Tryz.func90, Tryz.ntmps90
  go_wp2_with (go_at_call 91; refine (sCompare_any _ _ _).mono ?_; rintro e w' ⟨rfl, rfl⟩)
  go_ret
  exact ⟨rfl, (Keeps.refl [] _).alloc _⟩
set_option maxHeartbeats 1000000 in
theorem searchM_any (l : List Ent) (k : Str) (hl : Asc l) (hn : l.length ≤ 4096) (g cap : Nat) (rest : List Value) (w : World) (hb : Blk w g (eCs l ++ rest)) :
    Calls Tryz.prog 84 #[.slice (some ⟨g, 0, none⟩) l.length cap, .string ⟨k.toArray⟩, .func (.func 90) #[] #[]] w fun x w' => x = .returned (.tuple #[.int .i64 (pos l k), .bool (at_ l k)]) ∧ Keeps [] w w' := by
  obtain ⟨n, hnn⟩ : ∃ n, l.length = n := ⟨_, rfl⟩
  obtain ⟨p, hp⟩ : ∃ p, pos l k = p := ⟨_, rfl⟩
  have hpn : p ≤ n := by rw [← hp, ← hnn]; exact pos_le l k
  rw [hnn] at hn ⊢
  rw [hp]
  have Hn := Lib.hid hnn
  have Hp := Lib.hid hp
  clear hnn hp
  go_enter Tryz.func84, Tryz.ntmps84
  go_wp2_with fail
  go_loopw [9, 10] (fun i j wr => ∃ a c : Nat, a ≤ p ∧ p ≤ c ∧ c ≤ n ∧ i = .int .i64 a ∧ j = .int .i64 c ∧ Keeps [] w wr) (fun i j _ => (intOf j).toNat - (intOf i).toNat)
  case atStart => exact ⟨0, n, by omega, hpn, by omega, rfl, rfl, Keeps.refl _ _⟩
  case round =>
    obtain ⟨a, c, ha, hc, hcn, rfl, rfl, hkp⟩ := hrel
    by_cases hlt : a < c
    · have hbr := hkp.blk hb (by simp)
      have hh : (a + c) / 2 < n := by omega
      obtain ⟨h, hhe⟩ : ∃ h, (a + c) / 2 = h := ⟨_, rfl⟩
      rw [hhe] at hh
      obtain ⟨e, he⟩ : ∃ e, l[h]? = some e := ⟨_, List.getElem?_eq_getElem (by rw [Hn.out]; exact hh)⟩
      have c0 := hbr.cell (h * 2)
      have c1 := hbr.cell (h * 2 + 1)
      have cl := hbr.lt
      obtain ⟨d0, d1⟩ := eCs_cells l h e he rest
      rw [d0] at c0
      rw [d1] at c1
      have He := Lib.hid he
      clear d0 d1 hbr he
      have hsum : ((a : Int) + (c : Int)) / 2 = (h : Int) := by omega
      have hsum2 : IntKind.i64.wrap ((a : Int) + (c : Int)) = (a : Int) + (c : Int) := by rw [IntKind.wrap_i64]; omega
      have hsum3 : IntKind.u64.wrap ((a : Int) + (c : Int)) = (a : Int) + (c : Int) := IntWalk.u64_in _ ⟨by omega, by omega⟩
      go_wp2_with fail
      refine (cloM_any e k _).mono ?_
      rintro x w1 ⟨rfl, k1⟩
      have K1 := hkp.trans k1 (by simp)
      clear k1 c0 c1 cl hkp
      by_cases hek : e.k < k
      · have hlow : h < p := by
          rcases Nat.lt_or_ge h p with h1 | h1
          · exact h1
          · rw [← Hp.out] at h1; exact absurd hek (pos_ge hl h1 He.out)
        have hcm : cmpS e.k k = -1 := by simp [cmpS, hek]
        rw [hcm]
        go_wp2_with fail
        exact ⟨⟨h + 1, c, by omega, hc, hcn, by go_num, rfl, K1⟩, by simp [intOf]; omega⟩
      · have hhi : p ≤ h := by
          rcases Nat.lt_or_ge h p with h1 | h1
          · rw [← Hp.out] at h1; exact absurd (pos_lt h1 He.out) hek
          · exact h1
        have hcm : 0 ≤ cmpS e.k k := by unfold cmpS; rw [if_neg hek]; split <;> omega
        obtain ⟨z, hz⟩ : ∃ z, cmpS e.k k = z := ⟨_, rfl⟩
        rw [hz] at hcm ⊢
        go_wp2_with fail
        exact ⟨⟨a, h, ha, by omega, by omega, rfl, rfl, K1⟩, by simp [intOf]; omega⟩
    · obtain rfl : a = p := by omega
      obtain rfl : c = a := by omega
      by_cases hc2 : c < n
      · have hbr := hkp.blk hb (by simp)
        obtain ⟨e, he⟩ : ∃ e, l[c]? = some e := ⟨_, List.getElem?_eq_getElem (by rw [Hn.out]; exact hc2)⟩
        have c0 := hbr.cell (c * 2)
        have c1 := hbr.cell (c * 2 + 1)
        have cl := hbr.lt
        obtain ⟨d0, d1⟩ := eCs_cells l c e he rest
        rw [d0] at c0
        rw [d1] at c1
        have hat : at_ l k = decide (e.k = k) := by unfold at_; rw [Hp.out, he]
        have Hat := Lib.hid hat
        have hge := Lib.hid (pos_ge hl (by rw [Hp.out]; exact Nat.le_refl c) he)
        clear d0 d1 hbr he hat
        go_wp2_with fail
        refine (cloM_any e k _).mono ?_
        rintro x w1 ⟨rfl, k1⟩
        have K1 := hkp.trans k1 (by simp)
        clear k1 c0 c1 cl hkp
        by_cases hek : e.k = k
        · have hcm : cmpS e.k k = 0 := by rw [hek]; exact cmpS_self k
          rw [hcm]
          go_wp2_with fail
          go_ret2
          exact ⟨by rw [Hat.out]; simp [hek], K1⟩
        · have hcm : cmpS e.k k = 1 := by unfold cmpS; rw [if_neg hge.out, if_pos (slt_of hge.out hek)]
          rw [hcm]
          go_wp2_with fail
          go_ret2
          exact ⟨by rw [Hat.out]; simp [hek], K1⟩
      · have hat : at_ l k = false := by unfold at_; rw [Hp.out, List.getElem?_eq_none (by rw [Hn.out]; omega)]
        obtain rfl : c = n := by omega
        have Hat := Lib.hid hat
        clear hat
        go_wp2_with fail
        go_ret2
        exact ⟨by rw [Hat.out]; rfl, hkp⟩
end Go.Proofs.YtbcgpjfejpcgnaaGreat
end
