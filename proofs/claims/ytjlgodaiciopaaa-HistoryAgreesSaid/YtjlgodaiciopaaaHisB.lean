/- The contracts of slices.Clone on writes and of pick. -/
import Derived.Test.YtjlgodaiciopaaaHisA
import Derived.Shelf.SlSortCmp.Insertion
namespace Go.Proofs.Ytjlgodaiciopaaa
open Go.RowKit
set_option maxRecDepth 100000
set_option maxHeartbeats 1000000
set_option linter.unusedSimpArgs false
theorem infoW : (Try.prog.info? 61).map (fun i => (i.zero, i.size, i.bytes)) = some (some (.agg #[.string ⟨#[]⟩, .string ⟨#[]⟩, .bool false]), 3, 40) := by kernel_rfl
theorem infoR : (Try.prog.info? 36).map (fun i => (i.zero, i.size, i.bytes)) = some (some (.agg (rC default).toArray), 16, 168) := by kernel_rfl
def CloPost (b : List Wrt) (w : World) (x : Ending) (w' : World) : Prop := ∃ A' cap' bb, x = .returned (.slice A' b.length cap') ∧ (0 < b.length → A' = some ⟨bb, 0, none⟩ ∧ w.heap.size ≤ bb) ∧ Arr w' bb 0 (wCs b) ∧ Keeps [] w w'
theorem clonew_any (b : List Wrt) (hn : b.length * 40 ≤ 140737488355328) (A : Option Addr) (cap : Nat) (w : World) (hv : Lst w (.slice A b.length cap) b.length (wCs b)) :
    Calls Try.prog 31 #[.slice A b.length cap] w fun x w' => CloPost b w x w' := by
  obtain ⟨A0, cap0, bb, o, he, hA, har⟩ := hv
  injection he with e1 _ e2
  subst e1; subst e2
  obtain ⟨i0, hi, hz0, hz1, hz2⟩ := info_parts infoW
  have q30 : ∀ (w : World) (a : Option Addr) (n c n' c' : Nat), (binOp .eql 29 (.slice a n c) (.slice none n' c')).run Try.prog w = .ok (.bool a.isNone) w := fun w a n c n' c' => Lib.run_eql_slice_nil w _ _ a n c n' c' Try.underlying29
  cases A with
  | none =>
    have h0 : b.length = 0 := by
      rcases Nat.eq_zero_or_pos b.length with h | h
      · exact h
      · exact absurd (hA h) (by simp)
    have H0 := Lib.hid h0
    clear h0 hA har
    go_enter Try.func31, Try.ntmps31
    go_wp2
    go_ret
    exact ⟨none, 0, 0, by rw [H0.out]; rfl, fun h => by have := H0.out; omega, by rw [List.eq_nil_of_length_eq_zero H0.out]; exact Arr.nil _, Keeps.refl _ _⟩
  | some a =>
    have hsrc := Lib.hid (Arr.src hA har (by rw [wCs_length]))
    clear har
    go_enter Try.func31, Try.ntmps31
    go_wp2_with (at_builtin; refine wpList_append_own _ rfl _ _ 29 rfl w.heap.size 61 i0 _ 3 40 Try.underlying29 hi hz0 hz1 hz2 rfl (by decide) _ 0 [] rfl (World.ownsRow_made w #[] 0 (Nat.le_refl _) (Nat.zero_le _) (by simp)) a b.length cap (wCs b) rfl (wCs_length b) ?qc2 (fun u hu => wCs_one' hu) ?qc4 ?qc5 ?qc6 ?_)
    case qc2 => exact fun j u hj => Lib.cell?_alloc_some _ (hsrc.out j u hj)
    case qc4 => unfold maxLen; omega
    intro v' w1 hown hgrow _
    have hlt := World.ownsRow.lt hown
    have hr := Row.of hown
    obtain ⟨A2, c2, bb, o2, h1, h2, h3⟩ := hr.lst
    have hbb : 0 < b.length → o2 = 0 ∧ w.heap.size ≤ bb := fun h0 => by
      obtain ⟨_, ⟨_, h⟩ | ⟨g, cap', rest, h, _⟩⟩ := hr
      · omega
      · have := hlt g (by rw [h]; rfl)
        rw [h1] at h
        injection h with e1 _ _
        rw [h2 h0] at e1
        injection e1 with e1
        injection e1 with e1 e2 _
        exact ⟨e2, by omega⟩
    subst h1
    have harr : Arr w1 bb 0 (wCs b) := by
      rcases Nat.eq_zero_or_pos b.length with h0 | h0
      · have := List.eq_nil_of_length_eq_zero h0
        rw [this]; exact ⟨fun i hi => absurd hi (Nat.not_lt_zero i), fun h => absurd h (Nat.lt_irrefl 0)⟩
      · rw [← (hbb h0).1]; exact h3
    have hA2 : 0 < b.length → A2 = some ⟨bb, 0, none⟩ ∧ w.heap.size ≤ bb := fun h0 => by
      obtain ⟨q1, q2⟩ := hbb h0
      subst q1
      exact ⟨h2 h0, q2⟩
    clear h2 h3 hbb hlt hr
    go_wp2
    go_ret
    exact ⟨_, _, bb, rfl, hA2, harr, ((Keeps.refl [] w).alloc _).trans (Keeps.of_grownBy hgrow [w.heap.size] (by simp [Value.ownBlock])) (by simp)⟩
/-- The record's batch lies in w as it should, outside the blocks N. -/
def OkN (w : World) (N : List Nat) (x : RV) : Prop := ∃ bb o, (0 < x.b.length → x.bA = some ⟨bb, o, none⟩ ∧ bb ∉ N) ∧ Arr w bb o (wCs x.b)
theorem OkN.keeps {w w' : World} {S N : List Nat} {x : RV} (h : OkN w N x) (k : Keeps S w w') (hS : ∀ s ∈ S, s ∈ N ∨ w.heap.size ≤ s) : OkN w' N x := by
  obtain ⟨bb, o, h2, h3⟩ := h
  rcases Nat.eq_zero_or_pos x.b.length with h0 | h0
  · refine ⟨0, 0, fun h => by omega, ?_⟩
    have := List.eq_nil_of_length_eq_zero h0
    rw [this]; exact Arr.nil _
  · exact ⟨bb, o, h2, h3.keeps k (fun hm => by
      rcases hS bb hm with h | h
      · exact (h2 h0).2 h
      · have := h3.lt (by rw [wCs_length]; omega); omega)⟩
theorem OkN.mono {w : World} {N N' : List Nat} {x : RV} (h : OkN w N x) (hN : ∀ s ∈ N', s ∈ N ∨ w.heap.size ≤ s) : OkN w N' x := by
  obtain ⟨bb, o, h2, h3⟩ := h
  refine ⟨bb, o, fun h0 => ⟨(h2 h0).1, fun hm => ?_⟩, h3⟩
  rcases hN bb hm with h | h
  · exact (h2 h0).2 h
  · have := h3.lt (by rw [wCs_length]; omega); omega
theorem OkN.okb {w : World} {N : List Nat} {x : RV} (h : OkN w N x) : OkB w x := by
  obtain ⟨bb, o, h2, h3⟩ := h
  exact ⟨_, _, bb, o, rfl, fun h0 => (h2 h0).1, h3⟩
theorem OkB.okn {w : World} {x : RV} (h : OkB w x) : OkN w [] x := by
  obtain ⟨A', c', bb, o, h2, h3, h4⟩ := h
  injection h2 with e1 _ e2
  subst e1; subst e2
  exact ⟨bb, o, fun h0 => ⟨h3 h0, by simp⟩, h4⟩
/-- The same record but for where its batch lies. -/
def strip (x : RV) : RV := { x with bA := none, bc := 0 }
/-- What the list of a pick is. -/
structure Pk (w : World) (base : Nat) (v : Value) (ys : List RV) : Prop where
  row : Row w v ys.length 16 (rCs ys)
  ok : ∀ y ∈ ys, OkN w v.ownBlock.toList y
  ge : ∀ g, v.ownBlock = some g → base ≤ g
theorem Pk.keeps {w w' : World} {base : Nat} {v : Value} {ys : List RV} (h : Pk w base v ys) (k : Keeps [] w w') : Pk w' base v ys :=
  ⟨h.row.keeps k (by simp), fun y hy => (h.ok y hy).keeps k (by simp), h.ge⟩
theorem Pk.nil (w : World) (base : Nat) : Pk w base (.slice none 0 0) [] := ⟨Row.nil _ _, by simp, fun g hg => by simp [Value.ownBlock] at hg⟩
/-- One record more. -/
theorem pk_append {w : World} {base : Nat} {v : Value} {ys : List RV} (h : Pk w base v ys) (x : RV) (hx : OkN w v.ownBlock.toList x) (hn : ys.length < 1000) (hb : base ≤ w.heap.size) (a : Addr) (c : Nat) (hsrc : ∀ (j : Nat) (u : Value), (rC x)[j]? = some u → w.cell? (a.add j) = some u) (ty : TypeId) :
    ∃ v' w', (Builtin.append_ #[22, 22] ty #[v, .slice (some a) 1 c]).run Try.prog w = .ok v' w' ∧ Pk w' base v' (ys ++ [x]) ∧ Keeps v.ownBlock.toList w w' := by
  obtain ⟨i0, hi0, hz0, hz1, hz2⟩ := info_parts infoR
  obtain ⟨v', w', hr, r, k, f⟩ := row_append h.row 22 ty 36 i0 _ 168 Try.underlying22 hi0 hz0 hz1 hz2 rfl (by decide) a 1 c (rC x) rfl hsrc (rC_one x) (by omega) (by decide)
  refine ⟨v', w', hr, ⟨?_, fun y hy => ?_, fun g hg => ?_⟩, k⟩
  · rw [List.length_append, rCs_append, rCs_one]; exact r
  · have hy' : OkN w v.ownBlock.toList y := by
      rcases List.mem_append.1 hy with hy | hy
      · exact h.ok y hy
      · simp at hy; subst hy; exact hx
    have h1 : OkN w (v.ownBlock.toList ++ v'.ownBlock.toList) y := hy'.mono (fun s hs => by
      rcases List.mem_append.1 hs with hs | hs
      · exact .inl hs
      · rcases f s (by simpa using hs) with h | h
        · exact .inl (by simp [h])
        · exact .inr h)
    exact (h1.keeps k (fun s hs => .inl (List.mem_append_left _ hs))).mono (fun s hs => .inl (List.mem_append_right _ hs))
  · rcases f g hg with h1 | h1
    · exact h.ge g h1
    · omega
theorem pick_any (xs : List RV) (hn : xs.length ≤ 100) (v : Value) (w : World) (hv : Lst w v xs.length (rCs xs)) (hb : ∀ x ∈ xs, OkB w x ∧ x.b.length * 40 ≤ 140737488355328)
    (p : Rec → Bool) (G : Nat) (caps : Array Value) (eg : ∀ args w, (callFunc G args).run Try.prog w = .ok (.enter G args) w)
    (hp : ∀ (x : RV) (w1 : World), Keeps [] w w1 → Calls Try.prog G (#[.agg #[.int .i64 x.n.th, .int .i64 x.n.ix, .int .i64 x.n.inv, .int .i64 x.n.pt, .int .i64 x.n.rs, .int .i64 x.code, .string x.key, .int .u64 x.time, .slice x.bA x.b.length x.bc, .int .i64 x.hd, .int .i64 x.cu, .int .i64 x.mo, .int .i64 x.er, .int .u64 x.at_, .string x.ak, .string x.av]] ++ caps) w1 fun e w' => e = .returned (.bool (p x.n)) ∧ Keeps [] w1 w') :
    Calls Try.prog 23 #[v, .func (.func G) #[] caps] w fun e w' => ∃ u ys, e = .returned u ∧ Pk w' w.heap.size u ys ∧ ys.map strip = (xs.filter (fun x => p x.n)).map strip ∧ Keeps [] w w' := by
  have HV := Lib.hid hv
  have HB := Lib.hid hb
  have HP := Lib.hid hp
  obtain ⟨n, hn'⟩ : ∃ n, xs.length = n := ⟨_, rfl⟩
  obtain ⟨A, cap, b, o, rfl, _, _⟩ := hv
  rw [hn'] at hn HV ⊢
  have Hn := Lib.hid hn'
  clear hb hp hn'
  go_enter Try.func23, Try.ntmps23
  go_wp2_with fail
  go_loopw [5, 10] (fun u i wr => ∃ (k : Nat) (ys : List RV), k ≤ n ∧ i = .int .i64 k ∧ Pk wr w.heap.size u ys ∧ Hid (ys.map strip = ((xs.take k).filter (fun x => p x.n)).map strip ∧ ys.length ≤ k) ∧ Keeps [] w wr) (fun _ i _ => n - (intOf i).toNat)
  case atStart => exact ⟨0, [], by omega, rfl, Pk.nil _ _, Lib.hid (by simp), Keeps.refl _ _⟩
  case round =>
    obtain ⟨k, ys, hk, rfl, hpk, hys, kk⟩ := hrel
    obtain ⟨A5, c5, h5⟩ := hpk.row.len
    obtain ⟨m5, hm5⟩ : ∃ m5, ys.length = m5 := ⟨_, rfl⟩
    rw [hm5] at h5
    subst h5
    have Hm5 := Lib.hid hm5
    clear hm5
    by_cases hlt : k < n
    · obtain ⟨x, hx⟩ : ∃ x, xs[k]? = some x := ⟨_, List.getElem?_eq_getElem (by rw [Hn.out]; exact hlt)⟩
      obtain ⟨g, o', rfl, hc, hg⟩ := (HV.out.keeps kk).atS Hn.out hx
      have hl0 := hc.load
      have hst := store_new wr x
      have hbk := new_rec wr x
      have hl1 := hbk.load
      have kn : Keeps [] wr (wr.alloc (.cells #[.int .i64 x.n.th, .int .i64 x.n.ix, .int .i64 x.n.inv, .int .i64 x.n.pt, .int .i64 x.n.rs, .int .i64 x.code, .string x.key, .int .u64 x.time, .slice x.bA x.b.length x.bc, .int .i64 x.hd, .int .i64 x.cu, .int .i64 x.mo, .int .i64 x.er, .int .u64 x.at_, .string x.ak, .string x.av] 36)) := (Keeps.refl [] wr).alloc _
      have hkn : (k : Int) < (n : Int) := by omega
      have Hx := Lib.hid hx
      have Hc := Lib.hid hc
      clear hx hc
      go_wp2_with (first
        | (refine list_load_eq rfl 36 _ rfl _ rfl _ hl0 ?_)
        | (refine list_store_eq rfl 36 _ _ rfl _ rfl _ rfl (hst _ rfl) ?_)
        | (refine list_load_eq rfl 36 _ rfl _ rfl _ hl1 ?_))
      refine (HP.out x _ (kk.trans kn (by simp))).mono ?_
      rintro e w2 ⟨rfl, k2⟩
      have K2 := kn.trans k2 (by simp)
      have hpk2 := hpk.keeps K2
      have hbk2 := k2.blk hbk (by simp)
      have hgs : wr.heap.size < w2.heap.size := hbk2.lt
      have c8 := hbk2.cell 8
      have f8 := hbk2.frozen 8
      simp only [List.getElem?_cons_succ, List.getElem?_cons_zero] at c8
      clear hl0 hst hl1 hbk
      by_cases hp : p x.n = true
      · have hB := HB.out x (List.mem_of_getElem? Hx.out)
        have hclo := clonew_any x.b hB.2 x.bA x.bc w2 ((hB.1.keeps kk).keeps K2)
        have Hp := Lib.hid hp
        have Hbk2 := Lib.hid hbk2
        rw [hp]
        clear hp hB hbk2
        go_wp2_with fail
        refine hclo.mono ?_
        rintro e w3 ⟨A', c', bb, rfl, hA', har, k3⟩
        have hbk3 := k3.blk Hbk2.out (by simp)
        have f8 := hbk3.frozen 8
        have c8 := hbk3.cell 8
        simp only [List.getElem?_cons_succ, List.getElem?_cons_zero] at c8
        obtain ⟨x', hx'⟩ : ∃ x' : RV, x' = { x with bA := A', bc := c' } := ⟨_, rfl⟩
        have hbk4 : Blk (w3.setCell ⟨wr.heap.size, 8, none⟩ (.slice A' x.b.length c')) wr.heap.size [.int .i64 x'.n.th, .int .i64 x'.n.ix, .int .i64 x'.n.inv, .int .i64 x'.n.pt, .int .i64 x'.n.rs, .int .i64 x'.code, .string x'.key, .int .u64 x'.time, .slice x'.bA x'.b.length x'.bc, .int .i64 x'.hd, .int .i64 x'.cu, .int .i64 x'.mo, .int .i64 x'.er, .int .u64 x'.at_, .string x'.ak, .string x'.av] := by rw [hx']; exact hbk3.set 8 _
        have k34 : Keeps [] wr (w3.setCell ⟨wr.heap.size, 8, none⟩ (.slice A' x.b.length c')) := (K2.trans k3 (by simp)).setCell _ _ (.inr (Nat.le_refl _))
        have hl4 := hbk4.load
        have hok : OkN w3 (Value.slice A5 m5 c5).ownBlock.toList x' := by
          rw [hx']
          refine ⟨bb, 0, fun h0 => ⟨(hA' h0).1, fun hm => ?_⟩, har⟩
          have h1 := hpk.row.blk bb (by simpa using hm)
          have h2 := (hA' h0).2
          omega
        have k3s : Keeps [wr.heap.size] w3 (w3.setCell ⟨wr.heap.size, 8, none⟩ (.slice A' x.b.length c')) := (Keeps.refl [wr.heap.size] w3).setCell _ _ (.inl (by simp))
        have hok4 : OkN (w3.setCell ⟨wr.heap.size, 8, none⟩ (.slice A' x.b.length c')) (Value.slice A5 m5 c5).ownBlock.toList x' := by
          have h1 : OkN w3 (wr.heap.size :: (Value.slice A5 m5 c5).ownBlock.toList) x' := by
            rw [hx']
            refine ⟨bb, 0, fun h0 => ⟨(hA' h0).1, fun hm => ?_⟩, har⟩
            have h2 := (hA' h0).2
            rcases List.mem_cons.1 hm with h | hm
            · omega
            · have h1 := hpk.row.blk bb (by simpa using hm)
              omega
          exact (h1.keeps k3s (fun s hs => .inl (by simp at hs; subst hs; simp))).mono (fun s hs => .inl (List.mem_cons_of_mem _ hs))
        have hpk4 := hpk.keeps k34
        have k5 : Keeps [] (w3.setCell ⟨wr.heap.size, 8, none⟩ (.slice A' x.b.length c')) ((w3.setCell ⟨wr.heap.size, 8, none⟩ (.slice A' x.b.length c')).alloc (.cells #[.int .i64 x'.n.th, .int .i64 x'.n.ix, .int .i64 x'.n.inv, .int .i64 x'.n.pt, .int .i64 x'.n.rs, .int .i64 x'.code, .string x'.key, .int .u64 x'.time, .slice x'.bA x'.b.length x'.bc, .int .i64 x'.hd, .int .i64 x'.cu, .int .i64 x'.mo, .int .i64 x'.er, .int .u64 x'.at_, .string x'.ak, .string x'.av] 36)) := (Keeps.refl [] (w3.setCell ⟨wr.heap.size, 8, none⟩ (.slice A' x.b.length c'))).alloc _
        obtain ⟨u', w6, hr, hpk6, k6⟩ := pk_append (hpk4.keeps k5) x' (hok4.keeps k5 (by simp)) (by have := hys.out.2; omega) (Nat.le_trans (kk.trans k34 (by simp)).size k5.size) ⟨w3.heap.size, 0, none⟩ 1 (fun j u hj => by rw [Addr.add_lit]; exact (Blk.new_at (w3.setCell ⟨wr.heap.size, 8, none⟩ (.slice A' x.b.length c')) w3.heap.size [.int .i64 x'.n.th, .int .i64 x'.n.ix, .int .i64 x'.n.inv, .int .i64 x'.n.pt, .int .i64 x'.n.rs, .int .i64 x'.code, .string x'.key, .int .u64 x'.time, .slice x'.bA x'.b.length x'.bc, .int .i64 x'.hd, .int .i64 x'.cu, .int .i64 x'.mo, .int .i64 x'.er, .int .u64 x'.at_, .string x'.ak, .string x'.av] 36 (by simp)).cel j u hj) 22
        have K6 : Keeps [] w w6 := ((kk.trans k34 (by simp)).trans k5 (by simp)).trans k6 (fun s hs => .inr (hpk.ge s (by simpa using hs)))
        have Hx' := Lib.hid hx'
        clear hx' hpk4 k34 hok4 hok hbk4 hbk3 hpk2
        go_wp2_with (first
          | (refine list_load_eq rfl 36 _ rfl _ rfl _ hl4 ?_)
          | (at_builtin; refine list_append_eq rfl _ _ 22 22 rfl _ _ rfl rfl hr ?_))
        refine ⟨⟨k + 1, ys ++ [x'], by omega, by go_num, hpk6, Lib.hid ⟨?_, by rw [List.length_append]; have := hys.out.2; simp; omega⟩, K6⟩, by simp [intOf]; omega⟩
        rw [List.take_add_one, Hx.out, List.filter_append, List.map_append, List.map_append, hys.out.1]
        simp [Hp.out, Hx'.out, strip]
      · have hp' : p x.n = false := by simpa using hp
        have Hp := Lib.hid hp'
        rw [hp']
        clear hp hp' hbk2
        go_wp2_with fail
        refine ⟨⟨k + 1, ys, by omega, by go_num, hpk2, Lib.hid ⟨?_, by have := hys.out.2; omega⟩, kk.trans K2 (by simp)⟩, by simp [intOf]; omega⟩
        rw [List.take_add_one, Hx.out, List.filter_append, hys.out.1]
        simp [Hp.out]
    · obtain rfl : k = n := by omega
      have e := hys.out.1
      rw [List.take_of_length_le (by rw [Hn.out]; omega)] at e
      have He := Lib.hid e
      clear e hys
      go_wp2_with fail
      go_ret
      exact ⟨_, ys, rfl, hpk, He.out, kk⟩
end Go.Proofs.Ytjlgodaiciopaaa
