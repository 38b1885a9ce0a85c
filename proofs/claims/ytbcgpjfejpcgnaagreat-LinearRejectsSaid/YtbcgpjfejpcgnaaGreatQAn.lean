/- Lemmas on the way to LinearRejects. No condition. -/
import Derived.Test.YtbcgpjfejpcgnaaGreatQAa
import Derived.Test.YtbcgpjfejpcgnaaGreatQAc
import Derived.Sort.Grow
import Derived.Shelf.SlSortCmp.Insertion
import Derived.ProofKit
import Derived.OpenShut
import Derived.Carry
import Derived.Below
import Derived.ChangeSame
import Derived.Deep.Slices
set_option linter.unusedSimpArgs false
set_option linter.unusedVariables false
set_option linter.unusedSectionVars false
section
namespace Go.Proofs.YtbcgpjfejpcgnaaGreat
open Go.RowKit
set_option maxRecDepth 100000
set_option linter.unusedSimpArgs false
set_option maxHeartbeats 1000000
theorem prec_any (x y : RV) (w : World) : Calls Tryz.prog 56 #[.agg #[.int .i64 x.n.th, .int .i64 x.n.ix, .int .i64 x.n.inv, .int .i64 x.n.pt, .int .i64 x.n.rs, .int .i64 x.code, .string x.key, .int .u64 x.time, .slice x.bA x.b.length x.bc, .int .i64 x.hd, .int .i64 x.cu, .int .i64 x.mo, .int .i64 x.er, .int .u64 x.at_, .string x.ak, .string x.av], .agg #[.int .i64 y.n.th, .int .i64 y.n.ix, .int .i64 y.n.inv, .int .i64 y.n.pt, .int .i64 y.n.rs, .int .i64 y.code, .string y.key, .int .u64 y.time, .slice y.bA y.b.length y.bc, .int .i64 y.hd, .int .i64 y.cu, .int .i64 y.mo, .int .i64 y.er, .int .u64 y.at_, .string y.ak, .string y.av]] w fun e w' => e = .returned (.bool (prec x.n y.n)) ∧ Keeps [] w w' := by
  have kk := ((Keeps.refl [] w).alloc (.cells #[.int .i64 x.n.th, .int .i64 x.n.ix, .int .i64 x.n.inv, .int .i64 x.n.pt, .int .i64 x.n.rs, .int .i64 x.code, .string x.key, .int .u64 x.time, .slice x.bA x.b.length x.bc, .int .i64 x.hd, .int .i64 x.cu, .int .i64 x.mo, .int .i64 x.er, .int .u64 x.at_, .string x.ak, .string x.av] 34)).alloc (.cells #[.int .i64 y.n.th, .int .i64 y.n.ix, .int .i64 y.n.inv, .int .i64 y.n.pt, .int .i64 y.n.rs, .int .i64 y.code, .string y.key, .int .u64 y.time, .slice y.bA y.b.length y.bc, .int .i64 y.hd, .int .i64 y.cu, .int .i64 y.mo, .int .i64 y.er, .int .u64 y.at_, .string y.ak, .string y.av] 34)
  by_cases h : x.n.rs = -1
  · have h1 : (x.n.rs != -1) = false := by simp [h]
    have hp : prec x.n y.n = false := by simp [prec, h]
    rw [hp]
    clear h hp
    go_enter Tryz.func56, Tryz.ntmps56
    go_wp2
    go_ret
    exact ⟨rfl, kk⟩
  · have h1 : (x.n.rs != -1) = true := by simp [h]
    have hp : prec x.n y.n = decide (x.n.rs < y.n.inv) := by simp [prec, h]
    rw [hp]
    clear h hp
    go_enter Tryz.func56, Tryz.ntmps56
    go_wp2
    go_ret
    exact ⟨rfl, kk⟩
theorem o1_any (x : RV) (w : World) : Calls Tryz.prog 44 #[.agg #[.int .i64 x.n.th, .int .i64 x.n.ix, .int .i64 x.n.inv, .int .i64 x.n.pt, .int .i64 x.n.rs, .int .i64 x.code, .string x.key, .int .u64 x.time, .slice x.bA x.b.length x.bc, .int .i64 x.hd, .int .i64 x.cu, .int .i64 x.mo, .int .i64 x.er, .int .u64 x.at_, .string x.ak, .string x.av]] w fun e w' => e = .returned (.bool (x.n.pt != -1)) ∧ Keeps [] w w' := by
  have kk := ((Keeps.refl [] w).alloc (.cells #[.int .i64 x.n.th, .int .i64 x.n.ix, .int .i64 x.n.inv, .int .i64 x.n.pt, .int .i64 x.n.rs, .int .i64 x.code, .string x.key, .int .u64 x.time, .slice x.bA x.b.length x.bc, .int .i64 x.hd, .int .i64 x.cu, .int .i64 x.mo, .int .i64 x.er, .int .u64 x.at_, .string x.ak, .string x.av] 34))
  go_enter Tryz.func44, Tryz.ntmps44
  go_wp2
  go_ret
  exact ⟨rfl, kk⟩
theorem nan_any (x : Int) (w : World) : Calls Tryz.prog 60 #[.int .i64 x] w fun e w' => e = .returned (.bool false) ∧ w' = w := by
  have h : (x != x) = false := by simp
  go_enter Tryz.func60, Tryz.ntmps60
  go_wp2
  go_ret
  exact ⟨rfl, rfl⟩
def cmpI (x y : Int) : Int := if x < y then -1 else if y < x then 1 else 0
theorem cmp_any (x y : Int) (w : World) : Calls Tryz.prog 47 #[.int .i64 x, .int .i64 y] w fun e w' => e = .returned (.int .i64 (cmpI x y)) ∧ w' = w := by
  by_cases h : x < y
  · have hc : cmpI x y = -1 := if_pos h
    rw [hc]
    go_enter Tryz.func47, Tryz.ntmps47
    go_wp2_with fail
    refine (nan_any _ _).mono ?_
    rintro e w1 ⟨rfl, rfl⟩
    go_wp2_with fail
    refine (nan_any _ _).mono ?_
    rintro e w2 ⟨rfl, rfl⟩
    go_wp2_with fail
    go_ret
    exact ⟨rfl, rfl⟩
  · by_cases h' : y < x
    · have hc : cmpI x y = 1 := by rw [cmpI, if_neg h, if_pos h']
      rw [hc]
      go_enter Tryz.func47, Tryz.ntmps47
      go_wp2_with fail
      refine (nan_any _ _).mono ?_
      rintro e w1 ⟨rfl, rfl⟩
      go_wp2_with fail
      refine (nan_any _ _).mono ?_
      rintro e w2 ⟨rfl, rfl⟩
      go_wp2_with fail
      go_ret
      exact ⟨rfl, rfl⟩
    · have hc : cmpI x y = 0 := by rw [cmpI, if_neg h, if_neg h']
      rw [hc]
      go_enter Tryz.func47, Tryz.ntmps47
      go_wp2_with fail
      refine (nan_any _ _).mono ?_
      rintro e w1 ⟨rfl, rfl⟩
      go_wp2_with fail
      refine (nan_any _ _).mono ?_
      rintro e w2 ⟨rfl, rfl⟩
      go_wp2_with fail
      go_ret
      exact ⟨rfl, rfl⟩
theorem o2_any (x y : RV) (w : World) : Calls Tryz.prog 46 #[.agg #[.int .i64 x.n.th, .int .i64 x.n.ix, .int .i64 x.n.inv, .int .i64 x.n.pt, .int .i64 x.n.rs, .int .i64 x.code, .string x.key, .int .u64 x.time, .slice x.bA x.b.length x.bc, .int .i64 x.hd, .int .i64 x.cu, .int .i64 x.mo, .int .i64 x.er, .int .u64 x.at_, .string x.ak, .string x.av], .agg #[.int .i64 y.n.th, .int .i64 y.n.ix, .int .i64 y.n.inv, .int .i64 y.n.pt, .int .i64 y.n.rs, .int .i64 y.code, .string y.key, .int .u64 y.time, .slice y.bA y.b.length y.bc, .int .i64 y.hd, .int .i64 y.cu, .int .i64 y.mo, .int .i64 y.er, .int .u64 y.at_, .string y.ak, .string y.av]] w fun e w' => e = .returned (.int .i64 (cmpI x.n.pt y.n.pt)) ∧ ∃ os, w' = Go.Sort.grow w os := by
  go_enter Tryz.func46, Tryz.ntmps46
  go_wp2_with fail
  refine (cmp_any _ _ _).mono ?_
  rintro e w1 ⟨rfl, rfl⟩
  go_wp2_with fail
  go_ret
  exact ⟨rfl, _, by rw [Go.Sort.alloc_eq_grow, Go.Sort.alloc_eq_grow, Go.Sort.grow_grow]⟩
def sndB (r : Rec) : Bool := !(decide (r.th < 0) || decide (r.ix < 0) || decide (r.inv < 0) || (r.pt != -1 && decide (r.pt < r.inv))) && (r.rs == -1 || (r.pt != -1 && decide (r.pt ≤ r.rs)))
end Go.Proofs.YtbcgpjfejpcgnaaGreat
end
section
namespace Go.Proofs.YtbcgpjfejpcgnaaGreat
open Go.RowKit
set_option maxRecDepth 100000
set_option maxHeartbeats 1000000
set_option linter.unusedSimpArgs false
theorem infoW : (Tryz.prog.info? 53).map (fun i => (i.zero, i.size, i.bytes)) = some (some (.agg #[.string ⟨#[]⟩, .string ⟨#[]⟩, .bool false]), 3, 40) := by kernel_rfl
theorem infoR : (Tryz.prog.info? 34).map (fun i => (i.zero, i.size, i.bytes)) = some (some (.agg (rC default).toArray), 16, 168) := by kernel_rfl
def CloPost (b : List Wrt) (w : World) (x : Ending) (w' : World) : Prop := ∃ A' cap' bb, x = .returned (.slice A' b.length cap') ∧ (0 < b.length → A' = some ⟨bb, 0, none⟩ ∧ w.heap.size ≤ bb) ∧ Arr w' bb 0 (wCs b) ∧ Keeps [] w w'
theorem clonew_any (b : List Wrt) (hn : b.length * 40 ≤ 140737488355328) (A : Option Addr) (cap : Nat) (w : World) (hv : Lst w (.slice A b.length cap) b.length (wCs b)) :
    Calls Tryz.prog 58 #[.slice A b.length cap] w fun x w' => CloPost b w x w' := by
  obtain ⟨A0, cap0, bb, o, he, hA, har⟩ := hv
  injection he with e1 _ e2
  subst e1; subst e2
  obtain ⟨i0, hi, hz0, hz1, hz2⟩ := info_parts infoW
  have q30 : ∀ (w : World) (a : Option Addr) (n c n' c' : Nat), (binOp .eql 27 (.slice a n c) (.slice none n' c')).run Tryz.prog w = .ok (.bool a.isNone) w := fun w a n c n' c' => Lib.run_eql_slice_nil w _ _ a n c n' c' Tryz.underlying27
  cases A with
  | none =>
    have h0 : b.length = 0 := by
      rcases Nat.eq_zero_or_pos b.length with h | h
      · exact h
      · exact absurd (hA h) (by simp)
    have H0 := Lib.hid h0
    clear h0 hA har
    go_enter Tryz.func58, Tryz.ntmps58
    go_wp2
    go_ret
    exact ⟨none, 0, 0, by rw [H0.out]; rfl, fun h => by have := H0.out; omega, by rw [List.eq_nil_of_length_eq_zero H0.out]; exact Arr.nil _, Keeps.refl _ _⟩
  | some a =>
    have hsrc := Lib.hid (Arr.src hA har (by rw [wCs_length]))
    clear har
    go_enter Tryz.func58, Tryz.ntmps58
    go_wp2_with (at_builtin; refine wpList_append_own _ rfl _ _ 27 rfl w.heap.size 53 i0 _ 3 40 Tryz.underlying27 hi hz0 hz1 hz2 rfl (by decide) _ 0 [] rfl (World.ownsRow_made w #[] 0 (Nat.le_refl _) (Nat.zero_le _) (by simp)) a b.length cap (wCs b) rfl (wCs_length b) ?qc2 (fun u hu => wCs_one' hu) ?qc4 ?qc5 ?qc6 ?_)
    case qc2 => exact fun j u hj => Lib.cell?_alloc_some _ (hsrc.out j u hj)
    case qc4 => unfold maxLen; omega
    intro v' w1 hown hgrow _
    have hlt := World.ownsRow.lt hown
    have hr := Row.of hown
    obtain ⟨A2, c2, bb, o2, h1, h2, h3⟩ := hr.lst
    have hbb : 0 < b.length → o2 = 0 ∧ w.heap.size ≤ bb := fun h0 => by
      obtain ⟨_, ⟨_, h⟩ | ⟨g, cap', rest, h, _⟩⟩ := hr
      · omega
      · have := hlt g (by rw [h]; rfl)
        rw [h1] at h
        injection h with e1 _ _
        rw [h2 h0] at e1
        injection e1 with e1
        injection e1 with e1 e2 _
        exact ⟨e2, by omega⟩
    subst h1
    have harr : Arr w1 bb 0 (wCs b) := by
      rcases Nat.eq_zero_or_pos b.length with h0 | h0
      · have := List.eq_nil_of_length_eq_zero h0
        rw [this]; exact ⟨fun i hi => absurd hi (Nat.not_lt_zero i), fun h => absurd h (Nat.lt_irrefl 0)⟩
      · rw [← (hbb h0).1]; exact h3
    have hA2 : 0 < b.length → A2 = some ⟨bb, 0, none⟩ ∧ w.heap.size ≤ bb := fun h0 => by
      obtain ⟨q1, q2⟩ := hbb h0
      subst q1
      exact ⟨h2 h0, q2⟩
    clear h2 h3 hbb hlt hr
    go_wp2
    go_ret
    exact ⟨_, _, bb, rfl, hA2, harr, ((Keeps.refl [] w).alloc _).trans (Keeps.of_grownBy hgrow [w.heap.size] (by simp [Value.ownBlock])) (by simp)⟩
def OkN (w : World) (N : List Nat) (x : RV) : Prop := ∃ bb o, (0 < x.b.length → x.bA = some ⟨bb, o, none⟩ ∧ bb ∉ N) ∧ Arr w bb o (wCs x.b)
theorem OkN.keeps {w w' : World} {S N : List Nat} {x : RV} (h : OkN w N x) (k : Keeps S w w') (hS : ∀ s ∈ S, s ∈ N ∨ w.heap.size ≤ s) : OkN w' N x := by
  obtain ⟨bb, o, h2, h3⟩ := h
  rcases Nat.eq_zero_or_pos x.b.length with h0 | h0
  · refine ⟨0, 0, fun h => by omega, ?_⟩
    have := List.eq_nil_of_length_eq_zero h0
    rw [this]; exact Arr.nil _
  · exact ⟨bb, o, h2, h3.keeps k (fun hm => by
      rcases hS bb hm with h | h
      · exact (h2 h0).2 h
      · have := h3.lt (by rw [wCs_length]; omega); omega)⟩
theorem OkN.mono {w : World} {N N' : List Nat} {x : RV} (h : OkN w N x) (hN : ∀ s ∈ N', s ∈ N ∨ w.heap.size ≤ s) : OkN w N' x := by
  obtain ⟨bb, o, h2, h3⟩ := h
  refine ⟨bb, o, fun h0 => ⟨(h2 h0).1, fun hm => ?_⟩, h3⟩
  rcases hN bb hm with h | h
  · exact (h2 h0).2 h
  · have := h3.lt (by rw [wCs_length]; omega); omega
def strip (x : RV) : RV := { x with bA := none, bc := 0 }
structure Pk (w : World) (base : Nat) (v : Value) (ys : List RV) : Prop where
  row : Row w v ys.length 16 (rCs ys)
  ok : ∀ y ∈ ys, OkN w v.ownBlock.toList y
  ge : ∀ g, v.ownBlock = some g → base ≤ g
theorem Pk.keeps {w w' : World} {base : Nat} {v : Value} {ys : List RV} (h : Pk w base v ys) (k : Keeps [] w w') : Pk w' base v ys :=
  ⟨h.row.keeps k (by simp), fun y hy => (h.ok y hy).keeps k (by simp), h.ge⟩
theorem Pk.nil (w : World) (base : Nat) : Pk w base (.slice none 0 0) [] := ⟨Row.nil _ _, by simp, fun g hg => by simp [Value.ownBlock] at hg⟩
theorem pk_append {w : World} {base : Nat} {v : Value} {ys : List RV} (h : Pk w base v ys) (x : RV) (hx : OkN w v.ownBlock.toList x) (hn : ys.length < 1000) (hb : base ≤ w.heap.size) (a : Addr) (c : Nat) (hsrc : ∀ (j : Nat) (u : Value), (rC x)[j]? = some u → w.cell? (a.add j) = some u) (ty : TypeId) :
    ∃ v' w', (Builtin.append_ #[25, 25] ty #[v, .slice (some a) 1 c]).run Tryz.prog w = .ok v' w' ∧ Pk w' base v' (ys ++ [x]) ∧ Keeps v.ownBlock.toList w w' := by
  obtain ⟨i0, hi0, hz0, hz1, hz2⟩ := info_parts infoR
  obtain ⟨v', w', hr, r, k, f⟩ := row_append h.row 25 ty 34 i0 _ 168 Tryz.underlying25 hi0 hz0 hz1 hz2 rfl (by decide) a 1 c (rC x) rfl hsrc (rC_one x) (by omega) (by decide)
  refine ⟨v', w', hr, ⟨?_, fun y hy => ?_, fun g hg => ?_⟩, k⟩
  · rw [List.length_append, rCs_append, rCs_one]; exact r
  · have hy' : OkN w v.ownBlock.toList y := by
      rcases List.mem_append.1 hy with hy | hy
      · exact h.ok y hy
      · simp at hy; subst hy; exact hx
    have h1 : OkN w (v.ownBlock.toList ++ v'.ownBlock.toList) y := hy'.mono (fun s hs => by
      rcases List.mem_append.1 hs with hs | hs
      · exact .inl hs
      · rcases f s (by simpa using hs) with h | h
        · exact .inl (by simp [h])
        · exact .inr h)
    exact (h1.keeps k (fun s hs => .inl (List.mem_append_left _ hs))).mono (fun s hs => .inl (List.mem_append_right _ hs))
  · rcases f g hg with h1 | h1
    · exact h.ge g h1
    · omega
theorem pick_any (xs : List RV) (hn : xs.length ≤ 100) (v : Value) (w : World) (hv : Lst w v xs.length (rCs xs)) (hb : ∀ x ∈ xs, OkB w x ∧ x.b.length * 40 ≤ 140737488355328)
    (p : Rec → Bool) (G : Nat) (caps : Array Value) (eg : ∀ args w, (callFunc G args).run Tryz.prog w = .ok (.enter G args) w)
    (hp : ∀ (x : RV) (w1 : World), Keeps [] w w1 → Calls Tryz.prog G (#[.agg #[.int .i64 x.n.th, .int .i64 x.n.ix, .int .i64 x.n.inv, .int .i64 x.n.pt, .int .i64 x.n.rs, .int .i64 x.code, .string x.key, .int .u64 x.time, .slice x.bA x.b.length x.bc, .int .i64 x.hd, .int .i64 x.cu, .int .i64 x.mo, .int .i64 x.er, .int .u64 x.at_, .string x.ak, .string x.av]] ++ caps) w1 fun e w' => e = .returned (.bool (p x.n)) ∧ Keeps [] w1 w') :
    Calls Tryz.prog 43 #[v, .func (.func G) #[] caps] w fun e w' => ∃ u ys, e = .returned u ∧ Pk w' w.heap.size u ys ∧ ys.map strip = (xs.filter (fun x => p x.n)).map strip ∧ Keeps [] w w' := by
  have HV := Lib.hid hv
  have HB := Lib.hid hb
  have HP := Lib.hid hp
  obtain ⟨n, hn'⟩ : ∃ n, xs.length = n := ⟨_, rfl⟩
  obtain ⟨A, cap, b, o, rfl, _, _⟩ := hv
  rw [hn'] at hn HV ⊢
  have Hn := Lib.hid hn'
  clear hb hp hn'
  go_enter Tryz.func43, Tryz.ntmps43
  go_wp2_with fail
  go_loopw [5, 10] (fun u i wr => ∃ (k : Nat) (ys : List RV), k ≤ n ∧ i = .int .i64 k ∧ Pk wr w.heap.size u ys ∧ Hid (ys.map strip = ((xs.take k).filter (fun x => p x.n)).map strip ∧ ys.length ≤ k) ∧ Keeps [] w wr) (fun _ i _ => n - (intOf i).toNat)
  case atStart => exact ⟨0, [], by omega, rfl, Pk.nil _ _, Lib.hid (by simp), Keeps.refl _ _⟩
  case round =>
    obtain ⟨k, ys, hk, rfl, hpk, hys, kk⟩ := hrel
    obtain ⟨A5, c5, h5⟩ := hpk.row.len
    obtain ⟨m5, hm5⟩ : ∃ m5, ys.length = m5 := ⟨_, rfl⟩
    rw [hm5] at h5
    subst h5
    have Hm5 := Lib.hid hm5
    clear hm5
    by_cases hlt : k < n
    · obtain ⟨x, hx⟩ : ∃ x, xs[k]? = some x := ⟨_, List.getElem?_eq_getElem (by rw [Hn.out]; exact hlt)⟩
      obtain ⟨g, o', rfl, hc, hg⟩ := (HV.out.keeps kk).atS Hn.out hx
      have hl0 := hc.load
      have hst := store_new wr x
      have hbk := new_rec wr x
      have hl1 := hbk.load
      have kn : Keeps [] wr (wr.alloc (.cells #[.int .i64 x.n.th, .int .i64 x.n.ix, .int .i64 x.n.inv, .int .i64 x.n.pt, .int .i64 x.n.rs, .int .i64 x.code, .string x.key, .int .u64 x.time, .slice x.bA x.b.length x.bc, .int .i64 x.hd, .int .i64 x.cu, .int .i64 x.mo, .int .i64 x.er, .int .u64 x.at_, .string x.ak, .string x.av] 34)) := (Keeps.refl [] wr).alloc _
      have hkn : (k : Int) < (n : Int) := by omega
      have Hx := Lib.hid hx
      have Hc := Lib.hid hc
      clear hx hc
      go_wp2_with (first
        | (refine list_load_eq rfl 34 _ rfl _ rfl _ hl0 ?_)
        | (refine list_store_eq rfl 34 _ _ rfl _ rfl _ rfl (hst _ rfl) ?_)
        | (refine list_load_eq rfl 34 _ rfl _ rfl _ hl1 ?_))
      refine (HP.out x _ (kk.trans kn (by simp))).mono ?_
      rintro e w2 ⟨rfl, k2⟩
      have K2 := kn.trans k2 (by simp)
      have hpk2 := hpk.keeps K2
      have hbk2 := k2.blk hbk (by simp)
      have hgs : wr.heap.size < w2.heap.size := hbk2.lt
      have c8 := hbk2.cell 8
      have f8 := hbk2.frozen 8
      simp only [List.getElem?_cons_succ, List.getElem?_cons_zero] at c8
      clear hl0 hst hl1 hbk
      by_cases hp : p x.n = true
      · have hB := HB.out x (List.mem_of_getElem? Hx.out)
        have hclo := clonew_any x.b hB.2 x.bA x.bc w2 ((hB.1.keeps kk).keeps K2)
        have Hp := Lib.hid hp
        have Hbk2 := Lib.hid hbk2
        rw [hp]
        clear hp hB hbk2
        go_wp2_with fail
        refine hclo.mono ?_
        rintro e w3 ⟨A', c', bb, rfl, hA', har, k3⟩
        have hbk3 := k3.blk Hbk2.out (by simp)
        have f8 := hbk3.frozen 8
        have c8 := hbk3.cell 8
        simp only [List.getElem?_cons_succ, List.getElem?_cons_zero] at c8
        obtain ⟨x', hx'⟩ : ∃ x' : RV, x' = { x with bA := A', bc := c' } := ⟨_, rfl⟩
        have hbk4 : Blk (w3.setCell ⟨wr.heap.size, 8, none⟩ (.slice A' x.b.length c')) wr.heap.size [.int .i64 x'.n.th, .int .i64 x'.n.ix, .int .i64 x'.n.inv, .int .i64 x'.n.pt, .int .i64 x'.n.rs, .int .i64 x'.code, .string x'.key, .int .u64 x'.time, .slice x'.bA x'.b.length x'.bc, .int .i64 x'.hd, .int .i64 x'.cu, .int .i64 x'.mo, .int .i64 x'.er, .int .u64 x'.at_, .string x'.ak, .string x'.av] := by rw [hx']; exact hbk3.set 8 _
        have k34 : Keeps [] wr (w3.setCell ⟨wr.heap.size, 8, none⟩ (.slice A' x.b.length c')) := (K2.trans k3 (by simp)).setCell _ _ (.inr (Nat.le_refl _))
        have hl4 := hbk4.load
        have hok : OkN w3 (Value.slice A5 m5 c5).ownBlock.toList x' := by
          rw [hx']
          refine ⟨bb, 0, fun h0 => ⟨(hA' h0).1, fun hm => ?_⟩, har⟩
          have h1 := hpk.row.blk bb (by simpa using hm)
          have h2 := (hA' h0).2
          omega
        have k3s : Keeps [wr.heap.size] w3 (w3.setCell ⟨wr.heap.size, 8, none⟩ (.slice A' x.b.length c')) := (Keeps.refl [wr.heap.size] w3).setCell _ _ (.inl (by simp))
        have hok4 : OkN (w3.setCell ⟨wr.heap.size, 8, none⟩ (.slice A' x.b.length c')) (Value.slice A5 m5 c5).ownBlock.toList x' := by
          have h1 : OkN w3 (wr.heap.size :: (Value.slice A5 m5 c5).ownBlock.toList) x' := by
            rw [hx']
            refine ⟨bb, 0, fun h0 => ⟨(hA' h0).1, fun hm => ?_⟩, har⟩
            have h2 := (hA' h0).2
            rcases List.mem_cons.1 hm with h | hm
            · omega
            · have h1 := hpk.row.blk bb (by simpa using hm)
              omega
          exact (h1.keeps k3s (fun s hs => .inl (by simp at hs; subst hs; simp))).mono (fun s hs => .inl (List.mem_cons_of_mem _ hs))
        have hpk4 := hpk.keeps k34
        have k5 : Keeps [] (w3.setCell ⟨wr.heap.size, 8, none⟩ (.slice A' x.b.length c')) ((w3.setCell ⟨wr.heap.size, 8, none⟩ (.slice A' x.b.length c')).alloc (.cells #[.int .i64 x'.n.th, .int .i64 x'.n.ix, .int .i64 x'.n.inv, .int .i64 x'.n.pt, .int .i64 x'.n.rs, .int .i64 x'.code, .string x'.key, .int .u64 x'.time, .slice x'.bA x'.b.length x'.bc, .int .i64 x'.hd, .int .i64 x'.cu, .int .i64 x'.mo, .int .i64 x'.er, .int .u64 x'.at_, .string x'.ak, .string x'.av] 34)) := (Keeps.refl [] (w3.setCell ⟨wr.heap.size, 8, none⟩ (.slice A' x.b.length c'))).alloc _
        obtain ⟨u', w6, hr, hpk6, k6⟩ := pk_append (hpk4.keeps k5) x' (hok4.keeps k5 (by simp)) (by have := hys.out.2; omega) (Nat.le_trans (kk.trans k34 (by simp)).size k5.size) ⟨w3.heap.size, 0, none⟩ 1 (fun j u hj => by rw [Addr.add_lit]; exact (Blk.new_at (w3.setCell ⟨wr.heap.size, 8, none⟩ (.slice A' x.b.length c')) w3.heap.size [.int .i64 x'.n.th, .int .i64 x'.n.ix, .int .i64 x'.n.inv, .int .i64 x'.n.pt, .int .i64 x'.n.rs, .int .i64 x'.code, .string x'.key, .int .u64 x'.time, .slice x'.bA x'.b.length x'.bc, .int .i64 x'.hd, .int .i64 x'.cu, .int .i64 x'.mo, .int .i64 x'.er, .int .u64 x'.at_, .string x'.ak, .string x'.av] 34 (by simp)).cel j u hj) 25
        have K6 : Keeps [] w w6 := ((kk.trans k34 (by simp)).trans k5 (by simp)).trans k6 (fun s hs => .inr (hpk.ge s (by simpa using hs)))
        have Hx' := Lib.hid hx'
        clear hx' hpk4 k34 hok4 hok hbk4 hbk3 hpk2
        go_wp2_with (first
          | (refine list_load_eq rfl 34 _ rfl _ rfl _ hl4 ?_)
          | (at_builtin; refine list_append_eq rfl _ _ 25 25 rfl _ _ rfl rfl hr ?_))
        refine ⟨⟨k + 1, ys ++ [x'], by omega, by go_num, hpk6, Lib.hid ⟨?_, by rw [List.length_append]; have := hys.out.2; simp; omega⟩, K6⟩, by simp [intOf]; omega⟩
        rw [List.take_add_one, Hx.out, List.filter_append, List.map_append, List.map_append, hys.out.1]
        simp [Hp.out, Hx'.out, strip]
      · have hp' : p x.n = false := by simpa using hp
        have Hp := Lib.hid hp'
        rw [hp']
        clear hp hp' hbk2
        go_wp2_with fail
        refine ⟨⟨k + 1, ys, by omega, by go_num, hpk2, Lib.hid ⟨?_, by have := hys.out.2; omega⟩, kk.trans K2 (by simp)⟩, by simp [intOf]; omega⟩
        rw [List.take_add_one, Hx.out, List.filter_append, hys.out.1]
        simp [Hp.out]
    · obtain rfl : k = n := by omega
      have e := hys.out.1
      rw [List.take_of_length_le (by rw [Hn.out]; omega)] at e
      have He := Lib.hid e
      clear e hys
      go_wp2_with fail
      go_ret
      exact ⟨_, ys, rfl, hpk, He.out, kk⟩
end Go.Proofs.YtbcgpjfejpcgnaaGreat
end
section
namespace Go.Proofs.YtbcgpjfejpcgnaaGreat
open Go.RowKit
set_option maxRecDepth 100000
set_option maxHeartbeats 1000000
def OkL (w : World) (xs : List RV) : Prop := ∀ x ∈ xs, OkB w x ∧ x.b.length * 40 ≤ 140737488355328
theorem OkL.keeps {w w' : World} {xs : List RV} (h : OkL w xs) (k : Keeps [] w w') : OkL w' xs := fun x hx => ⟨(h x hx).1.keeps k, (h x hx).2⟩
end Go.Proofs.YtbcgpjfejpcgnaaGreat
end
section
namespace Go.Proofs.YtbcgpjfejpcgnaaGreat
open Go.RowKit
structure C3 where
  N : Int
  K : ByteArray
  M : Int
def C3.zero : C3 := ⟨0, ⟨#[]⟩, 0⟩
def C3.vs (x : C3) : List Value := [.int .u64 x.N, .string x.K, .int .u64 x.M]
def flat : List C3 → List Value
  | [] => []
  | x :: l => .int .u64 x.N :: .string x.K :: .int .u64 x.M :: flat l
theorem flat_get (L : List C3) (r : List Value) : ∀ (i : Nat) (x : C3), L[i]? = some x →
    (flat L ++ r)[i * 3]? = some (.int .u64 x.N) ∧ (flat L ++ r)[i * 3 + 1]? = some (.string x.K) ∧ (flat L ++ r)[i * 3 + 2]? = some (.int .u64 x.M) := by
  induction L with
  | nil => intro i x h; simp at h
  | cons y l ih =>
    intro i x h
    cases i with
    | zero => simp at h; subst h; simp [flat]
    | succ i =>
      have := ih i x (by simpa using h)
      have e : (i + 1) * 3 = i * 3 + 3 := by omega
      have e1 : (i + 1) * 3 + 1 = i * 3 + 1 + 3 := by omega
      have e2 : (i + 1) * 3 + 2 = i * 3 + 2 + 3 := by omega
      rw [e1, e2, e]
      simpa [flat] using this
theorem flat_set (x : C3) : ∀ (L : List C3) (i : Nat) (r : List Value), i < L.length →
    (((flat L ++ r).set (i * 3) (.int .u64 x.N)).set (i * 3 + 1) (.string x.K)).set (i * 3 + 2) (.int .u64 x.M) = flat (L.set i x) ++ r := by
  intro L
  induction L with
  | nil => intro i r h; simp at h
  | cons y l ih =>
    intro i r h
    cases i with
    | zero => simp [flat]
    | succ i =>
      have := ih i r (by simpa using h)
      have e : (i + 1) * 3 = i * 3 + 3 := by omega
      have e1 : (i + 1) * 3 + 1 = i * 3 + 1 + 3 := by omega
      have e2 : (i + 1) * 3 + 2 = i * 3 + 2 + 3 := by omega
      rw [e1, e2, e]
      simpa [flat] using this
structure MemAt (w : World) (m c : Nat) (L : List C3) (n : Int) : Prop where
  head : ∃ cap, Blk w m [.slice (some ⟨c, 0, none⟩) L.length cap, .int .u64 n]
  cells : ∃ rest, Blk w c (flat L ++ rest)
  ne : m ≠ c
  small : L.length ≤ 1048576
  pos : 1 ≤ L.length
theorem MemAt.lt {w : World} {m c : Nat} {L : List C3} {n : Int} (h : MemAt w m c L n) : m < w.heap.size ∧ c < w.heap.size := by
  obtain ⟨cap, h1⟩ := h.head
  obtain ⟨r, h2⟩ := h.cells
  exact ⟨h1.lt, h2.lt⟩
theorem MemAt.of_same {w w' : World} {m c : Nat} {L : List C3} {n : Int} (h : MemAt w m c L n) (hm : w'.heap[m]? = w.heap[m]?) (hc : w'.heap[c]? = w.heap[c]?) : MemAt w' m c L n :=
  ⟨h.head.imp fun _ h => h.of_same hm, h.cells.imp fun _ h => h.of_same hc, h.ne, h.small, h.pos⟩
theorem MemAt.keeps {w w' : World} {m c : Nat} {L : List C3} {n : Int} (h : MemAt w m c L n) {S : List Nat} (k : Keeps S w w') (hm : m ∉ S) (hc : c ∉ S) : MemAt w' m c L n :=
  h.of_same (k.block m h.lt.1 hm) (k.block c h.lt.2 hc)
theorem MemAt.drew {w : World} {m c : Nat} {L : List C3} {n : Int} (h : MemAt w m c L n) : MemAt w.drew m c L n := ⟨h.head, h.cells, h.ne, h.small, h.pos⟩
theorem MemAt.drewN {w : World} {m c : Nat} {L : List C3} {n : Int} (h : MemAt w m c L n) (k : Nat) : MemAt (w.drewN k) m c L n := ⟨h.head, h.cells, h.ne, h.small, h.pos⟩
theorem MemAt.alloc {w : World} {m c : Nat} {L : List C3} {n : Int} (h : MemAt w m c L n) (o : Obj) : MemAt (w.alloc o) m c L n :=
  h.of_same (Below.heap_alloc w o m h.lt.1) (Below.heap_alloc w o c h.lt.2)
theorem MemAt.other {w : World} {m c : Nat} {L : List C3} {n : Int} (h : MemAt w m c L n) (a : Addr) (v : Value) (hm : m ≠ a.block) (hc : c ≠ a.block) : MemAt (w.setCell a v) m c L n :=
  h.of_same (heap_setCell_other w a m v hm) (heap_setCell_other w a c v hc)
theorem MemAt.put {w : World} {m c : Nat} {L : List C3} {n : Int} (h : MemAt w m c L n) (i : Nat) (hi : i < L.length) (N M : Int) (K : ByteArray) :
    MemAt (((w.setCell ⟨c, i * 3, none⟩ (.int .u64 N)).setCell ⟨c, i * 3 + 1, none⟩ (.string K)).setCell ⟨c, i * 3 + 2, none⟩ (.int .u64 M)) m c (L.set i ⟨N, K, M⟩) n := by
  obtain ⟨cap, h1⟩ := h.head
  obtain ⟨r, h2⟩ := h.cells
  refine ⟨⟨cap, ?_⟩, ⟨r, ?_⟩, h.ne, by simpa using h.small, by simpa using h.pos⟩
  · rw [List.length_set]
    exact ((h1.other _ _ h.ne).other _ _ h.ne).other _ _ h.ne
  · have := ((h2.set (i * 3) (.int .u64 N)).set (i * 3 + 1) (.string K)).set (i * 3 + 2) (.int .u64 M)
    rwa [flat_set ⟨N, K, M⟩ L i r hi] at this
theorem MemAt.at_ {w : World} {m c : Nat} {L : List C3} {n : Int} (h : MemAt w m c L n) (i : Nat) (x : C3) (hx : L[i]? = some x) :
    w.cell? ⟨c, i * 3, none⟩ = some (.int .u64 x.N) ∧ w.cell? ⟨c, i * 3 + 1, none⟩ = some (.string x.K) ∧ w.cell? ⟨c, i * 3 + 2, none⟩ = some (.int .u64 x.M) := by
  obtain ⟨r, h2⟩ := h.cells
  rw [h2.cell, h2.cell, h2.cell]
  exact flat_get L r i x hx
end Go.Proofs.YtbcgpjfejpcgnaaGreat
end
section
namespace Go.Proofs.YtbcgpjfejpcgnaaGreat
open Go.ChangeShapes Go.WideShapes Go.ChangeAt Go.RowKit
theorem all_stay {H : Type} {enc : TypeId × Value → H} {P : Program} (hl : laidOutB P = true) {W W' : World} (hb : Below W.heap.size W W') {sp : Nat → Bool} :
    ∀ (ts : List TypeId) (vs : List Value) (ds : List (DataW H)) (ps : List MemPlace), (∀ t ∈ ts, P.readableRec t = true ∧ t < P.types.size) →
      DataW.TrodAll enc P W 0 (fun _ => true) true ts vs ds ps → (∀ p ∈ ps, p.block < W.heap.size) → (∀ p ∈ ps, sp p.block = true) → DataW.TrodAll enc P W' 0 sp true ts vs ds ps
  | [], vs, ds, ps, _, h, _, _ => by
    obtain ⟨rfl, rfl, rfl⟩ := trodAll_nil h
    exact trodAll_mk0
  | t :: ts, vs, ds, ps, hr, h, hlt, hs => by
    obtain ⟨v, vs', d, ds', p, q, rfl, rfl, rfl, h1, h2⟩ := trodAll_cons h
    refine trodAll_cons_mk (WideElems.Trod_stays hl (hr t (by simp)).1 (hr t (by simp)).2 h1 (fun x hx => hb.same (hlt x (by simp [hx]))) (fun x hx => hs x (by simp [hx]))) ?_
    exact all_stay hl hb ts vs' ds' q (fun u hu => hr u (by simp [hu])) h2 (fun x hx => hlt x (by simp [hx])) (fun x hx => hs x (by simp [hx]))
theorem law_post {H : Type} {enc : TypeId × Value → H} {P : Program} {f : Func} {s : ChangeSpec} {apart fresh handsOn again : Bool} {W W' : World} {args : Array Value} {ds : List (DataW H)} {before : List MemPlace} {tb : TypeId}
    (hW : DataW.Whole enc P f.params.toList s.vars apart W args.toList ds [] before) (hvars : s.vars = [])
    (hfn : s.fn H (ds ++ []) = { results := [.lit (.bool true)], args := ds })
    (hl : laidOutB P = true) (hr : ∀ t ∈ f.params.toList, P.readableRec t = true ∧ t < P.types.size)
    (hres : f.resultTypes = #[tb]) (htb : P.underlying tb = some .bool)
    (hb : Below W.heap.size W W') : s.post enc P f apart fresh handsOn again W args (.bool true) W' := by
  have hlt : ∀ p ∈ before, p.block < W.heap.size := fun p hp => hW.lt p hp
  have hold : ∀ p ∈ before, (fun b => decide (b < W.heap.size)) p.block = true := fun p hp => by simpa using hlt p hp
  have hW' := hW
  obtain ⟨p, q, hA, hV, hpq, hz, hn⟩ := hW'
  have hq : q = [] := by
    rw [hvars] at hV
    exact (trodVars_none hV).2
  subst hq
  simp only [List.append_nil] at hpq
  subst hpq
  have hA2 : ∀ sp : Nat → Bool, (∀ p ∈ before, sp p.block = true) → DataW.TrodAll enc P W' 0 sp true f.params.toList args.toList ds before := fun sp hs =>
    all_stay hl hb _ _ _ _ hr hA hlt hs
  have hR : ∀ (b : Nat) (sp : Nat → Bool) (hd : Bool), DataW.TrodAll enc P W' b sp hd f.resultTypes.toList ((Value.bool true).resultList f.resultTypes.size) [.lit (.bool true)] [] := fun b sp hd => by
    rw [hres]
    exact trodAll_cons_mk (shut_bool htb true) trodAll_mk0
  have hargs : ∀ sp : Nat → Bool, (∀ p ∈ before, sp p.block = true) → DataW.TrodAll enc P W' 0 sp true f.params.toList args.toList (s.fn H (ds ++ [])).args before := by
    rw [hfn]; exact hA2
  have hRr : ∀ (b : Nat) (sp : Nat → Bool) (hd : Bool), DataW.TrodAll enc P W' b sp hd f.resultTypes.toList ((Value.bool true).resultList f.resultTypes.size) (s.fn H (ds ++ [])).results [] := by
    rw [hfn]; exact hR
  have hVr : ∀ sp : Nat → Bool, DataW.TrodVars enc P W' sp s.vars (s.fn H (ds ++ [])).vars [] := fun sp => by
    rw [hfn, hvars]; exact rfl
  refine ⟨ds, [], before, [], before, [], hW, hRr _ _ _, hargs _ hold, hVr _, World.keptBut_mono (fun p hp => ⟨hp, .inr (.inl hp)⟩) (hb.frame (· ∈ before)), fun _ => ?_⟩
  refine ⟨?_, _, _, ([] ++ before) ++ [], ⟨[] ++ before, [], trodAll_append (hargs _ (fun _ _ => rfl)) (hRr _ _ _), hVr _, rfl, ?_, ?_⟩, ?_⟩
  · exact ok_one hres rfl (okWide_bool_mk htb true)
  · intro b off hp
    simp only [List.nil_append, List.append_nil] at hp
    rw [hb.frozen (p := ⟨b, off, none⟩) (hlt (.cell b off) hp)]
    exact hz b off hp
  · intro ha
    have := hn ha
    simpa using this
  · intro p hp _
    simpa using hp
theorem open_rows {H : Type} {enc : TypeId × Value → H} {P : Program} {w : World} {r : Reach} {b0 : Nat} {t e : TypeId} {v : Value} {d : DataW H} {p : List MemPlace} (sz : Nat) (hsz : 0 < sz) (R : List Value → Prop)
    (ht : P.underlying t = some (.slice e)) (hc : P.cellsOf e = sz)
    (hR : ∀ (fuel : Nat) (cs : List Value) (x : DataW H × List MemPlace), DataW.trod enc P w 0 (fun _ => true) true fuel e cs = some x → R cs)
    (hv : Value.okWide P w r b0 t v) (h : DataW.Trod enc P w 0 (fun _ => true) true t v d p) :
    ∃ (A : Option Addr) (cap b o : Nat) (rows : List (List Value)), v = .slice A rows.length cap ∧ (0 < rows.length → A = some ⟨b, o, none⟩) ∧ Arr w b o rows.flatten ∧ rows.length ≤ 9223372036854775807 ∧
      ∀ x, x ∈ rows → x.length = sz ∧ R x := by
  obtain ⟨a0, len, cap, rfl⟩ := okWide_slice ht hv
  obtain ⟨fuel, hf⟩ := h
  rcases Go.Deep.open_slice ht hf with ⟨hcs, _⟩ | ⟨a, len', cap', m, n, D, Pl, hcs, _, hl, hm, hmm, _, hel⟩
  · simp [Value.cells] at hcs
    obtain ⟨rfl, rfl, rfl⟩ := hcs
    exact ⟨none, 0, 0, 0, [], rfl, fun h => by simp at h, ⟨fun i hi => absurd hi (Nat.not_lt_zero i), fun h => absurd h (Nat.lt_irrefl 0)⟩, Nat.zero_le _, by simp⟩
  · simp [Value.cells] at hcs
    obtain ⟨rfl, rfl, rfl⟩ := hcs
    simp only [if_true] at hmm
    subst hmm
    rw [hc] at hel
    unfold maxLen at hm
    by_cases h0 : 0 < len
    · have hget : ∀ i, i < len → ∃ cs', w.cells? 0 (a.add (i * sz)) sz = some cs' ∧ R cs' := fun i hi => by
        obtain ⟨cs', h1, h2⟩ := hel i (by omega)
        exact ⟨cs', h1, hR _ _ _ h2⟩
      obtain ⟨f, hf'⟩ : ∃ f : Nat → List Value, ∀ i, i < len → w.cells? 0 (a.add (i * sz)) sz = some (f i) ∧ R (f i) := by
        refine ⟨fun i => if h : i < len then (hget i h).choose else [], fun i hi => ?_⟩
        simp only [hi, dif_pos]
        exact (hget i hi).choose_spec
      have hlen : ∀ i, i < len → (f i).length = sz := fun i hi => (World.cells?_some (hf' i hi).1).2.1
      have hcell : ∀ i, i < len → ∀ j, j < sz → w.cell? (a.add (i * sz + j)) = (f i)[j]? := fun i hi j hj => by
        have := (World.cells?_some (hf' i hi).1).2.2 j hj
        rwa [Go.Deep.add_add] at this
      obtain ⟨b, off, spot⟩ := a
      have hfirst := hcell 0 h0 0 hsz
      have hsome : w.cell? ⟨b, off, spot⟩ = some ((f 0)[0]'(by rw [hlen 0 h0]; exact hsz)) := by
        rw [List.getElem?_eq_getElem (by rw [hlen 0 h0]; exact hsz)] at hfirst
        simpa [Addr.add] using hfirst
      obtain rfl : spot = none := World.cell?_spot hsome
      have hrl : ((List.range len).map f).length = len := by simp
      have hflen : ∀ k, k ≤ len → ((List.range k).map f).flatten.length = k * sz := by
        intro k
        induction k with
        | zero => simp
        | succ k ih =>
          intro hk
          rw [List.range_succ, List.map_append, List.flatten_append, List.length_append, ih (by omega)]
          simp [hlen k (by omega), Nat.succ_mul]
      have hget2 : ∀ k, k ≤ len → ∀ i, i < k * sz → ((List.range k).map f).flatten[i]? = (f (i / sz))[i % sz]? := by
        intro k
        induction k with
        | zero => intro _ i hi; simp at hi
        | succ k ih =>
          intro hk i hi
          rw [List.range_succ, List.map_append, List.flatten_append]
          by_cases hik : i < k * sz
          · rw [List.getElem?_append_left (by rw [hflen k (by omega)]; exact hik)]
            exact ih (by omega) i hik
          · rw [List.getElem?_append_right (by rw [hflen k (by omega)]; omega), hflen k (by omega)]
            rw [Nat.succ_mul] at hi
            have e1 : i / sz = k := by
              rw [Nat.div_eq_iff hsz]
              omega
            have e2 : i % sz = i - k * sz := by
              have := Nat.div_add_mod i sz
              rw [e1, Nat.mul_comm] at this
              omega
            rw [e1, e2]
            simp
      refine ⟨_, _, b, off, (List.range len).map f, by rw [hrl], fun _ => rfl, ⟨fun i hi => ?_, fun _ => World.block_lt_of_cell? (w := w) (a := ⟨b, off, none⟩) hsome⟩, by rw [hrl]; omega, ?_⟩
      · rw [hflen len (Nat.le_refl _)] at hi
        rw [hget2 len (Nat.le_refl _) i hi]
        have hd : i / sz < len := by rw [Nat.div_lt_iff_lt_mul hsz]; exact hi
        rw [← hcell (i / sz) hd (i % sz) (Nat.mod_lt _ hsz), ← Go.WideShapes.add_plain]
        have : i / sz * sz + i % sz = i := by rw [Nat.mul_comm]; exact Nat.div_add_mod i sz
        rw [this]
      · intro x hx
        simp only [List.mem_map, List.mem_range] at hx
        obtain ⟨i, hi, rfl⟩ := hx
        exact ⟨hlen i hi, (hf' i hi).2⟩
    · obtain rfl : len = 0 := by omega
      exact ⟨some a, _, 0, 0, [], rfl, fun h => by simp at h, ⟨fun i hi => absurd hi (Nat.not_lt_zero i), fun h => absurd h (Nat.lt_irrefl 0)⟩, Nat.zero_le _, by simp⟩
theorem rows_map {α : Type} (f : α → List Value) (G : α → Prop) : ∀ (rows : List (List Value)), (∀ x, x ∈ rows → ∃ a, x = f a ∧ G a) → ∃ l : List α, rows = l.map f ∧ ∀ a, a ∈ l → G a
  | [], _ => ⟨[], rfl, by simp⟩
  | x :: rows, h => by
    obtain ⟨a, rfl, ha⟩ := h x (by simp)
    obtain ⟨l, rfl, hl⟩ := rows_map f G rows (fun y hy => h y (by simp [hy]))
    exact ⟨a :: l, rfl, by simpa using ⟨ha, hl⟩⟩
end Go.Proofs.YtbcgpjfejpcgnaaGreat
end
section
namespace Go.Proofs.YtbcgpjfejpcgnaaGreat
open Go.RowKit
set_option maxRecDepth 100000
set_option maxHeartbeats 1000000
theorem recs_at {xs : List RV} {k : Nat} {x : RV} (h : xs[k]? = some x) : (xs.map (·.n))[k]? = some x.n := by rw [List.getElem?_map, h]; rfl
end Go.Proofs.YtbcgpjfejpcgnaaGreat
end
