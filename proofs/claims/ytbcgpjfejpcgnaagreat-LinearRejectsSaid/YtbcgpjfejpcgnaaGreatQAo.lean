/- Lemmas on the way to LinearRejects. No condition. -/
import Derived.Test.YtbcgpjfejpcgnaaGreatQAn
import Derived.Maps.OwnOps
import Derived.Maps.OwnSet
import Derived.Test.YtbcgpjfejpcgnaaGreatProg
import Derived.Deep.QuietTactic
import Derived.BigQuiet
import Derived.Deep.RegionWith
set_option linter.unusedSimpArgs false
set_option linter.unusedVariables false
set_option linter.unusedSectionVars false
section
namespace Go.Proofs.YtbcgpjfejpcgnaaGreat
open Go.RowKit Go.Maps
set_option maxRecDepth 100000
set_option linter.unusedSimpArgs false
set_option maxHeartbeats 1000000
theorem sndg_any (x : RV) (w : World) : Calls Tryz.prog 55 #[.agg #[.int .i64 x.n.th, .int .i64 x.n.ix, .int .i64 x.n.inv, .int .i64 x.n.pt, .int .i64 x.n.rs, .int .i64 x.code, .string x.key, .int .u64 x.time, .slice x.bA x.b.length x.bc, .int .i64 x.hd, .int .i64 x.cu, .int .i64 x.mo, .int .i64 x.er, .int .u64 x.at_, .string x.ak, .string x.av]] w fun e w' => e = .returned (.bool (sndB x.n)) ∧ ∃ os, w' = Go.Sort.grow w os := by
  obtain ⟨⟨th, ix, inv, pt, rs⟩, c1, c2, c3, c4, c5, c6, c7, c8, c9, c10, c11, c12, c13⟩ := x
  simp only
  have end1 : ∀ b, sndB ⟨th, ix, inv, pt, rs⟩ = b → (∀ (e : Ending) w', (e = .returned (.bool b) ∧ ∃ os, w' = Go.Sort.grow w os) → e = .returned (.bool (sndB ⟨th, ix, inv, pt, rs⟩)) ∧ ∃ os, w' = Go.Sort.grow w os) := fun b hb e w' h => by rw [hb]; exact h
  by_cases h1 : th < 0
  · refine (Calls.mono (P := Tryz.prog) ?_ (end1 false (by simp [sndB, h1])))
    clear end1
    go_enter Tryz.func55, Tryz.ntmps55
    go_wp2
    go_ret
    exact ⟨rfl, _, Go.Sort.alloc_eq_grow _ _⟩
  · have h1' : decide (th < 0) = false := decide_eq_false h1
    by_cases h2 : ix < 0
    · refine (Calls.mono (P := Tryz.prog) ?_ (end1 false (by simp [sndB, h2])))
      clear end1
      go_enter Tryz.func55, Tryz.ntmps55
      go_wp2
      go_ret
      exact ⟨rfl, _, Go.Sort.alloc_eq_grow _ _⟩
    · have h2' : decide (ix < 0) = false := decide_eq_false h2
      by_cases h3 : inv < 0
      · refine (Calls.mono (P := Tryz.prog) ?_ (end1 false (by simp [sndB, h3])))
        clear end1
        go_enter Tryz.func55, Tryz.ntmps55
        go_wp2
        go_ret
        exact ⟨rfl, _, Go.Sort.alloc_eq_grow _ _⟩
      · have h3' : decide (inv < 0) = false := decide_eq_false h3
        by_cases h4 : pt = -1
        · subst h4
          refine (Calls.mono (P := Tryz.prog) ?_ (end1 (rs == -1) (by simp [sndB, h1, h2, h3])))
          clear end1
          by_cases h5 : rs = -1
          · subst h5
            go_enter Tryz.func55, Tryz.ntmps55
            go_wp2
            go_ret
            exact ⟨rfl, _, Go.Sort.alloc_eq_grow _ _⟩
          · have h5' : (rs == -1) = false := by simp [h5]
            rw [h5']
            go_enter Tryz.func55, Tryz.ntmps55
            go_wp2
            go_ret
            exact ⟨rfl, _, Go.Sort.alloc_eq_grow _ _⟩
        · have h4' : (pt != -1) = true := by simp [h4]
          by_cases h5 : pt < inv
          · refine (Calls.mono (P := Tryz.prog) ?_ (end1 false (by simp [sndB, h4, h5])))
            clear end1
            go_enter Tryz.func55, Tryz.ntmps55
            go_wp2
            go_ret
            exact ⟨rfl, _, Go.Sort.alloc_eq_grow _ _⟩
          · have h5' : decide (pt < inv) = false := decide_eq_false h5
            by_cases h6 : rs = -1
            · subst h6
              refine (Calls.mono (P := Tryz.prog) ?_ (end1 true (by simp [sndB, h1, h2, h3, h4, h5])))
              clear end1
              go_enter Tryz.func55, Tryz.ntmps55
              go_wp2
              go_ret
              exact ⟨rfl, _, Go.Sort.alloc_eq_grow _ _⟩
            · have h6' : (rs == -1) = false := by simp [h6]
              refine (Calls.mono (P := Tryz.prog) ?_ (end1 (decide (pt ≤ rs)) (by simp [sndB, h1, h2, h3, h5, h6', h4'])))
              clear end1
              go_enter Tryz.func55, Tryz.ntmps55
              go_wp2
              go_ret
              exact ⟨rfl, _, Go.Sort.alloc_eq_grow _ _⟩
def heldR (v : Value) : Option (DataW Value × List MemPlace) := some (.held v, [])
def kI (x : Int) : Lit := .int .i64 x
theorem kI_key (x : Int) : WideAt.IsKeyLit (kI x) := by simp [WideAt.IsKeyLit, kI]
theorem kI_ne {x y : Int} (h : x ≠ y) : kI x ≠ kI y := by unfold kI; simp; exact h
def ptsD (l : List RV) : Nat → DataW Value
  | 0 => .map []
  | k + 1 => match l[k]? with
    | some x => if x.n.pt = -1 then ptsD l k else (ptsD l k).put (kI x.n.pt) (.held (.bool true))
    | none => ptsD l k
def lastD (l : List RV) : Nat → DataW Value
  | 0 => .map []
  | k + 1 => match l[k]? with
    | some x => (lastD l k).put (kI x.n.th) (.held (.agg #[.int .i64 x.n.th, .int .i64 x.n.ix, .int .i64 x.n.inv, .int .i64 x.n.pt, .int .i64 x.n.rs, .int .i64 x.code, .string x.key, .int .u64 x.time, .slice x.bA x.b.length x.bc, .int .i64 x.hd, .int .i64 x.cu, .int .i64 x.mo, .int .i64 x.er, .int .u64 x.at_, .string x.ak, .string x.av]))
    | none => lastD l k
theorem ptsD_isMap (l : List RV) : ∀ k, IsMap (ptsD l k)
  | 0 => isMap_empty
  | k + 1 => by
    rw [ptsD]
    split
    · split
      · exact ptsD_isMap l k
      · exact (ptsD_isMap l k).put _ _
    · exact ptsD_isMap l k
theorem lastD_isMap (l : List RV) : ∀ k, IsMap (lastD l k)
  | 0 => isMap_empty
  | k + 1 => by
    rw [lastD]
    split
    · exact (lastD_isMap l k).put _ _
    · exact lastD_isMap l k
def ptsB (l : List Rec) (p : Int) : Bool := l.any (fun y => y.pt != -1 && y.pt == p)
def lastV (t : Int) (l : List RV) : Option RV := (l.filter (fun y => y.n.th == t)).getLast?
theorem ptsD_at (l : List RV) (p : Int) : ∀ k, (ptsD l k).atKey (kI p) (.held (.bool false)) = .held (.bool (ptsB ((l.take k).map (·.n)) p))
  | 0 => by simp [ptsD, ptsB, DataW.atKey]
  | k + 1 => by
    have ih := ptsD_at l p k
    rw [ptsD, List.take_add_one]
    cases h : l[k]? with
    | none => simp only [Option.toList_none, List.append_nil]; exact ih
    | some x =>
      simp only [Option.toList_some, List.map_append, List.map_cons, List.map_nil]
      have e : ptsB (List.map (·.n) (l.take k) ++ [x.n]) p = (ptsB (List.map (·.n) (l.take k)) p || (x.n.pt != -1 && x.n.pt == p)) := by simp [ptsB]
      rw [e]
      by_cases hx : x.n.pt = -1
      · rw [if_pos hx, ih]; simp [hx]
      · rw [if_neg hx]
        by_cases hp : x.n.pt = p
        · subst hp
          rw [atKey_put_same (ptsD_isMap l k) (kI_key _)]
          simp [hx]
        · rw [atKey_put_other (kI_ne (fun e => hp e.symm)), ih]
          simp [hp]
theorem lastV_snoc (t : Int) (l : List RV) (x : RV) : lastV t (l ++ [x]) = if x.n.th = t then some x else lastV t l := by
  unfold lastV
  rw [List.filter_append]
  by_cases h : x.n.th = t
  · rw [if_pos h, List.filter_cons_of_pos (by rw [beq_iff_eq]; exact h)]; simp
  · rw [if_neg h, List.filter_cons_of_neg (by rw [beq_iff_eq]; exact h)]; simp
theorem lastD_at (l : List RV) (t : Int) (z : DataW Value) : ∀ k, has (lastD l k) (kI t) = (lastV t (l.take k)).isSome ∧ (lastD l k).atKey (kI t) z = (match lastV t (l.take k) with | some x => .held (.agg #[.int .i64 x.n.th, .int .i64 x.n.ix, .int .i64 x.n.inv, .int .i64 x.n.pt, .int .i64 x.n.rs, .int .i64 x.code, .string x.key, .int .u64 x.time, .slice x.bA x.b.length x.bc, .int .i64 x.hd, .int .i64 x.cu, .int .i64 x.mo, .int .i64 x.er, .int .u64 x.at_, .string x.ak, .string x.av]) | none => z)
  | 0 => by simp [lastD, lastV, DataW.atKey, has]
  | k + 1 => by
    have ih := lastD_at l t z k
    rw [lastD, List.take_add_one]
    cases h : l[k]? with
    | none => simp only [Option.toList_none, List.append_nil]; exact ih
    | some x =>
      simp only [Option.toList_some]
      rw [lastV_snoc]
      by_cases hp : x.n.th = t
      · subst hp
        rw [if_pos rfl, has_put_same (lastD_isMap l k) (kI_key _), atKey_put_same (lastD_isMap l k) (kI_key _)]
        exact ⟨rfl, rfl⟩
      · rw [if_neg hp, has_put_other (kI_ne (fun e => hp e.symm)), atKey_put_other (kI_ne (fun e => hp e.symm))]
        exact ih
theorem lastV_of (t : Int) (l : List RV) : lastOf t (l.map (·.n)) = (lastV t l).map (·.n) := by
  unfold lastOf lastV
  rw [← List.getLast?_map]
  congr 1
  rw [List.filter_map]; rfl
def bad6 (l : List Rec) (r : Rec) : Bool := !sndB r || (match l.getLast? with | some y => decide (r.inv ≤ y.inv) | none => false) || ptsB l r.pt
def bad11 (l : List Rec) (r : Rec) : Bool := match lastOf r.th l with
  | none => r.ix != 0
  | some y => r.ix != IntKind.i64.wrap (y.ix + 1) || !prec y r
def Rng (r : Rec) : Prop := -9223372036854775808 ≤ r.ix ∧ r.ix < 9223372036854775808
theorem sndB_iff (r : Rec) : sndB r = true ↔ SoundO r := by
  unfold sndB SoundO
  simp only [Bool.and_eq_true, Bool.not_eq_true', Bool.or_eq_false_iff, Bool.and_eq_false_iff, Bool.or_eq_true, decide_eq_true_eq, decide_eq_false_iff_not, bne_iff_ne, beq_iff_eq, bne_eq_false_iff_eq]
  omega
theorem step_iff (l : List Rec) (r : Rec) (hl : ∀ y ∈ l, Rng y) (hrr : Rng r) : StepO l r ↔ bad6 l r = false ∧ bad11 l r = false := by
  unfold StepO
  have h6 : bad6 l r = false ↔ SoundO r ∧ (∀ y, l.getLast? = some y → y.inv < r.inv) ∧ (r.pt = -1 ∨ ∀ y ∈ l, y.pt ≠ r.pt) := by
    unfold bad6
    rw [Bool.or_eq_false_iff, Bool.or_eq_false_iff, Bool.not_eq_false', sndB_iff, and_assoc]
    refine and_congr Iff.rfl (and_congr ?_ ?_)
    · cases l.getLast? with
      | none => simp
      | some y => simp
    · unfold ptsB
      rw [List.any_eq_false]
      constructor
      · intro h
        by_cases hp : r.pt = -1
        · exact .inl hp
        · right
          intro y hy e
          apply h y hy
          rw [e]; simp [hp]
      · rintro (h | h) y hy hb
        · simp at hb; omega
        · simp at hb; exact h y hy hb.2
  rw [h6, and_assoc, and_assoc]
  refine and_congr_right fun hs => and_congr_right fun _ => and_congr_right fun _ => ?_
  unfold bad11
  cases hlo : lastOf r.th l with
  | none => simp
  | some y =>
    have hy : y ∈ l := by
      unfold lastOf at hlo
      exact (List.mem_filter.1 (List.mem_of_getLast? hlo)).1
    have hr := hl y hy
    unfold Rng at hr hrr
    have hs2 := hs.2.1
    have hw : IntKind.i64.wrap (y.ix + 1) = if y.ix + 1 < 9223372036854775808 then y.ix + 1 else -9223372036854775808 := by
      rw [IntKind.wrap_i64]
      split <;> omega
    simp only [Option.some.injEq, reduceCtorEq, false_imp_iff, and_true, forall_eq', Bool.or_eq_false_iff, Bool.not_eq_false', prec, Bool.and_eq_true, bne_iff_ne, decide_eq_true_eq, bne_eq_false_iff_eq]
    rw [hw]
    constructor
    · rintro ⟨h1, h2, h3⟩
      refine ⟨?_, h2, h3⟩
      split <;> omega
    · rintro ⟨h1, h2, h3⟩
      refine ⟨?_, h2, h3⟩
      split at h1 <;> omega
theorem good_iff (l : List Rec) (hl : ∀ y ∈ l, Rng y) : (∀ (i : Nat) (r : Rec), l[i]? = some r → bad6 (l.take i) r = false ∧ bad11 (l.take i) r = false) ↔ Good l := by
  rw [← chkO_iff]
  constructor
  · intro h i r hr; exact (step_iff _ r (fun y hy => hl y (List.mem_of_mem_take hy)) (hl r (List.mem_of_getElem? hr))).2 (h i r hr)
  · intro h i r hr; exact (step_iff _ r (fun y hy => hl y (List.mem_of_mem_take hy)) (hl r (List.mem_of_getElem? hr))).1 (h i r hr)
theorem bad_not (l : List Rec) (hl : ∀ y ∈ l, Rng y) {i : Nat} {r : Rec} (hr : l[i]? = some r) (hb : bad6 (l.take i) r = true ∨ bad11 (l.take i) r = true) : ¬ Good l := fun h => by
  have := (good_iff l hl).2 h i r hr
  rcases hb with hb | hb
  · rw [this.1] at hb; cases hb
  · rw [this.2] at hb; cases hb
theorem lawI : Keyed Tryz.prog 3 := int_keyed Tryz.underlying3
theorem zeroB (w : World) : (zeroValue 4).run Tryz.prog w = .ok (.bool false) w := by kernel_rfl
theorem zeroR (w : World) : (zeroValue 34).run Tryz.prog w = .ok (.agg (rC default).toArray) w := by kernel_rfl
theorem ownsMap_grow {w : World} {b n : Nat} {D : DataW Value} {T : TypeId} (h : w.ownsMap Tryz.prog T heldR b n D) (q : Nat) (os : Array Obj) : (Go.Sort.grow (w.drewN q) os).ownsMap Tryz.prog T heldR b n D :=
  h.kept (row := none) ⟨rfl, rfl, rfl, by simp, fun k hk _ => Go.Sort.heap_grow_old (w.drewN q) os hk⟩ (by simp)
theorem ownsMap_keeps {w w' : World} {b n : Nat} {D : DataW Value} {T : TypeId} {S : List Nat} (h : w.ownsMap Tryz.prog T heldR b n D) (k : Keeps S w w') (hb : b ∉ S) : w'.ownsMap Tryz.prog T heldR b n D :=
  have hlt := h.lt
  match h with
  | ⟨es, clock, hb', F, hs, hD⟩ => ⟨es, clock, (k.block b hlt hb).trans hb', F, hs, hD⟩
theorem keyI (x : Int) (hx : (Lit.int .i64 x).wf = true) : keyOf Tryz.prog 3 (.int .i64 x) = some (kI x) := keyOf_int_mk Tryz.underlying3 hx
theorem look_pts {w : World} {b k : Nat} {l : List RV} (h : w.ownsMap Tryz.prog 3 heldR b k (ptsD l k)) (p : Int) (hp : (Lit.int .i64 p).wf = true) (q : Nat) (os : Array Obj) :
    (Instr.lookup 108 (.map (some b)) (.int .i64 p) false).run Tryz.prog (Go.Sort.grow (w.drewN q) os) = .ok (.bool (ptsB ((l.take k).map (·.n)) p)) (Go.Sort.grow (w.drewN q) os) := by
  obtain ⟨v, ps, hrun, hv⟩ := (ownsMap_grow h q os).lookup lawI Tryz.underlying108 (zeroB _) (zd := .held (.bool false)) (zp := []) rfl (keyI p hp)
  rw [ptsD_at] at hv
  unfold heldR at hv
  simp only [Option.some.injEq, Prod.mk.injEq, DataW.held.injEq] at hv
  rw [hrun, hv.1]
theorem look_last {w : World} {b k : Nat} {l : List RV} (h : w.ownsMap Tryz.prog 3 heldR b k (lastD l k)) (t : Int) (ht : (Lit.int .i64 t).wf = true) (y : RV) (o : Bool) (hy : (lastV t (l.take k)).getD default = y) (ho : (lastV t (l.take k)).isSome = o) :
    (Instr.lookup 109 (.map (some b)) (.int .i64 t) true).run Tryz.prog w = .ok (.tuple #[.agg #[.int .i64 y.n.th, .int .i64 y.n.ix, .int .i64 y.n.inv, .int .i64 y.n.pt, .int .i64 y.n.rs, .int .i64 y.code, .string y.key, .int .u64 y.time, .slice y.bA y.b.length y.bc, .int .i64 y.hd, .int .i64 y.cu, .int .i64 y.mo, .int .i64 y.er, .int .u64 y.at_, .string y.ak, .string y.av], .bool o]) w := by
  obtain ⟨v, ps, hrun, hv⟩ := h.look_ok lawI Tryz.underlying109 (zeroR _) (zd := .held (.agg (rC default).toArray)) (zp := []) rfl (keyI t ht)
  obtain ⟨h1, h2⟩ := lastD_at l t (.held (.agg (rC default).toArray)) k
  rw [h2] at hv
  rw [h1, ho] at hrun
  unfold heldR at hv
  simp only [Option.some.injEq, Prod.mk.injEq] at hv
  rw [hrun]
  congr 4
  subst hy
  cases hl : lastV t (l.take k) with
  | none => rw [hl] at hv; simp only [DataW.held.injEq] at hv; exact hv.1
  | some x => rw [hl] at hv; simp only [DataW.held.injEq] at hv; exact hv.1
structure ChkW (w wr : World) (xs : List RV) (b1 b2 k1 k2 : Nat) : Prop where
  pts : wr.ownsMap Tryz.prog 3 heldR b1 k1 (ptsD xs k1)
  lst : wr.ownsMap Tryz.prog 3 heldR b2 k2 (lastD xs k2)
  ne : b1 ≠ b2
  kk : Keeps [] w wr
  ge1 : w.heap.size ≤ b1
  ge2 : w.heap.size ≤ b2
theorem ChkW.step {w wr wr' : World} {xs : List RV} {b1 b2 k1 k2 : Nat} (h : ChkW w wr xs b1 b2 k1 k2) (k : Keeps [] wr wr') : ChkW w wr' xs b1 b2 k1 k2 :=
  ⟨ownsMap_keeps h.pts k (by simp), ownsMap_keeps h.lst k (by simp), h.ne, h.kk.trans k (by simp), h.ge1, h.ge2⟩
theorem grow_keeps (w : World) (q : Nat) (os : Array Obj) : Keeps [] w (Go.Sort.grow (w.drewN q) os) :=
  ⟨rfl, rfl, rfl, by simp, fun k hk _ => Go.Sort.heap_grow_old (w.drewN q) os hk⟩
theorem wfI {x : Int} (h1 : -9223372036854775808 ≤ x) (h2 : x < 9223372036854775808) : (Lit.int .i64 x).wf = true := WalkArith.wf_i64 (by omega)
def RngA (r : Rec) : Prop := (-9223372036854775808 ≤ r.th ∧ r.th < 9223372036854775808) ∧ Rng r ∧ (-9223372036854775808 ≤ r.pt ∧ r.pt < 9223372036854775808)
end Go.Proofs.YtbcgpjfejpcgnaaGreat
end
section
namespace Go.Proofs.YtbcgpjfejpcgnaaGreat
open Go.RowKit
theorem tmod_neg (k n : Int) (hn : 1 ≤ n) (hk : k < 0) : (k.tmod n < 0 → k.tmod n + n = k % n) ∧ (0 ≤ k.tmod n → k.tmod n = k % n) ∧ -n < k.tmod n := by
  have e : k.tmod n = -((-k) % n) := by
    have := Int.neg_tmod (-k) n
    rw [Int.neg_neg] at this
    rw [this, Int.tmod_eq_emod_of_nonneg (by omega)]
  have a0 := Int.emod_nonneg k (show n ≠ 0 by omega)
  have a1 := Int.emod_lt_of_pos k (show 0 < n by omega)
  have b0 := Int.emod_nonneg (-k) (show n ≠ 0 by omega)
  have b1 := Int.emod_lt_of_pos (-k) (show 0 < n by omega)
  have d1 := Int.mul_ediv_add_emod k n
  have d2 := Int.mul_ediv_add_emod (-k) n
  rw [e]
  generalize hr : (-k) % n = r at *
  generalize hs : k % n = s at *
  generalize (-k) / n = u at *
  generalize k / n = v at *
  have hsum : n * (u + v) + (r + s) = 0 := by rw [Int.mul_add]; omega
  have ht : u + v = 0 ∨ u + v = -1 := by
    by_cases h : u + v < -1
    · have := Int.mul_le_mul_of_nonneg_left (show u + v ≤ -2 by omega) (show 0 ≤ n by omega)
      omega
    · by_cases h' : 0 < u + v
      · have := Int.mul_le_mul_of_nonneg_left (show 1 ≤ u + v by omega) (show 0 ≤ n by omega)
        omega
      · omega
  rcases ht with ht | ht <;> rw [ht] at hsum
  · refine ⟨fun h => by omega, fun h => by omega, by omega⟩
  · refine ⟨fun h => by omega, fun h => by omega, by omega⟩
theorem mod_any (k n : Int) (hk : -9223372036854775808 ≤ k) (hk' : k ≤ 9223372036854775807) (hn : 1 ≤ n) (hn' : n ≤ 4611686018427387904) (w : World) :
    Calls Tryz.prog 12 #[.int .i64 k, .int .i64 n] w fun e w' => e = .returned (.int .i64 (k % n)) ∧ w = w' := by
  have hm0 := Int.emod_nonneg k (show n ≠ 0 by omega)
  have hm1 := Int.emod_lt_of_pos k (show 0 < n by omega)
  by_cases h0 : 0 ≤ k
  · have e : k.tmod n = k % n := Int.tmod_eq_emod_of_nonneg h0
    go_enter Tryz.func12, Tryz.ntmps12
    go_wp2
    go_ret
    exact ⟨rfl, rfl⟩
  · obtain ⟨t1, t2, t3⟩ := tmod_neg k n hn (by omega)
    have T1 := Lib.hid t1
    have T2 := Lib.hid t2
    clear t1 t2
    go_enter Tryz.func12, Tryz.ntmps12
    go_wp2
    · have hl : k.tmod n < 0 := by assumption
      go_ret
      exact ⟨by simp [T1.out hl], rfl⟩
    · have hl : 0 ≤ k.tmod n := by assumption
      go_ret
      exact ⟨by simp [T2.out hl], rfl⟩
end Go.Proofs.YtbcgpjfejpcgnaaGreat
end
section
namespace Go.Proofs.YtbcgpjfejpcgnaaGreat
open Go.ChangeShapes Go.WideShapes Go.ChangeAt Go.RowKit
set_option maxRecDepth 100000
theorem cellsW : Tryz.prog.cellsOf 53 = 3 := by kernel_rfl
theorem cellsS : Tryz.prog.cellsOf 9 = 1 := by kernel_rfl
theorem cellsB : Tryz.prog.cellsOf 4 = 1 := by kernel_rfl
theorem cellsI : Tryz.prog.cellsOf 3 = 1 := by kernel_rfl
theorem cellsU : Tryz.prog.cellsOf 22 = 1 := by kernel_rfl
theorem cellsE : Tryz.prog.cellsOf 30 = 1 := by kernel_rfl
theorem cellsWS : Tryz.prog.cellsOf 27 = 1 := by kernel_rfl
theorem cellsR : Tryz.prog.cellsOf 34 = 16 := by kernel_rfl
theorem cellsO : Tryz.prog.cellsOf 29 = 7 := by kernel_rfl
theorem cellsA : Tryz.prog.cellsOf 32 = 4 := by kernel_rfl
theorem str_of (s : ByteArray) : ∃ k : Str, s = ⟨k.toArray⟩ := ⟨s.data.toList, by cases s; simp⟩
theorem read_wrt {H : Type} {enc : TypeId × Value → H} {w : World} {base : Nat} {spare : Nat → Bool} {held : Bool} (fuel : Nat) (cs : List Value) (x : DataW H × List MemPlace)
    (h : DataW.trod enc Tryz.prog w base spare held fuel 53 cs = some x) : ∃ c : Wrt, cs = wC c := by
  obtain ⟨xs, n, _, _, hl, hxl, hf⟩ := DataW.trod_struct Tryz.underlying53 h
  rw [cellsW] at hl
  match cs, hl with
  | [a, b, c], _ =>
    have g0 : DataW.trod enc Tryz.prog w base spare held n 9 (([a, b, c].drop 0).take (Tryz.prog.cellsOf 9)) = xs[0]? := hf 0 _ rfl
    rw [cellsS] at g0
    have g1 : DataW.trod enc Tryz.prog w base spare held n 9 (([a, b, c].drop 1).take (Tryz.prog.cellsOf 9)) = xs[1]? := hf 1 _ rfl
    rw [cellsS] at g1
    have g2 : DataW.trod enc Tryz.prog w base spare held n 4 (([a, b, c].drop 2).take (Tryz.prog.cellsOf 4)) = xs[2]? := hf 2 _ rfl
    rw [cellsB] at g2
    simp only [List.drop_zero, List.drop_succ_cons, List.take_succ_cons, List.take_zero] at g0 g1 g2
    have hx : xs.length = 3 := by rw [hxl]; rfl
    match xs, hx with
    | [y0, y1, y2], _ =>
      simp only [List.getElem?_cons_zero, List.getElem?_cons_succ] at g0 g1 g2
      obtain ⟨N, e0, _, _⟩ := DataW.trod_string Tryz.underlying9 g0
      obtain ⟨K, e1, _, _⟩ := DataW.trod_string Tryz.underlying9 g1
      obtain ⟨M, e2, _⟩ := DataW.trod_bool Tryz.underlying4 g2
      simp only [List.cons.injEq, and_true] at e0 e1 e2
      subst e0 e1 e2
      obtain ⟨k, rfl⟩ := str_of N
      obtain ⟨v, rfl⟩ := str_of K
      exact ⟨⟨k, v, M⟩, rfl⟩
theorem open_rowsS {H : Type} {enc : TypeId × Value → H} {P : Program} {w : World} {t e : TypeId} {v : Value} {d : DataW H} {p : List MemPlace} (sz : Nat) (hsz : 0 < sz) (R : List Value → Prop)
    (ht : P.underlying t = some (.slice e)) (hc : P.cellsOf e = sz)
    (hR : ∀ (fuel : Nat) (cs : List Value) (x : DataW H × List MemPlace), DataW.trod enc P w 0 (fun _ => true) true fuel e cs = some x → R cs)
    (hsh : ∃ a0 len cap, v = .slice a0 len cap) (h : DataW.Trod enc P w 0 (fun _ => true) true t v d p) :
    ∃ (A : Option Addr) (cap b o : Nat) (rows : List (List Value)), v = .slice A rows.length cap ∧ (0 < rows.length → A = some ⟨b, o, none⟩) ∧ Arr w b o rows.flatten ∧ rows.length ≤ 9223372036854775807 ∧
      ∀ x, x ∈ rows → x.length = sz ∧ R x := by
  obtain ⟨a0, len, cap, rfl⟩ := hsh
  obtain ⟨fuel, hf⟩ := h
  rcases Go.Deep.open_slice ht hf with ⟨hcs, _⟩ | ⟨a, len', cap', m, n, D, Pl, hcs, _, hl, hm, hmm, _, hel⟩
  · simp [Value.cells] at hcs
    obtain ⟨rfl, rfl, rfl⟩ := hcs
    exact ⟨none, 0, 0, 0, [], rfl, fun h => by simp at h, ⟨fun i hi => absurd hi (Nat.not_lt_zero i), fun h => absurd h (Nat.lt_irrefl 0)⟩, Nat.zero_le _, by simp⟩
  · simp [Value.cells] at hcs
    obtain ⟨rfl, rfl, rfl⟩ := hcs
    simp only [if_true] at hmm
    subst hmm
    rw [hc] at hel
    unfold maxLen at hm
    by_cases h0 : 0 < len
    · have hget : ∀ i, i < len → ∃ cs', w.cells? 0 (a.add (i * sz)) sz = some cs' ∧ R cs' := fun i hi => by
        obtain ⟨cs', h1, h2⟩ := hel i (by omega)
        exact ⟨cs', h1, hR _ _ _ h2⟩
      obtain ⟨f, hf'⟩ : ∃ f : Nat → List Value, ∀ i, i < len → w.cells? 0 (a.add (i * sz)) sz = some (f i) ∧ R (f i) := by
        refine ⟨fun i => if h : i < len then (hget i h).choose else [], fun i hi => ?_⟩
        simp only [hi, dif_pos]
        exact (hget i hi).choose_spec
      have hlen : ∀ i, i < len → (f i).length = sz := fun i hi => (World.cells?_some (hf' i hi).1).2.1
      have hcell : ∀ i, i < len → ∀ j, j < sz → w.cell? (a.add (i * sz + j)) = (f i)[j]? := fun i hi j hj => by
        have := (World.cells?_some (hf' i hi).1).2.2 j hj
        rwa [Go.Deep.add_add] at this
      obtain ⟨b, off, spot⟩ := a
      have hfirst := hcell 0 h0 0 hsz
      have hsome : w.cell? ⟨b, off, spot⟩ = some ((f 0)[0]'(by rw [hlen 0 h0]; exact hsz)) := by
        rw [List.getElem?_eq_getElem (by rw [hlen 0 h0]; exact hsz)] at hfirst
        simpa [Addr.add] using hfirst
      obtain rfl : spot = none := World.cell?_spot hsome
      have hrl : ((List.range len).map f).length = len := by simp
      have hflen : ∀ k, k ≤ len → ((List.range k).map f).flatten.length = k * sz := by
        intro k
        induction k with
        | zero => simp
        | succ k ih =>
          intro hk
          rw [List.range_succ, List.map_append, List.flatten_append, List.length_append, ih (by omega)]
          simp [hlen k (by omega), Nat.succ_mul]
      have hget2 : ∀ k, k ≤ len → ∀ i, i < k * sz → ((List.range k).map f).flatten[i]? = (f (i / sz))[i % sz]? := by
        intro k
        induction k with
        | zero => intro _ i hi; simp at hi
        | succ k ih =>
          intro hk i hi
          rw [List.range_succ, List.map_append, List.flatten_append]
          by_cases hik : i < k * sz
          · rw [List.getElem?_append_left (by rw [hflen k (by omega)]; exact hik)]
            exact ih (by omega) i hik
          · rw [List.getElem?_append_right (by rw [hflen k (by omega)]; omega), hflen k (by omega)]
            rw [Nat.succ_mul] at hi
            have e1 : i / sz = k := by
              rw [Nat.div_eq_iff hsz]
              omega
            have e2 : i % sz = i - k * sz := by
              have := Nat.div_add_mod i sz
              rw [e1, Nat.mul_comm] at this
              omega
            rw [e1, e2]
            simp
      refine ⟨_, _, b, off, (List.range len).map f, by rw [hrl], fun _ => rfl, ⟨fun i hi => ?_, fun _ => World.block_lt_of_cell? (w := w) (a := ⟨b, off, none⟩) hsome⟩, by rw [hrl]; omega, ?_⟩
      · rw [hflen len (Nat.le_refl _)] at hi
        rw [hget2 len (Nat.le_refl _) i hi]
        have hd : i / sz < len := by rw [Nat.div_lt_iff_lt_mul hsz]; exact hi
        rw [← hcell (i / sz) hd (i % sz) (Nat.mod_lt _ hsz), ← Go.WideShapes.add_plain]
        have : i / sz * sz + i % sz = i := by rw [Nat.mul_comm]; exact Nat.div_add_mod i sz
        rw [this]
      · intro x hx
        simp only [List.mem_map, List.mem_range] at hx
        obtain ⟨i, hi, rfl⟩ := hx
        exact ⟨hlen i hi, (hf' i hi).2⟩
    · obtain rfl : len = 0 := by omega
      exact ⟨some a, _, 0, 0, [], rfl, fun h => by simp at h, ⟨fun i hi => absurd hi (Nat.not_lt_zero i), fun h => absurd h (Nat.lt_irrefl 0)⟩, Nat.zero_le _, by simp⟩
theorem read_wrts {H : Type} {enc : TypeId × Value → H} {w : World} (fuel : Nat) (cs : List Value) (x : DataW H × List MemPlace)
    (h : DataW.trod enc Tryz.prog w 0 (fun _ => true) true fuel 27 cs = some x) : ∃ (v : Value) (X : List Wrt), cs = [v] ∧ Lst w v X.length (wCs X) ∧ X.length ≤ 9223372036854775807 := by
  obtain ⟨v, rfl, hsh⟩ : ∃ v, cs = [v] ∧ ∃ a0 len cap, v = .slice a0 len cap := by
    rcases Go.Deep.open_slice Tryz.underlying27 h with ⟨hcs, _⟩ | ⟨a, len', cap', m, n, D, Pl, hcs, _⟩
    · exact ⟨_, hcs, _, _, _, rfl⟩
    · exact ⟨_, hcs, _, _, _, rfl⟩
  have hT : DataW.Trod enc Tryz.prog w 0 (fun _ => true) true 27 v x.1 x.2 := by
    obtain ⟨a0, len, cap, rfl⟩ := hsh
    exact ⟨fuel, h⟩
  obtain ⟨A, cap, b, o, rows, rfl, hA, hx, hl, hr⟩ := open_rowsS 3 (by omega) (fun cs => ∃ c : Wrt, cs = wC c ∧ True) Tryz.underlying27 cellsW (fun fuel cs x h => by obtain ⟨c, hc⟩ := read_wrt fuel cs x h; exact ⟨c, hc, trivial⟩) hsh hT
  obtain ⟨X, rfl, _⟩ := rows_map wC (fun _ => True) rows (fun x hx => (hr x hx).2)
  simp only [List.length_map] at *
  exact ⟨_, X, rfl, ⟨A, cap, b, o, rfl, hA, by rw [wCs, List.flatMap_def]; exact hx⟩, hl⟩
end Go.Proofs.YtbcgpjfejpcgnaaGreat
end
