/- Lemmas on the way to LinearAcceptsSequential. No condition. -/
import Derived.Test.YtbcgpjfejpcgnaaGreatRAa
import Derived.Test.YtbcgpjfejpcgnaaGreatRAc
import Derived.Maps.OwnOps
import Derived.Maps.OwnSet
import Derived.Test.YtbcgpjfejpcgnaaGreatProg
import Derived.Deep.QuietTactic
import Derived.BigQuiet
import Derived.Deep.RegionWith
set_option linter.unusedSimpArgs false
set_option linter.unusedVariables false
set_option linter.unusedSectionVars false
section
namespace Go.Proofs.YtbcgpjfejpcgnaaGreat
open Go.RowKit Go.Maps
set_option maxRecDepth 100000
set_option linter.unusedSimpArgs false
set_option maxHeartbeats 1000000
theorem sndg_any (x : RV) (w : World) : Calls Tryz.prog 55 #[.agg #[.int .i64 x.n.th, .int .i64 x.n.ix, .int .i64 x.n.inv, .int .i64 x.n.pt, .int .i64 x.n.rs, .int .i64 x.code, .string x.key, .int .u64 x.time, .slice x.bA x.b.length x.bc, .int .i64 x.hd, .int .i64 x.cu, .int .i64 x.mo, .int .i64 x.er, .int .u64 x.at_, .string x.ak, .string x.av]] w fun e w' => e = .returned (.bool (sndB x.n)) ∧ ∃ os, w' = Go.Sort.grow w os := by
  obtain ⟨⟨th, ix, inv, pt, rs⟩, c1, c2, c3, c4, c5, c6, c7, c8, c9, c10, c11, c12, c13⟩ := x
  simp only
  have end1 : ∀ b, sndB ⟨th, ix, inv, pt, rs⟩ = b → (∀ (e : Ending) w', (e = .returned (.bool b) ∧ ∃ os, w' = Go.Sort.grow w os) → e = .returned (.bool (sndB ⟨th, ix, inv, pt, rs⟩)) ∧ ∃ os, w' = Go.Sort.grow w os) := fun b hb e w' h => by rw [hb]; exact h
  by_cases h1 : th < 0
  · refine (Calls.mono (P := Tryz.prog) ?_ (end1 false (by simp [sndB, h1])))
    clear end1
    go_enter Tryz.func55, Tryz.ntmps55
    go_wp2
    go_ret
    exact ⟨rfl, _, Go.Sort.alloc_eq_grow _ _⟩
  · have h1' : decide (th < 0) = false := decide_eq_false h1
    by_cases h2 : ix < 0
    · refine (Calls.mono (P := Tryz.prog) ?_ (end1 false (by simp [sndB, h2])))
      clear end1
      go_enter Tryz.func55, Tryz.ntmps55
      go_wp2
      go_ret
      exact ⟨rfl, _, Go.Sort.alloc_eq_grow _ _⟩
    · have h2' : decide (ix < 0) = false := decide_eq_false h2
      by_cases h3 : inv < 0
      · refine (Calls.mono (P := Tryz.prog) ?_ (end1 false (by simp [sndB, h3])))
        clear end1
        go_enter Tryz.func55, Tryz.ntmps55
        go_wp2
        go_ret
        exact ⟨rfl, _, Go.Sort.alloc_eq_grow _ _⟩
      · have h3' : decide (inv < 0) = false := decide_eq_false h3
        by_cases h4 : pt = -1
        · subst h4
          refine (Calls.mono (P := Tryz.prog) ?_ (end1 (rs == -1) (by simp [sndB, h1, h2, h3])))
          clear end1
          by_cases h5 : rs = -1
          · subst h5
            go_enter Tryz.func55, Tryz.ntmps55
            go_wp2
            go_ret
            exact ⟨rfl, _, Go.Sort.alloc_eq_grow _ _⟩
          · have h5' : (rs == -1) = false := by simp [h5]
            rw [h5']
            go_enter Tryz.func55, Tryz.ntmps55
            go_wp2
            go_ret
            exact ⟨rfl, _, Go.Sort.alloc_eq_grow _ _⟩
        · have h4' : (pt != -1) = true := by simp [h4]
          by_cases h5 : pt < inv
          · refine (Calls.mono (P := Tryz.prog) ?_ (end1 false (by simp [sndB, h4, h5])))
            clear end1
            go_enter Tryz.func55, Tryz.ntmps55
            go_wp2
            go_ret
            exact ⟨rfl, _, Go.Sort.alloc_eq_grow _ _⟩
          · have h5' : decide (pt < inv) = false := decide_eq_false h5
            by_cases h6 : rs = -1
            · subst h6
              refine (Calls.mono (P := Tryz.prog) ?_ (end1 true (by simp [sndB, h1, h2, h3, h4, h5])))
              clear end1
              go_enter Tryz.func55, Tryz.ntmps55
              go_wp2
              go_ret
              exact ⟨rfl, _, Go.Sort.alloc_eq_grow _ _⟩
            · have h6' : (rs == -1) = false := by simp [h6]
              refine (Calls.mono (P := Tryz.prog) ?_ (end1 (decide (pt ≤ rs)) (by simp [sndB, h1, h2, h3, h5, h6', h4'])))
              clear end1
              go_enter Tryz.func55, Tryz.ntmps55
              go_wp2
              go_ret
              exact ⟨rfl, _, Go.Sort.alloc_eq_grow _ _⟩
def heldR (v : Value) : Option (DataW Value × List MemPlace) := some (.held v, [])
def kI (x : Int) : Lit := .int .i64 x
theorem kI_key (x : Int) : WideAt.IsKeyLit (kI x) := by simp [WideAt.IsKeyLit, kI]
theorem kI_ne {x y : Int} (h : x ≠ y) : kI x ≠ kI y := by unfold kI; simp; exact h
def ptsD (l : List RV) : Nat → DataW Value
  | 0 => .map []
  | k + 1 => match l[k]? with
    | some x => if x.n.pt = -1 then ptsD l k else (ptsD l k).put (kI x.n.pt) (.held (.bool true))
    | none => ptsD l k
def lastD (l : List RV) : Nat → DataW Value
  | 0 => .map []
  | k + 1 => match l[k]? with
    | some x => (lastD l k).put (kI x.n.th) (.held (.agg #[.int .i64 x.n.th, .int .i64 x.n.ix, .int .i64 x.n.inv, .int .i64 x.n.pt, .int .i64 x.n.rs, .int .i64 x.code, .string x.key, .int .u64 x.time, .slice x.bA x.b.length x.bc, .int .i64 x.hd, .int .i64 x.cu, .int .i64 x.mo, .int .i64 x.er, .int .u64 x.at_, .string x.ak, .string x.av]))
    | none => lastD l k
theorem ptsD_isMap (l : List RV) : ∀ k, IsMap (ptsD l k)
  | 0 => isMap_empty
  | k + 1 => by
    rw [ptsD]
    split
    · split
      · exact ptsD_isMap l k
      · exact (ptsD_isMap l k).put _ _
    · exact ptsD_isMap l k
theorem lastD_isMap (l : List RV) : ∀ k, IsMap (lastD l k)
  | 0 => isMap_empty
  | k + 1 => by
    rw [lastD]
    split
    · exact (lastD_isMap l k).put _ _
    · exact lastD_isMap l k
def ptsB (l : List Rec) (p : Int) : Bool := l.any (fun y => y.pt != -1 && y.pt == p)
def lastV (t : Int) (l : List RV) : Option RV := (l.filter (fun y => y.n.th == t)).getLast?
theorem ptsD_at (l : List RV) (p : Int) : ∀ k, (ptsD l k).atKey (kI p) (.held (.bool false)) = .held (.bool (ptsB ((l.take k).map (·.n)) p))
  | 0 => by simp [ptsD, ptsB, DataW.atKey]
  | k + 1 => by
    have ih := ptsD_at l p k
    rw [ptsD, List.take_add_one]
    cases h : l[k]? with
    | none => simp only [Option.toList_none, List.append_nil]; exact ih
    | some x =>
      simp only [Option.toList_some, List.map_append, List.map_cons, List.map_nil]
      have e : ptsB (List.map (·.n) (l.take k) ++ [x.n]) p = (ptsB (List.map (·.n) (l.take k)) p || (x.n.pt != -1 && x.n.pt == p)) := by simp [ptsB]
      rw [e]
      by_cases hx : x.n.pt = -1
      · rw [if_pos hx, ih]; simp [hx]
      · rw [if_neg hx]
        by_cases hp : x.n.pt = p
        · subst hp
          rw [atKey_put_same (ptsD_isMap l k) (kI_key _)]
          simp [hx]
        · rw [atKey_put_other (kI_ne (fun e => hp e.symm)), ih]
          simp [hp]
theorem lastV_snoc (t : Int) (l : List RV) (x : RV) : lastV t (l ++ [x]) = if x.n.th = t then some x else lastV t l := by
  unfold lastV
  rw [List.filter_append]
  by_cases h : x.n.th = t
  · rw [if_pos h, List.filter_cons_of_pos (by rw [beq_iff_eq]; exact h)]; simp
  · rw [if_neg h, List.filter_cons_of_neg (by rw [beq_iff_eq]; exact h)]; simp
theorem lastD_at (l : List RV) (t : Int) (z : DataW Value) : ∀ k, has (lastD l k) (kI t) = (lastV t (l.take k)).isSome ∧ (lastD l k).atKey (kI t) z = (match lastV t (l.take k) with | some x => .held (.agg #[.int .i64 x.n.th, .int .i64 x.n.ix, .int .i64 x.n.inv, .int .i64 x.n.pt, .int .i64 x.n.rs, .int .i64 x.code, .string x.key, .int .u64 x.time, .slice x.bA x.b.length x.bc, .int .i64 x.hd, .int .i64 x.cu, .int .i64 x.mo, .int .i64 x.er, .int .u64 x.at_, .string x.ak, .string x.av]) | none => z)
  | 0 => by simp [lastD, lastV, DataW.atKey, has]
  | k + 1 => by
    have ih := lastD_at l t z k
    rw [lastD, List.take_add_one]
    cases h : l[k]? with
    | none => simp only [Option.toList_none, List.append_nil]; exact ih
    | some x =>
      simp only [Option.toList_some]
      rw [lastV_snoc]
      by_cases hp : x.n.th = t
      · subst hp
        rw [if_pos rfl, has_put_same (lastD_isMap l k) (kI_key _), atKey_put_same (lastD_isMap l k) (kI_key _)]
        exact ⟨rfl, rfl⟩
      · rw [if_neg hp, has_put_other (kI_ne (fun e => hp e.symm)), atKey_put_other (kI_ne (fun e => hp e.symm))]
        exact ih
theorem lastV_of (t : Int) (l : List RV) : lastOf t (l.map (·.n)) = (lastV t l).map (·.n) := by
  unfold lastOf lastV
  rw [← List.getLast?_map]
  congr 1
  rw [List.filter_map]; rfl
def bad6 (l : List Rec) (r : Rec) : Bool := !sndB r || (match l.getLast? with | some y => decide (r.inv ≤ y.inv) | none => false) || ptsB l r.pt
def bad11 (l : List Rec) (r : Rec) : Bool := match lastOf r.th l with
  | none => r.ix != 0
  | some y => r.ix != IntKind.i64.wrap (y.ix + 1) || !prec y r
def Rng (r : Rec) : Prop := -9223372036854775808 ≤ r.ix ∧ r.ix < 9223372036854775808
theorem sndB_iff (r : Rec) : sndB r = true ↔ SoundO r := by
  unfold sndB SoundO
  simp only [Bool.and_eq_true, Bool.not_eq_true', Bool.or_eq_false_iff, Bool.and_eq_false_iff, Bool.or_eq_true, decide_eq_true_eq, decide_eq_false_iff_not, bne_iff_ne, beq_iff_eq, bne_eq_false_iff_eq]
  omega
theorem step_iff (l : List Rec) (r : Rec) (hl : ∀ y ∈ l, Rng y) (hrr : Rng r) : StepO l r ↔ bad6 l r = false ∧ bad11 l r = false := by
  unfold StepO
  have h6 : bad6 l r = false ↔ SoundO r ∧ (∀ y, l.getLast? = some y → y.inv < r.inv) ∧ (r.pt = -1 ∨ ∀ y ∈ l, y.pt ≠ r.pt) := by
    unfold bad6
    rw [Bool.or_eq_false_iff, Bool.or_eq_false_iff, Bool.not_eq_false', sndB_iff, and_assoc]
    refine and_congr Iff.rfl (and_congr ?_ ?_)
    · cases l.getLast? with
      | none => simp
      | some y => simp
    · unfold ptsB
      rw [List.any_eq_false]
      constructor
      · intro h
        by_cases hp : r.pt = -1
        · exact .inl hp
        · right
          intro y hy e
          apply h y hy
          rw [e]; simp [hp]
      · rintro (h | h) y hy hb
        · simp at hb; omega
        · simp at hb; exact h y hy hb.2
  rw [h6, and_assoc, and_assoc]
  refine and_congr_right fun hs => and_congr_right fun _ => and_congr_right fun _ => ?_
  unfold bad11
  cases hlo : lastOf r.th l with
  | none => simp
  | some y =>
    have hy : y ∈ l := by
      unfold lastOf at hlo
      exact (List.mem_filter.1 (List.mem_of_getLast? hlo)).1
    have hr := hl y hy
    unfold Rng at hr hrr
    have hs2 := hs.2.1
    have hw : IntKind.i64.wrap (y.ix + 1) = if y.ix + 1 < 9223372036854775808 then y.ix + 1 else -9223372036854775808 := by
      rw [IntKind.wrap_i64]
      split <;> omega
    simp only [Option.some.injEq, reduceCtorEq, false_imp_iff, and_true, forall_eq', Bool.or_eq_false_iff, Bool.not_eq_false', prec, Bool.and_eq_true, bne_iff_ne, decide_eq_true_eq, bne_eq_false_iff_eq]
    rw [hw]
    constructor
    · rintro ⟨h1, h2, h3⟩
      refine ⟨?_, h2, h3⟩
      split <;> omega
    · rintro ⟨h1, h2, h3⟩
      refine ⟨?_, h2, h3⟩
      split at h1 <;> omega
theorem good_iff (l : List Rec) (hl : ∀ y ∈ l, Rng y) : (∀ (i : Nat) (r : Rec), l[i]? = some r → bad6 (l.take i) r = false ∧ bad11 (l.take i) r = false) ↔ Good l := by
  rw [← chkO_iff]
  constructor
  · intro h i r hr; exact (step_iff _ r (fun y hy => hl y (List.mem_of_mem_take hy)) (hl r (List.mem_of_getElem? hr))).2 (h i r hr)
  · intro h i r hr; exact (step_iff _ r (fun y hy => hl y (List.mem_of_mem_take hy)) (hl r (List.mem_of_getElem? hr))).1 (h i r hr)
theorem bad_not (l : List Rec) (hl : ∀ y ∈ l, Rng y) {i : Nat} {r : Rec} (hr : l[i]? = some r) (hb : bad6 (l.take i) r = true ∨ bad11 (l.take i) r = true) : ¬ Good l := fun h => by
  have := (good_iff l hl).2 h i r hr
  rcases hb with hb | hb
  · rw [this.1] at hb; cases hb
  · rw [this.2] at hb; cases hb
theorem lawI : Keyed Tryz.prog 3 := int_keyed Tryz.underlying3
theorem zeroB (w : World) : (zeroValue 4).run Tryz.prog w = .ok (.bool false) w := by kernel_rfl
theorem zeroR (w : World) : (zeroValue 34).run Tryz.prog w = .ok (.agg (rC default).toArray) w := by kernel_rfl
theorem ownsMap_grow {w : World} {b n : Nat} {D : DataW Value} {T : TypeId} (h : w.ownsMap Tryz.prog T heldR b n D) (q : Nat) (os : Array Obj) : (Go.Sort.grow (w.drewN q) os).ownsMap Tryz.prog T heldR b n D :=
  h.kept (row := none) ⟨rfl, rfl, rfl, by simp, fun k hk _ => Go.Sort.heap_grow_old (w.drewN q) os hk⟩ (by simp)
theorem ownsMap_keeps {w w' : World} {b n : Nat} {D : DataW Value} {T : TypeId} {S : List Nat} (h : w.ownsMap Tryz.prog T heldR b n D) (k : Keeps S w w') (hb : b ∉ S) : w'.ownsMap Tryz.prog T heldR b n D :=
  have hlt := h.lt
  match h with
  | ⟨es, clock, hb', F, hs, hD⟩ => ⟨es, clock, (k.block b hlt hb).trans hb', F, hs, hD⟩
theorem keyI (x : Int) (hx : (Lit.int .i64 x).wf = true) : keyOf Tryz.prog 3 (.int .i64 x) = some (kI x) := keyOf_int_mk Tryz.underlying3 hx
theorem look_pts {w : World} {b k : Nat} {l : List RV} (h : w.ownsMap Tryz.prog 3 heldR b k (ptsD l k)) (p : Int) (hp : (Lit.int .i64 p).wf = true) (q : Nat) (os : Array Obj) :
    (Instr.lookup 108 (.map (some b)) (.int .i64 p) false).run Tryz.prog (Go.Sort.grow (w.drewN q) os) = .ok (.bool (ptsB ((l.take k).map (·.n)) p)) (Go.Sort.grow (w.drewN q) os) := by
  obtain ⟨v, ps, hrun, hv⟩ := (ownsMap_grow h q os).lookup lawI Tryz.underlying108 (zeroB _) (zd := .held (.bool false)) (zp := []) rfl (keyI p hp)
  rw [ptsD_at] at hv
  unfold heldR at hv
  simp only [Option.some.injEq, Prod.mk.injEq, DataW.held.injEq] at hv
  rw [hrun, hv.1]
theorem look_last {w : World} {b k : Nat} {l : List RV} (h : w.ownsMap Tryz.prog 3 heldR b k (lastD l k)) (t : Int) (ht : (Lit.int .i64 t).wf = true) (y : RV) (o : Bool) (hy : (lastV t (l.take k)).getD default = y) (ho : (lastV t (l.take k)).isSome = o) :
    (Instr.lookup 109 (.map (some b)) (.int .i64 t) true).run Tryz.prog w = .ok (.tuple #[.agg #[.int .i64 y.n.th, .int .i64 y.n.ix, .int .i64 y.n.inv, .int .i64 y.n.pt, .int .i64 y.n.rs, .int .i64 y.code, .string y.key, .int .u64 y.time, .slice y.bA y.b.length y.bc, .int .i64 y.hd, .int .i64 y.cu, .int .i64 y.mo, .int .i64 y.er, .int .u64 y.at_, .string y.ak, .string y.av], .bool o]) w := by
  obtain ⟨v, ps, hrun, hv⟩ := h.look_ok lawI Tryz.underlying109 (zeroR _) (zd := .held (.agg (rC default).toArray)) (zp := []) rfl (keyI t ht)
  obtain ⟨h1, h2⟩ := lastD_at l t (.held (.agg (rC default).toArray)) k
  rw [h2] at hv
  rw [h1, ho] at hrun
  unfold heldR at hv
  simp only [Option.some.injEq, Prod.mk.injEq] at hv
  rw [hrun]
  congr 4
  subst hy
  cases hl : lastV t (l.take k) with
  | none => rw [hl] at hv; simp only [DataW.held.injEq] at hv; exact hv.1
  | some x => rw [hl] at hv; simp only [DataW.held.injEq] at hv; exact hv.1
structure ChkW (w wr : World) (xs : List RV) (b1 b2 k1 k2 : Nat) : Prop where
  pts : wr.ownsMap Tryz.prog 3 heldR b1 k1 (ptsD xs k1)
  lst : wr.ownsMap Tryz.prog 3 heldR b2 k2 (lastD xs k2)
  ne : b1 ≠ b2
  kk : Keeps [] w wr
  ge1 : w.heap.size ≤ b1
  ge2 : w.heap.size ≤ b2
theorem ChkW.step {w wr wr' : World} {xs : List RV} {b1 b2 k1 k2 : Nat} (h : ChkW w wr xs b1 b2 k1 k2) (k : Keeps [] wr wr') : ChkW w wr' xs b1 b2 k1 k2 :=
  ⟨ownsMap_keeps h.pts k (by simp), ownsMap_keeps h.lst k (by simp), h.ne, h.kk.trans k (by simp), h.ge1, h.ge2⟩
theorem grow_keeps (w : World) (q : Nat) (os : Array Obj) : Keeps [] w (Go.Sort.grow (w.drewN q) os) :=
  ⟨rfl, rfl, rfl, by simp, fun k hk _ => Go.Sort.heap_grow_old (w.drewN q) os hk⟩
theorem wfI {x : Int} (h1 : -9223372036854775808 ≤ x) (h2 : x < 9223372036854775808) : (Lit.int .i64 x).wf = true := WalkArith.wf_i64 (by omega)
def RngA (r : Rec) : Prop := (-9223372036854775808 ≤ r.th ∧ r.th < 9223372036854775808) ∧ Rng r ∧ (-9223372036854775808 ≤ r.pt ∧ r.pt < 9223372036854775808)
end Go.Proofs.YtbcgpjfejpcgnaaGreat
end
section
namespace Go.Proofs.YtbcgpjfejpcgnaaGreat
open Go.RowKit
theorem tmod_neg (k n : Int) (hn : 1 ≤ n) (hk : k < 0) : (k.tmod n < 0 → k.tmod n + n = k % n) ∧ (0 ≤ k.tmod n → k.tmod n = k % n) ∧ -n < k.tmod n := by
  have e : k.tmod n = -((-k) % n) := by
    have := Int.neg_tmod (-k) n
    rw [Int.neg_neg] at this
    rw [this, Int.tmod_eq_emod_of_nonneg (by omega)]
  have a0 := Int.emod_nonneg k (show n ≠ 0 by omega)
  have a1 := Int.emod_lt_of_pos k (show 0 < n by omega)
  have b0 := Int.emod_nonneg (-k) (show n ≠ 0 by omega)
  have b1 := Int.emod_lt_of_pos (-k) (show 0 < n by omega)
  have d1 := Int.mul_ediv_add_emod k n
  have d2 := Int.mul_ediv_add_emod (-k) n
  rw [e]
  generalize hr : (-k) % n = r at *
  generalize hs : k % n = s at *
  generalize (-k) / n = u at *
  generalize k / n = v at *
  have hsum : n * (u + v) + (r + s) = 0 := by rw [Int.mul_add]; omega
  have ht : u + v = 0 ∨ u + v = -1 := by
    by_cases h : u + v < -1
    · have := Int.mul_le_mul_of_nonneg_left (show u + v ≤ -2 by omega) (show 0 ≤ n by omega)
      omega
    · by_cases h' : 0 < u + v
      · have := Int.mul_le_mul_of_nonneg_left (show 1 ≤ u + v by omega) (show 0 ≤ n by omega)
        omega
      · omega
  rcases ht with ht | ht <;> rw [ht] at hsum
  · refine ⟨fun h => by omega, fun h => by omega, by omega⟩
  · refine ⟨fun h => by omega, fun h => by omega, by omega⟩
theorem mod_any (k n : Int) (hk : -9223372036854775808 ≤ k) (hk' : k ≤ 9223372036854775807) (hn : 1 ≤ n) (hn' : n ≤ 4611686018427387904) (w : World) :
    Calls Tryz.prog 12 #[.int .i64 k, .int .i64 n] w fun e w' => e = .returned (.int .i64 (k % n)) ∧ w = w' := by
  have hm0 := Int.emod_nonneg k (show n ≠ 0 by omega)
  have hm1 := Int.emod_lt_of_pos k (show 0 < n by omega)
  by_cases h0 : 0 ≤ k
  · have e : k.tmod n = k % n := Int.tmod_eq_emod_of_nonneg h0
    go_enter Tryz.func12, Tryz.ntmps12
    go_wp2
    go_ret
    exact ⟨rfl, rfl⟩
  · obtain ⟨t1, t2, t3⟩ := tmod_neg k n hn (by omega)
    have T1 := Lib.hid t1
    have T2 := Lib.hid t2
    clear t1 t2
    go_enter Tryz.func12, Tryz.ntmps12
    go_wp2
    · have hl : k.tmod n < 0 := by assumption
      go_ret
      exact ⟨by simp [T1.out hl], rfl⟩
    · have hl : 0 ≤ k.tmod n := by assumption
      go_ret
      exact ⟨by simp [T2.out hl], rfl⟩
end Go.Proofs.YtbcgpjfejpcgnaaGreat
end
section
namespace Go.Proofs.YtbcgpjfejpcgnaaGreat
open Go.ChangeShapes Go.WideShapes Go.ChangeAt Go.RowKit
set_option maxRecDepth 100000
theorem cellsW : Tryz.prog.cellsOf 53 = 3 := by kernel_rfl
theorem cellsS : Tryz.prog.cellsOf 9 = 1 := by kernel_rfl
theorem cellsB : Tryz.prog.cellsOf 4 = 1 := by kernel_rfl
theorem cellsI : Tryz.prog.cellsOf 3 = 1 := by kernel_rfl
theorem cellsU : Tryz.prog.cellsOf 22 = 1 := by kernel_rfl
theorem cellsU8 : Tryz.prog.cellsOf 5 = 1 := by kernel_rfl
theorem cellsWS : Tryz.prog.cellsOf 27 = 1 := by kernel_rfl
theorem cellsO : Tryz.prog.cellsOf 29 = 7 := by kernel_rfl
theorem str_of (s : ByteArray) : ∃ k : Str, s = ⟨k.toArray⟩ := ⟨s.data.toList, by cases s; simp⟩
end Go.Proofs.YtbcgpjfejpcgnaaGreat
end
section
namespace Go.Proofs.YtbcgpjfejpcgnaaGreat
open Go.RowKit
structure SnE where
  t : Nat
  j : Nat
  T : Nat
structure CuE where
  t : Nat
  c : Nat
  j : Nat
  T : Nat
  pl : Nat
  key : Str
structure WS where
  Bs : List (List Wrt)
  F : Nat
  Ss : List SnE
  Cs : List CuE
structure An where
  er : Int
  tm : Nat
  k : Str
  v : Str
structure RX where
  t : Nat
  ix : Int
  inv : Int
  pt : Int
  rs : Int
  code : Nat
  key : Str
  time : Nat
  bA : Option Addr
  bc : Nat
  b : List Wrt
  hd : Nat
  cu : Nat
  mo : Nat
  er : Int
  at_ : Nat
  ak : Str
  av : Str
def rvX (x : RX) : RV := ⟨⟨(x.t : Int), x.ix, x.inv, x.pt, x.rs⟩, (x.code : Int), ⟨x.key.toArray⟩, (x.time : Int), x.bA, x.bc, x.b, (x.hd : Int), (x.cu : Int), (x.mo : Int), x.er, (x.at_ : Int), ⟨x.ak.toArray⟩, ⟨x.av.toArray⟩⟩
def ansX (x : RX) : An := ⟨x.er, x.at_, x.ak, x.av⟩
def errA (e : Int) : An := ⟨e, 0, [], []⟩
def okA (T : Nat) : An := ⟨0, T, [], []⟩
def anB (a b : An) : Bool := decide (a.er = b.er) && decide (a.tm = b.tm) && decide (a.k = b.k) && decide (a.v = b.v)
theorem anB_iff (a b : An) : anB a b = true ↔ a = b := by
  obtain ⟨a1, a2, a3, a4⟩ := a
  obtain ⟨b1, b2, b3, b4⟩ := b
  simp [anB, and_assoc]
def lstAt (Bs : List (List Wrt)) (T : Nat) : List Ent := (Bs.take T).foldl applyR []
theorem lstAt_succ {Bs : List (List Wrt)} {k : Nat} {b : List Wrt} (h : Bs[k]? = some b) : lstAt Bs (k + 1) = applyR (lstAt Bs k) b := by
  unfold lstAt
  rw [List.take_add_one, h, List.foldl_append]
  rfl
theorem lstAt_over {Bs : List (List Wrt)} {T : Nat} (h : Bs.length ≤ T) : lstAt Bs T = lstAt Bs Bs.length := by
  unfold lstAt
  rw [List.take_of_length_le h, List.take_length]
theorem lstAt_snoc {Bs : List (List Wrt)} {b : List Wrt} {T : Nat} (h : T ≤ Bs.length) : lstAt (Bs ++ [b]) T = lstAt Bs T := by
  unfold lstAt
  rw [List.take_append_of_le_length h]
theorem lstAt_asc (Bs : List (List Wrt)) : ∀ T, Asc (lstAt Bs T) := by
  intro T
  induction T with
  | zero => exact List.Pairwise.nil
  | succ T ih =>
    by_cases h : T < Bs.length
    · rw [lstAt_succ (List.getElem?_eq_getElem h)]
      exact asc_applyR _ ih
    · rw [lstAt_over (by omega), ← lstAt_over (T := T) (by omega)]
      exact ih
theorem putR_len (e : Ent) : ∀ l : List Ent, (putR e l).length ≤ l.length + 1
  | [] => by simp [putR]
  | x :: l => by
    rw [putR]
    split
    · have := putR_len e l
      simp only [List.length_cons]; omega
    · simp only [List.length_cons]
      have := List.length_filter_le (fun y => decide (y.k ≠ e.k)) (x :: l)
      simp only [List.length_cons] at this
      first | omega | (have h2 := this; simp at *; omega)
theorem stepR_len (w : Wrt) (l : List Ent) : (stepR l w).length ≤ l.length + 1 := by
  unfold stepR
  split
  · unfold dropR
    exact Nat.le_succ_of_le (List.length_filter_le _ _)
  · exact putR_len _ _
theorem applyR_len (b : List Wrt) : ∀ l : List Ent, (applyR l b).length ≤ l.length + b.length := by
  unfold applyR
  induction b with
  | nil => intro l; simp
  | cons w b ih =>
    intro l
    have h1 := ih (stepR l w)
    have h2 := stepR_len w l
    simp only [List.foldl_cons, List.length_cons]
    omega
theorem lstAt_len {Bs : List (List Wrt)} (h : ∀ b ∈ Bs, b.length ≤ 16) : ∀ T, (lstAt Bs T).length ≤ Bs.length * 16 ∧ (T ≤ Bs.length → (lstAt Bs T).length ≤ T * 16) := by
  intro T
  induction T with
  | zero => simp [lstAt]
  | succ T ih =>
    by_cases hT : T < Bs.length
    · rw [lstAt_succ (List.getElem?_eq_getElem hT)]
      have h1 := applyR_len Bs[T] (lstAt Bs T)
      have h2 := h Bs[T] (List.getElem_mem hT)
      have h3 := ih.2 (by omega)
      refine ⟨?_, fun _ => ?_⟩ <;> omega
    · rw [lstAt_over (by omega), ← lstAt_over (T := T) (by omega)]
      exact ⟨ih.1, fun h => absurd h (by omega)⟩
def entW (Bs : List (List Wrt)) (key : Str) (T : Nat) : An := match lk (lstAt Bs T) key with
  | none => ⟨3, T, key, []⟩
  | some v => ⟨0, T, key, v⟩
def isS (t j : Nat) (p : SnE) : Bool := p.t == t && p.j == j
def isC (t c : Nat) (p : CuE) : Bool := p.t == t && p.c == c
def onS (t j : Nat) (p : CuE) : Bool := p.t == t && p.j == j
def snF (Ss : List SnE) (t j : Nat) : Option SnE := Ss.find? (isS t j)
def cuF (Cs : List CuE) (t c : Nat) : Option CuE := Cs.find? (isC t c)
def minT (Ss : List SnE) (n : Nat) : Nat := Ss.foldl (fun a p => min a p.T) n
theorem minT_snoc (Ss : List SnE) (n k : Nat) (p : SnE) (h : Ss[k]? = some p) : minT (Ss.take (k + 1)) n = min (minT (Ss.take k) n) p.T := by
  unfold minT
  rw [List.take_add_one, h, List.foldl_append]
  rfl
def less (l : List Ent) (k : Str) : Nat := (l.filter (fun e => decide (e.k < k))).length
theorem less_le (l : List Ent) (k : Str) : less l k ≤ l.length := List.length_filter_le _ _
def now (l : List Ent) (pl : Nat) (at_ : Str) : Nat := if pl = 1 then less l at_ + 1 else if pl = 2 then l.length + 1 else 0
def spot (l : List Ent) (pl : Nat) (at_ : Str) (mv : Nat) (k : Str) : Nat :=
  if mv = 0 then less l k + 1 else if mv = 1 then 1 else if mv = 2 then l.length else if mv = 3 then min (now l pl at_ + 1) (l.length + 1) else now l pl at_ - 1
def moved (l : List Ent) (T i : Nat) : An × Nat × Str :=
  if i = 0 then (⟨10, T, [], []⟩, 0, []) else match l[i - 1]? with
    | none => (⟨10, T, [], []⟩, 2, [])
    | some e => (⟨0, T, e.k, e.v⟩, 1, e.k)
def putC (Cs : List CuE) (t c pl : Nat) (key : Str) : List CuE := Cs.map (fun p => if isC t c p then ⟨p.t, p.c, p.j, p.T, pl, key⟩ else p)
abbrev Res := An × Bool × WS
def getW (s : WS) (x : RX) : An := if 32 < x.key.length then errA 8 else if x.code = 1 then entW s.Bs x.key s.Bs.length else if s.Bs.length < x.time then errA 4 else if x.time < s.F then errA 5 else entW s.Bs x.key x.time
def appW (s : WS) (x : RX) : Res :=
  if checkR 8 1 x.b = 0 then
    (if x.er = 2 ∨ x.er = 9 then (ansX x, anB (ansX x) (errA x.er), s) else (okA (s.Bs.length + 1), true, ⟨s.Bs ++ [x.b], s.F, s.Ss, s.Cs⟩))
  else (errA (checkR 8 1 x.b), true, s)
def vacW (s : WS) (x : RX) : Res :=
  if anB (ansX x) (okA x.at_) && decide (x.at_ ≤ minT s.Ss s.Bs.length) then (ansX x, true, ⟨s.Bs, max s.F x.at_, s.Ss, s.Cs⟩) else (ansX x, false, s)
def snpW (s : WS) (x : RX) : Res := match snF s.Ss x.t x.hd with
  | some _ => (errA 7, true, s)
  | none => (okA s.Bs.length, true, ⟨s.Bs, s.F, s.Ss ++ [⟨x.t, x.hd, s.Bs.length⟩], s.Cs⟩)
def relW (s : WS) (x : RX) : Res := match snF s.Ss x.t x.hd with
  | none => (errA 6, true, s)
  | some p => (okA p.T, true, ⟨s.Bs, s.F, s.Ss.filter (fun p => !isS x.t x.hd p), s.Cs.filter (fun p => !onS x.t x.hd p)⟩)
def opnW (s : WS) (x : RX) : Res := match snF s.Ss x.t x.hd with
  | none => (errA 6, true, s)
  | some p => match cuF s.Cs x.t x.cu with
    | some _ => (errA 7, true, s)
    | none => (okA p.T, true, ⟨s.Bs, s.F, s.Ss, s.Cs ++ [⟨x.t, x.cu, x.hd, p.T, 0, []⟩]⟩)
def cloW (s : WS) (x : RX) : Res := match cuF s.Cs x.t x.cu with
  | none => (errA 6, true, s)
  | some k => (okA k.T, true, ⟨s.Bs, s.F, s.Ss, s.Cs.filter (fun p => !isC x.t x.cu p)⟩)
def movW (s : WS) (x : RX) : Res := match cuF s.Cs x.t x.cu with
  | none => (errA 6, true, s)
  | some k => if 32 < x.key.length then (errA 8, true, s) else
      ((moved (lstAt s.Bs k.T) k.T (spot (lstAt s.Bs k.T) k.pl k.key x.mo x.key)).1, true,
        ⟨s.Bs, s.F, s.Ss, putC s.Cs x.t x.cu (moved (lstAt s.Bs k.T) k.T (spot (lstAt s.Bs k.T) k.pl k.key x.mo x.key)).2.1 (moved (lstAt s.Bs k.T) k.T (spot (lstAt s.Bs k.T) k.pl k.key x.mo x.key)).2.2⟩)
def perfW (s : WS) (x : RX) : Res :=
  if x.code = 1 ∨ x.code = 2 then (getW s x, true, s) else if x.code = 3 then appW s x else if x.code = 9 then vacW s x else if x.code = 4 then snpW s x else
  if x.code = 5 then relW s x else if x.code = 6 then opnW s x else if x.code = 8 then cloW s x else movW s x
def fitsW (r : Res) (x : RX) : Bool := r.2.1 && (decide (x.rs = -1) || anB r.1 (ansX x))
def explW : WS → List RX → Bool × WS
  | s, [] => (true, s)
  | s, x :: l => if fitsW (perfW s x) x then explW (perfW s x).2.2 l else (false, (perfW s x).2.2)
structure Inv (n : Nat) (s : WS) : Prop where
  nB : s.Bs.length ≤ n
  b16 : ∀ b ∈ s.Bs, b.length ≤ 16
  nS : s.Ss.length ≤ n
  nC : s.Cs.length ≤ n
  dS : s.Ss.Pairwise (fun p q => ¬ (p.t = q.t ∧ p.j = q.j))
  dC : s.Cs.Pairwise (fun p q => ¬ (p.t = q.t ∧ p.c = q.c))
  bS : ∀ p ∈ s.Ss, p.t < 64 ∧ p.j < 8 ∧ p.T ≤ s.Bs.length
  bC : ∀ p ∈ s.Cs, p.c < 8 ∧ p.T ≤ s.Bs.length ∧ p.pl ≤ 2 ∧ ∃ q ∈ s.Ss, q.t = p.t ∧ q.j = p.j ∧ q.T = p.T
structure OkX (x : RX) : Prop where
  t : x.t < 64
  code : 1 ≤ x.code ∧ x.code ≤ 9
  hd : x.hd < 8
  cu : x.cu < 8
  mo : x.mo ≤ 4
  rs : -1 ≤ x.rs
theorem Inv.mono {n m : Nat} {s : WS} (h : Inv n s) (hm : n ≤ m) : Inv m s := ⟨Nat.le_trans h.nB hm, h.b16, Nat.le_trans h.nS hm, Nat.le_trans h.nC hm, h.dS, h.dC, h.bS, h.bC⟩
theorem Inv.zero : Inv 0 ⟨[], 0, [], []⟩ := ⟨by simp, by simp, by simp, by simp, List.Pairwise.nil, List.Pairwise.nil, by simp, by simp⟩
theorem snF_some {Ss : List SnE} {t j : Nat} {p : SnE} (h : snF Ss t j = some p) : p ∈ Ss ∧ p.t = t ∧ p.j = j := by
  refine ⟨List.mem_of_find?_eq_some h, ?_⟩
  have := List.find?_some h
  simpa [isS] using this
theorem snF_none {Ss : List SnE} {t j : Nat} (h : snF Ss t j = none) : ∀ p ∈ Ss, ¬ (p.t = t ∧ p.j = j) := by
  intro p hp
  have := List.find?_eq_none.1 h p hp
  simpa [isS] using this
theorem cuF_some {Cs : List CuE} {t c : Nat} {p : CuE} (h : cuF Cs t c = some p) : p ∈ Cs ∧ p.t = t ∧ p.c = c := by
  refine ⟨List.mem_of_find?_eq_some h, ?_⟩
  have := List.find?_some h
  simpa [isC] using this
theorem cuF_none {Cs : List CuE} {t c : Nat} (h : cuF Cs t c = none) : ∀ p ∈ Cs, ¬ (p.t = t ∧ p.c = c) := by
  intro p hp
  have := List.find?_eq_none.1 h p hp
  simpa [isC] using this
theorem checkR_len {b : List Wrt} (h : checkR 8 1 b = 0) : b.length ≤ 16 := by
  unfold checkR at h
  split at h
  · exact absurd h (by decide)
  · omega
theorem moved_pl (l : List Ent) (T i : Nat) : (moved l T i).2.1 ≤ 2 := by
  unfold moved
  split
  · simp
  · split <;> simp
theorem pair_snoc {α : Type} {R : α → α → Prop} {l : List α} {x : α} (h : l.Pairwise R) (hx : ∀ y ∈ l, R y x) : (l ++ [x]).Pairwise R :=
  List.pairwise_append.2 ⟨h, List.pairwise_singleton _ _, fun a ha b hb => by simp at hb; subst hb; exact hx a ha⟩
theorem Inv.step {n : Nat} {s : WS} {x : RX} (h : Inv n s) (hx : OkX x) : Inv (n + 1) (perfW s x).2.2 := by
  have h' := h.mono (Nat.le_succ n)
  unfold perfW
  split
  · exact h'
  split
  · unfold appW
    split
    · split
      · exact h'
      · rename_i hc _
        have hl := checkR_len hc
        refine ⟨?_, ?_, h'.nS, h'.nC, h.dS, h.dC, ?_, ?_⟩
        · have := h.nB; simp; omega
        · intro b hb
          rcases List.mem_append.1 hb with hb | hb
          · exact h.b16 b hb
          · simp at hb; subst hb; exact hl
        · intro p hp
          have := h.bS p hp
          refine ⟨this.1, this.2.1, ?_⟩
          simp; omega
        · intro p hp
          obtain ⟨a, b, c, d⟩ := h.bC p hp
          refine ⟨a, ?_, c, d⟩
          simp; omega
    · exact h'
  split
  · unfold vacW
    split
    · exact ⟨h'.nB, h.b16, h'.nS, h'.nC, h.dS, h.dC, h.bS, h.bC⟩
    · exact h'
  split
  · unfold snpW
    split
    · exact h'
    · rename_i hn
      refine ⟨h'.nB, h.b16, ?_, h'.nC, ?_, h.dC, ?_, ?_⟩
      · have := h.nS; simp; omega
      · exact pair_snoc h.dS fun y hy => snF_none hn y hy
      · intro p hp
        rcases List.mem_append.1 hp with hp | hp
        · exact h.bS p hp
        · simp at hp; subst hp; exact ⟨hx.t, hx.hd, Nat.le_refl _⟩
      · intro p hp
        obtain ⟨a, b, c, q, hq, d⟩ := h.bC p hp
        exact ⟨a, b, c, q, List.mem_append_left _ hq, d⟩
  split
  · unfold relW
    split
    · exact h'
    · refine ⟨h'.nB, h.b16, Nat.le_trans (List.length_filter_le _ _) h'.nS, Nat.le_trans (List.length_filter_le _ _) h'.nC, h.dS.filter _, h.dC.filter _, fun p hp => h.bS p (List.mem_filter.1 hp).1, ?_⟩
      intro p hp
      obtain ⟨hp1, hp2⟩ := List.mem_filter.1 hp
      obtain ⟨a, b, c, q, hq, d1, d2, d3⟩ := h.bC p hp1
      refine ⟨a, b, c, q, List.mem_filter.2 ⟨hq, ?_⟩, d1, d2, d3⟩
      simp only [onS, isS, d1, d2] at hp2 ⊢
      exact hp2
  split
  · unfold opnW
    split
    · exact h'
    · rename_i p hp
      split
      · exact h'
      · rename_i hc
        obtain ⟨q1, q2, q3⟩ := snF_some hp
        refine ⟨h'.nB, h.b16, h'.nS, ?_, h.dS, ?_, h.bS, ?_⟩
        · have := h.nC; simp; omega
        · exact pair_snoc h.dC fun y hy => cuF_none hc y hy
        · intro y hy
          rcases List.mem_append.1 hy with hy | hy
          · exact h.bC y hy
          · simp at hy; subst hy
            exact ⟨hx.cu, (h.bS p q1).2.2, by simp, p, q1, q2, q3, rfl⟩
  split
  · unfold cloW
    split
    · exact h'
    · exact ⟨h'.nB, h.b16, h'.nS, Nat.le_trans (List.length_filter_le _ _) h'.nC, h.dS, h.dC.filter _, h.bS, fun p hp => h.bC p (List.mem_filter.1 hp).1⟩
  · unfold movW
    split
    · exact h'
    · split
      · exact h'
      · refine ⟨h'.nB, h.b16, h'.nS, by have := h'.nC; simp only [putC, List.length_map]; exact this, h.dS, ?_, h.bS, ?_⟩
        · unfold putC
          refine List.pairwise_map.2 (h.dC.imp ?_)
          intro a b hab
          split <;> split <;> exact hab
        · intro p hp
          obtain ⟨q, hq, rfl⟩ := List.mem_map.1 hp
          obtain ⟨a, b, c, d⟩ := h.bC q hq
          split
          · exact ⟨a, b, moved_pl _ _ _, d⟩
          · exact ⟨a, b, c, d⟩
end Go.Proofs.YtbcgpjfejpcgnaaGreat
end
