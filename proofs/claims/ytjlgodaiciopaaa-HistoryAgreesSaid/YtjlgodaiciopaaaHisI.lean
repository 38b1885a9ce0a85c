/- What the laws' walks share: build's list, opened; loads and calls in a region that draws; lengths. -/
import Derived.Test.YtjlgodaiciopaaaHisD
import Derived.Test.YtjlgodaiciopaaaHisE
import Derived.Test.YtjlgodaiciopaaaHisO
import Derived.Test.YtjlgodaiciopaaaHisG
namespace Go.Proofs.Ytjlgodaiciopaaa
open Go.RowKit
set_option maxRecDepth 100000
theorem recs_length (t n : Nat) : ∀ (j k now : Nat) (rs : List Rn), (recs t n k now j rs).length ≤ j
  | 0, _, _, _ => Nat.le_refl _
  | _ + 1, _, _, [] => Nat.zero_le _
  | j + 1, k, now, r :: rs => by
    unfold recs
    by_cases h : r.op = true
    · rw [if_pos h]; simp
    · rw [if_neg h, List.length_cons]
      have := recs_length t n j (k + 1) (after now r) rs
      omega
theorem bldOf_nil {X : List (Value × List Rn)} (h : min X.length 6 = 0) : bldOf X = [] := by unfold bldOf; rw [h]; rfl
theorem bldOf_thr (X : List (Value × List Rn)) (t : Nat) : (∀ (i : Nat) (a b : Rec), (ofT t (bldOf X))[i]? = some a → (ofT t (bldOf X))[i + 1]? = some b → prec a b = true ∧ b.ix = (i : Int) + 1) ∧ ((ofT t (bldOf X)).filter (fun r => r.rs == -1)).length ≤ 1 ∧ (ofT t (bldOf X)).length ≤ 8 := by
  rcases Nat.eq_zero_or_pos (min X.length 6) with h | h
  · rw [bldOf_nil h]; simp [ofT]
  · obtain ⟨h1, h2⟩ := threads_law _ h (runsOf X) _ (Nat.min_le_right _ _) t
    refine ⟨h1, h2, ?_⟩
    unfold bldOf
    rw [(bld_law _ h (runsOf X) _).2.1 t]
    split
    · exact recs_length _ _ 8 0 0 _
    · simp
theorem bldOf_sum (X : List (Value × List Rn)) : ((List.range 6).map (fun t : Nat => (ofT t (bldOf X)).length)).sum = (bldOf X).length := by
  rcases Nat.eq_zero_or_pos (min X.length 6) with h | h
  · rw [bldOf_nil h]; rfl
  · exact threads_sum _ h (runsOf X) _ (Nat.min_le_right _ _)
theorem bldOf_len (X : List (Value × List Rn)) : (bldOf X).length ≤ 48 := by
  rw [← bldOf_sum]
  have h := fun t => (bldOf_thr X t).2.2
  have : (List.range 6).map (fun t : Nat => (ofT t (bldOf X)).length) = [(ofT (0 : Nat) (bldOf X)).length, (ofT (1 : Nat) (bldOf X)).length, (ofT (2 : Nat) (bldOf X)).length, (ofT (3 : Nat) (bldOf X)).length, (ofT (4 : Nat) (bldOf X)).length, (ofT (5 : Nat) (bldOf X)).length] := rfl
  rw [this]
  simp only [List.sum_cons, List.sum_nil]
  have h0 := h 0; have h1 := h 1; have h2 := h 2; have h3 := h 3; have h4 := h 4; have h5 := h 5
  omega
theorem bldOf_good (X : List (Value × List Rn)) : Good (bldOf X) := by
  rcases Nat.eq_zero_or_pos (min X.length 6) with h | h
  · rw [bldOf_nil h]
    exact ⟨by simp, List.Pairwise.nil, List.Pairwise.nil, List.Pairwise.nil, by simp⟩
  · exact bld_good _ h (runsOf X) _ (Nat.le_refl _)
theorem map_n (L : List Rec) : (L.map rvOf).map (·.n) = L := by
  rw [List.map_map]
  have : ((·.n) ∘ rvOf : Rec → Rec) = id := rfl
  rw [this, List.map_id]
/-- A list of build's is an argument for the picks. -/
theorem okl_rv {w : World} (L : List Rec) : OkL w (L.map rvOf) := fun x hx => by
  obtain ⟨r, _, rfl⟩ := List.mem_map.1 hx
  exact ⟨Lst.nil w, by simp [rvOf]⟩
theorem Pk.lst {w : World} {base : Nat} {v : Value} {ys : List RV} (h : Pk w base v ys) : Lst w v ys.length (rCs ys) := h.row.lst
/-- The picked list's numbers. -/
theorem pk_nums {p : Rec → Bool} {xs ys : List RV} (h : ys.map strip = (xs.filter (fun x => p x.n)).map strip) : ys.map (·.n) = (xs.map (·.n)).filter p := by
  rw [strip_n h, filter_n]
theorem load_int {w : World} {p : Addr} {z : Int} (h : w.cell? p = some (.int .i64 z)) : (loadVar 3 p).run Try.prog w = .ok (.int .i64 z) w := by
  simp only [loadVar, Sem.run_bind, Try.isAgg3, Result.andThen_ok, if_false, Bool.false_eq_true]
  rw [run_load, h]
theorem quiet_load_w {P : Program} {ops : Array Oper} {C : World → Prop} {Q : Act → Prop} {rest : List Oper} {o : Oper} {a : Act} (hw : Region.wanted o (yielded ops a.tmps) = true) (ty : TypeId) (x : Operand) (ho : o.op = .load ty x) (p : Addr) (hx : a.eval x = .pointer (some p)) (v : Value)
    (hr : ∀ w, C w → (loadVar ty p).run P w = .ok v w) (h : wpQuiet P ops C Q rest (a.put o.dst v)) : wpQuiet P ops C Q (o :: rest) a := by
  unfold wpQuiet
  rw [if_pos hw]
  refine ⟨v, fun w hw => ?_, h⟩
  unfold Oper.quietAt execOp
  simp only [ho, hx, Instr.loadAt, Instr.sureAddr, Sem.run_bind, Sem.run_pure, Result.andThen_ok, hr w hw]
  exact ⟨rfl, rfl⟩
theorem strip_b {ys zs : List RV} (h : ys.map strip = zs.map strip) (hz : ∀ z ∈ zs, z.b = []) : ∀ y ∈ ys, y.b = [] := fun y hy => by
  have : strip y ∈ zs.map strip := by rw [← h]; exact List.mem_map_of_mem hy
  obtain ⟨z, hzm, e⟩ := List.mem_map.1 this
  have : (strip z).b = (strip y).b := by rw [e]
  have h2 : z.b = y.b := this
  rw [← h2, hz z hzm]
theorem rv_b {L : List Rec} : ∀ z ∈ L.map rvOf, z.b = [] := fun z hz => by
  obtain ⟨r, _, rfl⟩ := List.mem_map.1 hz; rfl
end Go.Proofs.Ytjlgodaiciopaaa
