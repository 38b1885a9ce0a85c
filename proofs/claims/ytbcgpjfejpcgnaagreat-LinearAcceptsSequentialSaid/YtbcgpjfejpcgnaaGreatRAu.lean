/- Lemmas on the way to LinearAcceptsSequential. No condition. -/
import Derived.Test.YtbcgpjfejpcgnaaGreatRAd
import Derived.Test.YtbcgpjfejpcgnaaGreatRAg
import Derived.Test.YtbcgpjfejpcgnaaGreatRAt
import Derived.WalkKit
import Derived.Deep.RegionHeld3
import Derived.Deep.QuietTactic
import Derived.BigQuiet
import Derived.Sort.AssemblyPlain
set_option linter.unusedSimpArgs false
set_option linter.unusedVariables false
set_option linter.unusedSectionVars false
section
namespace Go.Proofs.YtbcgpjfejpcgnaaGreat
open Go.RowKit
set_option linter.unusedVariables false
theorem rxO_rvX (x : RX) : rxO (rvX x) = x := by
  cases x
  simp [rxO, rvX]
theorem map_rxO (l : List RX) : (l.map rvX).map rxO = l := by
  rw [List.map_map]
  exact (List.map_congr_left (fun x _ => rxO_rvX x)).trans (List.map_id l)
def opS (x : SpV) : O.OV := O.onlyV (O.normV 2 x.o)
theorem opS_ok (x : SpV) : O.vOp 2 (opS x).op = true ∧ (0 ≤ (opS x).c ∧ (opS x).c ≤ 9) ∧ (0 ≤ (opS x).h ∧ (opS x).h < 2) ∧ (0 ≤ (opS x).u ∧ (opS x).u < 8) ∧ (0 ≤ (opS x).m ∧ (opS x).m < 5) ∧ (opS x).t < 12 ∧ (opS x).b.length ≤ 4 := by
  have h1 : 0 ≤ x.o.c % 9 := Int.emod_nonneg _ (by omega)
  have h2 : x.o.c % 9 < 9 := Int.emod_lt_of_pos _ (by omega)
  have h3 : 0 ≤ x.o.h % 2 := Int.emod_nonneg _ (by omega)
  have h4 : x.o.h % 2 < 2 := Int.emod_lt_of_pos _ (by omega)
  have h5 : 0 ≤ x.o.u % 2 := Int.emod_nonneg _ (by omega)
  have h6 : x.o.u % 2 < 2 := Int.emod_lt_of_pos _ (by omega)
  have h7 : 0 ≤ x.o.m % 5 := Int.emod_nonneg _ (by omega)
  have h8 : x.o.m % 5 < 5 := Int.emod_lt_of_pos _ (by omega)
  have h9 : x.o.t % 12 < 12 := Nat.mod_lt _ (by omega)
  have h10 : (x.o.b.take 4).length ≤ 4 := by rw [List.length_take]; omega
  obtain ⟨C, hC⟩ : ∃ C, 1 + x.o.c % 9 = C := ⟨_, rfl⟩
  unfold opS O.normV
  rw [hC]
  generalize x.o.h % 2 = H at h3 h4 ⊢
  generalize x.o.u % 2 = U at h5 h6 ⊢
  generalize x.o.m % 5 = M at h7 h8 ⊢
  generalize x.o.t % 12 = Tm at h9 ⊢
  generalize x.o.b.take 4 = B at h10 ⊢
  have e : C = 1 ∨ C = 2 ∨ C = 3 ∨ C = 4 ∨ C = 5 ∨ C = 6 ∨ C = 7 ∨ C = 8 ∨ C = 9 := by omega
  rcases e with rfl | rfl | rfl | rfl | rfl | rfl | rfl | rfl | rfl
  all_goals
    unfold O.onlyV
    simp [O.vOp, O.OV.op, O.zrB]
  all_goals first
    | omega
    | (split <;> simp_all <;> omega)
    | skip
structure SqS where
  rs : List RX
  s : WS
  now : Nat
  i0 : Nat
  i1 : Nat
def recS (t ix inv pt r : Nat) (o : O.OV) (a : An) : RX := ⟨t, ix, inv, pt, r, o.c.toNat, o.k, o.t, o.bA, o.bc, o.b, o.h.toNat, o.u.toNat, o.m.toNat, a.er, a.tm, a.k, a.v⟩
def n1S (q : SqS) (x : SpV) : Nat := q.now + x.g % 5
def n2S (q : SqS) (x : SpV) : Nat := n1S q x + x.a % 5
def n3S (q : SqS) (x : SpV) : Nat := n2S q x + x.r % 5
def ixS (q : SqS) (k : Nat) : Nat := if k % 2 = 0 then q.i0 else q.i1
def rx0 (q : SqS) (k : Nat) (x : SpV) (a : An) : RX := recS (k % 2) (ixS q k) (n1S q x) (n2S q x) (n3S q x) (opS x) a
def anS (q : SqS) (k : Nat) (x : SpV) : An := (perfW q.s (rx0 q k x a0)).1
def stS (q : SqS) (k : Nat) (x : SpV) : SqS :=
  if (opS x).c = 9 then q else
    ⟨q.rs ++ [rx0 q k x (anS q k x)], (perfW q.s (rx0 q k x a0)).2.2, n3S q x + 1, if k % 2 = 0 then q.i0 + 1 else q.i0, if k % 2 = 0 then q.i1 else q.i1 + 1⟩
structure SqI (k : Nat) (q : SqS) : Prop where
  len : q.rs.length ≤ k
  inv : Inv q.rs.length q.s
  exp : explW s0 q.rs = (true, q.s)
  good : Good (q.rs.map fun x => (rvX x).n)
  bnd : ∀ r ∈ q.rs, r.inv ≤ r.pt ∧ r.pt ≤ r.rs ∧ r.rs < (q.now : Int) ∧ 0 ≤ r.inv
  asc : q.rs.Pairwise (fun a b => a.pt < b.pt)
  th : ∀ r ∈ q.rs, r.t < 2
  ok : ∀ r ∈ q.rs, O.vOp 2 (ovO (rvX r)).op = true ∧ OkX r ∧ r.time < 12 ∧ r.b.length ≤ 4 ∧ r.code ≠ 9 ∧ (r.code = 3 → r.er ≠ 2 ∧ r.er ≠ 9) ∧ r.at_ ≤ 1000
  c0 : q.i0 = (q.rs.filter fun r => r.t == 0).length
  c1 : q.i1 = (q.rs.filter fun r => r.t == 1).length
theorem checkR_vals (b : List Wrt) : checkR 8 1 b = 0 ∨ checkR 8 1 b = 1 ∨ checkR 8 1 b = 8 := by
  unfold checkR
  repeat' split
  all_goals simp
theorem perf_ok {s : WS} {x : RX} (h9 : x.code ≠ 9) (h3 : x.code = 3 → x.er ≠ 2 ∧ x.er ≠ 9) : (perfW s x).2.1 = true := by
  unfold perfW
  split
  · rfl
  split
  · rename_i h
    obtain ⟨e1, e2⟩ := h3 h
    unfold appW
    split
    · rw [if_neg (by omega)]
    · rfl
  split
  · unfold snpW; split <;> rfl
  split
  · unfold relW; split <;> rfl
  split
  · unfold opnW; split; rfl; split <;> rfl
  split
  · unfold cloW; split <;> rfl
  · unfold movW; split; rfl; split <;> rfl
theorem moved_tm (l : List Ent) (T i : Nat) : (moved l T i).1.tm = T := by
  unfold moved
  split
  · rfl
  · split <;> rfl
theorem entW_tm (Bs : List (List Wrt)) (k : Str) (T : Nat) : (entW Bs k T).tm = T := by
  unfold entW
  split <;> rfl
theorem perf_tm {n : Nat} {s : WS} (hi : Inv n s) {x : RX} (h9 : x.code ≠ 9) (h3 : x.code = 3 → x.er ≠ 2 ∧ x.er ≠ 9) : (perfW s x).1.tm ≤ n + 1 + x.time := by
  have hB := hi.nB
  unfold perfW
  split
  · unfold getW
    split
    · simp [errA]
    split
    · simp only [entW_tm]; omega
    split
    · simp [errA]
    split
    · simp [errA]
    · simp only [entW_tm]; omega
  split
  · rename_i h
    obtain ⟨e1, e2⟩ := h3 h
    unfold appW
    split
    · rw [if_neg (by omega)]; simp [okA]; omega
    · simp [errA]
  split
  · unfold snpW
    split
    · simp [errA]
    · simp [okA]; omega
  split
  · unfold relW
    split
    · simp [errA]
    · rename_i p hp
      have := (hi.bS p (snF_some hp).1).2.2
      simp [okA]; omega
  split
  · unfold opnW
    split
    · simp [errA]
    · rename_i p hp
      have := (hi.bS p (snF_some hp).1).2.2
      split
      · simp [errA]
      · simp [okA]; omega
  split
  · unfold cloW
    split
    · simp [errA]
    · rename_i p hp
      have := (hi.bC p (cuF_some hp).1).2.1
      simp [okA]; omega
  · unfold movW
    split
    · simp [errA]
    · rename_i p hp
      have := (hi.bC p (cuF_some hp).1).2.1
      split
      · simp [errA]
      · simp only [moved_tm]; omega
theorem app_er {s : WS} {x : RX} (h : x.code = 3) (he : x.er ≠ 2 ∧ x.er ≠ 9) : (perfW s x).1.er ≠ 2 ∧ (perfW s x).1.er ≠ 9 := by
  have h2 : perfW s x = appW s x := by unfold perfW; rw [if_neg (by omega), if_pos h]
  rw [h2]
  unfold appW
  split
  · rw [if_neg (by omega)]; simp [okA]
  · rcases checkR_vals x.b with e | e | e <;> rw [e] <;> simp [errA]
theorem perf_ans {s : WS} {x y : RX} (h9 : x.code ≠ 9) (h3 : x.code = 3 → x.er ≠ 2 ∧ x.er ≠ 9) (h3' : x.code = 3 → y.er ≠ 2 ∧ y.er ≠ 9)
    (e : y = { x with er := y.er, at_ := y.at_, ak := y.ak, av := y.av }) : perfW s y = perfW s x := by
  have hc : y.code = x.code := by rw [e]
  by_cases h : x.code = 3
  · have h1 : perfW s x = appW s x := by unfold perfW; rw [if_neg (by omega), if_pos h]
    have h2 : perfW s y = appW s y := by unfold perfW; rw [if_neg (by omega), if_pos (by omega)]
    have hb : y.b = x.b := by rw [e]
    have a1 := h3 h
    have a2 := h3' h
    rw [h1, h2]
    unfold appW
    rw [hb, if_neg (show ¬ (y.er = 2 ∨ y.er = 9) by omega), if_neg (show ¬ (x.er = 2 ∨ x.er = 9) by omega)]
  · rw [e]
    unfold perfW
    rw [if_neg h, if_neg h, if_neg h9, if_neg h9]
    rfl
end Go.Proofs.YtbcgpjfejpcgnaaGreat
end
section
namespace Go.Proofs.YtbcgpjfejpcgnaaGreat
open Go.RowKit
set_option linter.unusedVariables false
theorem explW_snoc (l : List RX) (x : RX) : ∀ s s' : WS, explW s l = (true, s') → explW s (l ++ [x]) = if fitsW (perfW s' x) x = true then (true, (perfW s' x).2.2) else (false, (perfW s' x).2.2) := by
  induction l with
  | nil =>
    intro s s' h
    have : s = s' := congrArg Prod.snd h
    subst this
    rw [List.nil_append, explW_cons]
    rfl
  | cons y l ih =>
    intro s s' h
    rw [explW_cons] at h
    by_cases hf : fitsW (perfW s y) y = true
    · rw [if_pos hf] at h
      rw [List.cons_append, explW_cons, if_pos hf, ih _ _ h]
    · rw [if_neg hf] at h
      have := congrArg Prod.fst h
      simp at this
theorem ansL_snoc (l : List RX) (x : RX) : ∀ (s s' : WS) (a : An), explW s l = (true, s') → ansL s a (l ++ [x]) = ((perfW s' x).1, (perfW s' x).2.1) := by
  induction l with
  | nil =>
    intro s s' a h
    have : s = s' := congrArg Prod.snd h
    subst this
    rw [List.nil_append]
    unfold ansL
    cases h2 : (perfW s x).2.1
    · rfl
    · rfl
  | cons y l ih =>
    intro s s' a h
    rw [explW_cons] at h
    by_cases hf : fitsW (perfW s y) y = true
    · rw [if_pos hf] at h
      have h1 : (perfW s y).2.1 = true := by
        unfold fitsW at hf
        simp only [Bool.and_eq_true] at hf
        exact hf.1
      rw [List.cons_append]
      unfold ansL
      rw [if_pos h1, ih _ _ _ h]
    · rw [if_neg hf] at h
      have := congrArg Prod.fst h
      simp at this
theorem answW_snoc {l : List RX} {x : RX} {s' : WS} (h : explW s0 l = (true, s')) : answW (l ++ [x]) = ((perfW s' x).1, (perfW s' x).2.1) := by
  unfold answW
  rw [if_neg (by simp)]
  exact ansL_snoc l x s0 s' a0 h
theorem SqI.zero : SqI 0 ⟨[], s0, 0, 0, 0⟩ := ⟨Nat.le_refl _, Inv.zero, rfl, Good.nil, by simp, List.Pairwise.nil, by simp, by simp, rfl, rfl⟩
def RecOk (r : RX) : Prop := O.vOp 2 (ovO (rvX r)).op = true ∧ OkX r ∧ r.time < 12 ∧ r.b.length ≤ 4 ∧ r.code ≠ 9 ∧ (r.code = 3 → r.er ≠ 2 ∧ r.er ≠ 9) ∧ r.at_ ≤ 1000
theorem rx0_ok (q : SqS) (k : Nat) (x : SpV) (a : An) (h9 : (opS x).c ≠ 9) (ha : (rx0 q k x a).code = 3 → a.er ≠ 2 ∧ a.er ≠ 9) (ht : a.tm ≤ 1000) : RecOk (rx0 q k x a) := by
  obtain ⟨h1, ⟨h2, h2'⟩, ⟨h3, h3'⟩, ⟨h4, h4'⟩, ⟨h5, h5'⟩, h6, h7⟩ := opS_ok x
  have hc := O.vOp_code h1
  simp only [O.OV.op] at hc
  have e1 := Int.toNat_of_nonneg h2
  have e3 := Int.toNat_of_nonneg h3
  have e4 := Int.toNat_of_nonneg h4
  have e5 := Int.toNat_of_nonneg h5
  refine ⟨?_, ⟨?_, ?_, ?_, ?_, ?_, ?_⟩, h6, h7, ?_, ha, ht⟩
  · have : ovO (rvX (rx0 q k x a)) = opS x := by
      unfold rx0 recS rvX ovO
      simp only [e1, e3, e4, e5, Int.toNat_natCast]
    rw [this]; exact h1
  · show k % 2 < 64; omega
  · exact hc
  · show (opS x).h.toNat < 8; omega
  · show (opS x).u.toNat < 8; omega
  · show (opS x).m.toNat ≤ 4; omega
  · show (-1 : Int) ≤ ((n3S q x : Nat) : Int); omega
  · show (opS x).c.toNat ≠ 9; omega
theorem SqI.step {k : Nat} {q : SqS} (h : SqI k q) (hk : k ≤ 100) (x : SpV) : SqI (k + 1) (stS q k x) := by
  unfold stS
  by_cases h9 : (opS x).c = 9
  · rw [if_pos h9]
    exact ⟨Nat.le_succ_of_le h.len, h.inv, h.exp, h.good, h.bnd, h.asc, h.th, h.ok, h.c0, h.c1⟩
  · rw [if_neg h9]
    have hz := rx0_ok q k x a0 h9 (fun _ => ⟨by decide, by decide⟩) (by decide)
    obtain ⟨z1, z2, z3, z4, z5, z6, z7⟩ := hz
    have htm := perf_tm h.inv z5 z6
    have hlen := h.len
    have hat : (anS q k x).tm ≤ 1000 := by unfold anS; omega
    have her : (rx0 q k x (anS q k x)).code = 3 → (anS q k x).er ≠ 2 ∧ (anS q k x).er ≠ 9 := fun hc => app_er (s := q.s) (x := rx0 q k x a0) hc (z6 hc)
    have ho := rx0_ok q k x (anS q k x) h9 her hat
    have hsame : perfW q.s (rx0 q k x (anS q k x)) = perfW q.s (rx0 q k x a0) := perf_ans z5 z6 her rfl
    have hfit : fitsW (perfW q.s (rx0 q k x (anS q k x))) (rx0 q k x (anS q k x)) = true := by
      unfold fitsW
      rw [hsame, perf_ok z5 z6]
      have : anB (perfW q.s (rx0 q k x a0)).1 (ansX (rx0 q k x (anS q k x))) = true := (anB_iff _ _).2 rfl
      rw [this]
      simp
    have hn1 : q.now ≤ n1S q x := by unfold n1S; omega
    have hn2 : n1S q x ≤ n2S q x := by unfold n2S; omega
    have hn3 : n2S q x ≤ n3S q x := by unfold n3S; omega
    refine ⟨?_, ?_, ?_, ?_, ?_, ?_, ?_, ?_, ?_, ?_⟩
    · simp; omega
    · rw [List.length_append, List.length_singleton]
      exact h.inv.step z2
    · rw [explW_snoc _ _ _ _ h.exp, if_pos hfit, hsame]
    · rw [List.map_append, List.map_singleton]
      refine h.good.snoc.2 ⟨?_, ?_, ?_, ?_, ?_⟩
      · refine ⟨?_, ?_, ?_, ?_, ?_, ?_, ?_⟩
        · show (0 : Int) ≤ ((k % 2 : Nat) : Int); omega
        · show (0 : Int) ≤ ((ixS q k : Nat) : Int); omega
        · show (0 : Int) ≤ ((n1S q x : Nat) : Int); omega
        · show (-1 : Int) ≤ ((n2S q x : Nat) : Int); omega
        · intro _; show ((n1S q x : Nat) : Int) ≤ ((n2S q x : Nat) : Int); omega
        · show (-1 : Int) ≤ ((n3S q x : Nat) : Int); omega
        · intro _; refine ⟨?_, ?_⟩
          · show (0 : Int) ≤ ((n2S q x : Nat) : Int); omega
          · show ((n2S q x : Nat) : Int) ≤ ((n3S q x : Nat) : Int); omega
      · intro y hy
        obtain ⟨r, hr, rfl⟩ := List.mem_map.1 hy
        have := h.bnd r hr
        show r.inv < ((n1S q x : Nat) : Int)
        omega
      · intro y hy
        obtain ⟨r, hr, rfl⟩ := List.mem_map.1 hy
        have := h.bnd r hr
        right
        show r.pt ≠ ((n2S q x : Nat) : Int)
        omega
      · intro y hy _
        obtain ⟨r, hr, rfl⟩ := List.mem_map.1 hy
        have := h.bnd r hr
        refine ⟨?_, ?_⟩
        · show 0 ≤ r.rs; omega
        · show r.rs < ((n1S q x : Nat) : Int); omega
      · show ((ixS q k : Nat) : Int) = _
        rw [List.filter_map, List.length_map]
        have hfe : ∀ t : Nat, (q.rs.filter ((fun y : Rec => y.th == ((t : Nat) : Int)) ∘ fun x => (rvX x).n)) = q.rs.filter fun r => r.t == t := fun t => by
          refine List.filter_congr fun r _ => ?_
          show ((r.t : Int) == (t : Int)) = (r.t == t)
          rw [Bool.eq_iff_iff]; simp; omega
        show ((ixS q k : Nat) : Int) = ((q.rs.filter ((fun y : Rec => y.th == (((k % 2 : Nat)) : Int)) ∘ fun x => (rvX x).n)).length : Int)
        rw [hfe]
        unfold ixS
        rcases (show k % 2 = 0 ∨ k % 2 = 1 by omega) with e | e
        · rw [if_pos e, e, h.c0]
        · rw [if_neg (by omega), e, h.c1]
    · intro r hr
      rcases List.mem_append.1 hr with hr | hr
      · have := h.bnd r hr
        have : (q.now : Int) ≤ ((n3S q x + 1 : Nat) : Int) := by omega
        refine ⟨by omega, by omega, ?_, by omega⟩
        show r.rs < ((n3S q x + 1 : Nat) : Int)
        omega
      · simp at hr; subst hr
        refine ⟨?_, ?_, ?_, ?_⟩
        · show ((n1S q x : Nat) : Int) ≤ ((n2S q x : Nat) : Int); omega
        · show ((n2S q x : Nat) : Int) ≤ ((n3S q x : Nat) : Int); omega
        · show ((n3S q x : Nat) : Int) < ((n3S q x + 1 : Nat) : Int); omega
        · show (0 : Int) ≤ ((n1S q x : Nat) : Int); omega
    · refine pair_snoc h.asc fun y hy => ?_
      have := h.bnd y hy
      show y.pt < ((n2S q x : Nat) : Int)
      omega
    · intro r hr
      rcases List.mem_append.1 hr with hr | hr
      · exact h.th r hr
      · simp at hr; subst hr
        show k % 2 < 2; omega
    · intro r hr
      rcases List.mem_append.1 hr with hr | hr
      · exact h.ok r hr
      · simp at hr; subst hr
        exact ho
    · show (if k % 2 = 0 then q.i0 + 1 else q.i0) = _
      rw [List.filter_append, List.length_append]
      have e2 : ([rx0 q k x (anS q k x)].filter fun r => r.t == 0).length = if k % 2 = 0 then 1 else 0 := by
        have e3 : ((rx0 q k x (anS q k x)).t == 0) = decide (k % 2 = 0) := by
          show (k % 2 == 0) = _
          rw [Bool.eq_iff_iff]; simp
        by_cases e : k % 2 = 0
        · rw [if_pos e, List.filter_cons_of_pos (by rw [e3, decide_eq_true e])]; rfl
        · rw [if_neg e, List.filter_cons_of_neg (by rw [e3, decide_eq_false e]; simp)]; rfl
      rw [e2, h.c0]
      rcases (show k % 2 = 0 ∨ k % 2 = 1 by omega) with e | e
      · simp [e]
      · simp [e]
    · show (if k % 2 = 0 then q.i1 else q.i1 + 1) = _
      rw [List.filter_append, List.length_append]
      have e2 : ([rx0 q k x (anS q k x)].filter fun r => r.t == 1).length = if k % 2 = 1 then 1 else 0 := by
        have e3 : ((rx0 q k x (anS q k x)).t == 1) = decide (k % 2 = 1) := by
          show (k % 2 == 1) = _
          rw [Bool.eq_iff_iff]; simp
        by_cases e : k % 2 = 1
        · rw [if_pos e, List.filter_cons_of_pos (by rw [e3, decide_eq_true e])]; rfl
        · rw [if_neg e, List.filter_cons_of_neg (by rw [e3, decide_eq_false e]; simp)]; rfl
      rw [e2, h.c1]
      rcases (show k % 2 = 0 ∨ k % 2 = 1 by omega) with e | e
      · simp [e]
      · simp [e]
theorem SqI.exOk {k : Nat} {q : SqS} (h : SqI k q) : exOk 2 2 100 100 200 4 1000 (q.rs.map rvX) := by
  refine ⟨by decide +kernel, by rw [List.map_map]; exact h.good, fun x hx => ?_⟩
  obtain ⟨r, hr, rfl⟩ := List.mem_map.1 hx
  refine ⟨?_, (h.ok r hr).1⟩
  have := h.th r hr
  show (r.t : Int) < 2
  omega
theorem ordL_self {l : List RX} (ha : l.Pairwise (fun a b => a.pt < b.pt)) (h0 : ∀ r ∈ l, 0 ≤ r.pt) : ordL (l.map rvX) = l.map rvX := by
  unfold ordL
  have hf : (l.map rvX).filter (fun x => x.n.pt != -1) = l.map rvX := List.filter_eq_self.2 fun x hx => by
    obtain ⟨r, hr, rfl⟩ := List.mem_map.1 hx
    have := h0 r hr
    show (r.pt != -1) = true
    simp; omega
  rw [hf]
  refine stab_self ?_
  unfold SortK
  refine List.pairwise_map.2 (ha.imp fun {a b} hab => ?_)
  show a.pt ≤ b.pt
  omega
theorem SqI.yes {k : Nat} {q : SqS} (h : SqI k q) : exE 2 2 100 100 200 4 1000 (q.rs.map rvX) = 0 := by
  rw [exE_good h.exOk, ordL_self h.asc (fun r hr => by have := h.bnd r hr; omega), map_rxO, h.exp]
  rfl
def bump (r : RX) : RX := { r with at_ := r.at_ + 1 }
theorem bump_no : ∀ (l : List RX) (i : Nat) (r : RX) (s s' : WS), explW s l = (true, s') → l[i]? = some r → r.rs ≠ -1 → r.code ≠ 9 → (r.code = 3 → r.er ≠ 2 ∧ r.er ≠ 9) → (explW s (l.set i (bump r))).1 = false
  | [], i, r, s, s', _, h, _, _, _ => by simp at h
  | y :: l, i, r, s, s', he, h, hr, h9, h3 => by
    rw [explW_cons] at he
    by_cases hf : fitsW (perfW s y) y = true
    · rw [if_pos hf] at he
      cases i with
      | succ i =>
        rw [List.set_cons_succ, explW_cons, if_pos hf]
        exact bump_no l i r _ s' he (by simpa using h) hr h9 h3
      | zero =>
        simp at h
        subst h
        rw [List.set_cons_zero, explW_cons]
        have hs : perfW s (bump y) = perfW s y := perf_ans h9 h3 h3 rfl
        have hn : fitsW (perfW s y) (bump y) = false := by
          unfold fitsW at hf ⊢
          have hd : decide (y.rs = -1) = false := decide_eq_false hr
          have hd2 : decide ((bump y).rs = -1) = false := decide_eq_false hr
          rw [hd] at hf
          rw [hd2]
          simp only [Bool.false_or, Bool.and_eq_true] at hf
          have h1 := (anB_iff _ _).1 hf.2
          rw [hf.1, h1]
          have : anB (ansX y) (ansX (bump y)) = false := by
            rw [Bool.eq_false_iff]
            intro h
            have := congrArg An.tm ((anB_iff _ _).1 h)
            simp [ansX, bump] at this
          rw [this]; rfl
        rw [hs, hn]
        rfl
    · rw [if_neg hf] at he
      have := congrArg Prod.fst he
      simp at this
theorem SqI.no {k : Nat} {q : SqS} (h : SqI k q) {i : Nat} {r : RX} (hi : q.rs[i]? = some r) : exE 2 2 100 100 200 4 1000 ((q.rs.set i (bump r)).map rvX) = 13 := by
  have hmem := List.mem_of_getElem? hi
  have hok := h.exOk
  obtain ⟨h1, h2, h3⟩ := hok
  have hnum : ((q.rs.set i (bump r)).map rvX).map (·.n) = (q.rs.map rvX).map (·.n) := by
    rw [List.map_map, List.map_map, List.map_set]
    have : ((fun x : RV => x.n) ∘ rvX) (bump r) = ((fun x : RV => x.n) ∘ rvX) r := rfl
    rw [this]
    refine List.ext_getElem? fun j => ?_
    rw [List.getElem?_set]
    split
    · rename_i e
      subst e
      split
      · rw [List.getElem?_map, hi]; rfl
      · rename_i hl
        rw [List.getElem?_eq_none (by omega)]
    · rfl
  have hex : _root_.Go.Proofs.YtbcgpjfejpcgnaaGreat.exOk 2 2 100 100 200 4 1000 ((q.rs.set i (bump r)).map rvX) := by
    refine ⟨h1, by rw [hnum]; exact h2, fun x hx => ?_⟩
    obtain ⟨y, hy, rfl⟩ := List.mem_map.1 hx
    rcases List.mem_or_eq_of_mem_set hy with hy | rfl
    · exact h3 _ (List.mem_map.2 ⟨y, hy, rfl⟩)
    · exact h3 (rvX r) (List.mem_map.2 ⟨r, hmem, rfl⟩)
  have hpts : ∀ x ∈ q.rs.set i (bump r), 0 ≤ x.pt := fun x hx => by
    rcases List.mem_or_eq_of_mem_set hx with hx | rfl
    · have := h.bnd x hx; omega
    · have := h.bnd r hmem; show 0 ≤ r.pt; omega
  have hasc : (q.rs.set i (bump r)).Pairwise (fun a b => a.pt < b.pt) := by
    have e : (q.rs.set i (bump r)).map (·.pt) = q.rs.map (·.pt) := by
      rw [List.map_set]
      refine List.ext_getElem? fun j => ?_
      rw [List.getElem?_set]
      split
      · rename_i e
        subst e
        split
        · rw [List.getElem?_map, hi]; rfl
        · rename_i hl
          rw [List.getElem?_eq_none (by omega)]
      · rfl
    have := (List.pairwise_map (R := fun a b : Int => a < b) (f := fun x : RX => x.pt) (l := q.rs)).2 h.asc
    rw [← e] at this
    exact List.pairwise_map.1 this
  obtain ⟨o1, o2, o3, o4, o5, o6, o7⟩ := h.ok r hmem
  have hrs : r.rs ≠ -1 := by have := h.bnd r hmem; omega
  rw [exE_good hex, ordL_self hasc hpts, map_rxO, if_neg]
  rw [bump_no q.rs i r s0 q.s h.exp hi hrs o5 o6]
  simp
end Go.Proofs.YtbcgpjfejpcgnaaGreat
end
section
namespace Go.Proofs.YtbcgpjfejpcgnaaGreat
open Go.RowKit Go.Maps Go.MapKept Go.ChangeMaps
set_option maxRecDepth 100000
variable {w w' : World} {base m sb cap mb nb F : Nat} {Q : List Nat} {sv rest : List Value} {St : List (List Ent)} {D : DataW Unit}
theorem MO.turn (h : MO w base Q m sb cap mb nb sv rest St F D) {nb' : Nat} {D' : DataW Unit} (hg : w.grownBy w' (some mb)) (ho : w'.ownsMap Tryz.prog 134 (plainElem Tryz.prog 22) mb nb' D') : MO w' base Q m sb cap mb nb' sv rest St F D' :=
  have k : Keeps [mb] w w' := Keeps.of_grownBy hg [mb] (by simp)
  ⟨k.blk h.hm (by simpa using h.ne_map h.hm), k.blk h.hs (by simpa using h.ne_map h.hs), h.hl, h.hp, h.hcap, h.hcl, h.hcm, h.hne, fun i v l h1 h2 => ⟨(h.he i v l h1 h2).1.keeps k (fun g hg => by
    have ho := (h.he i v l h1 h2).1
    rcases ho with ⟨rfl, _⟩ | ⟨g', c, r, rfl, hb, _⟩
    · simp [Value.ownBlock] at hg
    · simp [Value.ownBlock] at hg; subst hg; simpa using h.ne_map hb), (h.he i v l h1 h2).2⟩, ho, h.hb, fun q hq => ⟨(h.hq q hq).1, (h.hq q hq).2.1, (h.hq q hq).2.2.1, Nat.lt_of_lt_of_le (h.hq q hq).2.2.2 k.size⟩, h.hd⟩
theorem MO.kpMap (h : MO w base Q m sb cap mb nb sv rest St F D) (hg : w.grownBy w' (some mb)) : Kp base Q w w' :=
  ⟨[mb], fun j hj => by
    simp only [List.mem_cons, List.mem_nil_iff, or_false] at hj
    subst hj
    exact ⟨h.hb.2.2, fun hq => (h.hq _ hq).2.2.1 rfl⟩, Keeps.of_grownBy hg [mb] (by simp)⟩
set_option maxHeartbeats 1000000 in
theorem mopen_any (h : MO w base Q m sb cap mb nb sv rest St F D) (hn : St.length ≤ 4096) (hnb : nb ≤ 4096) (t j : Nat) (k : Lit) (hk : IsKl t j k) :
    Calls Tryz.prog 66 #[.pointer (some ⟨m, 0, none⟩), .int .i64 (t : Int), .int .i64 (j : Int)] w fun e w' => e = .returned (.int .u64 ((St.length - 1 : Nat) : Int)) ∧ MOx w' base Q m (nb + 1) St F (D.put k (.lit (.int .u64 ((St.length - 1 : Nat) : Int)))) ∧ Kp base Q w w' := by
  obtain ⟨d0, d1, d2, d3, d4⟩ := h.hm.o3
  have hd := h.keeps ((Keeps.refl [] w).drew)
  obtain ⟨w1, hrun, ho1, hg1⟩ := hd.hmap.update lawK Tryz.underlying96 (by unfold maxLen; omega) hk (plainElem_int (H := Unit) (a := ((St.length - 1 : Nat) : Int)) Tryz.underlying22 (WalkArith.wf_u64 (by omega)))
  have hM1 := hd.turn hg1 ho1
  have kp1 := (Kp.of (base := base) (Q := Q) ((Keeps.refl [] w).drew)).trans (hd.kpMap hg1)
  have d2' := (hM1.hm.o3).2.2.1
  have ht := fun w' (k : Keeps [] w w') => time_any (h.keeps k) hn
  have ht1 := time_any hM1 hn
  have HM := Lib.hid hM1
  have HK := Lib.hid kp1
  clear hd ho1 hg1 hM1 kp1 h
  go_enter Tryz.func66, Tryz.ntmps66
  go_wp2_with fail
  go_region_held3 (fun w' => w'.cell? ⟨m, 2, none⟩ = some (.map (some mb)))
    (first | assumption | go_keep)
    ((go_at_call 75; refine (ht _ ((Keeps.refl [] w).drew)).mono ?_; rintro e w2 ⟨rfl, rfl⟩))
  all_goals (
    go_wp2_with fail
    refine ht1.mono ?_
    rintro e w7 ⟨rfl, rfl⟩
    go_wp2_with fail
    go_ret
    exact ⟨rfl, ⟨_, _, _, _, _, _, Nat.le_refl _, HM.out⟩, HK.out⟩)
theorem turned_grown {w w' : World} {b : Nat} (h : w.mapTurned w' b) : w.grownBy w' (some b) := by
  obtain ⟨es, clock, es', clock', hb, rfl⟩ := h
  exact ⟨rfl, rfl, rfl, by simp [setBlock], fun i _ hi => heap_setBlock_other hb _ (fun e => hi (by rw [e]))⟩
set_option maxHeartbeats 1000000 in
theorem mrel_any (h : MO w base Q m sb cap mb nb sv rest St F D) (t j : Nat) (k : Lit) (hk : IsKl t j k) :
    Calls Tryz.prog 67 #[.pointer (some ⟨m, 0, none⟩), .int .i64 (t : Int), .int .i64 (j : Int)] w fun e w' => e = .returned (.tuple #[]) ∧ MOx w' base Q m nb St F (D.del k) ∧ Kp base Q w w' := by
  obtain ⟨d0, d1, d2, d3, d4⟩ := h.hm.o3
  have H := Lib.hid h
  clear h
  go_enter Tryz.func67, Tryz.ntmps67
  go_wp2_with (at_delete; refine wpList_delete_own _ rfl _ _ 96 134 rfl 22 lawK Tryz.underlying96 _ mb nb D rfl H.out.hmap _ _ rfl hk ?_; intro w1 hown1 hturn1)
  go_end0
  have hg := turned_grown hturn1
  exact ⟨rfl, ⟨_, _, _, _, _, _, Nat.le_refl _, H.out.turn hg hown1⟩, H.out.kpMap hg⟩
end Go.Proofs.YtbcgpjfejpcgnaaGreat
end
section
namespace Go.Proofs.YtbcgpjfejpcgnaaGreat
def insR (x : Int) : List Int → List Int
  | [] => [x]
  | y :: A => if x < y then insR x A ++ [y] else A.reverse ++ [y, x]
def isortGo : List Int → List Int → List Int
  | S, [] => S
  | S, x :: B => isortGo (insR x S.reverse) B
def isort (xs : List Int) : List Int := isortGo [] xs
theorem insR_perm (x : Int) : ∀ A, (insR x A).Perm (x :: A)
  | [] => List.Perm.refl _
  | y :: A => by
    rw [insR]
    split
    · have h := (insR_perm x A).append_right [y]
      refine h.trans ?_
      simp
    · have h1 : (A.reverse ++ [y, x]).Perm ([y, x] ++ A) := (List.perm_append_comm).trans ((List.reverse_perm A).append_left [y, x])
      exact h1.trans (List.Perm.swap x y A)
theorem insR_sorted (x : Int) : ∀ A, A.reverse.Pairwise (· ≤ ·) → (insR x A).Pairwise (· ≤ ·)
  | [], _ => by simp [insR]
  | y :: A, h => by
    rw [List.reverse_cons, List.pairwise_append] at h
    obtain ⟨h1, _, h2⟩ := h
    rw [insR]
    split
    · rename_i hxy
      rw [List.pairwise_append]
      refine ⟨insR_sorted x A h1, by simp, fun a ha b hb => ?_⟩
      simp only [List.mem_singleton] at hb
      subst hb
      rcases List.mem_cons.1 ((insR_perm x A).mem_iff.1 ha) with rfl | ha'
      · omega
      · exact h2 a (by simpa using ha') b (by simp)
    · rename_i hxy
      rw [List.pairwise_append]
      refine ⟨h1, by simp; omega, fun a ha b hb => ?_⟩
      have hay := h2 a ha y (by simp)
      simp only [List.mem_cons, List.not_mem_nil, or_false] at hb
      rcases hb with rfl | rfl
      · exact hay
      · omega
theorem isortGo_perm : ∀ (B S : List Int), (isortGo S B).Perm (S ++ B)
  | [], S => by simp [isortGo]
  | x :: B, S => by
    rw [isortGo]
    refine (isortGo_perm B _).trans ?_
    have h := ((insR_perm x S.reverse).trans ((List.reverse_perm S).cons x)).append_right B
    refine h.trans ?_
    rw [List.cons_append]
    exact List.perm_middle.symm
theorem isort_perm (xs : List Int) : (isort xs).Perm xs := by simpa [isort] using isortGo_perm xs []
theorem isort_length (xs : List Int) : (isort xs).length = xs.length := (isort_perm xs).length_eq
theorem isortGo_sorted : ∀ (B S : List Int), S.Pairwise (· ≤ ·) → (isortGo S B).Pairwise (· ≤ ·)
  | [], S, h => by simpa [isortGo] using h
  | x :: B, S, h => by
    rw [isortGo]
    exact isortGo_sorted B _ (insR_sorted x _ (by simpa using h))
theorem isort_sorted (xs : List Int) : (isort xs).Pairwise (· ≤ ·) := isortGo_sorted xs [] (by simp)
end Go.Proofs.YtbcgpjfejpcgnaaGreat
end
section
namespace Go.Proofs.YtbcgpjfejpcgnaaGreat
open Go.RowKit
def uV (x : Int) : Value := .int .u64 x
theorem isNaN_any (x : Int) (w : World) : Calls Tryz.prog 118 #[.int .u64 x] w fun e w' => e = .returned (.bool false) ∧ w = w' := by
  go_enter Tryz.func118, Tryz.ntmps118
  go_wp2
  go_ret
  exact ⟨by simp, rfl⟩
theorem less_any (x y : Int) (w : World) : Calls Tryz.prog 106 #[.int .u64 x, .int .u64 y] w fun e w' => e = .returned (.bool (decide (x < y))) ∧ w = w' := by
  go_enter Tryz.func106, Tryz.ntmps106
  go_wp2_with (go_at_call 118; refine (isNaN_any _ _).mono ?_; rintro e w' ⟨rfl, rfl⟩)
  go_ret
  exact ⟨rfl, rfl⟩
theorem ins_nil (w : World) :
    Calls Tryz.prog 100 #[.slice none 0 0, .int .i64 0, .int .i64 0] w fun e w' => e = .returned (.tuple #[]) ∧ Keeps [] w w' := by
  go_enter Tryz.func100, Tryz.ntmps100
  go_wp2_with fail
  go_loopw [6] (fun i wr => i = .int .i64 1 ∧ wr = w) (fun _ _ => 0)
  case atStart => exact ⟨rfl, rfl⟩
  case round =>
    obtain ⟨rfl, rfl⟩ := hrel
    go_wp2_with fail
    go_end0
    exact ⟨rfl, Keeps.refl _ _⟩
end Go.Proofs.YtbcgpjfejpcgnaaGreat
end
section
namespace Go.Proofs.YtbcgpjfejpcgnaaGreat
open Go.RowKit
def Rw (w : World) (b : Nat) (rest : List Value) (d : Array Int) : Prop := Blk w b (d.toList.map uV ++ rest)
theorem Rw.cell {w : World} {b : Nat} {rest : List Value} {d : Array Int} (h : Rw w b rest d) (i : Nat) (hi : i < d.size) : w.cell? ⟨b, i, none⟩ = some (.int .u64 d[i]!) := by
  unfold Rw at h
  rw [h.cell, List.getElem?_append_left (by simpa using hi)]
  simp [hi, uV]
theorem Rw.frozen {w : World} {b : Nat} {rest : List Value} {d : Array Int} (h : Rw w b rest d) (i : Nat) : w.frozen? ⟨b, i, none⟩ = false := Blk.frozen h i
theorem Rw.lt {w : World} {b : Nat} {rest : List Value} {d : Array Int} (h : Rw w b rest d) : b < w.heap.size := Blk.lt h
theorem Rw.keeps {S : List Nat} {w w' : World} {b : Nat} {rest : List Value} {d : Array Int} (h : Rw w b rest d) (k : Keeps S w w') (hn : b ∉ S) : Rw w' b rest d := k.blk h hn
theorem Rw.drew {w : World} {b : Nat} {rest : List Value} {d : Array Int} (h : Rw w b rest d) : Rw w.drew b rest d := Blk.drew h
theorem Rw.drewN {w : World} {b : Nat} {rest : List Value} {d : Array Int} (h : Rw w b rest d) (n : Nat) : Rw (w.drewN n) b rest d := Blk.drewN h n
theorem Rw.swp {w : World} {b : Nat} {rest : List Value} {d : Array Int} (h : Rw w b rest d) (i j : Nat) (hi : i < d.size) (hj : j < d.size) :
    Rw ((w.setCell ⟨b, i, none⟩ (.int .u64 d[j]!)).setCell ⟨b, j, none⟩ (.int .u64 d[i]!)) b rest (Go.Sort.swp d i j) := by
  unfold Rw at h ⊢
  have h2 := (h.set i (.int .u64 d[j]!)).set j (.int .u64 d[i]!)
  rw [List.set_append_left _ _ (by simpa using hi), List.set_append_left _ _ (by simpa using hj)] at h2
  simpa [Go.Sort.swp, List.map_set, uV] using h2
theorem keeps_swp {w : World} {S : List Nat} {b : Nat} (hS : b ∈ S) (a : World) (k : Keeps S a w) (i j : Nat) (u v : Value) : Keeps S a ((w.setCell ⟨b, i, none⟩ u).setCell ⟨b, j, none⟩ v) :=
  (k.setCell _ _ (.inl hS)).setCell _ _ (.inl hS)
theorem i64w (x : Int) (h0 : -4611686018427387904 ≤ x) (h1 : x ≤ 4611686018427387904) : IntKind.i64.wrap x = x := IntWalk.i64_in _ ⟨by omega, by omega⟩
theorem w64w (x : Int) (h0 : -4611686018427387904 ≤ x) (h1 : x ≤ 4611686018427387904) : wrap64 x = x := IntWalk.wrap64_in _ ⟨by omega, by omega⟩
theorem sift_stop {hi first root : Nat} {d : Array Int} (h : hi ≤ 2 * root + 1) : Go.Sort.siftDown Go.Sort.ltInt hi first root d = d := by
  rw [Go.Sort.siftDown, dif_pos h]
theorem sift_two {hi first root : Nat} {d : Array Int} (h : 2 * root + 2 < hi) (hl : d[first + (2 * root + 1)]! < d[first + (2 * root + 1) + 1]!) :
    Go.Sort.siftDown Go.Sort.ltInt hi first root d = if d[first + root]! < d[first + (2 * root + 1) + 1]! then Go.Sort.siftDown Go.Sort.ltInt hi first (2 * root + 1 + 1) (Go.Sort.swp d (first + root) (first + (2 * root + 1) + 1)) else d := by
  rw [Go.Sort.siftDown, dif_neg (by omega), if_pos (by simp [Go.Sort.ltInt, hl]; omega), dif_pos h, show first + (2 * root + 2) = first + (2 * root + 1) + 1 by omega]
  by_cases hx : d[first + root]! < d[first + (2 * root + 1) + 1]!
  · rw [if_neg (by simpa [Go.Sort.ltInt] using hx), if_pos hx]
  · rw [if_pos (by simpa [Go.Sort.ltInt] using hx), if_neg hx]
theorem sift_one {hi first root : Nat} {d : Array Int} (h : 2 * root + 1 < hi) (hl : ¬ (2 * root + 2 < hi ∧ d[first + (2 * root + 1)]! < d[first + (2 * root + 1) + 1]!)) :
    Go.Sort.siftDown Go.Sort.ltInt hi first root d = if d[first + root]! < d[first + (2 * root + 1)]! then Go.Sort.siftDown Go.Sort.ltInt hi first (2 * root + 1) (Go.Sort.swp d (first + root) (first + (2 * root + 1))) else d := by
  rw [Go.Sort.siftDown, dif_neg (by omega), if_neg (by simp only [Go.Sort.ltInt, Bool.and_eq_true, decide_eq_true_eq]; exact hl)]
  by_cases hx : d[first + root]! < d[first + (2 * root + 1)]!
  · rw [if_neg (by simpa [Go.Sort.ltInt] using hx), if_pos hx]
  · rw [if_pos (by simpa [Go.Sort.ltInt] using hx), if_neg hx]
theorem scanUp_step {p : Int → Bool} {d : Array Int} {j i : Nat} (h : i ≤ j) (hp : p d[i]! = true) : Go.Sort.scanUp p d j i = Go.Sort.scanUp p d j (i + 1) := by
  conv => lhs; rw [Go.Sort.scanUp, if_pos (by simp [h, hp])]
theorem scanUp_stop {p : Int → Bool} {d : Array Int} {j i : Nat} (h : i ≤ j → p d[i]! = false) : Go.Sort.scanUp p d j i = i := by
  rw [Go.Sort.scanUp, if_neg]
  intro hc
  simp only [Bool.and_eq_true, decide_eq_true_eq] at hc
  rw [h hc.1] at hc
  exact absurd hc.2 (by simp)
theorem scanDown_step {p : Int → Bool} {d : Array Int} {j i : Nat} (h : i ≤ j + 1) (hp : p d[j + 1]! = true) : Go.Sort.scanDown p d i (j + 1) = Go.Sort.scanDown p d i j := by
  rw [Go.Sort.scanDown, if_pos (by simp [h, hp])]
theorem scanDown_stop {p : Int → Bool} {d : Array Int} {j i : Nat} (h : i ≤ j → p d[j]! = false) : Go.Sort.scanDown p d i j = j := by
  cases j with
  | zero => rfl
  | succ j =>
    rw [Go.Sort.scanDown, if_neg]
    intro hc
    simp only [Bool.and_eq_true, decide_eq_true_eq] at hc
    rw [h hc.1] at hc
    exact absurd hc.2 (by simp)
end Go.Proofs.YtbcgpjfejpcgnaaGreat
end
section
namespace Go.Proofs.YtbcgpjfejpcgnaaGreat
open Go.RowKit
set_option linter.unusedVariables false
set_option linter.unusedSimpArgs false
set_option maxRecDepth 100000
theorem pdq_small {d : Array Int} {a e l : Nat} {wb wp : Bool} (h : e - a ≤ 12) : Go.Sort.pdq Go.Sort.ltInt d a e l wb wp = Go.Sort.insertionSort Go.Sort.ltInt d a e := by
  rw [Go.Sort.pdq, if_pos h]
theorem pdq_heap {d : Array Int} {a e : Nat} {wb wp : Bool} (h : ¬ e - a ≤ 12) : Go.Sort.pdq Go.Sort.ltInt d a e 0 wb wp = Go.Sort.heapSort Go.Sort.ltInt d a e := by
  rw [Go.Sort.pdq, if_neg h, if_pos rfl]
theorem pdq_go {d : Array Int} {a e l : Nat} {wb wp : Bool} (d1 : Array Int) (l1 : Nat) (h12 : ¬ e - a ≤ 12) (hl : l ≠ 0) (hd1 : (if (!wb) = true then Go.Sort.breakPatterns d a e else d) = d1) (hl1 : (if (!wb) = true then l - 1 else l) = l1)
    (p : Nat) (hv : Go.Sort.Hint) (hc : Go.Sort.choosePivot Go.Sort.ltInt d1 a e = (p, hv)) (hh : hv ≠ .decreasing) (r : Bool)
    (hpi : (if (wb && wp && decide (hv = .increasing)) = true then Go.Sort.partialInsertionSort Go.Sort.ltInt d1 a e else (d1, false)) = (d1, r))
    (hq : a < (Go.Sort.partitionEqual Go.Sort.ltInt d1 a e p).1 ∧ (Go.Sort.partitionEqual Go.Sort.ltInt d1 a e p).1 ≤ e) (hr : a ≤ (Go.Sort.partition Go.Sort.ltInt d1 a e p).1 ∧ (Go.Sort.partition Go.Sort.ltInt d1 a e p).1 < e) :
    Go.Sort.pdq Go.Sort.ltInt d a e l wb wp = if r = true then d1 else if (decide (a > 0) && !Go.Sort.ltInt d1[a - 1]! d1[p]!) = true then Go.Sort.pdq Go.Sort.ltInt (Go.Sort.partitionEqual Go.Sort.ltInt d1 a e p).2 (Go.Sort.partitionEqual Go.Sort.ltInt d1 a e p).1 e l1 wb wp
      else if (Go.Sort.partition Go.Sort.ltInt d1 a e p).1 - a < e - (Go.Sort.partition Go.Sort.ltInt d1 a e p).1 then
        Go.Sort.pdq Go.Sort.ltInt (Go.Sort.pdq Go.Sort.ltInt (Go.Sort.partition Go.Sort.ltInt d1 a e p).2.2 a (Go.Sort.partition Go.Sort.ltInt d1 a e p).1 l1 true true) ((Go.Sort.partition Go.Sort.ltInt d1 a e p).1 + 1) e l1 (decide ((Go.Sort.partition Go.Sort.ltInt d1 a e p).1 - a ≥ (e - a) / 8)) (Go.Sort.partition Go.Sort.ltInt d1 a e p).2.1
      else
        Go.Sort.pdq Go.Sort.ltInt (Go.Sort.pdq Go.Sort.ltInt (Go.Sort.partition Go.Sort.ltInt d1 a e p).2.2 ((Go.Sort.partition Go.Sort.ltInt d1 a e p).1 + 1) e l1 true true) a (Go.Sort.partition Go.Sort.ltInt d1 a e p).1 l1 (decide (e - (Go.Sort.partition Go.Sort.ltInt d1 a e p).1 ≥ (e - a) / 8)) (Go.Sort.partition Go.Sort.ltInt d1 a e p).2.1 := by
  rw [Go.Sort.pdq, if_neg h12, if_neg hl]
  simp only [hd1, hl1, hc, if_neg hh, hpi, dif_pos hq, dif_pos hr]
theorem parEq_range (d : Array Int) (a e p : Nat) (h : a + 1 < e ∧ e ≤ d.size) (hp : a ≤ p ∧ p < e) : (a < (Go.Sort.partitionEqual Go.Sort.ltInt d a e p).1 ∧ (Go.Sort.partitionEqual Go.Sort.ltInt d a e p).1 ≤ e) ∧ (Go.Sort.partitionEqual Go.Sort.ltInt d a e p).2.size = d.size := by
  have hs := Go.Sort.size_swp d a p
  have := Go.Sort.partEqLoop_spec Go.Sort.ltInt a e _ (a + 1) (e - 1) (Go.Sort.swp d a p) (Nat.le_refl _) (by omega) (by omega) (by omega) (by omega) (fun t h1 h2 => by omega) (fun t h1 h2 => by omega)
  refine ⟨⟨this.1, this.2.1⟩, ?_⟩
  have h3 := this.2.2.1.1
  rw [hs] at h3
  exact h3
theorem par_range (d : Array Int) (a e p : Nat) (h : e ≤ d.size) (hp : a ≤ p ∧ p < e) : (a ≤ (Go.Sort.partition Go.Sort.ltInt d a e p).1 ∧ (Go.Sort.partition Go.Sort.ltInt d a e p).1 < e) ∧ (Go.Sort.partition Go.Sort.ltInt d a e p).2.2.size = d.size := by
  have := Go.Sort.partition_holds Go.Sort.ltInt Go.Sort.swo_ltInt d a e p hp.1 hp.2 h
  exact ⟨⟨this.1, this.2.1⟩, this.2.2.1.1⟩
theorem ins_size (d : Array Int) (a e : Nat) (h1 : a ≤ e) (h : e ≤ d.size) : (Go.Sort.insertionSort Go.Sort.ltInt d a e).size = d.size := (Go.Sort.insertionSort_holds Go.Sort.swo_ltInt d a e h1 h).1.1
theorem heap_size (d : Array Int) (a e : Nat) (h1 : a ≤ e) (h : e ≤ d.size) : (Go.Sort.heapSort Go.Sort.ltInt d a e).size = d.size := (Go.Sort.heapSort_holds Go.Sort.swo_ltInt d a e h1 h).1.1
theorem bp_size (d : Array Int) (a e : Nat) (h1 : a ≤ e) (h : e ≤ d.size) : (Go.Sort.breakPatterns d a e).size = d.size := (Go.Sort.breakPatterns_holds d a e h1 h).1
end Go.Proofs.YtbcgpjfejpcgnaaGreat
end
