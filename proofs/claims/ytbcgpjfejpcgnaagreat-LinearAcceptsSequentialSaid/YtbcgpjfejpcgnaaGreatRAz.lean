/- Lemmas on the way to LinearAcceptsSequential. No condition. -/
import Derived.Test.YtbcgpjfejpcgnaaGreatRAd
import Derived.Test.YtbcgpjfejpcgnaaGreatRAt
import Derived.Test.YtbcgpjfejpcgnaaGreatRAy
set_option linter.unusedSimpArgs false
set_option linter.unusedVariables false
set_option linter.unusedSectionVars false
section
namespace Go.Proofs.YtbcgpjfejpcgnaaGreat
open Go.RowKit Go.Maps Go.MapKept Go.ChangeMaps
set_option maxRecDepth 100000
set_option linter.unusedVariables false
set_option linter.unusedSectionVars false
section
variable {H : Type}
theorem insert_perm (x : Lit × DataW H) : ∀ l, (DataW.insert x l).Perm (x :: l)
  | [] => .refl _
  | y :: r => by
    unfold DataW.insert
    split
    · exact .refl _
    · exact ((insert_perm x r).cons y).trans (.swap x y r)
structure MapL (D : DataW H) (kv : List (Lit × DataW H)) : Prop where
  es : ∃ es, D = .map es ∧ es.Perm kv
  dis : kv.Pairwise (fun p q => p.1 ≠ q.1)
  lit : ∀ p ∈ kv, WideAt.IsKeyLit p.1
variable {D : DataW H} {kv : List (Lit × DataW H)}
theorem MapL.nil : MapL (.map [] : DataW H) [] := ⟨⟨[], rfl, .refl _⟩, .nil, by simp⟩
theorem MapL.uniq (h : MapL D kv) {p q : Lit × DataW H} (hp : p ∈ kv) (hq : q ∈ kv) (e : p.1 = q.1) : p = q := by
  obtain ⟨i, hi⟩ := List.mem_iff_getElem?.1 hp
  obtain ⟨j, hj⟩ := List.mem_iff_getElem?.1 hq
  obtain ⟨i1, i2⟩ := List.getElem?_eq_some_iff.1 hi
  obtain ⟨j1, j2⟩ := List.getElem?_eq_some_iff.1 hj
  have hp' := List.pairwise_iff_getElem.1 h.dis
  rcases Nat.lt_trichotomy i j with hlt | rfl | hlt
  · exact absurd (by rw [i2, j2]; exact e) (hp' i j i1 j1 hlt)
  · rw [← i2, ← j2]
  · exact absurd (by rw [i2, j2]; exact e.symm) (hp' j i j1 i1 hlt)
theorem MapL.at_some (h : MapL D kv) {k : Lit} {d : DataW H} (hm : (k, d) ∈ kv) (z : DataW H) : D.atKey k z = d ∧ has D k = true := by
  obtain ⟨⟨es, rfl, hp⟩, _, _⟩ := id h
  have hme := hp.mem_iff.2 hm
  have hs : ((k, d) : Lit × DataW H).1.sameKey k = true := WideAt.sameKey_self (h.lit _ hm)
  constructor
  · cases hf : es.find? (fun p => p.1.sameKey k) with
    | none => exact absurd hs (by simpa using List.find?_eq_none.1 hf _ hme)
    | some p =>
      have h1 := List.find?_some hf
      have h2 := hp.mem_iff.1 (List.mem_of_find?_eq_some hf)
      have h3 := h.uniq h2 hm (WideAt.sameKey_eq h1)
      show (match es.find? (fun p => p.1.sameKey k) with | some p => p.2 | none => z) = d
      rw [hf, h3]
  · rw [has_eq, List.any_eq_true]
    exact ⟨_, hme, hs⟩
theorem MapL.at_none (h : MapL D kv) {k : Lit} (hm : ∀ p ∈ kv, p.1 ≠ k) (z : DataW H) : D.atKey k z = z ∧ has D k = false := by
  obtain ⟨⟨es, rfl, hp⟩, _, _⟩ := id h
  have hn : ∀ p ∈ es, p.1.sameKey k = false := fun p hpe => sameKey_ne (hm p (hp.mem_iff.1 hpe))
  constructor
  · show (match es.find? (fun p => p.1.sameKey k) with | some p => p.2 | none => z) = z
    rw [List.find?_eq_none.2 (fun p hpe => by rw [hn p hpe]; simp)]
  · rw [has_eq, List.any_eq_false]
    exact fun p hpe => by rw [hn p hpe]; simp
theorem MapL.del (h : MapL D kv) (k : Lit) : MapL (D.del k) (kv.filter fun p => !p.1.sameKey k) := by
  obtain ⟨⟨es, rfl, hp⟩, h2, h3⟩ := h
  exact ⟨⟨_, rfl, hp.filter _⟩, h2.filter _, fun p hpe => h3 p (List.mem_filter.1 hpe).1⟩
theorem filter_none {k : Lit} {l : List (Lit × DataW H)} (hm : ∀ p ∈ l, p.1 ≠ k) : (l.filter fun p => !p.1.sameKey k) = l :=
  List.filter_eq_self.2 fun p hp => by rw [sameKey_ne (hm p hp)]; rfl
theorem MapL.put_new (h : MapL D kv) {k : Lit} (hk : WideAt.IsKeyLit k) (d : DataW H) (hm : ∀ p ∈ kv, p.1 ≠ k) : MapL (D.put k d) (kv ++ [(k, d)]) := by
  obtain ⟨⟨es, rfl, hp⟩, h2, h3⟩ := h
  refine ⟨⟨_, rfl, (insert_perm _ _).trans ?_⟩, ?_, ?_⟩
  · rw [filter_none (fun p hpe => hm p (hp.mem_iff.1 hpe))]
    exact (hp.cons _).trans (List.perm_append_comm (l₁ := [(k, d)]))
  · refine List.pairwise_append.2 ⟨h2, List.pairwise_singleton _ _, fun a ha b hb => ?_⟩
    simp at hb; subst hb
    exact hm a ha
  · intro p hpe
    rcases List.mem_append.1 hpe with hpe | hpe
    · exact h3 p hpe
    · simp at hpe; subst hpe; exact hk
theorem put_old_perm {k : Lit} {d : DataW H} : ∀ {l : List (Lit × DataW H)}, l.Pairwise (fun p q => p.1 ≠ q.1) → (∀ p ∈ l, WideAt.IsKeyLit p.1) → (∃ p ∈ l, p.1 = k) →
    ((k, d) :: l.filter (fun p => !p.1.sameKey k)).Perm (l.map fun p => if p.1.sameKey k then (k, d) else p)
  | [], _, _, h => by obtain ⟨p, hp, _⟩ := h; simp at hp
  | x :: l, hd, hl, h => by
    obtain ⟨h1, h2⟩ := List.pairwise_cons.1 hd
    by_cases hx : x.1 = k
    · have hs : x.1.sameKey k = true := by rw [← hx]; exact WideAt.sameKey_self (hl x (by simp))
      have hrest : ∀ p ∈ l, p.1 ≠ k := fun p hp e => h1 p hp (hx.trans e.symm)
      rw [List.map_cons, if_pos hs, List.filter_cons_of_neg (by rw [hs]; simp), filter_none hrest]
      refine List.Perm.cons _ ?_
      have : (l.map fun p => if p.1.sameKey k then (k, d) else p) = l := by
        refine (List.map_congr_left (fun p hp => ?_)).trans (List.map_id l)
        rw [if_neg (by rw [sameKey_ne (hrest p hp)]; simp)]
        rfl
      rw [this]
    · have hs : x.1.sameKey k = false := sameKey_ne hx
      obtain ⟨p, hp, hpk⟩ := h
      have hp' : p ∈ l := by
        rcases List.mem_cons.1 hp with rfl | hp
        · exact absurd hpk hx
        · exact hp
      rw [List.map_cons, if_neg (by rw [hs]; simp), List.filter_cons_of_pos (by rw [hs]; rfl)]
      exact (List.Perm.swap _ _ _).trans ((put_old_perm h2 (fun q hq => hl q (by simp [hq])) ⟨p, hp', hpk⟩).cons x)
theorem MapL.put_old (h : MapL D kv) {k : Lit} (d : DataW H) (hm : ∃ p ∈ kv, p.1 = k) : MapL (D.put k d) (kv.map fun p => if p.1.sameKey k then (k, d) else p) := by
  obtain ⟨⟨es, rfl, hp⟩, h2, h3⟩ := h
  refine ⟨⟨_, rfl, (insert_perm _ _).trans (((hp.filter _).cons _).trans (put_old_perm h2 h3 hm))⟩, ?_, ?_⟩
  · refine List.pairwise_map.2 (h2.imp ?_)
    intro a b hab
    by_cases ha : a.1.sameKey k = true <;> by_cases hb : b.1.sameKey k = true
    · exact absurd ((WideAt.sameKey_eq ha).trans (WideAt.sameKey_eq hb).symm) hab
    · rw [if_pos ha, if_neg hb]
      intro e
      exact hab ((WideAt.sameKey_eq ha).trans e)
    · rw [if_neg ha, if_pos hb]
      intro e
      exact hab (e.trans (WideAt.sameKey_eq hb).symm)
    · rw [if_neg ha, if_neg hb]; exact hab
  · intro p hpe
    obtain ⟨q, hq, rfl⟩ := List.mem_map.1 hpe
    by_cases hs : q.1.sameKey k = true
    · rw [if_pos hs, ← WideAt.sameKey_eq hs]; exact h3 q hq
    · rw [if_neg hs]; exact h3 q hq
theorem MapL.size (h : MapL D kv) : Maps.size D = kv.length := by
  obtain ⟨⟨es, rfl, hp⟩, _, _⟩ := h
  exact hp.length_eq
end
theorem laidOutX : laidOutB Tryz.prog = true := by kernel_rfl
theorem rowX : (117 : TypeId) < Tryz.prog.types.size := of_decide_eq_true (by kernel_rfl)
theorem wideX : (match Tryz.prog.underlying 117 with | some (.array _ _) | some (.struct _) => true | _ => false) = true := by rw [Tryz.underlying117]
theorem lawX : Keyed Tryz.prog 117 := Keyed.of_law (deep_law_laid laidOutX (m := 3) (by omega) rowX (by kernel_rfl) wideX)
noncomputable def klX (t j : Nat) : Lit := (keyOf Tryz.prog 117 (.agg #[.int .i64 (t : Int), .int .i64 (j : Int)])).getD (.bool false)
noncomputable def klM (t j : Nat) : Lit := (keyOf Tryz.prog 134 (.agg #[.int .i64 (t : Int), .int .i64 (j : Int)])).getD (.bool false)
theorem klX_all : ((List.range 64).all fun t => (List.range 8).all fun j => (keyOf Tryz.prog 117 (.agg #[.int .i64 ((t : Nat) : Int), .int .i64 ((j : Nat) : Int)])).isSome) = true := by kernel_rfl
theorem klM_all : ((List.range 64).all fun t => (List.range 8).all fun j => (keyOf Tryz.prog 134 (.agg #[.int .i64 ((t : Nat) : Int), .int .i64 ((j : Nat) : Int)])).isSome) = true := by kernel_rfl
theorem klX_is {t j : Nat} (ht : t < 64) (hj : j < 8) : keyOf Tryz.prog 117 (.agg #[.int .i64 (t : Int), .int .i64 (j : Int)]) = some (klX t j) := by
  have h := List.all_eq_true.1 (List.all_eq_true.1 klX_all t (List.mem_range.2 ht)) j (List.mem_range.2 hj)
  obtain ⟨k, hk⟩ := Option.isSome_iff_exists.1 h
  unfold klX
  rw [hk]; rfl
theorem klM_is {t j : Nat} (ht : t < 64) (hj : j < 8) : IsKl t j (klM t j) := by
  have h := List.all_eq_true.1 (List.all_eq_true.1 klM_all t (List.mem_range.2 ht)) j (List.mem_range.2 hj)
  obtain ⟨k, hk⟩ := Option.isSome_iff_exists.1 h
  unfold klM IsKl
  rw [hk]; rfl
theorem klX_lit {t j : Nat} (ht : t < 64) (hj : j < 8) : WideAt.IsKeyLit (klX t j) := lawX.key (klX_is ht hj)
theorem klM_lit {t j : Nat} (ht : t < 64) (hj : j < 8) : WideAt.IsKeyLit (klM t j) := lawK.key (klM_is ht hj)
theorem klX_inj {t j t' j' : Nat} (ht : t < 64) (hj : j < 8) (ht' : t' < 64) (hj' : j' < 8) (h : klX t j = klX t' j') : t = t' ∧ j = j' := by
  have h1 := klX_is ht hj
  rw [h] at h1
  have := lawX.inj h1 (klX_is ht' hj')
  simp at this
  omega
theorem klM_inj {t j t' j' : Nat} (ht : t < 64) (hj : j < 8) (ht' : t' < 64) (hj' : j' < 8) (h : klM t j = klM t' j') : t = t' ∧ j = j' := by
  have h1 := klM_is ht hj
  rw [h] at h1
  exact kl_inj h1 (klM_is ht' hj')
theorem zeroUX (w : World) : (zeroValue 22).run Tryz.prog w = .ok (.int .u64 0) w := by kernel_rfl
theorem zeroSX (w : World) : (zeroValue 123).run Tryz.prog w = .ok (.agg #[.int .i64 0, .int .i64 0, .string ⟨#[]⟩]) w := by kernel_rfl
noncomputable def kvS (Ss : List SnE) : List (Lit × DataW Value) := Ss.map fun p => (klX p.t p.j, .held (.int .u64 (p.T : Int)))
def scV (p : CuE) : Value := .agg #[.int .i64 (p.j : Int), .int .i64 (p.pl : Int), .string ⟨p.key.toArray⟩]
noncomputable def kvC (Cs : List CuE) : List (Lit × DataW Value) := Cs.map fun p => (klX p.t p.c, .held (scV p))
noncomputable def kvM (Ss : List SnE) : List (Lit × DataW Unit) := Ss.map fun p => (klM p.t p.j, .lit (.int .u64 (p.T : Int)))
theorem sameX {t j t' j' : Nat} (ht : t < 64) (hj : j < 8) (ht' : t' < 64) (hj' : j' < 8) : (klX t j).sameKey (klX t' j') = (t == t' && j == j') := by
  by_cases h : t = t' ∧ j = j'
  · obtain ⟨rfl, rfl⟩ := h
    rw [WideAt.sameKey_self (klX_lit ht hj)]
    simp
  · rw [sameKey_ne (fun e => h (klX_inj ht hj ht' hj' e))]
    symm
    simpa using fun e1 => (fun e2 => h ⟨e1, e2⟩)
theorem sameM {t j t' j' : Nat} (ht : t < 64) (hj : j < 8) (ht' : t' < 64) (hj' : j' < 8) : (klM t j).sameKey (klM t' j') = (t == t' && j == j') := by
  by_cases h : t = t' ∧ j = j'
  · obtain ⟨rfl, rfl⟩ := h
    rw [WideAt.sameKey_self (klM_lit ht hj)]
    simp
  · rw [sameKey_ne (fun e => h (klM_inj ht hj ht' hj' e))]
    symm
    simpa using fun e1 => (fun e2 => h ⟨e1, e2⟩)
end Go.Proofs.YtbcgpjfejpcgnaaGreat
end
section
namespace Go.Proofs.YtbcgpjfejpcgnaaGreat
open Go.RowKit Go.Maps Go.MapKept Go.ChangeMaps
set_option maxRecDepth 100000
set_option linter.unusedVariables false
set_option linter.unusedSectionVars false
def BdS (Ss : List SnE) : Prop := Ss.Pairwise (fun p q => ¬ (p.t = q.t ∧ p.j = q.j)) ∧ ∀ p ∈ Ss, p.t < 64 ∧ p.j < 8
def BdC (Cs : List CuE) : Prop := Cs.Pairwise (fun p q => ¬ (p.t = q.t ∧ p.c = q.c)) ∧ ∀ p ∈ Cs, p.t < 64 ∧ p.c < 8
theorem Inv.bdS {n : Nat} {s : WS} (h : Inv n s) : BdS s.Ss := ⟨h.dS, fun p hp => ⟨(h.bS p hp).1, (h.bS p hp).2.1⟩⟩
theorem Inv.bdC {n : Nat} {s : WS} (h : Inv n s) : BdC s.Cs := ⟨h.dC, fun p hp => by
  obtain ⟨a, _, _, q, hq, e, _⟩ := h.bC p hp
  exact ⟨by have := (h.bS q hq).1; omega, a⟩⟩
theorem kvS_at {Ss : List SnE} (hb : BdS Ss) {D : DataW Value} (h : MapL D (kvS Ss)) {t j : Nat} (ht : t < 64) (hj : j < 8) (z : DataW Value) :
    (∀ p, snF Ss t j = some p → D.atKey (klX t j) z = .held (.int .u64 (p.T : Int)) ∧ has D (klX t j) = true) ∧ (snF Ss t j = none → D.atKey (klX t j) z = z ∧ has D (klX t j) = false) := by
  constructor
  · intro p hp
    obtain ⟨h1, rfl, rfl⟩ := snF_some hp
    exact h.at_some (List.mem_map.2 ⟨p, h1, rfl⟩) z
  · intro hn
    refine h.at_none (fun q hq e => ?_) z
    obtain ⟨p, hp, rfl⟩ := List.mem_map.1 hq
    obtain ⟨b1, b2⟩ := hb.2 p hp
    exact snF_none hn p hp (klX_inj b1 b2 ht hj e)
theorem kvC_at {Cs : List CuE} (hb : BdC Cs) {D : DataW Value} (h : MapL D (kvC Cs)) {t j : Nat} (ht : t < 64) (hj : j < 8) (z : DataW Value) :
    (∀ p, cuF Cs t j = some p → D.atKey (klX t j) z = .held (scV p) ∧ has D (klX t j) = true) ∧ (cuF Cs t j = none → D.atKey (klX t j) z = z ∧ has D (klX t j) = false) := by
  constructor
  · intro p hp
    obtain ⟨h1, rfl, rfl⟩ := cuF_some hp
    exact h.at_some (List.mem_map.2 ⟨p, h1, rfl⟩) z
  · intro hn
    refine h.at_none (fun q hq e => ?_) z
    obtain ⟨p, hp, rfl⟩ := List.mem_map.1 hq
    obtain ⟨b1, b2⟩ := hb.2 p hp
    exact cuF_none hn p hp (klX_inj b1 b2 ht hj e)
theorem kvS_del {Ss : List SnE} (hb : BdS Ss) {t j : Nat} (ht : t < 64) (hj : j < 8) : (kvS Ss).filter (fun p => !p.1.sameKey (klX t j)) = kvS (Ss.filter fun p => !isS t j p) := by
  unfold kvS
  rw [List.filter_map]
  congr 1
  refine List.filter_congr (fun p hp => ?_)
  obtain ⟨b1, b2⟩ := hb.2 p hp
  simp only [Function.comp_apply, sameX b1 b2 ht hj, isS]
theorem kvM_del {Ss : List SnE} (hb : BdS Ss) {t j : Nat} (ht : t < 64) (hj : j < 8) : (kvM Ss).filter (fun p => !p.1.sameKey (klM t j)) = kvM (Ss.filter fun p => !isS t j p) := by
  unfold kvM
  rw [List.filter_map]
  congr 1
  refine List.filter_congr (fun p hp => ?_)
  obtain ⟨b1, b2⟩ := hb.2 p hp
  simp only [Function.comp_apply, sameM b1 b2 ht hj, isS]
theorem kvC_del {Cs : List CuE} (hb : BdC Cs) {t c : Nat} (ht : t < 64) (hc : c < 8) : (kvC Cs).filter (fun p => !p.1.sameKey (klX t c)) = kvC (Cs.filter fun p => !isC t c p) := by
  unfold kvC
  rw [List.filter_map]
  congr 1
  refine List.filter_congr (fun p hp => ?_)
  obtain ⟨b1, b2⟩ := hb.2 p hp
  simp only [Function.comp_apply, sameX b1 b2 ht hc, isC]
theorem kvC_put {Cs : List CuE} (hb : BdC Cs) {t c pl : Nat} {key : Str} (ht : t < 64) (hc : c < 8) {k : CuE} (hk : cuF Cs t c = some k) :
    ((kvC Cs).map fun p => if p.1.sameKey (klX t c) then (klX t c, DataW.held (.agg #[.int .i64 (k.j : Int), .int .i64 (pl : Int), .string ⟨key.toArray⟩])) else p) = kvC (putC Cs t c pl key) := by
  unfold kvC putC
  rw [List.map_map, List.map_map]
  refine List.map_congr_left (fun p hp => ?_)
  obtain ⟨b1, b2⟩ := hb.2 p hp
  obtain ⟨hkm, hkt, hkc⟩ := cuF_some hk
  have hs := sameX b1 b2 ht hc
  have hs2 : isC t c p = (p.t == t && p.c == c) := rfl
  by_cases h : (p.t == t && p.c == c) = true
  · simp only [Function.comp_apply]
    rw [if_pos (hs.trans h), if_pos (hs2.trans h)]
    simp only [Bool.and_eq_true, beq_iff_eq] at h
    obtain ⟨rfl, rfl⟩ := h
    have hpk : p = k := by
      obtain ⟨i, hi⟩ := List.mem_iff_getElem?.1 hp
      obtain ⟨j, hj⟩ := List.mem_iff_getElem?.1 hkm
      have := pair_uniq hb.1 (fun p q h => ⟨h.1.symm, h.2.symm⟩) hi hj ⟨hkt.symm, hkc.symm⟩
      subst this
      rw [hi] at hj
      exact Option.some.inj hj
    subst hpk
    rfl
  · simp only [Function.comp_apply]
    rw [if_neg (fun e => h (hs.symm.trans e)), if_neg (fun e => h (hs2.symm.trans e))]
def SnP (w : World) (ns N : Nat) (Ss : List SnE) : Prop := ∃ k D, k ≤ N ∧ w.ownsMap Tryz.prog 117 heldR ns k D ∧ MapL D (kvS Ss)
def CuP (w : World) (nc N : Nat) (Cs : List CuE) : Prop := ∃ k D, k ≤ N ∧ w.ownsMap Tryz.prog 117 heldR nc k D ∧ MapL D (kvC Cs)
def sts (Bs : List (List Wrt)) : List (List Ent) := (List.range (Bs.length + 1)).map (lstAt Bs)
theorem sts_len (Bs : List (List Wrt)) : (sts Bs).length = Bs.length + 1 := by simp [sts]
theorem sts_at (Bs : List (List Wrt)) {T : Nat} (h : T ≤ Bs.length) : (sts Bs)[T]? = some (lstAt Bs T) := by
  unfold sts
  rw [List.getElem?_map, List.getElem?_range (by omega)]
  rfl
theorem sts_pick (Bs : List (List Wrt)) (T : Nat) {l : List Ent} (h : (sts Bs)[pick (sts Bs) T]? = some l) : l = lstAt Bs T := by
  unfold pick at h
  rw [sts_len] at h
  have hp : min T (Bs.length + 1 - 1) ≤ Bs.length := by omega
  rw [sts_at Bs hp] at h
  rw [← Option.some.inj h]
  by_cases hT : T ≤ Bs.length
  · rw [show min T (Bs.length + 1 - 1) = T by omega]
  · rw [show min T (Bs.length + 1 - 1) = Bs.length by omega, ← lstAt_over (T := T) (by omega)]
theorem sts_snoc (Bs : List (List Wrt)) (b : List Wrt) : sts (Bs ++ [b]) = sts Bs ++ [applyR (lstAt Bs Bs.length) b] := by
  unfold sts
  rw [List.length_append, List.length_singleton, List.range_succ, List.map_append]
  congr 1
  · refine List.map_congr_left (fun T hT => ?_)
    rw [List.mem_range] at hT
    exact lstAt_snoc (by omega)
  · rw [List.map_singleton]
    rw [lstAt_succ (b := b) (by simp)]
    rw [lstAt_snoc (Nat.le_refl _)]
def MoP (w : World) (base : Nat) (Q : List Nat) (m N : Nat) (Bs : List (List Wrt)) (F : Nat) (Ss : List SnE) : Prop := ∃ Dm, MOx w base Q m N (sts Bs) F Dm ∧ MapL Dm (kvM Ss)
theorem SnP.keeps {w w' : World} {S : List Nat} {ns N : Nat} {Ss : List SnE} (h : SnP w ns N Ss) (k : Keeps S w w') (hn : ns ∉ S) : SnP w' ns N Ss := by
  obtain ⟨a, D, h1, h2, h3⟩ := h
  exact ⟨a, D, h1, ownsMap_keeps h2 k hn, h3⟩
theorem CuP.keeps {w w' : World} {S : List Nat} {ns N : Nat} {Ss : List CuE} (h : CuP w ns N Ss) (k : Keeps S w w') (hn : ns ∉ S) : CuP w' ns N Ss := by
  obtain ⟨a, D, h1, h2, h3⟩ := h
  exact ⟨a, D, h1, ownsMap_keeps h2 k hn, h3⟩
theorem SnP.mono {w : World} {ns N N' : Nat} {Ss : List SnE} (h : SnP w ns N Ss) (hN : N ≤ N') : SnP w ns N' Ss := by
  obtain ⟨a, D, h1, h2, h3⟩ := h
  exact ⟨a, D, Nat.le_trans h1 hN, h2, h3⟩
theorem CuP.mono {w : World} {ns N N' : Nat} {Ss : List CuE} (h : CuP w ns N Ss) (hN : N ≤ N') : CuP w ns N' Ss := by
  obtain ⟨a, D, h1, h2, h3⟩ := h
  exact ⟨a, D, Nat.le_trans h1 hN, h2, h3⟩
theorem MO.beside {w w' : World} {base m sb cap mb nb F : Nat} {Q : List Nat} {sv rest : List Value} {St : List (List Ent)} {D : DataW Unit} (h : MO w base Q m sb cap mb nb sv rest St F D) {S : List Nat} (k : Keeps S w w') (hS : ∀ i ∈ S, i ∈ Q) : MO w' base Q m sb cap mb nb sv rest St F D :=
  ⟨k.blk h.hm (fun hm => (h.hq _ (hS _ hm)).1 rfl), k.blk h.hs (fun hm => (h.hq _ (hS _ hm)).2.1 rfl), h.hl, h.hp, h.hcap, h.hcl, h.hcm, h.hne, fun i v l h1 h2 => ⟨(h.he i v l h1 h2).1.keeps k (fun g hg hm => h.hd v (List.mem_of_getElem? h1) g hg (hS g hm)), (h.he i v l h1 h2).2⟩,
    ownsMap_keepsU h.hmap k (fun hm => (h.hq _ (hS _ hm)).2.2.1 rfl), h.hb, fun q hq => ⟨(h.hq q hq).1, (h.hq q hq).2.1, (h.hq q hq).2.2.1, Nat.lt_of_lt_of_le (h.hq q hq).2.2.2 k.size⟩, h.hd⟩
theorem MoP.beside {w w' : World} {base m N F : Nat} {Q : List Nat} {Bs : List (List Wrt)} {Ss : List SnE} (h : MoP w base Q m N Bs F Ss) {S : List Nat} (k : Keeps S w w') (hS : ∀ i ∈ S, i ∈ Q) : MoP w' base Q m N Bs F Ss := by
  obtain ⟨D, ⟨sb, cap, mb, nb, sv, rest, h1, h2⟩, h3⟩ := h
  exact ⟨D, ⟨sb, cap, mb, nb, sv, rest, h1, h2.beside k hS⟩, h3⟩
theorem MoP.mono {w : World} {base m N N' F : Nat} {Q : List Nat} {Bs : List (List Wrt)} {Ss : List SnE} (h : MoP w base Q m N Bs F Ss) (hN : N ≤ N') : MoP w base Q m N' Bs F Ss := by
  obtain ⟨D, ⟨sb, cap, mb, nb, sv, rest, h1, h2⟩, h3⟩ := h
  exact ⟨D, ⟨sb, cap, mb, nb, sv, rest, Nat.le_trans h1 hN, h2⟩, h3⟩
variable {w w' : World} {ns nc N : Nat} {Ss : List SnE} {Cs : List CuE}
theorem held_inj {v v' : Value} {ps : List MemPlace} (h : heldR v = some (DataW.held v', ps)) : v = v' := by
  unfold heldR at h
  simp only [Option.some.injEq, Prod.mk.injEq, DataW.held.injEq] at h
  exact h.1
def snT (o : Option SnE) : Nat := match o with | some p => p.T | none => 0
def cuZ : CuE := ⟨0, 0, 0, 0, 0, []⟩
theorem SnP.look (h : SnP w ns N Ss) (hb : BdS Ss) {t j : Nat} (ht : t < 64) (hj : j < 8) (o : Option SnE) (ho : snF Ss t j = o) :
    (Instr.lookup 77 (.map (some ns)) (.agg #[.int .i64 (t : Int), .int .i64 (j : Int)]) true).run Tryz.prog w = .ok (.tuple #[.int .u64 (snT o : Int), .bool o.isSome]) w := by
  obtain ⟨k, D, _, hD, hL⟩ := h
  obtain ⟨v, ps, hrun, hv⟩ := hD.look_ok lawX Tryz.underlying77 (zeroUX _) (zd := .held (.int .u64 0)) (zp := []) rfl (klX_is ht hj)
  obtain ⟨h1, h2⟩ := kvS_at hb hL ht hj (.held (.int .u64 0))
  rw [hrun]
  cases o with
  | none => obtain ⟨e1, e2⟩ := h2 ho; rw [e1] at hv; rw [held_inj hv, e2]; rfl
  | some p => obtain ⟨e1, e2⟩ := h1 p ho; rw [e1] at hv; rw [held_inj hv, e2]; rfl
theorem SnP.get (h : SnP w ns N Ss) (hb : BdS Ss) {t j : Nat} (ht : t < 64) (hj : j < 8) (o : Option SnE) (ho : snF Ss t j = o) :
    (Instr.lookup 77 (.map (some ns)) (.agg #[.int .i64 (t : Int), .int .i64 (j : Int)]) false).run Tryz.prog w = .ok (.int .u64 (snT o : Int)) w := by
  obtain ⟨k, D, _, hD, hL⟩ := h
  obtain ⟨v, ps, hrun, hv⟩ := hD.lookup lawX Tryz.underlying77 (zeroUX _) (zd := .held (.int .u64 0)) (zp := []) rfl (klX_is ht hj)
  obtain ⟨h1, h2⟩ := kvS_at hb hL ht hj (.held (.int .u64 0))
  rw [hrun]
  cases o with
  | none => obtain ⟨e1, e2⟩ := h2 ho; rw [e1] at hv; rw [held_inj hv]; rfl
  | some p => obtain ⟨e1, e2⟩ := h1 p ho; rw [e1] at hv; rw [held_inj hv]; rfl
theorem CuP.look (h : CuP w nc N Cs) (hb : BdC Cs) {t c : Nat} (ht : t < 64) (hc : c < 8) (o : Option CuE) (ho : cuF Cs t c = o) :
    (Instr.lookup 78 (.map (some nc)) (.agg #[.int .i64 (t : Int), .int .i64 (c : Int)]) true).run Tryz.prog w = .ok (.tuple #[.agg #[.int .i64 ((o.getD cuZ).j : Int), .int .i64 ((o.getD cuZ).pl : Int), .string ⟨(o.getD cuZ).key.toArray⟩], .bool o.isSome]) w := by
  obtain ⟨k, D, _, hD, hL⟩ := h
  obtain ⟨v, ps, hrun, hv⟩ := hD.look_ok lawX Tryz.underlying78 (zeroSX _) (zd := .held (.agg #[.int .i64 0, .int .i64 0, .string ⟨#[]⟩])) (zp := []) rfl (klX_is ht hc)
  obtain ⟨h1, h2⟩ := kvC_at hb hL ht hc (.held (.agg #[.int .i64 0, .int .i64 0, .string ⟨#[]⟩]))
  rw [hrun]
  cases o with
  | none => obtain ⟨e1, e2⟩ := h2 ho; rw [e1] at hv; rw [held_inj hv, e2]; rfl
  | some p => obtain ⟨e1, e2⟩ := h1 p ho; rw [e1] at hv; rw [held_inj hv, e2]; rfl
theorem SnP.put (h : SnP w ns N Ss) (hb : BdS Ss) (hN : N ≤ 100000) {t j : Nat} (ht : t < 64) (hj : j < 8) (T : Nat) (hno : snF Ss t j = none) :
    ∃ w', (Instr.mapUpdate 77 (.map (some ns)) (.agg #[.int .i64 (t : Int), .int .i64 (j : Int)]) (.int .u64 (T : Int))).run Tryz.prog w = .ok () w' ∧ SnP w' ns (N + 1) (Ss ++ [⟨t, j, T⟩]) ∧ Keeps [ns] w w' := by
  obtain ⟨k, D, hk, hD, hL⟩ := h
  obtain ⟨w', hrun, ho, hg⟩ := hD.update lawX Tryz.underlying77 (by unfold maxLen; omega) (klX_is ht hj) (val := .int .u64 (T : Int)) (d := .held (.int .u64 (T : Int))) (ps := []) rfl
  refine ⟨w', hrun, ⟨k + 1, _, by omega, ho, ?_⟩, Keeps.of_grownBy hg [ns] (by simp)⟩
  have := hL.put_new (klX_lit ht hj) (.held (.int .u64 (T : Int))) (fun q hq e => by
    obtain ⟨p, hp, rfl⟩ := List.mem_map.1 hq
    obtain ⟨b1, b2⟩ := hb.2 p hp
    exact snF_none hno p hp (klX_inj b1 b2 ht hj e))
  unfold kvS at this ⊢
  rw [List.map_append]
  exact this
theorem CuP.put_new (h : CuP w nc N Cs) (hb : BdC Cs) (hN : N ≤ 100000) {t c : Nat} (ht : t < 64) (hc : c < 8) (j T : Nat) (hno : cuF Cs t c = none) :
    ∃ w', (Instr.mapUpdate 78 (.map (some nc)) (.agg #[.int .i64 (t : Int), .int .i64 (c : Int)]) (.agg #[.int .i64 (j : Int), .int .i64 0, .string ⟨#[]⟩])).run Tryz.prog w = .ok () w' ∧ CuP w' nc (N + 1) (Cs ++ [⟨t, c, j, T, 0, []⟩]) ∧ Keeps [nc] w w' := by
  obtain ⟨k, D, hk, hD, hL⟩ := h
  obtain ⟨w', hrun, ho, hg⟩ := hD.update lawX Tryz.underlying78 (by unfold maxLen; omega) (klX_is ht hc) (val := .agg #[.int .i64 (j : Int), .int .i64 0, .string ⟨#[]⟩]) (d := .held (.agg #[.int .i64 (j : Int), .int .i64 0, .string ⟨#[]⟩])) (ps := []) rfl
  refine ⟨w', hrun, ⟨k + 1, _, by omega, ho, ?_⟩, Keeps.of_grownBy hg [nc] (by simp)⟩
  have := hL.put_new (klX_lit ht hc) (.held (.agg #[.int .i64 (j : Int), .int .i64 0, .string ⟨#[]⟩])) (fun q hq e => by
    obtain ⟨p, hp, rfl⟩ := List.mem_map.1 hq
    obtain ⟨b1, b2⟩ := hb.2 p hp
    exact cuF_none hno p hp (klX_inj b1 b2 ht hc e))
  unfold kvC at this ⊢
  rw [List.map_append]
  exact this
theorem CuP.put_old (h : CuP w nc N Cs) (hb : BdC Cs) (hN : N ≤ 100000) {t c : Nat} (ht : t < 64) (hc : c < 8) (pl : Nat) (key : Str) {k0 : CuE} (hk0 : cuF Cs t c = some k0) :
    ∃ w', (Instr.mapUpdate 78 (.map (some nc)) (.agg #[.int .i64 (t : Int), .int .i64 (c : Int)]) (.agg #[.int .i64 (k0.j : Int), .int .i64 (pl : Int), .string ⟨key.toArray⟩])).run Tryz.prog w = .ok () w' ∧ CuP w' nc (N + 1) (putC Cs t c pl key) ∧ Keeps [nc] w w' := by
  obtain ⟨k, D, hk, hD, hL⟩ := h
  obtain ⟨w', hrun, ho, hg⟩ := hD.update lawX Tryz.underlying78 (by unfold maxLen; omega) (klX_is ht hc) (val := .agg #[.int .i64 (k0.j : Int), .int .i64 (pl : Int), .string ⟨key.toArray⟩]) (d := .held (.agg #[.int .i64 (k0.j : Int), .int .i64 (pl : Int), .string ⟨key.toArray⟩])) (ps := []) rfl
  refine ⟨w', hrun, ⟨k + 1, _, by omega, ho, ?_⟩, Keeps.of_grownBy hg [nc] (by simp)⟩
  have := hL.put_old (.held (.agg #[.int .i64 (k0.j : Int), .int .i64 (pl : Int), .string ⟨key.toArray⟩])) (k := klX t c) (by
    obtain ⟨h1, rfl, rfl⟩ := cuF_some hk0
    exact ⟨_, List.mem_map.2 ⟨k0, h1, rfl⟩, rfl⟩)
  rw [kvC_put hb ht hc hk0] at this
  exact this
theorem SnP.del (h : SnP w ns N Ss) (hb : BdS Ss) {t j : Nat} (ht : t < 64) (hj : j < 8) (ty : TypeId) :
    ∃ w', (Builtin.delete_ #[77, 117] ty #[.map (some ns), .agg #[.int .i64 (t : Int), .int .i64 (j : Int)]]).run Tryz.prog w = .ok (.tuple #[]) w' ∧ SnP w' ns N (Ss.filter fun p => !isS t j p) ∧ Keeps [ns] w w' := by
  obtain ⟨k, D, hk, hD, hL⟩ := h
  obtain ⟨w', hrun, ho, hg⟩ := hD.drop lawX Tryz.underlying77 (klX_is ht hj) ty
  refine ⟨w', hrun, ⟨k, _, hk, ho, ?_⟩, Keeps.of_grownBy hg.grown [ns] (by simp)⟩
  have := hL.del (klX t j)
  rw [kvS_del hb ht hj] at this
  exact this
theorem CuP.del (h : CuP w nc N Cs) (hb : BdC Cs) {t c : Nat} (ht : t < 64) (hc : c < 8) (ty : TypeId) :
    ∃ w', (Builtin.delete_ #[78, 117] ty #[.map (some nc), .agg #[.int .i64 (t : Int), .int .i64 (c : Int)]]).run Tryz.prog w = .ok (.tuple #[]) w' ∧ CuP w' nc N (Cs.filter fun p => !isC t c p) ∧ Keeps [nc] w w' := by
  obtain ⟨k, D, hk, hD, hL⟩ := h
  obtain ⟨w', hrun, ho, hg⟩ := hD.drop lawX Tryz.underlying78 (klX_is ht hc) ty
  refine ⟨w', hrun, ⟨k, _, hk, ho, ?_⟩, Keeps.of_grownBy hg.grown [nc] (by simp)⟩
  have := hL.del (klX t c)
  rw [kvC_del hb ht hc] at this
  exact this
end Go.Proofs.YtbcgpjfejpcgnaaGreat
end
section
namespace Go.Proofs.YtbcgpjfejpcgnaaGreat
open Go.RowKit Go.Maps Go.MapKept Go.ChangeMaps
set_option maxRecDepth 100000
set_option linter.unusedVariables false
set_option linter.unusedSectionVars false
theorem MO.addQ {w w' : World} {base m sb cap mb nb F : Nat} {Q : List Nat} {sv rest : List Value} {St : List (List Ent)} {D : DataW Unit} (h : MO w base Q m sb cap mb nb sv rest St F D) (k : Keeps [] w w') {L : List Nat} (hL : ∀ g ∈ L, w.heap.size ≤ g ∧ g < w'.heap.size) : MO w' base (Q ++ L) m sb cap mb nb sv rest St F D := by
  have h' := h.keeps k
  have l1 := h.hm.lt
  have l2 := h.hs.lt
  have l3 := h.hmap.lt
  refine ⟨h'.hm, h'.hs, h'.hl, h'.hp, h'.hcap, h'.hcl, h'.hcm, h'.hne, h'.he, h'.hmap, h'.hb, fun q hq => ?_, fun v hv g hg hm => ?_⟩
  · rcases List.mem_append.1 hq with hq | hq
    · exact h'.hq q hq
    · have := hL q hq
      exact ⟨by omega, by omega, by omega, this.2⟩
  · rcases List.mem_append.1 hm with hm | hm
    · exact h'.hd v hv g hg hm
    · obtain ⟨i, hi⟩ := List.mem_iff_getElem?.1 hv
      have hil := (List.getElem?_eq_some_iff.1 hi).1
      obtain ⟨l, hl⟩ : ∃ l, St[i]? = some l := ⟨_, List.getElem?_eq_getElem (by rw [← h.hl]; exact hil)⟩
      have := ((h.he i v l hi hl).1.ge g hg).2
      have := hL g hm
      omega
theorem MO.subQ {w : World} {base m sb cap mb nb F : Nat} {Q Q' : List Nat} {sv rest : List Value} {St : List (List Ent)} {D : DataW Unit} (h : MO w base Q' m sb cap mb nb sv rest St F D) (hQ : ∀ q ∈ Q, q ∈ Q') : MO w base Q m sb cap mb nb sv rest St F D :=
  ⟨h.hm, h.hs, h.hl, h.hp, h.hcap, h.hcl, h.hcm, h.hne, h.he, h.hmap, h.hb, fun q hq => h.hq q (hQ q hq), fun v hv g hg hm => h.hd v hv g hg (hQ g hm)⟩
theorem MoP.addQ {w w' : World} {base m N F : Nat} {Q : List Nat} {Bs : List (List Wrt)} {Ss : List SnE} (h : MoP w base Q m N Bs F Ss) (k : Keeps [] w w') {L : List Nat} (hL : ∀ g ∈ L, w.heap.size ≤ g ∧ g < w'.heap.size) : MoP w' base (Q ++ L) m N Bs F Ss := by
  obtain ⟨D, ⟨sb, cap, mb, nb, sv, rest, h1, h2⟩, h3⟩ := h
  exact ⟨D, ⟨sb, cap, mb, nb, sv, rest, h1, h2.addQ k hL⟩, h3⟩
theorem MoP.subQ {w : World} {base m N F : Nat} {Q Q' : List Nat} {Bs : List (List Wrt)} {Ss : List SnE} (h : MoP w base Q' m N Bs F Ss) (hQ : ∀ q ∈ Q, q ∈ Q') : MoP w base Q m N Bs F Ss := by
  obtain ⟨D, ⟨sb, cap, mb, nb, sv, rest, h1, h2⟩, h3⟩ := h
  exact ⟨D, ⟨sb, cap, mb, nb, sv, rest, h1, h2.subQ hQ⟩, h3⟩
theorem MoP.keeps {w w' : World} {base m N F : Nat} {Q : List Nat} {Bs : List (List Wrt)} {Ss : List SnE} (h : MoP w base Q m N Bs F Ss) (k : Keeps [] w w') : MoP w' base Q m N Bs F Ss := h.beside k (by simp)
theorem Kp.subQ {base : Nat} {Q Q' : List Nat} {w w' : World} (h : Kp base Q' w w') (hQ : ∀ q ∈ Q, q ∈ Q') : Kp base Q w w' := by
  obtain ⟨S, h1, h2⟩ := h
  exact ⟨S, fun i hi => ⟨(h1 i hi).1, fun hm => (h1 i hi).2 (hQ i hm)⟩, h2⟩
theorem Kp.blk {base : Nat} {Q : List Nat} {w w' : World} (h : Kp base Q w w') {g : Nat} {cs : List Value} (hb : Blk w g cs) (hg : g ∈ Q ∨ g < base) : Blk w' g cs := by
  obtain ⟨S, h1, h2⟩ := h
  exact h2.blk hb (fun hm => by have := h1 g hm; rcases hg with hg | hg; exact this.2 hg; omega)
theorem Kp.size {base : Nat} {Q : List Nat} {w w' : World} (h : Kp base Q w w') : w.heap.size ≤ w'.heap.size := by
  obtain ⟨S, h1, h2⟩ := h
  exact h2.size
theorem minT_le (Ss : List SnE) : ∀ n, minT Ss n ≤ n ∧ (∀ p ∈ Ss, minT Ss n ≤ p.T) ∧ (minT Ss n = n ∨ ∃ p ∈ Ss, minT Ss n = p.T) := by
  unfold minT
  induction Ss with
  | nil => intro n; simp
  | cons p Ss ih =>
    intro n
    obtain ⟨h1, h2, h3⟩ := ih (min n p.T)
    simp only [List.foldl_cons]
    refine ⟨by omega, fun q hq => ?_, ?_⟩
    · rcases List.mem_cons.1 hq with rfl | hq
      · omega
      · exact h2 q hq
    · rcases h3 with h3 | ⟨q, hq, h3⟩
      · rcases Nat.le_total n p.T with hle | hle
        · exact .inl (by omega)
        · exact .inr ⟨p, by simp, by omega⟩
      · exact .inr ⟨q, by simp [hq], h3⟩
theorem wmk_eq {Bs : List (List Wrt)} {Ss : List SnE} {D : DataW Unit} (h : MapL D (kvM Ss)) (hT : ∀ p ∈ Ss, p.T ≤ Bs.length) : wmk (sts Bs) D = ((minT Ss Bs.length : Nat) : Int) := by
  obtain ⟨⟨es, rfl, hp⟩, _, _⟩ := h
  have hv : (es.map vl).Perm (Ss.map fun p => (p.T : Int)) := by
    have := hp.map vl
    unfold kvM at this
    rw [List.map_map] at this
    exact this
  have hperm := (isort_perm (es.map vl)).trans hv
  have hsort := isort_sorted (es.map vl)
  obtain ⟨m1, m2, m3⟩ := minT_le Ss Bs.length
  unfold wmk snaps
  show (match isort (es.map vl) with | x :: _ => x | [] => (((sts Bs).length - 1 : Nat) : Int)) = _
  cases hs : isort (es.map vl) with
  | nil =>
    rw [hs] at hperm
    have hnil : Ss = [] := by
      have := hperm.length_eq
      simp at this
      exact List.eq_nil_of_length_eq_zero this.symm
    subst hnil
    simp [sts_len, minT]
  | cons x xs =>
    rw [hs] at hperm hsort
    obtain ⟨s1, _⟩ := List.pairwise_cons.1 hsort
    have hx : ∃ p ∈ Ss, (p.T : Int) = x := by
      have := hperm.mem_iff.1 (List.mem_cons_self ..)
      exact List.mem_map.1 this
    obtain ⟨p, hp1, hp2⟩ := hx
    have hle : ∀ q ∈ Ss, x ≤ (q.T : Int) := fun q hq => by
      have := hperm.mem_iff.2 (List.mem_map.2 ⟨q, hq, rfl⟩)
      rcases List.mem_cons.1 this with e | hm
      · omega
      · exact s1 _ hm
    show x = _
    have h1 := m2 p hp1
    rcases m3 with m3 | ⟨q, hq, m3⟩
    · have := hT p hp1
      omega
    · have := hle q hq
      omega
variable {w : World} {base m N F : Nat} {Q : List Nat} {Bs : List (List Wrt)} {Ss : List SnE}
theorem MoP.time (h : MoP w base Q m N Bs F Ss) (hn : Bs.length ≤ 200) : Calls Tryz.prog 75 #[.pointer (some ⟨m, 0, none⟩)] w fun e w' => e = .returned (.int .u64 (Bs.length : Int)) ∧ w' = w := by
  obtain ⟨D, ⟨sb, cap, mb, nb, sv, rest, h1, h2⟩, h3⟩ := h
  have := time_any h2 (by rw [sts_len]; omega)
  rw [sts_len] at this
  exact this
theorem MoP.floor (h : MoP w base Q m N Bs F Ss) : Calls Tryz.prog 77 #[.pointer (some ⟨m, 0, none⟩)] w fun e w' => e = .returned (.int .u64 (F : Int)) ∧ w' = w := by
  obtain ⟨D, ⟨sb, cap, mb, nb, sv, rest, h1, h2⟩, h3⟩ := h
  exact floor_any h2
theorem sts_ok {Bs : List (List Wrt)} (hb : ∀ b ∈ Bs, b.length ≤ 16) (hn : Bs.length ≤ 200) : ∀ l ∈ sts Bs, l.length ≤ 3200 ∧ Asc l := by
  intro l hl
  unfold sts at hl
  obtain ⟨T, _, rfl⟩ := List.mem_map.1 hl
  have := (lstAt_len hb T).1
  exact ⟨by omega, lstAt_asc Bs T⟩
theorem MoP.get (h : MoP w base Q m N Bs F Ss) (hn : Bs.length ≤ 200) (hb : ∀ b ∈ Bs, b.length ≤ 16) (key : Str) (T : Nat) (hT : T ≤ 18446744073709551615) : Calls Tryz.prog 78 #[.pointer (some ⟨m, 0, none⟩), .string ⟨key.toArray⟩, .int .u64 (T : Int)] w fun e w' => e = .returned (.tuple #[.string ⟨((lk (lstAt Bs T) key).getD []).toArray⟩, .bool (lk (lstAt Bs T) key).isSome]) ∧ Keeps [] w w' := by
  obtain ⟨D, ⟨sb, cap, mb, nb, sv, rest, h1, h2⟩, h3⟩ := h
  refine (mget_any h2 (by rw [sts_len]; omega) (fun l hl => ⟨by have := (sts_ok hb hn l hl).1; omega, (sts_ok hb hn l hl).2⟩) key T hT).mono ?_
  rintro e w' ⟨l, rfl, hl, k⟩
  rw [sts_pick Bs T hl]
  exact ⟨rfl, k⟩
theorem MoP.list (h : MoP w base Q m N Bs F Ss) (hn : Bs.length ≤ 200) (hb : ∀ b ∈ Bs, b.length ≤ 16) (T : Nat) (hT : T ≤ 18446744073709551615) : Calls Tryz.prog 79 #[.pointer (some ⟨m, 0, none⟩), .int .u64 (T : Int)] w fun e w' => ∃ v, e = .returned v ∧ Own w' w.heap.size v (lstAt Bs T) ∧ Keeps [] w w' := by
  obtain ⟨D, ⟨sb, cap, mb, nb, sv, rest, h1, h2⟩, h3⟩ := h
  refine (mlist_any h2 (by rw [sts_len]; omega) (fun l hl => by have := (sts_ok hb hn l hl).1; omega) T hT).mono ?_
  rintro e w' ⟨v, l, rfl, hl, ho, k⟩
  rw [sts_pick Bs T hl] at ho
  exact ⟨v, rfl, ho, k⟩
theorem MoP.raise (h : MoP w base Q m N Bs F Ss) (hn : Bs.length ≤ 200) (hs : Ss.length ≤ 25) (hT : ∀ p ∈ Ss, p.T ≤ Bs.length) (T : Nat) : Calls Tryz.prog 48 #[.pointer (some ⟨m, 0, none⟩), .int .u64 (T : Int)] w fun e w' => e = .returned (.bool (decide (T ≤ minT Ss Bs.length))) ∧ MoP w' base Q m N Bs (if T ≤ minT Ss Bs.length then max F T else F) Ss ∧ Kp base Q w w' := by
  obtain ⟨D, ⟨sb, cap, mb, nb, sv, rest, h1, h2⟩, h3⟩ := h
  have hsz : Maps.size D ≤ 25 := by rw [h3.size]; simp [kvM]; omega
  refine (mraise_any h2 (by rw [sts_len]; omega) hsz T).mono ?_
  rintro e w' ⟨rfl, ⟨sb', cap', mb', nb', sv', rest', h4, h5⟩, k⟩
  rw [wmk_eq h3 hT] at h5 ⊢
  have hd : decide ((T : Int) ≤ ((minT Ss Bs.length : Nat) : Int)) = decide (T ≤ minT Ss Bs.length) := by simp
  rw [hd]
  refine ⟨rfl, ⟨D, ⟨sb', cap', mb', nb', sv', rest', Nat.le_trans h4 h1, ?_⟩, h3⟩, k⟩
  by_cases hc : T ≤ minT Ss Bs.length
  · rw [if_pos hc]; rw [if_pos (by omega)] at h5; exact h5
  · rw [if_neg hc]; rw [if_neg (by omega)] at h5; exact h5
theorem MoP.open_ (h : MoP w base Q m N Bs F Ss) (hn : Bs.length ≤ 200) (hN : N ≤ 4096) (hb : BdS Ss) {t j : Nat} (ht : t < 64) (hj : j < 8) (hno : snF Ss t j = none) : Calls Tryz.prog 66 #[.pointer (some ⟨m, 0, none⟩), .int .i64 (t : Int), .int .i64 (j : Int)] w fun e w' => e = .returned (.int .u64 (Bs.length : Int)) ∧ MoP w' base Q m (N + 1) Bs F (Ss ++ [⟨t, j, Bs.length⟩]) ∧ Kp base Q w w' := by
  obtain ⟨D, ⟨sb, cap, mb, nb, sv, rest, h1, h2⟩, h3⟩ := h
  have := mopen_any h2 (by rw [sts_len]; omega) (by omega) t j (klM t j) (klM_is ht hj)
  rw [sts_len] at this
  refine this.mono ?_
  rintro e w' ⟨rfl, ⟨sb', cap', mb', nb', sv', rest', h4, h5⟩, k⟩
  refine ⟨rfl, ⟨_, ⟨sb', cap', mb', nb', sv', rest', by omega, h5⟩, ?_⟩, k⟩
  have := h3.put_new (klM_lit ht hj) (.lit (.int .u64 (Bs.length : Int))) (fun q hq e => by
    obtain ⟨p, hp, rfl⟩ := List.mem_map.1 hq
    obtain ⟨b1, b2⟩ := hb.2 p hp
    exact snF_none hno p hp (klM_inj b1 b2 ht hj e))
  unfold kvM at this ⊢
  rw [List.map_append]
  exact this
theorem MoP.rel (h : MoP w base Q m N Bs F Ss) (hb : BdS Ss) {t j : Nat} (ht : t < 64) (hj : j < 8) : Calls Tryz.prog 67 #[.pointer (some ⟨m, 0, none⟩), .int .i64 (t : Int), .int .i64 (j : Int)] w fun e w' => e = .returned (.tuple #[]) ∧ MoP w' base Q m N Bs F (Ss.filter fun p => !isS t j p) ∧ Kp base Q w w' := by
  obtain ⟨D, ⟨sb, cap, mb, nb, sv, rest, h1, h2⟩, h3⟩ := h
  refine (mrel_any h2 t j (klM t j) (klM_is ht hj)).mono ?_
  rintro e w' ⟨rfl, ⟨sb', cap', mb', nb', sv', rest', h4, h5⟩, k⟩
  refine ⟨rfl, ⟨_, ⟨sb', cap', mb', nb', sv', rest', by omega, h5⟩, ?_⟩, k⟩
  have := h3.del (klM t j)
  rw [kvM_del hb ht hj] at this
  exact this
theorem MoP.apply (h : MoP w base Q m N Bs F Ss) (hn : Bs.length ≤ 200) (hb : ∀ b ∈ Bs, b.length ≤ 16) (b : List Wrt) (hbl : b.length ≤ 16) (bv : Value) (hbv : Lst w bv b.length (wCs b)) : Calls Tryz.prog 64 #[.pointer (some ⟨m, 0, none⟩), bv] w fun e w' => e = .returned (.int .u64 ((Bs.length + 1 : Nat) : Int)) ∧ MoP w' base Q m N (Bs ++ [b]) F Ss ∧ Kp base Q w w' := by
  obtain ⟨D, ⟨sb, cap, mb, nb, sv, rest, h1, h2⟩, h3⟩ := h
  have hl : (sts Bs)[(sts Bs).length - 1]? = some (lstAt Bs Bs.length) := by rw [sts_len]; exact sts_at Bs (by omega)
  have hle := (lstAt_len hb Bs.length).1
  have := mapply_any h2 (by rw [sts_len]; omega) (lstAt Bs Bs.length) hl (lstAt_asc _ _) b (by omega) bv hbv
  refine this.mono ?_
  rintro e w' ⟨rfl, ⟨sb', cap', mb', nb', sv', rest', h4, h5⟩, k⟩
  rw [sts_len]
  refine ⟨rfl, ⟨D, ⟨sb', cap', mb', nb', sv', rest', by omega, ?_⟩, h3⟩, k⟩
  rw [sts_snoc]
  exact h5
end Go.Proofs.YtbcgpjfejpcgnaaGreat
end
