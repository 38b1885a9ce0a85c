/- Lemmas on the way to LinearAcceptsSequential. No condition. -/
import Derived.Test.YtbcgpjfejpcgnaaGreatRAa
import Derived.Test.YtbcgpjfejpcgnaaGreatChecked
import Derived.Deep.RegionHeld3
import Derived.Deep.QuietTactic
import Derived.BigQuiet
import Derived.Deep.CutBlock
import Derived.Lib.Overlaps
import Derived.Lib.AppendZerosOnto
import Derived.Laws.Externs
import Derived.Deep.RegionLaw
import Derived.Lib.SliceRun
import Derived.Shelf.RegionOpenPlain
set_option linter.unusedSimpArgs false
set_option linter.unusedVariables false
set_option linter.unusedSectionVars false
section
namespace Go.Proofs.YtbcgpjfejpcgnaaGreat
open Go.RowKit
def cmpS (a b : Str) : Int := if a < b then -1 else if b < a then 1 else 0
theorem cmpS_self (a : Str) : cmpS a a = 0 := by simp [cmpS, List.lt_irrefl]
theorem less_pos {a b : Str} (h : a < b) : Op.bytesLess a b = true := by rw [bytesLess_eq]; simpa using h
theorem less_neg {a b : Str} (h : ¬ a < b) : Op.bytesLess a b = false := by rw [bytesLess_eq]; simpa using h
theorem compare_any (a b : Str) (w : World) : Calls Tryz.prog 86 #[.string ⟨a.toArray⟩, .string ⟨b.toArray⟩] w fun e w' => e = .returned (.int .i64 (cmpS a b)) ∧ w' = w := by
  by_cases h1 : a < b
  · have h2 := less_pos h1
    go_enter Tryz.func86, Tryz.ntmps86
    go_wp2
    go_ret
    exact ⟨by simp [cmpS, h1], rfl⟩
  · have h2 := less_neg h1
    by_cases h3 : b < a
    · have h4 : (a == b) = false := by simpa using fun e : a = b => slt_ne h3 e.symm
      go_enter Tryz.func86, Tryz.ntmps86
      go_wp2
      go_ret
      exact ⟨by simp [cmpS, h1, h3], rfl⟩
    · obtain rfl := slt_tri h1 h3
      have h4 : (a == a) = true := by simp
      go_enter Tryz.func86, Tryz.ntmps86
      go_wp2
      go_ret
      exact ⟨by simp [cmpS, h1], rfl⟩
theorem clo_any (e : Ent) (k : Str) (w : World) : Calls Tryz.prog 85 #[.agg #[.string ⟨e.k.toArray⟩, .string ⟨e.v.toArray⟩], .string ⟨k.toArray⟩] w fun x w' => x = .returned (.int .i64 (cmpS e.k k)) ∧ Keeps [] w w' := by
  go_enter Tryz.func85, Tryz.ntmps85
  go_wp2_with (go_at_call 86; refine (compare_any _ _ _).mono ?_; rintro e w' ⟨rfl, rfl⟩)
  go_ret
  exact ⟨rfl, (Keeps.refl [] _).alloc _⟩
def pos (l : List Ent) (k : Str) : Nat := (l.takeWhile (fun e => decide (e.k < k))).length
def at_ (l : List Ent) (k : Str) : Bool := match l[pos l k]? with | some e => decide (e.k = k) | none => false
theorem pos_le (l : List Ent) (k : Str) : pos l k ≤ l.length := by
  unfold pos
  induction l with
  | nil => simp
  | cons x l ih => rw [List.takeWhile_cons]; split <;> simp; exact ih
theorem pos_lt {l : List Ent} {k : Str} {t : Nat} {e : Ent} (h : t < pos l k) (he : l[t]? = some e) : e.k < k := by
  induction l generalizing t with
  | nil => simp at he
  | cons x l ih =>
    unfold pos at h
    rw [List.takeWhile_cons] at h
    by_cases hx : x.k < k
    · cases t with
      | zero => simp at he; subst he; exact hx
      | succ t =>
        simp only [hx, decide_true, if_true, List.length_cons] at h
        exact ih (t := t) (by unfold pos; omega) (by simpa using he)
    · simp [hx] at h
theorem pos_ge {l : List Ent} {k : Str} {t : Nat} {e : Ent} (hl : Asc l) (h : pos l k ≤ t) (he : l[t]? = some e) : ¬ e.k < k := by
  induction l generalizing t with
  | nil => simp at he
  | cons x l ih =>
    have hl' := List.pairwise_cons.1 hl
    unfold pos at h
    rw [List.takeWhile_cons] at h
    by_cases hx : x.k < k
    · simp only [hx, decide_true, if_true, List.length_cons] at h
      cases t with
      | zero => omega
      | succ t => exact ih (t := t) hl'.2 (by unfold pos; omega) (by simpa using he)
    · cases t with
      | zero => simp at he; subst he; exact hx
      | succ t =>
        have := hl'.1 e (List.mem_of_getElem? (by simpa using he))
        exact fun h2 => hx (slt_trans this h2)
set_option maxHeartbeats 1000000 in
theorem search_any (l : List Ent) (k : Str) (hl : Asc l) (hn : l.length ≤ 4096) (g cap : Nat) (rest : List Value) (w : World) (hb : Blk w g (eCs l ++ rest)) :
    Calls Tryz.prog 84 #[.slice (some ⟨g, 0, none⟩) l.length cap, .string ⟨k.toArray⟩, .func (.func 85) #[] #[]] w fun x w' => x = .returned (.tuple #[.int .i64 (pos l k), .bool (at_ l k)]) ∧ Keeps [] w w' := by
  obtain ⟨n, hnn⟩ : ∃ n, l.length = n := ⟨_, rfl⟩
  obtain ⟨p, hp⟩ : ∃ p, pos l k = p := ⟨_, rfl⟩
  have hpn : p ≤ n := by rw [← hp, ← hnn]; exact pos_le l k
  rw [hnn] at hn ⊢
  rw [hp]
  have Hn := Lib.hid hnn
  have Hp := Lib.hid hp
  clear hnn hp
  go_enter Tryz.func84, Tryz.ntmps84
  go_wp2_with fail
  go_loopw [9, 10] (fun i j wr => ∃ a c : Nat, a ≤ p ∧ p ≤ c ∧ c ≤ n ∧ i = .int .i64 a ∧ j = .int .i64 c ∧ Keeps [] w wr) (fun i j _ => (intOf j).toNat - (intOf i).toNat)
  case atStart => exact ⟨0, n, by omega, hpn, by omega, rfl, rfl, Keeps.refl _ _⟩
  case round =>
    obtain ⟨a, c, ha, hc, hcn, rfl, rfl, hkp⟩ := hrel
    by_cases hlt : a < c
    · have hbr := hkp.blk hb (by simp)
      have hh : (a + c) / 2 < n := by omega
      obtain ⟨h, hhe⟩ : ∃ h, (a + c) / 2 = h := ⟨_, rfl⟩
      rw [hhe] at hh
      obtain ⟨e, he⟩ : ∃ e, l[h]? = some e := ⟨_, List.getElem?_eq_getElem (by rw [Hn.out]; exact hh)⟩
      have c0 := hbr.cell (h * 2)
      have c1 := hbr.cell (h * 2 + 1)
      have cl := hbr.lt
      obtain ⟨d0, d1⟩ := eCs_cells l h e he rest
      rw [d0] at c0
      rw [d1] at c1
      have He := Lib.hid he
      clear d0 d1 hbr he
      have hsum : ((a : Int) + (c : Int)) / 2 = (h : Int) := by omega
      have hsum2 : IntKind.i64.wrap ((a : Int) + (c : Int)) = (a : Int) + (c : Int) := by rw [IntKind.wrap_i64]; omega
      have hsum3 : IntKind.u64.wrap ((a : Int) + (c : Int)) = (a : Int) + (c : Int) := IntWalk.u64_in _ ⟨by omega, by omega⟩
      go_wp2_with fail
      refine (clo_any e k _).mono ?_
      rintro x w1 ⟨rfl, k1⟩
      have K1 := hkp.trans k1 (by simp)
      clear k1 c0 c1 cl hkp
      by_cases hek : e.k < k
      · have hlow : h < p := by
          rcases Nat.lt_or_ge h p with h1 | h1
          · exact h1
          · rw [← Hp.out] at h1; exact absurd hek (pos_ge hl h1 He.out)
        have hcm : cmpS e.k k = -1 := by simp [cmpS, hek]
        rw [hcm]
        go_wp2_with fail
        exact ⟨⟨h + 1, c, by omega, hc, hcn, by go_num, rfl, K1⟩, by simp [intOf]; omega⟩
      · have hhi : p ≤ h := by
          rcases Nat.lt_or_ge h p with h1 | h1
          · rw [← Hp.out] at h1; exact absurd (pos_lt h1 He.out) hek
          · exact h1
        have hcm : 0 ≤ cmpS e.k k := by unfold cmpS; rw [if_neg hek]; split <;> omega
        obtain ⟨z, hz⟩ : ∃ z, cmpS e.k k = z := ⟨_, rfl⟩
        rw [hz] at hcm ⊢
        go_wp2_with fail
        exact ⟨⟨a, h, ha, by omega, by omega, rfl, rfl, K1⟩, by simp [intOf]; omega⟩
    · obtain rfl : a = p := by omega
      obtain rfl : c = a := by omega
      by_cases hc2 : c < n
      · have hbr := hkp.blk hb (by simp)
        obtain ⟨e, he⟩ : ∃ e, l[c]? = some e := ⟨_, List.getElem?_eq_getElem (by rw [Hn.out]; exact hc2)⟩
        have c0 := hbr.cell (c * 2)
        have c1 := hbr.cell (c * 2 + 1)
        have cl := hbr.lt
        obtain ⟨d0, d1⟩ := eCs_cells l c e he rest
        rw [d0] at c0
        rw [d1] at c1
        have hat : at_ l k = decide (e.k = k) := by unfold at_; rw [Hp.out, he]
        have Hat := Lib.hid hat
        have hge := Lib.hid (pos_ge hl (by rw [Hp.out]; exact Nat.le_refl c) he)
        clear d0 d1 hbr he hat
        go_wp2_with fail
        refine (clo_any e k _).mono ?_
        rintro x w1 ⟨rfl, k1⟩
        have K1 := hkp.trans k1 (by simp)
        clear k1 c0 c1 cl hkp
        by_cases hek : e.k = k
        · have hcm : cmpS e.k k = 0 := by rw [hek]; exact cmpS_self k
          rw [hcm]
          go_wp2_with fail
          go_ret2
          exact ⟨by rw [Hat.out]; simp [hek], K1⟩
        · have hcm : cmpS e.k k = 1 := by unfold cmpS; rw [if_neg hge.out, if_pos (slt_of hge.out hek)]
          rw [hcm]
          go_wp2_with fail
          go_ret2
          exact ⟨by rw [Hat.out]; simp [hek], K1⟩
      · have hat : at_ l k = false := by unfold at_; rw [Hp.out, List.getElem?_eq_none (by rw [Hn.out]; omega)]
        obtain rfl : c = n := by omega
        have Hat := Lib.hid hat
        clear hat
        go_wp2_with fail
        go_ret2
        exact ⟨by rw [Hat.out]; rfl, hkp⟩
end Go.Proofs.YtbcgpjfejpcgnaaGreat
end
section
namespace Go.Proofs.YtbcgpjfejpcgnaaGreat
open Go.RowKit
theorem step_append_eq {P : Program} {ops : Array Oper} {o : Oper} {a : Act} {w : World} {K : Act → World → Prop} {Q : Exit → Act → World → Prop} {E : Prop}
    (hg : o.guard = none) (d x : Operand) (t t' : TypeId) (hop : o.op = Op.call { callee := Callee.builtin Builtin.append, args := #[d, x], argTypes := #[t, t'] })
    (v u : Value) (hd : a.eval d = v) (hx : a.eval x = u) {v' : Value} {w' : World} (hr : (Builtin.append_ #[t, t'] o.type #[v, u]).run P w = .ok v' w') (hK : K (a.put o.dst v') w') :
    if Region.wanted o (yielded ops a.tmps) = true then Oper.wp P o a w K Q else E := by
  rw [if_pos (by simp [Region.wanted, hg])]
  unfold Oper.wp
  simp [execOp, hop, resolve, invoke, builtin, hd, hx, hr, Result.andThen]
  exact hK
theorem step_copy_eq {P : Program} {ops : Array Oper} {o : Oper} {a : Act} {w : World} {K : Act → World → Prop} {Q : Exit → Act → World → Prop} {E : Prop}
    (hg : o.guard = none) (d x : Operand) (t t' : TypeId) (hop : o.op = Op.call { callee := Callee.builtin Builtin.copy, args := #[d, x], argTypes := #[t, t'] })
    (v u : Value) (hd : a.eval d = v) (hx : a.eval x = u) {v' : Value} {w' : World} (hr : (Builtin.copy_ #[t, t'] o.type #[v, u]).run P w = .ok v' w') (hK : K (a.put o.dst v') w') :
    if Region.wanted o (yielded ops a.tmps) = true then Oper.wp P o a w K Q else E := by
  rw [if_pos (by simp [Region.wanted, hg])]
  unfold Oper.wp
  simp [execOp, hop, resolve, invoke, builtin, hd, hx, hr, Result.andThen]
  exact hK
theorem list_append_eq {P : Program} {w : World} {ops : Array Oper} {rest : List Oper} {o : Oper} {a : Act} {Q : Exit → Act → World → Prop} (hgd : o.guard = none) (d s : Operand) (t t' : TypeId)
    (ho : o.op = .call { callee := .builtin .append, args := #[d, s], argTypes := #[t, t'] }) (v u : Value) (hd : a.eval d = v) (hs : a.eval s = u) {v' : Value} {w' : World}
    (hr : (Builtin.append_ #[t, t'] o.type #[v, u]).run P w = .ok v' w') (h : wpList P ops Q rest (a.put o.dst v') w') : wpList P ops Q (o :: rest) a w :=
  wpList_plain hgd fun K hK => by
    unfold Oper.wp execOp
    simp only [ho, resolve, invoke, builtin, Sem.run_bind, Sem.run_pure, Result.andThen_ok, List.map_toArray, List.map_cons, List.map_nil, hd, hs, hr]
    exact hK _ _ h
theorem list_copy_eq {P : Program} {w : World} {ops : Array Oper} {rest : List Oper} {o : Oper} {a : Act} {Q : Exit → Act → World → Prop} (hgd : o.guard = none) (d s : Operand) (t t' : TypeId)
    (ho : o.op = .call { callee := .builtin .copy, args := #[d, s], argTypes := #[t, t'] }) (v u : Value) (hd : a.eval d = v) (hs : a.eval s = u) {v' : Value} {w' : World}
    (hr : (Builtin.copy_ #[t, t'] o.type #[v, u]).run P w = .ok v' w') (h : wpList P ops Q rest (a.put o.dst v') w') : wpList P ops Q (o :: rest) a w :=
  wpList_plain hgd fun K hK => by
    unfold Oper.wp execOp
    simp only [ho, resolve, invoke, builtin, Sem.run_bind, Sem.run_pure, Result.andThen_ok, List.map_toArray, List.map_cons, List.map_nil, hd, hs, hr]
    exact hK _ _ h
theorem list_clear_eq {P : Program} {w : World} {ops : Array Oper} {rest : List Oper} {o : Oper} {a : Act} {Q : Exit → Act → World → Prop} (hgd : o.guard = none) (d : Operand) (t : TypeId)
    (ho : o.op = .call { callee := .builtin .clear, args := #[d], argTypes := #[t] }) (v : Value) (hd : a.eval d = v) {v' : Value} {w' : World}
    (hr : (Builtin.clear_ #[t] o.type #[v]).run P w = .ok v' w') (h : wpList P ops Q rest (a.put o.dst v') w') : wpList P ops Q (o :: rest) a w :=
  wpList_plain hgd fun K hK => by
    unfold Oper.wp execOp
    simp only [ho, resolve, invoke, builtin, Sem.run_bind, Sem.run_pure, Result.andThen_ok, List.map_toArray, List.map_cons, List.map_nil, hd, hr]
    exact hK _ _ h
theorem Arr.src {w : World} {b o n k : Nat} {a : Addr} {cs : List Value} (hA : 0 < n → some a = some ⟨b, o, none⟩) (h : Arr w b o cs) (hl : cs.length = n * k) : ∀ j u, cs[j]? = some u → w.cell? (a.add j) = some u := by
  intro j u hj
  have hjl : j < cs.length := (List.getElem?_eq_some_iff.1 hj).1
  have hn : 0 < n := by
    rcases Nat.eq_zero_or_pos n with h0 | h0
    · rw [hl, h0, Nat.zero_mul] at hjl; omega
    · exact h0
  obtain rfl := Option.some.inj (hA hn)
  rw [Addr.add_lit, h.cells j hjl, hj]
theorem infoE : (Tryz.prog.info? 104).map (fun i => (i.zero, i.size, i.bytes)) = some (some (.agg #[.string ⟨#[]⟩, .string ⟨#[]⟩]), 2, 32) := by kernel_rfl
def Own (w : World) (base : Nat) (v : Value) (l : List Ent) : Prop :=
  (v = .slice none 0 0 ∧ l = []) ∨ ∃ g cap rest, v = .slice (some ⟨g, 0, none⟩) l.length cap ∧ Blk w g (eCs l ++ rest) ∧ base ≤ g ∧ l.length ≤ cap ∧ cap ≤ maxLen ∧ (eCs l ++ rest).length = cap * 2
theorem Own.of_row {w : World} {base e : Nat} {v : Value} {l : List Ent} (h : w.ownsRow base e 2 v l.length (eCs l)) : Own w base v l := by
  obtain ⟨h1, h2⟩ := h
  rcases h2 with ⟨rfl, h0⟩ | ⟨g, cap, cur, rfl, hg, hh, hnc, hcm, hcs, ht⟩
  · exact .inl ⟨rfl, List.eq_nil_of_length_eq_zero h0⟩
  · refine .inr ⟨g, cap, cur.toList.drop (l.length * 2), rfl, ⟨e, by rw [hh, ← ht, List.take_append_drop]⟩, hg, hnc, hcm, ?_⟩
    rw [← ht, List.take_append_drop, Array.length_toList, hcs]
set_option maxHeartbeats 1000000 in
set_option maxRecDepth 100000 in
theorem clone_any (l : List Ent) (hn : l.length ≤ 4096) (v : Value) (w : World) (hv : Lst w v l.length (eCs l)) :
    Calls Tryz.prog 83 #[v] w fun x w' => ∃ u, x = .returned u ∧ Own w' w.heap.size u l ∧ Keeps [] w w' := by
  obtain ⟨A, cap, b, o, rfl, hA, har⟩ := hv
  obtain ⟨i0, hi, hz0, hz1, hz2⟩ := info_parts infoE
  have q30 : ∀ (w : World) (a : Option Addr) (n c n' c' : Nat), (binOp .eql 84 (.slice a n c) (.slice none n' c')).run Tryz.prog w = .ok (.bool a.isNone) w := fun w a n c n' c' => Lib.run_eql_slice_nil w _ _ a n c n' c' Tryz.underlying84
  cases A with
  | none =>
    have h0 : l.length = 0 := by
      rcases Nat.eq_zero_or_pos l.length with h | h
      · exact h
      · exact absurd (hA h) (by simp)
    have hl := List.eq_nil_of_length_eq_zero h0
    subst hl
    go_enter Tryz.func83, Tryz.ntmps83
    go_wp2
    go_ret
    exact ⟨_, rfl, .inl ⟨rfl, rfl⟩, Keeps.refl _ _⟩
  | some a =>
    go_enter Tryz.func83, Tryz.ntmps83
    have hsrc := Lib.hid (Arr.src hA har (by rw [eCs_length]))
    clear har
    go_wp2_with (at_builtin; refine wpList_append_own _ rfl _ _ 84 rfl w.heap.size 104 i0 _ 2 32 Tryz.underlying84 hi hz0 hz1 hz2 rfl (by decide) _ 0 [] rfl (World.ownsRow_made w #[] 0 (Nat.le_refl _) (Nat.zero_le _) (by simp)) a l.length cap (eCs l) rfl (eCs_length l) ?qc2 (fun u hu => eCs_one' hu) ?qc4 ?qc5 ?qc6 ?_)
    case qc2 => exact fun j u hj => Lib.cell?_alloc_some _ (hsrc.out j u hj)
    case qc4 => unfold maxLen; omega
    case qc5 => omega
    case qc6 => simp
    intro v' w1 hown hgrow _
    go_wp2
    go_ret
    refine ⟨v', rfl, Own.of_row (by simpa using hown), ?_⟩
    exact ((Keeps.refl [] w).alloc _).trans (Keeps.of_grownBy hgrow [w.heap.size] (by simp [Value.ownBlock])) (by simp)
theorem spl_take {cs news : List Value} {o k : Nat} (hk : k ≤ o) (hf : o ≤ cs.length) : (spl cs o news).take k = cs.take k := by
  unfold spl
  rw [List.append_assoc, List.take_append_of_le_length (by simp; omega), List.take_take, Nat.min_eq_left hk]
theorem spl_length {cs news : List Value} {o : Nat} (hf : o + news.length ≤ cs.length) : (spl cs o news).length = cs.length := by
  unfold spl; simp; omega
theorem spl_take_in {cs news : List Value} {o : Nat} (hf : o ≤ cs.length) : (spl cs o news).take (o + news.length) = cs.take o ++ news := by
  unfold spl
  rw [List.take_append_of_le_length (by simp; omega), List.take_of_length_le (by simp; omega)]
theorem Blk.cut {w : World} {g k : Nat} {cs X : List Value} (h : Blk w g cs) (hX : cs.take k = X) : Blk w g (X ++ cs.drop k) := by
  rw [← hX, List.take_append_drop]; exact h
set_option maxHeartbeats 1000000 in
set_option maxRecDepth 100000 in
theorem delete_any (A B : List Ent) (e : Ent) (i m : Nat) (hi : A.length = i) (hm : B.length = m) (hs : i + m < 4096) (g cap : Nat) (rest : List Value) (w : World) (hb : Blk w g (eCs (A ++ e :: B) ++ rest)) (hc1 : i + 1 + m ≤ cap) (_hc2 : cap ≤ maxLen) (hc3 : (eCs (A ++ e :: B) ++ rest).length = cap * 2) :
    Calls Tryz.prog 87 #[.slice (some ⟨g, 0, none⟩) (i + 1 + m) cap, .int .i64 i, .int .i64 (i + 1)] w fun x w' => x = .returned (.slice (some ⟨g, 0, none⟩) (i + m) cap) ∧ (∃ rest', Blk w' g (eCs (A ++ B) ++ rest') ∧ (eCs (A ++ B) ++ rest').length = cap * 2) ∧ Keeps [g] w w' := by
  obtain ⟨i0, hi0, hz0, hz1, hz2⟩ := info_parts infoE
  have hsz : (Tryz.prog.info? 104).map (·.size) = some 2 := by rw [hi0]; simp [hz1]
  unfold maxLen at _hc2
  obtain ⟨cs, hcs⟩ : ∃ cs, eCs (A ++ e :: B) ++ rest = cs := ⟨_, rfl⟩
  have hB : (eCs B).length = m * 2 := by rw [eCs_length, hm]
  have hget : ∀ j u, (eCs B)[j]? = some u → cs[(i + 1) * 2 + j]? = some u := by
    intro j u hj
    have hjl : j < (eCs B).length := (List.getElem?_eq_some_iff.1 hj).1
    rw [← hcs, eCs_append, eCs_cons, List.append_assoc, List.getElem?_append_right (by rw [eCs_length]; omega), List.append_assoc, List.getElem?_append_right (by rw [eCs_length, hi]; simp [eC]; omega), List.getElem?_append_left (by rw [eCs_length, hi]; simp [eC]; omega), ← hj]
    congr 1
    rw [eCs_length, hi]; simp [eC]; omega
  have htk : cs.take (i * 2) = eCs A := by
    rw [← hcs, eCs_append, List.append_assoc, List.take_append_of_le_length (by rw [eCs_length]; omega), List.take_of_length_le (by rw [eCs_length]; omega)]
  rw [hcs] at hb hc3
  obtain ⟨a, ha, hsrc⟩ : ∃ a : Addr, (if cap = i + 1 then (some ⟨g, 0, none⟩ : Option Addr) else some ⟨g, (i + 1) * 2, none⟩) = some a ∧ ∀ j u, (eCs B)[j]? = some u → w.drew.cell? (a.add j) = some u := by
    by_cases h : cap = i + 1
    · refine ⟨_, by rw [if_pos h], fun j u hj => ?_⟩
      have : (eCs B).length = 0 := by rw [hB]; omega
      have hn := List.eq_nil_of_length_eq_zero this
      rw [hn] at hj; simp at hj
    · refine ⟨_, by rw [if_neg h], fun j u hj => ?_⟩
      rw [Addr.add_lit]
      exact (hb.cell _).trans (hget j u hj)
  obtain ⟨w1, hr1, hb1, k1⟩ := run_appendK (P := Tryz.prog) w.drew 84 104 2 Tryz.underlying84 hsz g i cap cs hb.drew a m (cap - (i + 1)) (eCs B) hB hsrc (fun u hu => eCs_one' hu) (by omega) (by rw [hB, hc3]; omega)
  have hl1 : (spl cs (i * 2) (eCs B)).length = cap * 2 := by rw [spl_length (by rw [hB, hc3]; omega), hc3]
  obtain ⟨w2, hr2, hb2, k2⟩ := run_clearK (P := Tryz.prog) w1 84 104 #[.string ⟨#[]⟩, .string ⟨#[]⟩] _ Tryz.underlying84 Tryz.zeroValue104 rfl (by simp [Value.oneCell']) g ((i + m) * 2) 1 (cap - (i + m)) _ hb1 (by rw [hl1]; simp; omega)
  have hX : (spl (spl cs (i * 2) (eCs B)) ((i + m) * 2) (Builtin.zeroCells #[.string ⟨#[]⟩, .string ⟨#[]⟩] 1).toList).take ((i + m) * 2) = eCs (A ++ B) := by
    rw [spl_take (Nat.le_refl _) (by rw [hl1]; omega), show (i + m) * 2 = i * 2 + (eCs B).length by rw [hB]; omega, spl_take_in (by rw [hc3]; omega), htk, eCs_append]
  have hY := Lib.hid (hb2.cut hX)
  have hZ : (eCs (A ++ B) ++ (spl (spl cs (i * 2) (eCs B)) ((i + m) * 2) (Builtin.zeroCells #[.string ⟨#[]⟩, .string ⟨#[]⟩] 1).toList).drop ((i + m) * 2)).length = cap * 2 := by
    rw [← hX, List.take_append_drop, spl_length (by rw [hl1, Array.length_toList, size_zeroCells]; simp; omega), hl1]
  have HZ := Lib.hid hZ
  have K := Lib.hid ((k1.trans k2 (by simp)).undrew)
  clear hX hZ hb2 k1 k2 hl1 hb1 hsrc htk hget hcs hb hc3
  go_enter Tryz.func87, Tryz.ntmps87
  have mixed : Tryz.prog.follows .mixedOrders = true := by kernel_rfl
  have hb1 : i ≤ cap := by omega
  have hb2 : i + 1 ≤ cap := by omega
  have hb3 : i + 1 ≤ i + 1 + m := by omega
  have hb4 : i + 1 + m - (i + 1) = m := by omega
  have hb5 : (0 : Int) ≤ (i : Int) + 1 := by omega
  have hb6 : (i : Int) + 1 ≤ (i : Int) + 1 + (m : Int) := by omega
  have hb7 : i + 1 + m - (i + m) = 1 := by omega
  have hb8 : ¬ cap = i + m := by omega
  have hb9 : (i : Int) + (m : Int) ≤ (i : Int) + 1 + (m : Int) := by omega
  have hb0 : (0 : Int) ≤ (i : Int) + (m : Int) := by omega
  have ht1 : ((i : Int) + 1 + (m : Int)).toNat = i + 1 + m := by omega
  have ht2 : ((i : Int) + (m : Int)).toNat = i + m := by omega
  go_wp2_with fail
  go_region_law_o (refine step_append_eq rfl _ _ 84 84 rfl (.slice (some ⟨g, 0, none⟩) i cap) (.slice (some a) m (cap - (i + 1))) (by simp [Act.eval, Act.put]) (by simp [Act.eval, Act.put]) (hr1 _) ?_)
  go_wp2_with (at_builtin; refine list_clear_eq rfl _ 84 rfl (.slice (some ⟨g, (i + m) * 2, none⟩) 1 (cap - (i + m))) rfl (hr2 _) ?_)
  go_ret
  exact ⟨rfl, ⟨_, hY.out, HZ.out⟩, K.out⟩
theorem Own.keeps {w w' : World} {base : Nat} {v : Value} {l : List Ent} (h : Own w base v l) {S : List Nat} (k : Keeps S w w') (hn : ∀ g, v.ownBlock = some g → g ∉ S) : Own w' base v l := by
  rcases h with h | ⟨g, cap, rest, rfl, hb, hg, r⟩
  · exact .inl h
  · exact .inr ⟨g, cap, rest, rfl, k.blk hb (hn g rfl), hg, r⟩
theorem Own.lst {w : World} {base : Nat} {v : Value} {l : List Ent} (h : Own w base v l) : Lst w v l.length (eCs l) := by
  rcases h with ⟨rfl, rfl⟩ | ⟨g, cap, rest, rfl, hb, _⟩
  · exact Lst.nil w
  · exact Lst.blk hb
theorem Own.ge {w : World} {base : Nat} {v : Value} {l : List Ent} (h : Own w base v l) : ∀ g, v.ownBlock = some g → base ≤ g ∧ g < w.heap.size := by
  rcases h with ⟨rfl, rfl⟩ | ⟨g, cap, rest, rfl, hb, hg, _⟩
  · intro g h; simp [Value.ownBlock] at h
  · intro g' h; simp [Value.ownBlock] at h; subst h; exact ⟨hg, hb.lt⟩
theorem new_blk (w : World) (cs : List Value) (zs : Array Value) (T : TypeId) : Blk (w.drew.alloc (.cells (cs.toArray ++ zs) T)) w.heap.size (cs ++ zs.toList) := by
  have e : (cs ++ zs.toList).toArray = cs.toArray ++ zs := by apply Array.ext'; simp
  refine ⟨T, ?_⟩
  rw [e]
  exact heap_alloc_new w.drew _
def zE (n : Nat) : Array Value := Builtin.zeroCells (Value.agg #[.string ⟨#[]⟩, .string ⟨#[]⟩]).cells n
theorem zero_len (n : Nat) : (zE n).toList.length = n * 2 := by
  rw [Array.length_toList, zE, size_zeroCells]; rfl
theorem appendO {w : World} {base : Nat} {v : Value} {l : List Ent} (h : Own w base v l) (hn : l.length < 4096) (hbase : base ≤ w.heap.size) (a : Addr) (c : Nat) (x : Ent)
    (hx : ∀ j u, (eC x)[j]? = some u → w.cell? (a.add j) = some u) :
    ∃ v' w', (∀ ty, (Builtin.append_ #[84, 84] ty #[v, .slice (some a) 1 c]).run Tryz.prog w = .ok v' w') ∧ Own w' base v' (l ++ [x]) ∧ Keeps v.ownBlock.toList w w' := by
  obtain ⟨i0, hi0, hz0, hz1, hz2⟩ := info_parts infoE
  have hsz : (Tryz.prog.info? 104).map (·.size) = some 2 := by rw [hi0]; simp [hz1]
  have hone : ∀ u ∈ eC x, u.oneCell' = true := fun u hu => by
    simp only [eC, List.mem_cons, List.mem_nil_iff, or_false] at hu
    rcases hu with rfl | rfl <;> rfl
  rcases h with ⟨rfl, rfl⟩ | ⟨g, cap, rest, rfl, hb, hg, hc1, hc2, hc3⟩
  · have hr := fun ty => run_append_nil (P := Tryz.prog) w 84 ty 104 i0 _ Tryz.underlying84 hi0 hz0 a 1 c (eC x) (by rw [hz1]; rfl) hx (by omega) (by omega) (by rw [hz2]; omega)
    refine ⟨_, _, hr, .inr ⟨w.heap.size, grownCap w 1 0 104, (zE (grownCap w 1 0 104 - 1)).toList, rfl, ?_, hbase, ?_, grownCap_le_maxLen _ _ _ _ (by unfold maxLen; omega), ?_⟩, ((Keeps.refl _ w).drew).alloc _⟩
    · rw [List.nil_append, eCs_one]; exact new_blk w (eC x) (zE (grownCap w 1 0 104 - 1)) 104
    · exact grownCap_ge _ _ _ _
    · have := grownCap_ge w 1 0 104
      rw [List.length_append, zero_len]; simp [eCs, eC]; omega
  · by_cases hroom : l.length + 1 ≤ cap
    · obtain ⟨w', hr, hb', k'⟩ := run_appendK (P := Tryz.prog) w 84 104 2 Tryz.underlying84 hsz g l.length cap _ hb a 1 c (eC x) rfl hx hone hroom (by rw [hc3]; simp [eC]; omega)
      have hX : (spl (eCs l ++ rest) (l.length * 2) (eC x)).take (l.length * 2 + (eC x).length) = eCs (l ++ [x]) := by
        rw [spl_take_in (by rw [hc3]; omega), List.take_append_of_le_length (by rw [eCs_length]; omega), List.take_of_length_le (by rw [eCs_length]; omega), eCs_append, eCs_one]
      refine ⟨_, w', hr, .inr ⟨g, cap, _, by rw [List.length_append]; rfl, hb'.cut hX, hg, by simpa using hroom, hc2, ?_⟩, k'.mono (by simp [Value.ownBlock])⟩
      rw [← hX, List.take_append_drop, spl_length (by rw [hc3]; simp [eC]; omega), hc3]
    · have hr := fun ty => run_append_grow (P := Tryz.prog) w 84 ty 104 i0 _ Tryz.underlying84 hi0 hz0 ⟨g, 0, none⟩ l.length cap (eCs l) (by rw [hz1, eCs_length])
        (fun j u hj => by rw [Addr.add_lit, hb.cell, Nat.zero_add, List.getElem?_append_left (List.getElem?_eq_some_iff.1 hj).1, hj]) a 1 c (eC x) (by rw [hz1]; rfl) hx (by omega) (by omega) (growslice_fits (by omega) (by rw [hz2]; omega))
      refine ⟨_, _, hr, .inr ⟨w.heap.size, grownCap w (l.length + 1) cap 104, (zE (grownCap w (l.length + 1) cap 104 - (l.length + 1))).toList, by rw [List.length_append]; rfl, ?_, hbase, ?_, grownCap_le_maxLen _ _ _ _ (by unfold maxLen; omega), ?_⟩, ((Keeps.refl _ w).drew).alloc _⟩
      · rw [eCs_append, eCs_one]
        have e : (eCs l).toArray ++ (eC x).toArray = (eCs l ++ eC x).toArray := by simp
        rw [e]
        exact new_blk w (eCs l ++ eC x) (zE (grownCap w (l.length + 1) cap 104 - (l.length + 1))) 104
      · simpa using grownCap_ge w (l.length + 1) cap 104
      · have := grownCap_ge w (l.length + 1) cap 104
        rw [List.length_append, zero_len, eCs_length, List.length_append]; simp; omega
end Go.Proofs.YtbcgpjfejpcgnaaGreat
end
section
namespace Go.Proofs.YtbcgpjfejpcgnaaGreat
structure Rec where
  th : Int
  ix : Int
  inv : Int
  pt : Int
  rs : Int
deriving DecidableEq
structure Rn where
  pause : Nat
  at_ : Nat
  rest : Nat
  op : Bool
  late : Bool
def mk (t n k now : Nat) (r : Rn) : Rec :=
  let a := now + r.pause % 6
  let p := a + r.at_ % 6
  let e := p + r.rest % 6
  ⟨(t : Int), (k : Int), ((a * n + t : Nat) : Int), if r.op && r.late then -1 else ((p * n + t : Nat) : Int), if r.op then -1 else ((e * n + t : Nat) : Int)⟩
def after (now : Nat) (r : Rn) : Nat := now + r.pause % 6 + r.at_ % 6 + r.rest % 6 + 1
def Sorted (l : List Rec) : Prop := l.Pairwise (fun a b => a.inv ≤ b.inv)
def prec (a b : Rec) : Bool := a.rs != -1 && decide (a.rs < b.inv)
def SoundO (r : Rec) : Prop := 0 ≤ r.th ∧ 0 ≤ r.ix ∧ 0 ≤ r.inv ∧ (r.pt = -1 ∨ r.inv ≤ r.pt) ∧ (r.rs = -1 ∨ (r.pt ≠ -1 ∧ r.pt ≤ r.rs))
def lastOf (th : Int) (l : List Rec) : Option Rec := (l.filter (fun y => y.th == th)).getLast?
def StepO (l : List Rec) (r : Rec) : Prop := SoundO r ∧ (∀ y, l.getLast? = some y → y.inv < r.inv) ∧ (r.pt = -1 ∨ ∀ y ∈ l, y.pt ≠ r.pt) ∧ (∀ y, lastOf r.th l = some y → r.ix = y.ix + 1 ∧ y.rs ≠ -1 ∧ y.rs < r.inv) ∧ (lastOf r.th l = none → r.ix = 0)
def SoundR (r : Rec) : Prop := 0 ≤ r.th ∧ 0 ≤ r.ix ∧ 0 ≤ r.inv ∧ -1 ≤ r.pt ∧ (0 ≤ r.pt → r.inv ≤ r.pt) ∧ -1 ≤ r.rs ∧ (0 ≤ r.rs → 0 ≤ r.pt ∧ r.pt ≤ r.rs)
theorem sound_iff (r : Rec) : SoundO r ↔ SoundR r := by
  unfold SoundO SoundR
  constructor
  · rintro ⟨h1, h2, h3, h4, h5⟩; refine ⟨h1, h2, h3, ?_, ?_, ?_, ?_⟩ <;> omega
  · rintro ⟨h1, h2, h3, h4, h5, h6, h7⟩; refine ⟨h1, h2, h3, ?_, ?_⟩ <;> omega
structure Good (l : List Rec) : Prop where
  snd : ∀ r ∈ l, SoundR r
  asc : l.Pairwise (fun a b => a.inv < b.inv)
  pts : l.Pairwise (fun a b => a.pt = -1 ∨ a.pt ≠ b.pt)
  pre : l.Pairwise (fun a b => a.th = b.th → 0 ≤ a.rs ∧ a.rs < b.inv)
  ixs : ∀ (i : Nat) (r : Rec), l[i]? = some r → r.ix = (((l.take i).filter (fun y => y.th == r.th)).length : Int)
theorem Good.snoc {l : List Rec} {r : Rec} (h : Good l) : Good (l ++ [r]) ↔ SoundR r ∧ (∀ y ∈ l, y.inv < r.inv) ∧ (∀ y ∈ l, y.pt = -1 ∨ y.pt ≠ r.pt) ∧ (∀ y ∈ l, y.th = r.th → 0 ≤ y.rs ∧ y.rs < r.inv) ∧ r.ix = ((l.filter (fun y => y.th == r.th)).length : Int) := by
  constructor
  · intro g
    refine ⟨g.snd r (by simp), ?_, ?_, ?_, ?_⟩
    · exact fun y hy => (List.pairwise_append.1 g.asc).2.2 y hy r (by simp)
    · exact fun y hy => (List.pairwise_append.1 g.pts).2.2 y hy r (by simp)
    · exact fun y hy => (List.pairwise_append.1 g.pre).2.2 y hy r (by simp)
    · have := g.ixs l.length r (by simp)
      rwa [List.take_append_of_le_length (Nat.le_refl _), List.take_length] at this
  · rintro ⟨h1, h2, h3, h4, h5⟩
    refine ⟨fun y hy => ?_, List.pairwise_append.2 ⟨h.asc, List.pairwise_singleton _ _, fun a ha b hb => ?_⟩, List.pairwise_append.2 ⟨h.pts, List.pairwise_singleton _ _, fun a ha b hb => ?_⟩, List.pairwise_append.2 ⟨h.pre, List.pairwise_singleton _ _, fun a ha b hb => ?_⟩, fun i y hy => ?_⟩
    · rcases List.mem_append.1 hy with hy | hy
      · exact h.snd y hy
      · simp at hy; subst hy; exact h1
    · simp at hb; subst hb; exact h2 a ha
    · simp at hb; subst hb; exact h3 a ha
    · simp at hb; subst hb; exact h4 a ha
    · by_cases hi : i < l.length
      · rw [List.getElem?_append_left hi] at hy
        rw [List.take_append_of_le_length (by omega)]
        exact h.ixs i y hy
      · have hi2 : i = l.length := by
          have := (List.getElem?_eq_some_iff.1 hy).1
          simp at this; omega
        subst hi2
        simp at hy
        subst hy
        rw [List.take_append_of_le_length (Nat.le_refl _), List.take_length]
        exact h5
theorem Good.last {l : List Rec} (h : Good l) (th : Int) : (lastOf th l = none → (l.filter (fun y => y.th == th)) = []) ∧ ∀ y, lastOf th l = some y → y ∈ l ∧ y.th = th ∧ y.ix + 1 = ((l.filter (fun y => y.th == th)).length : Int) ∧ ∀ z ∈ l, z.th = th → z = y ∨ (0 ≤ z.rs ∧ z.rs < y.inv) := by
  refine ⟨fun hn => by simpa [lastOf] using hn, fun y hy => ?_⟩
  unfold lastOf at hy
  obtain ⟨ys, hys⟩ := List.getLast?_eq_some_iff.1 hy
  have hmem : y ∈ l.filter (fun y => y.th == th) := by rw [hys]; simp
  obtain ⟨hyl, hyt⟩ := List.mem_filter.1 hmem
  have hyt' : y.th = th := beq_iff_eq.1 hyt
  refine ⟨hyl, hyt', ?_, fun z hz hzt => ?_⟩
  · obtain ⟨i, hi⟩ := List.getElem?_of_mem hyl
    have h1 := h.ixs i y hi
    rw [hyt'] at h1
    have hlt := (List.getElem?_eq_some_iff.1 hi).1
    have hsp : l = l.take i ++ y :: l.drop (i + 1) := by
      obtain ⟨hk1, hk2⟩ := List.getElem?_eq_some_iff.1 hi
      conv => lhs; rw [← List.take_append_drop i l, List.drop_eq_getElem_cons hk1, hk2]
    have hf : l.filter (fun y => y.th == th) = (l.take i).filter (fun y => y.th == th) ++ y :: (l.drop (i + 1)).filter (fun y => y.th == th) := by
      have e0 : (y :: l.drop (i + 1)).filter (fun y => y.th == th) = y :: (l.drop (i + 1)).filter (fun y => y.th == th) := List.filter_cons_of_pos (p := fun y : Rec => y.th == th) hyt
      conv => lhs; rw [hsp, List.filter_append, e0]
    have hnil : (l.drop (i + 1)).filter (fun y => y.th == th) = [] := by
      cases hc : (l.drop (i + 1)).filter (fun y => y.th == th) with
      | nil => rfl
      | cons u us =>
        exfalso
        rw [hc] at hf
        have hu : u ∈ l.drop (i + 1) := (List.mem_filter.1 (by rw [hc]; simp : u ∈ (l.drop (i + 1)).filter (fun y => y.th == th))).1
        have hasc := h.asc
        rw [hsp] at hasc
        have hlast : (y :: u :: us).getLast? = some y := by
          have e := hys ▸ hf
          have e2 := congrArg List.getLast? e
          rw [List.getLast?_append, List.getLast?_append] at e2
          simpa using e2.symm
        have hyin : y ∈ u :: us := by
          rw [List.getLast?_cons_cons] at hlast
          exact List.mem_of_getLast? hlast
        have hyin2 : y ∈ l.drop (i + 1) := (List.mem_filter.1 (by rw [hc]; exact hyin : y ∈ (l.drop (i + 1)).filter (fun y => y.th == th))).1
        have := (List.pairwise_cons.1 (List.pairwise_append.1 hasc).2.1).1 y hyin2
        omega
    rw [h1, hf, hnil]
    simp
  · have hzf : z ∈ l.filter (fun y => y.th == th) := List.mem_filter.2 ⟨hz, by rw [beq_iff_eq]; exact hzt⟩
    have hpre := h.pre.sublist (List.filter_sublist (l := l) (p := fun y => y.th == th))
    rw [hys] at hzf hpre
    rcases List.mem_append.1 hzf with hzf | hzf
    · exact .inr ((List.pairwise_append.1 hpre).2.2 z hzf y (by simp) (by rw [hzt, hyt']))
    · simp at hzf; exact .inl hzf
theorem last_max {l : List Rec} (h : l.Pairwise (fun a b => a.inv < b.inv)) {x : Int} (hx : ∀ y, l.getLast? = some y → y.inv < x) : ∀ y ∈ l, y.inv < x := by
  intro y hy
  cases hl : l.getLast? with
  | none => rw [List.getLast?_eq_none_iff] at hl; subst hl; simp at hy
  | some z =>
    have hz := hx z hl
    obtain ⟨ys, rfl⟩ := List.getLast?_eq_some_iff.1 hl
    rcases List.mem_append.1 hy with hy | hy
    · have := (List.pairwise_append.1 h).2.2 y hy z (by simp); omega
    · simp at hy; subst hy; exact hz
theorem stepO_iff {l : List Rec} (h : Good l) (r : Rec) : StepO l r ↔ Good (l ++ [r]) := by
  rw [Good.snoc h]
  obtain ⟨ln, ls⟩ := h.last r.th
  constructor
  · rintro ⟨h1, h2, h3, h4, h5⟩
    refine ⟨(sound_iff r).1 h1, last_max h.asc h2, fun y hy => ?_, fun y hy hyt => ?_, ?_⟩
    · rcases h3 with h3 | h3
      · omega
      · exact .inr (h3 y hy)
    · cases hl : lastOf r.th l with
      | none =>
        have := ln hl
        have hm : y ∈ l.filter (fun y => y.th == r.th) := List.mem_filter.2 ⟨hy, by rw [beq_iff_eq]; exact hyt⟩
        rw [this] at hm; simp at hm
      | some z =>
        obtain ⟨hz1, hz2, hz3, hz4⟩ := ls z hl
        obtain ⟨_, e2, e3⟩ := h4 z hl
        have hzs := h.snd z hz1
        have hzi := last_max h.asc h2 z hz1
        rcases hz4 y hy hyt with rfl | hh
        · exact ⟨by have := hzs.2.2.2.2.2.1; omega, e3⟩
        · exact ⟨hh.1, by omega⟩
    · cases hl : lastOf r.th l with
      | none => rw [ln hl, h5 hl]; rfl
      | some z =>
        obtain ⟨hz1, hz2, hz3, hz4⟩ := ls z hl
        rw [← hz3]; exact (h4 z hl).1
  · rintro ⟨h1, h2, h3, h4, h5⟩
    refine ⟨(sound_iff r).2 h1, fun y hy => h2 y (List.mem_of_getLast? hy), ?_, fun y hy => ?_, fun hn => ?_⟩
    · by_cases hp : r.pt = -1
      · exact .inl hp
      · right
        intro y hy e
        rcases h3 y hy with h | h
        · omega
        · exact h e
    · obtain ⟨hz1, hz2, hz3, hz4⟩ := ls y hy
      obtain ⟨q1, q2⟩ := h4 y hz1 hz2
      exact ⟨by rw [h5, ← hz3], by omega, q2⟩
    · rw [h5, ln hn]; rfl
theorem Good.nil : Good [] := ⟨by simp, List.Pairwise.nil, List.Pairwise.nil, List.Pairwise.nil, by simp⟩
theorem Good.take {l : List Rec} (h : Good l) (i : Nat) : Good (l.take i) :=
  ⟨fun r hr => h.snd r (List.mem_of_mem_take hr), h.asc.sublist (List.take_sublist i l), h.pts.sublist (List.take_sublist i l), h.pre.sublist (List.take_sublist i l), fun j r hr => by
    have hj := (List.getElem?_eq_some_iff.1 hr).1
    rw [List.length_take] at hj
    rw [List.getElem?_take] at hr
    rw [if_pos (by omega)] at hr
    rw [List.take_take, Nat.min_eq_left (by omega)]
    exact h.ixs j r hr⟩
theorem chkO_iff (l : List Rec) : (∀ (i : Nat) (r : Rec), l[i]? = some r → StepO (l.take i) r) ↔ Good l := by
  constructor
  · intro h
    have key : ∀ i, i ≤ l.length → Good (l.take i) := by
      intro i
      induction i with
      | zero => intro _; rw [List.take_zero]; exact Good.nil
      | succ i ih =>
        intro hi
        have hg := ih (by omega)
        obtain ⟨r, hr⟩ : ∃ r, l[i]? = some r := ⟨_, List.getElem?_eq_getElem (by omega)⟩
        have := (stepO_iff hg r).1 (h i r hr)
        rw [List.take_add_one, hr]; exact this
    have := key l.length (Nat.le_refl _)
    rwa [List.take_length] at this
  · intro h i r hr
    refine (stepO_iff (h.take i) r).2 ?_
    have := h.take (i + 1)
    rwa [List.take_add_one, hr] at this
def seqR (i : Nat) : Rec := ⟨(i : Int), 0, ((3 * i : Nat) : Int), ((3 * i + 1 : Nat) : Int), ((3 * i + 2 : Nat) : Int)⟩
end Go.Proofs.YtbcgpjfejpcgnaaGreat
end
