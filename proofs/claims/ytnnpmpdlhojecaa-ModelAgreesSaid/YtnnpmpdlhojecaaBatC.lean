/- The contracts of slices.Clone, slices.Delete (one element) and slices.Insert (one element) on entries. -/
import Derived.Test.YtnnpmpdlhojecaaBatS
import Derived.Lib.Overlaps
import Derived.Lib.AppendZerosOnto
import Derived.Laws.Externs
import Derived.Deep.RegionLaw
import Derived.Lib.SliceRun
import Derived.Shelf.RegionOpenPlain
namespace Go.Proofs.Ytnnpmpdlhojecaa
open Go.RowKit
theorem step_append_eq {P : Program} {ops : Array Oper} {o : Oper} {a : Act} {w : World} {K : Act → World → Prop} {Q : Exit → Act → World → Prop} {E : Prop}
    (hg : o.guard = none) (d x : Operand) (t t' : TypeId) (hop : o.op = Op.call { callee := Callee.builtin Builtin.append, args := #[d, x], argTypes := #[t, t'] })
    (v u : Value) (hd : a.eval d = v) (hx : a.eval x = u) {v' : Value} {w' : World} (hr : (Builtin.append_ #[t, t'] o.type #[v, u]).run P w = .ok v' w') (hK : K (a.put o.dst v') w') :
    if Region.wanted o (yielded ops a.tmps) = true then Oper.wp P o a w K Q else E := by
  rw [if_pos (by simp [Region.wanted, hg])]
  unfold Oper.wp
  simp [execOp, hop, resolve, invoke, builtin, hd, hx, hr, Result.andThen]
  exact hK
theorem step_copy_eq {P : Program} {ops : Array Oper} {o : Oper} {a : Act} {w : World} {K : Act → World → Prop} {Q : Exit → Act → World → Prop} {E : Prop}
    (hg : o.guard = none) (d x : Operand) (t t' : TypeId) (hop : o.op = Op.call { callee := Callee.builtin Builtin.copy, args := #[d, x], argTypes := #[t, t'] })
    (v u : Value) (hd : a.eval d = v) (hx : a.eval x = u) {v' : Value} {w' : World} (hr : (Builtin.copy_ #[t, t'] o.type #[v, u]).run P w = .ok v' w') (hK : K (a.put o.dst v') w') :
    if Region.wanted o (yielded ops a.tmps) = true then Oper.wp P o a w K Q else E := by
  rw [if_pos (by simp [Region.wanted, hg])]
  unfold Oper.wp
  simp [execOp, hop, resolve, invoke, builtin, hd, hx, hr, Result.andThen]
  exact hK
theorem list_append_eq {P : Program} {w : World} {ops : Array Oper} {rest : List Oper} {o : Oper} {a : Act} {Q : Exit → Act → World → Prop} (hgd : o.guard = none) (d s : Operand) (t t' : TypeId)
    (ho : o.op = .call { callee := .builtin .append, args := #[d, s], argTypes := #[t, t'] }) (v u : Value) (hd : a.eval d = v) (hs : a.eval s = u) {v' : Value} {w' : World}
    (hr : (Builtin.append_ #[t, t'] o.type #[v, u]).run P w = .ok v' w') (h : wpList P ops Q rest (a.put o.dst v') w') : wpList P ops Q (o :: rest) a w :=
  wpList_plain hgd fun K hK => by
    unfold Oper.wp execOp
    simp only [ho, resolve, invoke, builtin, Sem.run_bind, Sem.run_pure, Result.andThen_ok, List.map_toArray, List.map_cons, List.map_nil, hd, hs, hr]
    exact hK _ _ h
theorem list_copy_eq {P : Program} {w : World} {ops : Array Oper} {rest : List Oper} {o : Oper} {a : Act} {Q : Exit → Act → World → Prop} (hgd : o.guard = none) (d s : Operand) (t t' : TypeId)
    (ho : o.op = .call { callee := .builtin .copy, args := #[d, s], argTypes := #[t, t'] }) (v u : Value) (hd : a.eval d = v) (hs : a.eval s = u) {v' : Value} {w' : World}
    (hr : (Builtin.copy_ #[t, t'] o.type #[v, u]).run P w = .ok v' w') (h : wpList P ops Q rest (a.put o.dst v') w') : wpList P ops Q (o :: rest) a w :=
  wpList_plain hgd fun K hK => by
    unfold Oper.wp execOp
    simp only [ho, resolve, invoke, builtin, Sem.run_bind, Sem.run_pure, Result.andThen_ok, List.map_toArray, List.map_cons, List.map_nil, hd, hs, hr]
    exact hK _ _ h
theorem list_clear_eq {P : Program} {w : World} {ops : Array Oper} {rest : List Oper} {o : Oper} {a : Act} {Q : Exit → Act → World → Prop} (hgd : o.guard = none) (d : Operand) (t : TypeId)
    (ho : o.op = .call { callee := .builtin .clear, args := #[d], argTypes := #[t] }) (v : Value) (hd : a.eval d = v) {v' : Value} {w' : World}
    (hr : (Builtin.clear_ #[t] o.type #[v]).run P w = .ok v' w') (h : wpList P ops Q rest (a.put o.dst v') w') : wpList P ops Q (o :: rest) a w :=
  wpList_plain hgd fun K hK => by
    unfold Oper.wp execOp
    simp only [ho, resolve, invoke, builtin, Sem.run_bind, Sem.run_pure, Result.andThen_ok, List.map_toArray, List.map_cons, List.map_nil, hd, hr]
    exact hK _ _ h
theorem Arr.src {w : World} {b o n k : Nat} {a : Addr} {cs : List Value} (hA : 0 < n → some a = some ⟨b, o, none⟩) (h : Arr w b o cs) (hl : cs.length = n * k) : ∀ j u, cs[j]? = some u → w.cell? (a.add j) = some u := by
  intro j u hj
  have hjl : j < cs.length := (List.getElem?_eq_some_iff.1 hj).1
  have hn : 0 < n := by
    rcases Nat.eq_zero_or_pos n with h0 | h0
    · rw [hl, h0, Nat.zero_mul] at hjl; omega
    · exact h0
  obtain rfl := Option.some.inj (hA hn)
  rw [Addr.add_lit, h.cells j hjl, hj]
theorem infoE : (Try.prog.info? 35).map (fun i => (i.zero, i.size, i.bytes)) = some (some (.agg #[.string ⟨#[]⟩, .string ⟨#[]⟩]), 2, 32) := by kernel_rfl
/-- The slice v, in a block from base on, holds l; its block is free to be written. -/
def Own (w : World) (base : Nat) (v : Value) (l : List Ent) : Prop :=
  (v = .slice none 0 0 ∧ l = []) ∨ ∃ g cap rest, v = .slice (some ⟨g, 0, none⟩) l.length cap ∧ Blk w g (eCs l ++ rest) ∧ base ≤ g ∧ l.length ≤ cap ∧ cap ≤ maxLen ∧ (eCs l ++ rest).length = cap * 2
theorem Own.of_row {w : World} {base e : Nat} {v : Value} {l : List Ent} (h : w.ownsRow base e 2 v l.length (eCs l)) : Own w base v l := by
  obtain ⟨h1, h2⟩ := h
  rcases h2 with ⟨rfl, h0⟩ | ⟨g, cap, cur, rfl, hg, hh, hnc, hcm, hcs, ht⟩
  · exact .inl ⟨rfl, List.eq_nil_of_length_eq_zero h0⟩
  · refine .inr ⟨g, cap, cur.toList.drop (l.length * 2), rfl, ⟨e, by rw [hh, ← ht, List.take_append_drop]⟩, hg, hnc, hcm, ?_⟩
    rw [← ht, List.take_append_drop, Array.length_toList, hcs]
set_option maxHeartbeats 1000000 in
set_option maxRecDepth 100000 in
theorem clone_any (l : List Ent) (hn : l.length ≤ 4096) (v : Value) (w : World) (hv : Lst w v l.length (eCs l)) :
    Calls Try.prog 48 #[v] w fun x w' => ∃ u, x = .returned u ∧ Own w' w.heap.size u l ∧ Keeps [] w w' := by
  obtain ⟨A, cap, b, o, rfl, hA, har⟩ := hv
  obtain ⟨i0, hi, hz0, hz1, hz2⟩ := info_parts infoE
  have q30 : ∀ (w : World) (a : Option Addr) (n c n' c' : Nat), (binOp .eql 30 (.slice a n c) (.slice none n' c')).run Try.prog w = .ok (.bool a.isNone) w := fun w a n c n' c' => Lib.run_eql_slice_nil w _ _ a n c n' c' Try.underlying30
  cases A with
  | none =>
    have h0 : l.length = 0 := by
      rcases Nat.eq_zero_or_pos l.length with h | h
      · exact h
      · exact absurd (hA h) (by simp)
    have hl := List.eq_nil_of_length_eq_zero h0
    subst hl
    go_enter Try.func48, Try.ntmps48
    go_wp2
    go_ret
    exact ⟨_, rfl, .inl ⟨rfl, rfl⟩, Keeps.refl _ _⟩
  | some a =>
    go_enter Try.func48, Try.ntmps48
    have hsrc := Lib.hid (Arr.src hA har (by rw [eCs_length]))
    clear har
    go_wp2_with (at_builtin; refine wpList_append_own _ rfl _ _ 30 rfl w.heap.size 35 i0 _ 2 32 Try.underlying30 hi hz0 hz1 hz2 rfl (by decide) _ 0 [] rfl (World.ownsRow_made w #[] 0 (Nat.le_refl _) (Nat.zero_le _) (by simp)) a l.length cap (eCs l) rfl (eCs_length l) ?qc2 (fun u hu => eCs_one' hu) ?qc4 ?qc5 ?qc6 ?_)
    case qc2 => exact fun j u hj => Lib.cell?_alloc_some _ (hsrc.out j u hj)
    case qc4 => unfold maxLen; omega
    case qc5 => omega
    case qc6 => simp
    intro v' w1 hown hgrow _
    go_wp2
    go_ret
    refine ⟨v', rfl, Own.of_row (by simpa using hown), ?_⟩
    exact ((Keeps.refl [] w).alloc _).trans (Keeps.of_grownBy hgrow [w.heap.size] (by simp [Value.ownBlock])) (by simp)
theorem spl_take {cs news : List Value} {o k : Nat} (hk : k ≤ o) (hf : o ≤ cs.length) : (spl cs o news).take k = cs.take k := by
  unfold spl
  rw [List.append_assoc, List.take_append_of_le_length (by simp; omega), List.take_take, Nat.min_eq_left hk]
theorem spl_length {cs news : List Value} {o : Nat} (hf : o + news.length ≤ cs.length) : (spl cs o news).length = cs.length := by
  unfold spl; simp; omega
theorem spl_take_in {cs news : List Value} {o : Nat} (hf : o ≤ cs.length) : (spl cs o news).take (o + news.length) = cs.take o ++ news := by
  unfold spl
  rw [List.take_append_of_le_length (by simp; omega), List.take_of_length_le (by simp; omega)]
theorem Blk.cut {w : World} {g k : Nat} {cs X : List Value} (h : Blk w g cs) (hX : cs.take k = X) : Blk w g (X ++ cs.drop k) := by
  rw [← hX, List.take_append_drop]; exact h
set_option maxHeartbeats 1000000 in
set_option maxRecDepth 100000 in
theorem delete_any (A B : List Ent) (e : Ent) (i m : Nat) (hi : A.length = i) (hm : B.length = m) (hs : i + m < 4096) (g cap : Nat) (rest : List Value) (w : World) (hb : Blk w g (eCs (A ++ e :: B) ++ rest)) (hc1 : i + 1 + m ≤ cap) (_hc2 : cap ≤ maxLen) (hc3 : (eCs (A ++ e :: B) ++ rest).length = cap * 2) :
    Calls Try.prog 66 #[.slice (some ⟨g, 0, none⟩) (i + 1 + m) cap, .int .i64 i, .int .i64 (i + 1)] w fun x w' => x = .returned (.slice (some ⟨g, 0, none⟩) (i + m) cap) ∧ (∃ rest', Blk w' g (eCs (A ++ B) ++ rest') ∧ (eCs (A ++ B) ++ rest').length = cap * 2) ∧ Keeps [g] w w' := by
  obtain ⟨i0, hi0, hz0, hz1, hz2⟩ := info_parts infoE
  have hsz : (Try.prog.info? 35).map (·.size) = some 2 := by rw [hi0]; simp [hz1]
  unfold maxLen at _hc2
  obtain ⟨cs, hcs⟩ : ∃ cs, eCs (A ++ e :: B) ++ rest = cs := ⟨_, rfl⟩
  have hB : (eCs B).length = m * 2 := by rw [eCs_length, hm]
  have hget : ∀ j u, (eCs B)[j]? = some u → cs[(i + 1) * 2 + j]? = some u := by
    intro j u hj
    have hjl : j < (eCs B).length := (List.getElem?_eq_some_iff.1 hj).1
    rw [← hcs, eCs_append, eCs_cons, List.append_assoc, List.getElem?_append_right (by rw [eCs_length]; omega), List.append_assoc, List.getElem?_append_right (by rw [eCs_length, hi]; simp [eC]; omega), List.getElem?_append_left (by rw [eCs_length, hi]; simp [eC]; omega), ← hj]
    congr 1
    rw [eCs_length, hi]; simp [eC]; omega
  have htk : cs.take (i * 2) = eCs A := by
    rw [← hcs, eCs_append, List.append_assoc, List.take_append_of_le_length (by rw [eCs_length]; omega), List.take_of_length_le (by rw [eCs_length]; omega)]
  rw [hcs] at hb hc3
  obtain ⟨a, ha, hsrc⟩ : ∃ a : Addr, (if cap = i + 1 then (some ⟨g, 0, none⟩ : Option Addr) else some ⟨g, (i + 1) * 2, none⟩) = some a ∧ ∀ j u, (eCs B)[j]? = some u → w.drew.cell? (a.add j) = some u := by
    by_cases h : cap = i + 1
    · refine ⟨_, by rw [if_pos h], fun j u hj => ?_⟩
      have : (eCs B).length = 0 := by rw [hB]; omega
      have hn := List.eq_nil_of_length_eq_zero this
      rw [hn] at hj; simp at hj
    · refine ⟨_, by rw [if_neg h], fun j u hj => ?_⟩
      rw [Addr.add_lit]
      exact (hb.cell _).trans (hget j u hj)
  obtain ⟨w1, hr1, hb1, k1⟩ := run_appendK (P := Try.prog) w.drew 30 35 2 Try.underlying30 hsz g i cap cs hb.drew a m (cap - (i + 1)) (eCs B) hB hsrc (fun u hu => eCs_one' hu) (by omega) (by rw [hB, hc3]; omega)
  have hl1 : (spl cs (i * 2) (eCs B)).length = cap * 2 := by rw [spl_length (by rw [hB, hc3]; omega), hc3]
  obtain ⟨w2, hr2, hb2, k2⟩ := run_clearK (P := Try.prog) w1 30 35 #[.string ⟨#[]⟩, .string ⟨#[]⟩] _ Try.underlying30 Try.zeroValue35 rfl (by simp [Value.oneCell']) g ((i + m) * 2) 1 (cap - (i + m)) _ hb1 (by rw [hl1]; simp; omega)
  have hX : (spl (spl cs (i * 2) (eCs B)) ((i + m) * 2) (Builtin.zeroCells #[.string ⟨#[]⟩, .string ⟨#[]⟩] 1).toList).take ((i + m) * 2) = eCs (A ++ B) := by
    rw [spl_take (Nat.le_refl _) (by rw [hl1]; omega), show (i + m) * 2 = i * 2 + (eCs B).length by rw [hB]; omega, spl_take_in (by rw [hc3]; omega), htk, eCs_append]
  have hY := Lib.hid (hb2.cut hX)
  have hZ : (eCs (A ++ B) ++ (spl (spl cs (i * 2) (eCs B)) ((i + m) * 2) (Builtin.zeroCells #[.string ⟨#[]⟩, .string ⟨#[]⟩] 1).toList).drop ((i + m) * 2)).length = cap * 2 := by
    rw [← hX, List.take_append_drop, spl_length (by rw [hl1, Array.length_toList, size_zeroCells]; simp; omega), hl1]
  have HZ := Lib.hid hZ
  have K := Lib.hid ((k1.trans k2 (by simp)).undrew)
  clear hX hZ hb2 k1 k2 hl1 hb1 hsrc htk hget hcs hb hc3
  go_enter Try.func66, Try.ntmps66
  have mixed : Try.prog.follows .mixedOrders = true := by kernel_rfl
  have hb1 : i ≤ cap := by omega
  have hb2 : i + 1 ≤ cap := by omega
  have hb3 : i + 1 ≤ i + 1 + m := by omega
  have hb4 : i + 1 + m - (i + 1) = m := by omega
  have hb5 : (0 : Int) ≤ (i : Int) + 1 := by omega
  have hb6 : (i : Int) + 1 ≤ (i : Int) + 1 + (m : Int) := by omega
  have hb7 : i + 1 + m - (i + m) = 1 := by omega
  have hb8 : ¬ cap = i + m := by omega
  have hb9 : (i : Int) + (m : Int) ≤ (i : Int) + 1 + (m : Int) := by omega
  have hb0 : (0 : Int) ≤ (i : Int) + (m : Int) := by omega
  have ht1 : ((i : Int) + 1 + (m : Int)).toNat = i + 1 + m := by omega
  have ht2 : ((i : Int) + (m : Int)).toNat = i + m := by omega
  go_wp2_with fail
  go_region_law_o (refine step_append_eq rfl _ _ 30 30 rfl (.slice (some ⟨g, 0, none⟩) i cap) (.slice (some a) m (cap - (i + 1))) (by simp [Act.eval, Act.put]) (by simp [Act.eval, Act.put]) (hr1 _) ?_)
  go_wp2_with (at_builtin; refine list_clear_eq rfl _ 30 rfl (.slice (some ⟨g, (i + m) * 2, none⟩) 1 (cap - (i + m))) rfl (hr2 _) ?_)
  go_ret
  exact ⟨rfl, ⟨_, hY.out, HZ.out⟩, K.out⟩
theorem Own.keeps {w w' : World} {base : Nat} {v : Value} {l : List Ent} (h : Own w base v l) {S : List Nat} (k : Keeps S w w') (hn : ∀ g, v.ownBlock = some g → g ∉ S) : Own w' base v l := by
  rcases h with h | ⟨g, cap, rest, rfl, hb, hg, r⟩
  · exact .inl h
  · exact .inr ⟨g, cap, rest, rfl, k.blk hb (hn g rfl), hg, r⟩
theorem Own.lst {w : World} {base : Nat} {v : Value} {l : List Ent} (h : Own w base v l) : Lst w v l.length (eCs l) := by
  rcases h with ⟨rfl, rfl⟩ | ⟨g, cap, rest, rfl, hb, _⟩
  · exact Lst.nil w
  · exact Lst.blk hb
theorem Own.ge {w : World} {base : Nat} {v : Value} {l : List Ent} (h : Own w base v l) : ∀ g, v.ownBlock = some g → base ≤ g ∧ g < w.heap.size := by
  rcases h with ⟨rfl, rfl⟩ | ⟨g, cap, rest, rfl, hb, hg, _⟩
  · intro g h; simp [Value.ownBlock] at h
  · intro g' h; simp [Value.ownBlock] at h; subst h; exact ⟨hg, hb.lt⟩
theorem new_blk (w : World) (cs : List Value) (zs : Array Value) (T : TypeId) : Blk (w.drew.alloc (.cells (cs.toArray ++ zs) T)) w.heap.size (cs ++ zs.toList) := by
  have e : (cs ++ zs.toList).toArray = cs.toArray ++ zs := by apply Array.ext'; simp
  refine ⟨T, ?_⟩
  rw [e]
  exact heap_alloc_new w.drew _
def zE (n : Nat) : Array Value := Builtin.zeroCells (Value.agg #[.string ⟨#[]⟩, .string ⟨#[]⟩]).cells n
theorem zero_len (n : Nat) : (zE n).toList.length = n * 2 := by
  rw [Array.length_toList, zE, size_zeroCells]; rfl
theorem appendO {w : World} {base : Nat} {v : Value} {l : List Ent} (h : Own w base v l) (hn : l.length < 4096) (hbase : base ≤ w.heap.size) (a : Addr) (c : Nat) (x : Ent)
    (hx : ∀ j u, (eC x)[j]? = some u → w.cell? (a.add j) = some u) :
    ∃ v' w', (∀ ty, (Builtin.append_ #[30, 30] ty #[v, .slice (some a) 1 c]).run Try.prog w = .ok v' w') ∧ Own w' base v' (l ++ [x]) ∧ Keeps v.ownBlock.toList w w' := by
  obtain ⟨i0, hi0, hz0, hz1, hz2⟩ := info_parts infoE
  have hsz : (Try.prog.info? 35).map (·.size) = some 2 := by rw [hi0]; simp [hz1]
  have hone : ∀ u ∈ eC x, u.oneCell' = true := fun u hu => by
    simp only [eC, List.mem_cons, List.mem_nil_iff, or_false] at hu
    rcases hu with rfl | rfl <;> rfl
  rcases h with ⟨rfl, rfl⟩ | ⟨g, cap, rest, rfl, hb, hg, hc1, hc2, hc3⟩
  · have hr := fun ty => run_append_nil (P := Try.prog) w 30 ty 35 i0 _ Try.underlying30 hi0 hz0 a 1 c (eC x) (by rw [hz1]; rfl) hx (by omega) (by omega) (by rw [hz2]; omega)
    refine ⟨_, _, hr, .inr ⟨w.heap.size, grownCap w 1 0 35, (zE (grownCap w 1 0 35 - 1)).toList, rfl, ?_, hbase, ?_, grownCap_le_maxLen _ _ _ _ (by unfold maxLen; omega), ?_⟩, ((Keeps.refl _ w).drew).alloc _⟩
    · rw [List.nil_append, eCs_one]; exact new_blk w (eC x) (zE (grownCap w 1 0 35 - 1)) 35
    · exact grownCap_ge _ _ _ _
    · have := grownCap_ge w 1 0 35
      rw [List.length_append, zero_len]; simp [eCs, eC]; omega
  · by_cases hroom : l.length + 1 ≤ cap
    · obtain ⟨w', hr, hb', k'⟩ := run_appendK (P := Try.prog) w 30 35 2 Try.underlying30 hsz g l.length cap _ hb a 1 c (eC x) rfl hx hone hroom (by rw [hc3]; simp [eC]; omega)
      have hX : (spl (eCs l ++ rest) (l.length * 2) (eC x)).take (l.length * 2 + (eC x).length) = eCs (l ++ [x]) := by
        rw [spl_take_in (by rw [hc3]; omega), List.take_append_of_le_length (by rw [eCs_length]; omega), List.take_of_length_le (by rw [eCs_length]; omega), eCs_append, eCs_one]
      refine ⟨_, w', hr, .inr ⟨g, cap, _, by rw [List.length_append]; rfl, hb'.cut hX, hg, by simpa using hroom, hc2, ?_⟩, k'.mono (by simp [Value.ownBlock])⟩
      rw [← hX, List.take_append_drop, spl_length (by rw [hc3]; simp [eC]; omega), hc3]
    · have hr := fun ty => run_append_grow (P := Try.prog) w 30 ty 35 i0 _ Try.underlying30 hi0 hz0 ⟨g, 0, none⟩ l.length cap (eCs l) (by rw [hz1, eCs_length])
        (fun j u hj => by rw [Addr.add_lit, hb.cell, Nat.zero_add, List.getElem?_append_left (List.getElem?_eq_some_iff.1 hj).1, hj]) a 1 c (eC x) (by rw [hz1]; rfl) hx (by omega) (by omega) (growslice_fits (by omega) (by rw [hz2]; omega))
      refine ⟨_, _, hr, .inr ⟨w.heap.size, grownCap w (l.length + 1) cap 35, (zE (grownCap w (l.length + 1) cap 35 - (l.length + 1))).toList, by rw [List.length_append]; rfl, ?_, hbase, ?_, grownCap_le_maxLen _ _ _ _ (by unfold maxLen; omega), ?_⟩, ((Keeps.refl _ w).drew).alloc _⟩
      · rw [eCs_append, eCs_one]
        have e : (eCs l).toArray ++ (eC x).toArray = (eCs l ++ eC x).toArray := by simp
        rw [e]
        exact new_blk w (eCs l ++ eC x) (zE (grownCap w (l.length + 1) cap 35 - (l.length + 1))) 35
      · simpa using grownCap_ge w (l.length + 1) cap 35
      · have := grownCap_ge w (l.length + 1) cap 35
        rw [List.length_append, zero_len, eCs_length, List.length_append]; simp; omega
end Go.Proofs.Ytnnpmpdlhojecaa
