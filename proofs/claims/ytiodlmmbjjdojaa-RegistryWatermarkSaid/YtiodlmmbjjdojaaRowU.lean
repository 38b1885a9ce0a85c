/- A slice with a block of its own: append. -/
import Derived.Test.YtiodlmmbjjdojaaBatL
import Derived.Test.YtiodlmmbjjdojaaChecked
import Derived.Lib.Overlaps
import Derived.Lib.AppendZerosOnto
import Derived.Laws.Externs
namespace Go.Proofs.Ytiodlmmbjjdojaa
open Go.RowKit Go.Maps
set_option linter.unusedSectionVars false
set_option linter.unusedVariables false
theorem spl_length {cs news : List Value} {o : Nat} (hf : o + news.length ≤ cs.length) : (spl cs o news).length = cs.length := by
  unfold spl; simp; omega
theorem spl_take_in {cs news : List Value} {o : Nat} (hf : o ≤ cs.length) : (spl cs o news).take (o + news.length) = cs.take o ++ news := by
  unfold spl
  rw [List.take_append_of_le_length (by simp; omega), List.take_of_length_le (by simp; omega)]
theorem Blk.cut {w : World} {g k : Nat} {cs X : List Value} (h : Blk w g cs) (hX : cs.take k = X) : Blk w g (X ++ cs.drop k) := by
  rw [← hX, List.take_append_drop]; exact h
theorem new_blk (w : World) (cs : List Value) (zs : Array Value) (T : TypeId) : Blk (w.drew.alloc (.cells (cs.toArray ++ zs) T)) w.heap.size (cs ++ zs.toList) := by
  have e : (cs ++ zs.toList).toArray = cs.toArray ++ zs := by apply Array.ext'; simp
  refine ⟨T, ?_⟩
  rw [e]
  exact heap_alloc_new w.drew _
/-- v is a slice with a block of its own, or nil: n elements of k cells, together xs. -/
def Row (w : World) (v : Value) (n k : Nat) (xs : List Value) : Prop :=
  xs.length = n * k ∧ ((v = .slice none 0 0 ∧ n = 0) ∨ ∃ g cap rest, v = .slice (some ⟨g, 0, none⟩) n cap ∧ Blk w g (xs ++ rest) ∧ n ≤ cap ∧ cap ≤ maxLen ∧ (xs ++ rest).length = cap * k)
variable {w w' : World} {v : Value} {n k : Nat} {xs : List Value}
theorem Row.of {base e : Nat} (h : w.ownsRow base e k v n xs) : Row w v n k xs := by
  obtain ⟨h1, h2⟩ := h
  refine ⟨h1, ?_⟩
  rcases h2 with h2 | ⟨g, cap, cur, hv, hg, hh, hnc, hcm, hcs, ht⟩
  · exact .inl h2
  · refine .inr ⟨g, cap, cur.toList.drop (n * k), hv, ⟨e, ?_⟩, hnc, hcm, ?_⟩
    · rw [hh, ← ht, List.take_append_drop]
    · rw [← ht, List.take_append_drop, Array.length_toList, hcs]
theorem Row.nil (w : World) (k : Nat) : Row w (.slice none 0 0) 0 k [] := ⟨by simp, .inl ⟨rfl, rfl⟩⟩
theorem Row.keeps {S : List Nat} (h : Row w v n k xs) (kk : Keeps S w w') (hS : ∀ g, v.ownBlock = some g → g ∉ S) : Row w' v n k xs := by
  obtain ⟨h1, h | ⟨g, cap, rest, rfl, hb, h2, h3, h4⟩⟩ := h
  · exact ⟨h1, .inl h⟩
  · exact ⟨h1, .inr ⟨g, cap, rest, rfl, kk.blk hb (hS g rfl), h2, h3, h4⟩⟩
theorem Row.blk (h : Row w v n k xs) : ∀ g, v.ownBlock = some g → g < w.heap.size := by
  obtain ⟨h1, ⟨rfl, _⟩ | ⟨g, cap, rest, rfl, hb, h2, h3, h4⟩⟩ := h
  · intro g hg; simp [Value.ownBlock] at hg
  · intro g' hg
    have : g = g' := by simpa [Value.ownBlock] using hg
    subst this; exact hb.lt
theorem Row.lst (h : Row w v n k xs) : Lst w v n xs := by
  obtain ⟨h1, ⟨rfl, rfl⟩ | ⟨g, cap, rest, rfl, hb, h2, h3, h4⟩⟩ := h
  · have : xs = [] := by simpa using h1
    subst this
    exact Lst.nil w
  · exact Lst.blk hb
theorem Row.len (h : Row w v n k xs) : ∃ A cap, v = .slice A n cap := by
  obtain ⟨h1, ⟨rfl, rfl⟩ | ⟨g, cap, rest, rfl, hb, h2, h3, h4⟩⟩ := h
  · exact ⟨_, _, rfl⟩
  · exact ⟨_, _, rfl⟩
set_option maxRecDepth 100000 in
theorem row_append (h : Row w v n k xs) (t ty e : TypeId) (i : TypeInfo) (z : Value) (bytes : Nat) (hu : Try.prog.underlying t = some (.slice e)) (hi : Try.prog.info? e = some i) (hz : i.zero = some z) (hs : i.size = k) (hby : i.bytes = bytes) (hzs : z.cells.size = k) (hk : 0 < k)
    (a : Addr) (m c : Nat) (news : List Value) (hl : news.length = m * k) (hsrc : ∀ (j : Nat) (u : Value), news[j]? = some u → w.cell? (a.add j) = some u) (hone : ∀ u ∈ news, u.oneCell' = true) (hn : n + m ≤ 100000) (hb1 : bytes ≤ 1000) :
    ∃ v' w', (Builtin.append_ #[t, t] ty #[v, .slice (some a) m c]).run Try.prog w = .ok v' w' ∧ Row w' v' (n + m) k (xs ++ news) ∧ Keeps v.ownBlock.toList w w' ∧ ∀ g, v'.ownBlock = some g → v.ownBlock = some g ∨ w.heap.size ≤ g := by
  have hbb : (n + m) * bytes ≤ 140737488355328 := by
    have := Nat.mul_le_mul hn hb1
    omega
  obtain ⟨h1, ⟨rfl, rfl⟩ | ⟨g, cap, rest, rfl, hb, h2, h3, h4⟩⟩ := h
  · have hx : xs = [] := by simpa using h1
    subst hx
    obtain ⟨v', w', hr, ho, hg, _⟩ := run_append_own (P := Try.prog) w w.heap.size t ty e i z k bytes hu hi hz hs hby hzs hk _ 0 [] (World.ownsRow_nil _ _ _ _) a m c news hl hsrc hone (by unfold maxLen; omega) hbb (Nat.le_refl _)
    exact ⟨v', w', hr, .of ho, Keeps.of_grownBy hg _ (by simp [Value.ownBlock]), fun g hg => .inr (World.ownsRow.lt ho g hg).1⟩
  · by_cases hroom : n + m ≤ cap
    · have hmk : (n + m) * k ≤ cap * k := Nat.mul_le_mul_right k hroom
      rw [Nat.add_mul] at hmk
      obtain ⟨w', hr, hb', kk⟩ := run_appendK (P := Try.prog) w t e k hu (by rw [hi]; simp [hs]) g n cap _ hb a m c news hl hsrc hone hroom (by rw [h4, hl]; exact hmk)
      have hX : (spl (xs ++ rest) (n * k) news).take (n * k + news.length) = xs ++ news := by
        rw [spl_take_in (by rw [h4]; omega), List.take_append_of_le_length (by omega), List.take_of_length_le (by omega)]
      refine ⟨_, w', hr ty, ⟨by rw [List.length_append, h1, hl, Nat.add_mul], .inr ⟨g, cap, _, rfl, hb'.cut hX, hroom, h3, ?_⟩⟩, by simpa [Value.ownBlock] using kk, fun g' hg => .inl hg⟩
      rw [← hX, List.take_append_drop, spl_length (by rw [h4, hl]; exact hmk), h4]
    · have hr := run_append_grow (P := Try.prog) w t ty e i z hu hi hz ⟨g, 0, none⟩ n cap xs (by rw [hs]; exact h1)
        (fun j x hj => by rw [Addr.add_lit, hb.cell, Nat.zero_add, List.getElem?_append_left (List.getElem?_eq_some_iff.1 hj).1, hj]) a m c news (by rw [hs]; exact hl) hsrc (by omega) (by omega) (growslice_fits (by omega) (by rw [hby]; exact hbb))
      have hg := grownCap_ge w (n + m) cap e
      have hgm := grownCap_le_maxLen w (n + m) cap e (by unfold maxLen; omega)
      obtain ⟨G, hG⟩ : ∃ G, G = grownCap w (n + m) cap e := ⟨_, rfl⟩
      rw [← hG] at hr hg hgm
      have hnb := new_blk w (xs ++ news) (Builtin.zeroCells z.cells (G - (n + m))) e
      have eA : (xs.toArray ++ news.toArray ++ Builtin.zeroCells z.cells (G - (n + m))) = (xs ++ news).toArray ++ Builtin.zeroCells z.cells (G - (n + m)) := by simp
      rw [eA] at hr
      refine ⟨_, _, hr, ⟨by rw [List.length_append, h1, hl, Nat.add_mul], .inr ⟨w.heap.size, G, _, rfl, hnb, hg, hgm, ?_⟩⟩, (((Keeps.refl [] w).drew).alloc _).mono (by simp), fun g' hg' => .inr ?_⟩
      · rw [List.length_append, List.length_append, h1, hl, Array.length_toList, size_zeroCells, hzs, ← Nat.add_mul, ← Nat.add_mul]
        congr 1; omega
      · have : w.heap.size = g' := by simpa [Value.ownBlock] using hg'
        omega
end Go.Proofs.Ytiodlmmbjjdojaa
namespace Go.Proofs.Ytiodlmmbjjdojaa
open Go.RowKit
theorem list_append_eq {P : Program} {w : World} {ops : Array Oper} {rest : List Oper} {o : Oper} {a : Act} {Q : Exit → Act → World → Prop} (hgd : o.guard = none) (d s : Operand) (t t' : TypeId)
    (ho : o.op = .call { callee := .builtin .append, args := #[d, s], argTypes := #[t, t'] }) (v u : Value) (hd : a.eval d = v) (hs : a.eval s = u) {v' : Value} {w' : World}
    (hr : (Builtin.append_ #[t, t'] o.type #[v, u]).run P w = .ok v' w') (h : wpList P ops Q rest (a.put o.dst v') w') : wpList P ops Q (o :: rest) a w :=
  wpList_plain hgd fun K hK => by
    unfold Oper.wp execOp
    simp only [ho, resolve, invoke, builtin, Sem.run_bind, Sem.run_pure, Result.andThen_ok, List.map_toArray, List.map_cons, List.map_nil, hd, hs, hr]
    exact hK _ _ h
end Go.Proofs.Ytiodlmmbjjdojaa
