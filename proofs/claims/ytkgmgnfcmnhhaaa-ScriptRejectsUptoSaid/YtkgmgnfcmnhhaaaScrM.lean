/- The writers of package script and of its reference: rows of bytes that grow, and the contracts of varint, int, text, u and s. -/
import Derived.Test.YtkgmgnfcmnhhaaaScrJ
import Derived.Lib.AppendStr
namespace Go.Proofs.Ytkgmgnfcmnhhaaa
open Go.RowKit
set_option linter.unusedSectionVars false
set_option linter.unusedVariables false
set_option linter.unusedSimpArgs false
set_option maxRecDepth 20000
theorem infoU8 : (Try.prog.info? 5).map (fun i => (i.zero, i.size, i.bytes)) = some (some (.int .u8 0), 1, 1) := by kernel_rfl
theorem strCells_arr (L : Str) : Lib.strCells ⟨L.toArray⟩ = L.map vB := by
  unfold Lib.strCells vB
  simp
theorem vB_one (L : Str) : ∀ u ∈ L.map vB, u.oneCell' = true := by
  intro u hu
  obtain ⟨c, _, rfl⟩ := List.mem_map.1 hu
  rfl
theorem run_appendS (w : World) (g n cap : Nat) (cs : List Value) (hg : Blk w g cs) (L : Str) (hroom : n + L.length ≤ cap) (hfit : n + L.length ≤ cs.length) :
    ∃ w', (∀ ty, (Builtin.append_ #[23, 9] ty #[.slice (some ⟨g, 0, none⟩) n cap, .string ⟨L.toArray⟩]).run Try.prog w = .ok (.slice (some ⟨g, 0, none⟩) (n + L.length) cap) w') ∧ Blk w' g (spl cs n (L.map vB)) ∧ Keeps [g] w w' := by
  obtain ⟨h2, h3⟩ := setRow_blk (ds := spl cs n (L.map vB)) hg
  refine ⟨_, fun ty => ?_, h2, h3⟩
  obtain ⟨T, hh⟩ := hg
  obtain ⟨i0, hi0, hz0, hz1, hz2⟩ := info_parts infoU8
  have hf := Lib.run_firstCells_string (P := Try.prog) w 1 ⟨L.toArray⟩
  rw [strCells_arr] at hf
  have hst := run_storeCells_at Try.prog g n T (L.map vB) 0 cs.toArray w hh (by simpa using hfit) (vB_one L)
  simp only [Nat.add_zero] at hst
  have hsz : (⟨L.toArray⟩ : ByteArray).size = L.length := rfl
  rw [hsz] at hf
  simp [Builtin.append_, run_underlying (P := Try.prog) Try.underlying23, run_underlying (P := Try.prog) Try.underlying9, sizeOf, typeInfo, hi0, hz1, Builtin.lenOf, hroom, hf, Addr.add_lit, hst, spl, hsz]
/-- Bytes in a row of their own: what is left of such a row in a later world. -/
def Bw (w : World) (v : Value) (L : Str) : Prop := Row w v L.length 1 (L.map vB)
structure BQ (w : World) (v : Value) (w' : World) (v' : Value) (L : Str) : Prop where
  row : Bw w' v' L
  keeps : Keeps v.ownBlock.toList w w'
  own : ∀ b, v'.ownBlock = some b → v.ownBlock = some b ∨ w.heap.size ≤ b
theorem BQ.refl {w : World} {v : Value} {L : Str} (h : Bw w v L) : BQ w v w v L := ⟨h, Keeps.refl _ _, fun b hb => .inl hb⟩
theorem BQ.trans {w w1 w2 : World} {v v1 v2 : Value} {L1 L2 : Str} (h : BQ w v w1 v1 L1) (k : BQ w1 v1 w2 v2 L2) : BQ w v w2 v2 L2 :=
  ⟨k.row, h.keeps.trans k.keeps (fun b hb => by
    rcases h.own b (by simpa using hb) with h1 | h1
    · exact .inl (by simpa using h1)
    · exact .inr h1), fun b hb => by
    rcases k.own b hb with h1 | h1
    · exact h.own b h1
    · exact .inr (Nat.le_trans h.keeps.size h1)⟩
theorem str_append {w : World} {v : Value} {L : Str} (h : Bw w v L) (S : Str) (hn : L.length + S.length ≤ 1073741824) :
    ∃ v' w', (∀ ty, (Builtin.append_ #[23, 9] ty #[v, .string ⟨S.toArray⟩]).run Try.prog w = .ok v' w') ∧ BQ w v w' v' (L ++ S) := by
  obtain ⟨i0, hi0, hz0, hz1, hz2⟩ := info_parts infoU8
  have hsz : (⟨S.toArray⟩ : ByteArray).size = S.length := rfl
  have hLS : ((L ++ S).map vB).length = (L ++ S).length * 1 := by simp
  obtain ⟨h1, ⟨rfl, h0⟩ | ⟨g, cap, rest, rfl, hb, h2, h3, h4⟩⟩ := h
  · obtain rfl : L = [] := List.eq_nil_of_length_eq_zero h0
    by_cases hm : S = []
    · subst hm
      refine ⟨.slice none 0 0, w, fun ty => ?_, ⟨Row.nil _ _, Keeps.refl _ _, fun b hb => .inl hb⟩⟩
      have hf := Lib.run_firstCells_string (P := Try.prog) w 1 ⟨#[]⟩
      have hs0 : (⟨#[]⟩ : ByteArray).size = 0 := rfl
      rw [hs0] at hf
      simp [Builtin.append_, run_underlying (P := Try.prog) Try.underlying23, run_underlying (P := Try.prog) Try.underlying9, sizeOf, typeInfo, hi0, hz1, Builtin.lenOf, hf, hs0]
    · have hpos : 0 < S.length := List.length_pos_iff.2 hm
      have hr := fun ty => run_append_nil_string (P := Try.prog) w 23 9 ty 5 i0 (.int .u8 0) Try.underlying23 Try.underlying9 hi0 hz0 ⟨S.toArray⟩ (by rw [hsz]; exact hpos) (by rw [hsz]; simp at hn; omega) (by rw [hsz, hz2]; simp at hn; omega)
      have hg := grownCap_ge w S.length 0 5
      have hgm := grownCap_le_maxLen w S.length 0 5 (by unfold maxLen; simp at hn; omega)
      rw [hsz] at hr
      obtain ⟨G, hG⟩ : ∃ G, G = grownCap w S.length 0 5 := ⟨_, rfl⟩
      rw [← hG] at hr hg hgm
      have hnb := new_blk w (S.map vB) (Builtin.zeroCells (Value.int .u8 0).cells (G - S.length)) 5
      have eA : ((⟨S.toArray⟩ : ByteArray).data.map (fun b => Value.int .u8 b.toNat) ++ Builtin.zeroCells (Value.int .u8 0).cells (G - S.length)) = (S.map vB).toArray ++ Builtin.zeroCells (Value.int .u8 0).cells (G - S.length) := by
        congr 1
        simp [vB]
      rw [eA] at hr
      refine ⟨_, _, hr, ⟨⟨by simp, .inr ⟨w.heap.size, G, _, rfl, hnb, hg, hgm, ?_⟩⟩, (((Keeps.refl [] w).drew).alloc _).mono (by simp), fun g' hg' => .inr ?_⟩⟩
      · have hz1 : (Value.int IntKind.u8 0).cells.size = 1 := rfl
        have hq : (Builtin.zeroCells (Value.int .u8 0).cells (G - S.length)).toList.length = G - S.length := by rw [Array.length_toList, size_zeroCells, hz1]; omega
        simp only [List.length_append, List.length_map, hq, List.nil_append]
        omega
      · have : w.heap.size = g' := by simpa [Value.ownBlock] using hg'
        omega
  · by_cases hroom : L.length + S.length ≤ cap
    · obtain ⟨w', hr, hb', kk⟩ := run_appendS w g L.length cap _ hb S hroom (by rw [h4]; omega)
      have hX : (spl (L.map vB ++ rest) L.length (S.map vB)).take (L.length + (S.map vB).length) = L.map vB ++ S.map vB := by
        rw [spl_take_in (by rw [h4]; omega), List.take_append_of_le_length (by simp), List.take_of_length_le (by simp)]
      refine ⟨_, w', fun ty => hr ty, ⟨⟨hLS, .inr ⟨g, cap, (spl (L.map vB ++ rest) L.length (S.map vB)).drop (L.length + (S.map vB).length), by rw [List.length_append], ?_, by rw [List.length_append]; exact hroom, h3, ?_⟩⟩, by simpa [Value.ownBlock] using kk, fun g' hg => .inl hg⟩⟩
      · rw [List.map_append]
        exact hb'.cut hX
      · rw [List.map_append, ← hX, List.take_append_drop, spl_length (by rw [h4, List.length_map]; omega), h4]
    · have hr := fun ty => Lib.run_append_grow_string (P := Try.prog) w 23 9 ty 5 i0 (.int .u8 0) Try.underlying23 Try.underlying9 hi0 hz0 ⟨g, 0, none⟩ L.length cap (L.map vB) (by rw [hz1]; exact h1)
        (fun j x hj => by rw [Addr.add_lit, hb.cell, Nat.zero_add, List.getElem?_append_left (List.getElem?_eq_some_iff.1 hj).1, hj]) ⟨S.toArray⟩ (by rw [hsz]; omega) (by rw [hsz]; omega) (by rw [hsz]; exact growslice_fits (by omega) (by rw [hz2]; omega))
      have hg := grownCap_ge w (L.length + S.length) cap 5
      have hgm := grownCap_le_maxLen w (L.length + S.length) cap 5 (by unfold maxLen; omega)
      rw [hsz, strCells_arr] at hr
      obtain ⟨G, hG⟩ : ∃ G, G = grownCap w (L.length + S.length) cap 5 := ⟨_, rfl⟩
      rw [← hG] at hr hg hgm
      have hnb := new_blk w (L.map vB ++ S.map vB) (Builtin.zeroCells (Value.int .u8 0).cells (G - (L.length + S.length))) 5
      have eA : ((L.map vB).toArray ++ (S.map vB).toArray ++ Builtin.zeroCells (Value.int .u8 0).cells (G - (L.length + S.length))) = (L.map vB ++ S.map vB).toArray ++ Builtin.zeroCells (Value.int .u8 0).cells (G - (L.length + S.length)) := by simp
      rw [eA] at hr
      refine ⟨_, _, hr, ⟨⟨hLS, .inr ⟨w.heap.size, G, _, by rw [List.length_append], by rw [List.map_append]; exact hnb, by rw [List.length_append]; exact hg, hgm, ?_⟩⟩, (((Keeps.refl [] w).drew).alloc _).mono (by simp), fun g' hg' => .inr ?_⟩⟩
      · have hz1 : (Value.int IntKind.u8 0).cells.size = 1 := rfl
        have hq : (Builtin.zeroCells (Value.int .u8 0).cells (G - (L.length + S.length))).toList.length = G - (L.length + S.length) := by rw [Array.length_toList, size_zeroCells, hz1]; omega
        simp only [List.length_append, List.length_map, hq]
        omega
      · have : w.heap.size = g' := by simpa [Value.ownBlock] using hg'
        omega
theorem byte_append {w : World} {v : Value} {L : Str} (h : Bw w v L) (b : UInt8) (hn : L.length + 1 ≤ 1073741824) (c : Nat) :
    ∃ v' w', (∀ ty, (Builtin.append_ #[23, 23] ty #[v, .slice (some ⟨w.heap.size, 0, none⟩) 1 c]).run Try.prog (w.alloc (.cells #[vB b] 5)) = .ok v' w') ∧ BQ w v w' v' (L ++ [b]) := by
  obtain ⟨i0, hi0, hz0, hz1, hz2⟩ := info_parts infoU8
  have kw := (Keeps.refl [] w).alloc (.cells #[vB b] 5)
  have hbk := Blk.new w [vB b] 5
  change Blk (w.alloc (.cells #[vB b] 5)) _ _ at hbk
  have hsrc : ∀ (j : Nat) (u' : Value), [vB b][j]? = some u' → (w.alloc (.cells #[vB b] 5)).cell? ((⟨w.heap.size, 0, none⟩ : Addr).add j) = some u' := fun j u' hj => by
    rw [Addr.add_lit, hbk.cell, Nat.zero_add]; exact hj
  obtain ⟨v', w', hr, r, k, f⟩ := row_append (h.keeps kw (by simp)) 23 23 5 i0 _ 1 Try.underlying23 hi0 hz0 hz1 hz2 rfl (by decide) ⟨w.heap.size, 0, none⟩ 1 c [vB b] rfl hsrc (vB_one [b]) hn (by decide)
  refine ⟨v', w', fun ty => by rw [← hr]; rfl, ⟨?_, (kw.mono (by simp)).trans k (fun i hi => .inl hi), fun g hg => ?_⟩⟩
  · unfold Bw
    rw [List.length_append, List.map_append]
    exact r
  · rcases f g hg with h1 | h1
    · exact .inl h1
    · exact .inr (by simp at h1; omega)
end Go.Proofs.Ytkgmgnfcmnhhaaa
