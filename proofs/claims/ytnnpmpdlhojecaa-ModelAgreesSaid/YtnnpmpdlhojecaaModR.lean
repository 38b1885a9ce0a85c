/- The contract of Add of the reference's world: the walk. -/
import Derived.Test.YtnnpmpdlhojecaaModQ
namespace Go.Proofs.Ytnnpmpdlhojecaa
open Go.RowKit Go.Maps
variable {w w' : World} {Q : List Nat} {ww : Nat} {bv sv : Value} {vs : List Value} {Bs : List (List Wrt)} {F : Nat} {Ss : List (Nat × Nat)}
set_option maxHeartbeats 2000000 in
set_option maxRecDepth 100000 in
theorem wadd_any (h : WR w Q ww bv vs Bs F sv Ss) (hn : Bs.length ≤ 200) (b : List Wrt) (hb : b.length ≤ 5) (xv : Value) (hx : Lst w xv b.length (wCs b)) :
    Calls Try.prog 33 #[.pointer (some ⟨ww, 0, none⟩), xv] w fun e w' => e = .returned (.int .u64 ((Bs.length + 1 : Nat) : Int)) ∧ ∃ Q' bv' vs', WR w' Q' ww bv' vs' (Bs ++ [b]) F sv Ss ∧ Wq Q w w' Q' := by
  obtain ⟨i0, hi0, hz0, hz1, hz2⟩ := info_parts infoWR
  obtain ⟨i1, hi1, hz3, hz4, hz5⟩ := info_parts infoWS
  have kd : Keeps [] w w.drew := (Keeps.refl [] w).drew
  obtain ⟨v1, w1, hr1, r1, k1, f1⟩ := row_nil (w := w.drew) 28 28 57 i0 _ 40 3 Try.underlying28 hi0 hz0 hz1 hz2 rfl (by decide) b.length xv (wCs b) (hx.keeps kd) (wCs_length b) (fun u hu => wCs_one' hu) (by omega) (by decide)
  obtain ⟨vA, vc, rfl⟩ := r1.len
  obtain ⟨bA, bc, rfl⟩ := h.hb.len
  have K1 : Keeps [] w w1 := k1.undrew
  have kA := (Keeps.refl [] w1).alloc (.cells #[.slice vA b.length vc] 28)
  have hb1 := ((h.hb.keeps K1 (by simp)).keeps kA (by simp))
  obtain ⟨v2, w2, hr2, r2, k2, f2⟩ := row_append hb1 22 22 28 i1 _ 24 Try.underlying22 hi1 hz3 hz4 hz5 rfl (by decide) ⟨w1.heap.size, 0, none⟩ 1 1 [.slice vA b.length vc] rfl
    (fun j u hj => by match j, hj with | 0, hj => simp at hj; subst hj; simp [Addr.add]) (fun u hu => by simp only [List.mem_cons, List.mem_nil_iff, or_false] at hu; subst hu; rfl) (by omega) (by decide)
  obtain ⟨v2A, v2c, rfl⟩ := r2.len
  obtain ⟨hW, hWq⟩ := h.add (K1.trans kA (by simp)) (r1.keeps kA (by simp)) f1 k2 r2 (fun g hg => f2 g hg)
  have ht := wtime_any hW (by rw [List.length_append, List.length_singleton]; omega)
  rw [List.length_append, List.length_singleton] at ht
  obtain ⟨d0, d1, d2, d3, d4, d5⟩ := h.hw.o4
  have kd0 := kd.cellEq d0 (by simp)
  have e0 := K1.cellEq d0 (by simp)
  have e1 := kA.cellEq e0 (by simp)
  have ek : Keeps (Value.slice bA Bs.length bc).ownBlock.toList w w2 := (((K1.trans kA (by simp)).mono (S' := (Value.slice bA Bs.length bc).ownBlock.toList) (by simp))).trans k2 (fun i hi => .inl hi)
  have hb2 := ek.blk h.hw (fun hm => (h.hq.2 ww (.inl (by simpa using hm))).2 rfl)
  obtain ⟨f0, f1', f2', f3, f4, f5⟩ := hb2.o4
  have hbl := d5
  clear hi0 hz0 hz1 hz2 hi1 hz3 hz4 hz5 f1 f2
  go_enter Try.func33, Try.ntmps33
  go_wp2_with fail
  go_region_law (first
    | (refine step_append_eq rfl _ _ 28 28 rfl (.slice none 0 0) xv (by simp [Act.eval, Act.put]) (by simp [Act.eval, Act.put]) hr1 ?_)
    | (refine step_append_eq rfl _ _ 22 22 rfl (.slice bA Bs.length bc) (.slice (some ⟨w1.heap.size, 0, none⟩) 1 1) (by simp [Act.eval, Act.put]) (by simp [Act.eval, Act.put]) hr2 ?_))
  all_goals (
    go_wp2_with fail
    refine ht.mono ?_
    rintro e w7 ⟨rfl, rfl⟩
    go_wp2_with fail
    go_ret
    exact ⟨rfl, _, _, _, hW, hWq⟩)
end Go.Proofs.Ytnnpmpdlhojecaa
