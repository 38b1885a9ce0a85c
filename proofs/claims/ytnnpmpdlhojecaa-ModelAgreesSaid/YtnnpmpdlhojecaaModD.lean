/- The contracts of New, Open and Release of the model. -/
import Derived.Test.YtnnpmpdlhojecaaModB
namespace Go.Proofs.Ytnnpmpdlhojecaa
open Go.RowKit Go.Maps Go.MapKept Go.ChangeMaps
set_option maxRecDepth 100000
theorem mnew_any (w : World) : Calls Try.prog 14 #[] w fun e w' => ∃ m, e = .returned (.pointer (some ⟨m, 0, none⟩)) ∧ MOx w' w.heap.size [] m 0 [[]] 0 (.map []) ∧ Keeps [] w w' := by
  have hmm := @run_makeMap Try.prog
  go_enter Try.func14, Try.ntmps14
  go_wp2
  go_ret
  have k1 : Keeps [] w (w.alloc (.cells #[.slice none 0 0] 30)) := (Keeps.refl [] w).alloc _
  have b1 : Blk (w.alloc (.cells #[.slice none 0 0] 30)) w.heap.size [.slice none 0 0] := Blk.new w [.slice none 0 0] 30
  have s1 : (w.alloc (.cells #[.slice none 0 0] 30)).heap.size = w.heap.size + 1 := by simp
  obtain ⟨w1, hw1⟩ : ∃ w1, w1 = w.alloc (.cells #[.slice none 0 0] 30) := ⟨_, rfl⟩
  rw [← hw1] at k1 b1 s1 ⊢
  have o2 := World.ownsMap_made w1 Try.prog 84 (plainElem (H := Unit) Try.prog 23)
  have k2 : Keeps [] w1 (w1.alloc (.map #[] 0)) := (Keeps.refl [] w1).alloc _
  have s2 : (w1.alloc (.map #[] 0)).heap.size = w1.heap.size + 1 := by simp
  obtain ⟨w2, hw2⟩ : ∃ w2, w2 = w1.alloc (.map #[] 0) := ⟨_, rfl⟩
  rw [← hw2] at k2 o2 s2 ⊢
  have s1' : w.heap.size + 1 = w1.heap.size := by omega
  rw [s1'] 
  have b3 : Blk (w2.alloc (.cells #[.slice (some ⟨w.heap.size, 0, none⟩) 1 1, .int .u64 0, .map (some w1.heap.size)] 78)) w2.heap.size [.slice (some ⟨w.heap.size, 0, none⟩) 1 1, .int .u64 0, .map (some w1.heap.size)] := Blk.new w2 [.slice (some ⟨w.heap.size, 0, none⟩) 1 1, .int .u64 0, .map (some w1.heap.size)] 78
  have k3 : Keeps [] w2 (w2.alloc (.cells #[.slice (some ⟨w.heap.size, 0, none⟩) 1 1, .int .u64 0, .map (some w1.heap.size)] 78)) := (Keeps.refl [] w2).alloc _
  refine ⟨w2.heap.size, by rw [s2]; rfl, ⟨w.heap.size, 1, w1.heap.size, 0, [.slice none 0 0], [], Nat.le_refl _, ?_⟩, (k1.trans k2 (by simp)).trans k3 (by simp)⟩
  exact {
    hm := b3
    hs := k3.blk (k2.blk b1 (by simp)) (by simp)
    hl := rfl
    hp := by simp
    hcap := by simp
    hcl := rfl
    hcm := by unfold maxLen; omega
    hne := by omega
    he := fun i v l hv hl => by
      match i, hv, hl with
      | 0, hv, hl =>
        simp at hv hl
        subst hv; subst hl
        exact ⟨.inl ⟨rfl, rfl⟩, fun g hg => by simp [Value.ownBlock] at hg⟩
    hmap := ownsMap_keepsU o2 k3 (by simp)
    hb := ⟨by omega, Nat.le_refl _, by omega⟩
    hq := by simp
    hd := fun _ _ _ _ => by simp }
variable {w w' : World} {base m sb cap mb nb F : Nat} {Q : List Nat} {sv rest : List Value} {St : List (List Ent)} {D : DataW Unit}
/-- The map's entries have turned, nothing else. -/
theorem MO.turn (h : MO w base Q m sb cap mb nb sv rest St F D) {nb' : Nat} {D' : DataW Unit} (hg : w.grownBy w' (some mb)) (ho : w'.ownsMap Try.prog 84 (plainElem Try.prog 23) mb nb' D') : MO w' base Q m sb cap mb nb' sv rest St F D' :=
  have k : Keeps [mb] w w' := Keeps.of_grownBy hg [mb] (by simp)
  ⟨k.blk h.hm (by simpa using h.ne_map h.hm), k.blk h.hs (by simpa using h.ne_map h.hs), h.hl, h.hp, h.hcap, h.hcl, h.hcm, h.hne, fun i v l h1 h2 => ⟨(h.he i v l h1 h2).1.keeps k (fun g hg => by
    have ho := (h.he i v l h1 h2).1
    rcases ho with ⟨rfl, _⟩ | ⟨g', c, r, rfl, hb, _⟩
    · simp [Value.ownBlock] at hg
    · simp [Value.ownBlock] at hg; subst hg; simpa using h.ne_map hb), (h.he i v l h1 h2).2⟩, ho, h.hb, fun q hq => ⟨(h.hq q hq).1, (h.hq q hq).2.1, (h.hq q hq).2.2.1, Nat.lt_of_lt_of_le (h.hq q hq).2.2.2 k.size⟩, h.hd⟩
theorem MO.kpMap (h : MO w base Q m sb cap mb nb sv rest St F D) (hg : w.grownBy w' (some mb)) : Kp base Q w w' :=
  ⟨[mb], fun j hj => by
    simp only [List.mem_cons, List.mem_nil_iff, or_false] at hj
    subst hj
    exact ⟨h.hb.2.2, fun hq => (h.hq _ hq).2.2.1 rfl⟩, Keeps.of_grownBy hg [mb] (by simp)⟩
set_option maxHeartbeats 1000000 in
theorem mopen_any (h : MO w base Q m sb cap mb nb sv rest St F D) (hn : St.length ≤ 4096) (hnb : nb ≤ 4096) (t j : Nat) (k : Lit) (hk : IsKl t j k) :
    Calls Try.prog 21 #[.pointer (some ⟨m, 0, none⟩), .int .i64 (t : Int), .int .i64 (j : Int)] w fun e w' => e = .returned (.int .u64 ((St.length - 1 : Nat) : Int)) ∧ MOx w' base Q m (nb + 1) St F (D.put k (.lit (.int .u64 ((St.length - 1 : Nat) : Int)))) ∧ Kp base Q w w' := by
  obtain ⟨d0, d1, d2, d3, d4⟩ := h.hm.o3
  have hd := h.keeps ((Keeps.refl [] w).drew)
  obtain ⟨w1, hrun, ho1, hg1⟩ := hd.hmap.update lawK Try.underlying76 (by unfold maxLen; omega) hk (plainElem_int (H := Unit) (a := ((St.length - 1 : Nat) : Int)) Try.underlying23 (WalkArith.wf_u64 (by omega)))
  have hM1 := hd.turn hg1 ho1
  have kp1 := (Kp.of (base := base) (Q := Q) ((Keeps.refl [] w).drew)).trans (hd.kpMap hg1)
  have d2' := (hM1.hm.o3).2.2.1
  have ht := fun w' (k : Keeps [] w w') => time_any (h.keeps k) hn
  have ht1 := time_any hM1 hn
  have HM := Lib.hid hM1
  have HK := Lib.hid kp1
  clear hd ho1 hg1 hM1 kp1 h
  go_enter Try.func21, Try.ntmps21
  go_wp2_with fail
  go_region_held3 (fun w' => w'.cell? ⟨m, 2, none⟩ = some (.map (some mb)))
    (first | assumption | go_keep)
    ((go_at_call 24; refine (ht _ ((Keeps.refl [] w).drew)).mono ?_; rintro e w2 ⟨rfl, rfl⟩))
  all_goals (
    go_wp2_with fail
    refine ht1.mono ?_
    rintro e w7 ⟨rfl, rfl⟩
    go_wp2_with fail
    go_ret
    exact ⟨rfl, ⟨_, _, _, _, _, _, Nat.le_refl _, HM.out⟩, HK.out⟩)
theorem turned_grown {w w' : World} {b : Nat} (h : w.mapTurned w' b) : w.grownBy w' (some b) := by
  obtain ⟨es, clock, es', clock', hb, rfl⟩ := h
  exact ⟨rfl, rfl, rfl, by simp [setBlock], fun i _ hi => heap_setBlock_other hb _ (fun e => hi (by rw [e]))⟩
set_option maxHeartbeats 1000000 in
theorem mrel_any (h : MO w base Q m sb cap mb nb sv rest St F D) (t j : Nat) (k : Lit) (hk : IsKl t j k) :
    Calls Try.prog 22 #[.pointer (some ⟨m, 0, none⟩), .int .i64 (t : Int), .int .i64 (j : Int)] w fun e w' => e = .returned (.tuple #[]) ∧ MOx w' base Q m nb St F (D.del k) ∧ Kp base Q w w' := by
  obtain ⟨d0, d1, d2, d3, d4⟩ := h.hm.o3
  have H := Lib.hid h
  clear h
  go_enter Try.func22, Try.ntmps22
  go_wp2_with (at_delete; refine wpList_delete_own _ rfl _ _ 76 84 rfl 23 lawK Try.underlying76 _ mb nb D rfl H.out.hmap _ _ rfl hk ?_; intro w1 hown1 hturn1)
  go_end0
  have hg := turned_grown hturn1
  exact ⟨rfl, ⟨_, _, _, _, _, _, Nat.le_refl _, H.out.turn hg hown1⟩, H.out.kpMap hg⟩
end Go.Proofs.Ytnnpmpdlhojecaa
