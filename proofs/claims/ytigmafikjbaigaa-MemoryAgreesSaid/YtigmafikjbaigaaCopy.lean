/- The contract of (*Memory).Copy and of blinktreekit.Same at cells. -/
import Derived.Test.YtigmafikjbaigaaKit
import Derived.Deep.RegionLawGrows
import Derived.Deep.AppendLies
namespace Go.Proofs.Ytigmafikjbaigaa
open Go.RowKit
theorem own_blk {w : World} {base e size n : Nat} {v : Value} {xs : List Value} (h : w.ownsRow base e size v n xs) (hn : 0 < n) :
    ∃ g cap rest, v = .slice (some ⟨g, 0, none⟩) n cap ∧ base ≤ g ∧ Blk w g (xs ++ rest) := by
  obtain ⟨h1, h2⟩ := h
  rcases h2 with ⟨_, h0⟩ | ⟨g, cap, cur, hv, hg, hh, hnc, hcap, hsz, htk⟩
  · omega
  · refine ⟨g, cap, cur.toList.drop (n * size), hv, hg, e, ?_⟩
    rw [hh, ← htk, List.take_append_drop]
theorem Keeps.of_grown {w w' : World} (h : w.grownBy w' none) : Keeps [] w w' := ⟨h.os, h.tape, h.output, h.size, fun k hk _ => h.block k hk (by simp)⟩
theorem flat_one (L : List C3) : ∀ u, u ∈ flat L → u.oneCell' = true := by
  induction L with
  | nil => simp [flat]
  | cons x l ih => intro u hu; simp only [flat, List.mem_cons] at hu; rcases hu with rfl | rfl | rfl | hu <;> first | rfl | exact ih u hu
set_option maxHeartbeats 400000 in
theorem copy_any (w : World) (m c : Nat) (L : List C3) (n : Int) (h : MemAt w m c L n) :
    Calls Try.prog 31 #[.pointer (some ⟨m, 0, none⟩)] w fun e w' =>
      ∃ m' c', e = .returned (.pointer (some ⟨m', 0, none⟩)) ∧ MemAt w' m' c' L n ∧ w.heap.size ≤ m' ∧ w.heap.size ≤ c' ∧ Keeps [] w w' := by
  obtain ⟨⟨cap, h0⟩, h1, hfm, hfc, lm, lc⟩ := h.facts
  have hs := h.small
  have hp := h.pos
  obtain ⟨i0, hi, hz0, hz1, hz2⟩ := info_parts infoCell
  go_enter Try.func31, Try.ntmps31
  go_wp2_with fail
  have hc3 : ∀ j u, (flat L)[j]? = some u → w.drew.cell? ((⟨c, 0, none⟩ : Addr).add j) = some u := fun j u hu => by
    obtain ⟨r, hb⟩ := h.cells
    rw [Go.WideShapes.add_plain, Nat.zero_add, World.cell?_drew, hb.cell, List.getElem?_append_left (List.getElem?_eq_some_iff.1 hu).1]
    exact hu
  have hq : ∀ w' : World, w.drew.grownBy w' none → w'.cell? ⟨m, 1, none⟩ = some (.int .u64 n) := fun w' hg => hg.cell (w := w.drew) h1 (by simp)
  have hcell0 : ∀ w' : World, w.drew.grownBy w' none → w'.cell? ⟨m, 0, none⟩ = some (.slice (some ⟨c, 0, none⟩) L.length cap) := fun w' hg => hg.cell (w := w.drew) h0 (by simp)
  have Hq := Lib.hid hq
  have Hc := Lib.hid hc3
  have H0 := Lib.hid hcell0
  clear hq hc3 hcell0
  go_region_law (refine step_append_grows rfl (.const (.slice none 0 0)) (.tmp 6) 44 rfl 36 i0 _ 3 32 Try.underlying44 hi hz0 hz1 hz2 rfl (by decide) none 0 0 [] rfl (fun _ => ⟨rfl, rfl⟩) rfl (fun b hb => by cases hb) ⟨c, 0, none⟩ L.length cap (flat L) (by simp [Act.eval]) (flat_length L) (by exact Hc.out) (flat_one L) (by omega) (by unfold maxLen; omega) (by omega) ?_; intro v' v'w hown hgrow; have q1 := Hq.out v'w hgrow; have q0 := H0.out v'w hgrow; obtain ⟨g, cp, rest, hv, hgl, hgb⟩ := own_blk hown (by omega); rw [hv]; clear hv)
  all_goals go_wp2_with fail
  all_goals go_ret
  all_goals
    have hgs := hgrow.size
    have hgl2 := hgb.lt
    refine ⟨_, g, rfl, ⟨⟨cp, by simpa using Blk.new v'w [.slice (some ⟨g, 0, none⟩) L.length cp, .int .u64 n] 64⟩, ⟨rest, by simpa using hgb.alloc _⟩, by omega, hs, hp⟩, by simpa using hgs, by simpa using hgl, ((Keeps.refl [] w).drew.trans (Keeps.of_grown hgrow) (by simp)).alloc _⟩
set_option maxHeartbeats 400000 in
theorem same_cells (w : World) (b1 b2 c1 c2 : Nat) (X : List C3) (r1 r2 : List Value) (h1 : Blk w b1 (flat X ++ r1)) (h2 : Blk w b2 (flat X ++ r2)) (hx : X.length ≤ 1048577) :
    Calls Try.prog 34 #[.slice (some ⟨b1, 0, none⟩) X.length c1, .slice (some ⟨b2, 0, none⟩) X.length c2] w fun e w' => e = .returned (.bool true) ∧ Keeps [] w w' := by
  have l1 := h1.lt
  have l2 := h2.lt
  go_enter Try.func34, Try.ntmps34
  go_wp2_with fail
  go_loopw [5] (fun i wr => ∃ k j : Nat, k ≤ X.length ∧ i = .int .i64 k ∧ wr = w.drewN j) (fun i _ => X.length - (intOf i).toNat)
  case atStart => exact ⟨0, 0, by omega, rfl, rfl⟩
  case round =>
    obtain ⟨k, j, hk, rfl, rfl⟩ := hrel
    by_cases hlt : k < X.length
    · obtain ⟨y, hy⟩ : ∃ y, X[k]? = some y := ⟨X[k], by simp [hlt]⟩
      obtain ⟨f0, f1, f2⟩ := flat_cells h1 k y hy
      obtain ⟨g0, g1, g2⟩ := flat_cells h2 k y hy
      have hi1 : (k : Int) < (X.length : Int) := by omega
      clear hy
      go_wp2_with fail
      go_quiet (fail)
      go_wp2_with fail
      go_roundw
      case rel => exact ⟨k + 1, _, by omega, by go_num, rfl⟩
      case measure => simp [intOf]; omega
    · obtain rfl : k = X.length := by omega
      go_wp2_with fail
      go_ret
      exact ⟨rfl, (Keeps.refl _ _).drewN _⟩
end Go.Proofs.Ytigmafikjbaigaa
