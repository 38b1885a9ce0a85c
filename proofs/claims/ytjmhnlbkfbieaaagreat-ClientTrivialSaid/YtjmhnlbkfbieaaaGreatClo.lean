/- The contract of slices.Clone at writes (for seats without the package engine). -/
import Derived.Test.YtjmhnlbkfbieaaaGreatScrJ
namespace Go.Proofs.YtjmhnlbkfbieaaaGreat
open Go.RowKit
set_option linter.unusedSectionVars false
set_option linter.unusedVariables false
set_option linter.unusedSimpArgs false
set_option maxRecDepth 20000
set_option maxHeartbeats 4000000
def CloQ (w : World) (n k : Nat) (cs : List Value) (q : Ending) (w' : World) : Prop :=
  ∃ v', q = .returned v' ∧ Row w' v' n k cs ∧ (∀ g, v'.ownBlock = some g → w.heap.size ≤ g) ∧ Keeps [] w w'
theorem cloW (b : List Wrt) (hn : b.length ≤ 1073741824) (A : Option Addr) (cap : Nat) (w : World) (hv : Lst w (.slice A b.length cap) b.length (wCs b)) :
    Calls Tryz.prog 24 #[.slice A b.length cap] w (CloQ w b.length 3 (wCs b)) := by
  obtain ⟨A0, cap0, bb, o, he, hA, har⟩ := hv
  injection he with e1 _ e2
  subst e1; subst e2
  obtain ⟨i0, hi0, hz0, hz1, hz2⟩ := info_parts infoW
  have q30 : ∀ (w : World) (a : Option Addr) (n c n' c' : Nat), (binOp .eql 23 (.slice a n c) (.slice none n' c')).run Tryz.prog w = .ok (.bool a.isNone) w := fun w a n c n' c' => Lib.run_eql_slice_nil w _ _ a n c n' c' Tryz.underlying23
  cases A with
  | none =>
    have h0 : b.length = 0 := by
      rcases Nat.eq_zero_or_pos b.length with h | h
      · exact h
      · exact absurd (hA h) (by simp)
    obtain rfl := List.eq_nil_of_length_eq_zero h0
    clear h0 hA har
    go_enter Tryz.func24, Tryz.ntmps24
    go_wp2
    go_ret
    exact ⟨_, rfl, Row.nil _ _, fun g hg => by simp [Value.ownBlock] at hg, Keeps.refl _ _⟩
  | some a =>
    have ka := (Keeps.refl [] w).alloc (.cells #[] 45)
    have hbk := Blk.new w [] 45
    change Blk (w.alloc (.cells #[] 45)) _ _ at hbk
    have hr0 : Row (w.alloc (.cells #[] 45)) (.slice (some ⟨w.heap.size, 0, none⟩) 0 0) 0 3 [] := ⟨by simp, .inr ⟨w.heap.size, 0, [], rfl, hbk, Nat.le_refl _, by unfold maxLen; omega, by simp⟩⟩
    have hsrc := Arr.src hA (har.keeps ka (by simp)) (by rw [wCs_length])
    obtain ⟨v', w', hr, r, k, f⟩ := row_append hr0 23 23 45 i0 _ 40 Tryz.underlying23 hi0 hz0 hz1 hz2 rfl (by decide) a b.length cap (wCs b) (wCs_length b) hsrc (fun u hu => wCs_one' hu) (by omega) (by decide)
    have hsz : (w.alloc (.cells #[] 45)).heap.size = w.heap.size + 1 := by simp
    rw [Nat.zero_add, List.nil_append] at r
    obtain ⟨A2, C2, rfl⟩ := r.len
    have hr' : ∀ ty, (Builtin.append_ #[23, 23] ty #[.slice (some ⟨w.heap.size, 0, none⟩) 0 0, .slice (some a) b.length cap]).run Tryz.prog (w.alloc (.cells #[] 45)) = .ok (.slice A2 b.length C2) w' := fun ty => by rw [← hr]; rfl
    have kk : Keeps [] w w' := ka.trans k (fun i hi => .inr (by simp [Value.ownBlock] at hi; omega))
    have hf : ∀ g, (Value.slice A2 b.length C2).ownBlock = some g → w.heap.size ≤ g := fun g hg => by
      rcases f g hg with h1 | h1
      · simp [Value.ownBlock] at h1; omega
      · omega
    obtain ⟨n, hn'⟩ : ∃ n, b.length = n := ⟨_, rfl⟩
    rw [hn'] at hr' r hf ⊢
    clear hn hn' hA har hr hsrc
    go_enter Tryz.func24, Tryz.ntmps24
    go_wp2_with (at_builtin; refine list_append_eq rfl _ _ 23 23 rfl _ _ rfl rfl (hr' _) ?_)
    go_ret
    exact ⟨_, rfl, r, hf, kk⟩
theorem set_op {xs : List OV} {q : Nat} {x x' : OV} {rest : List Value} {f : Nat} {v : Value} (h : xs[q]? = some x) (hf : f < 7) (hx : oC x' = (oC x).set f v) : (oCs xs ++ rest).set (q * 7 + f) v = oCs (xs.set q x') ++ rest := by
  induction xs generalizing q with
  | nil => simp at h
  | cons y ys ih =>
    cases q with
    | zero =>
      simp at h; subst h
      rw [Nat.zero_mul, Nat.zero_add, List.set_cons_zero, oCs_cons, oCs_cons, hx, List.append_assoc, List.append_assoc, List.set_append_left _ _ (by rw [oC_len]; exact hf)]
    | succ q =>
      rw [List.set_cons_succ, oCs_cons, oCs_cons, List.append_assoc, List.append_assoc, List.set_append_right _ _ (by rw [oC_len]; omega), ← ih (by simpa using h)]
      congr 2
      rw [oC_len]; omega
end Go.Proofs.YtjmhnlbkfbieaaaGreat
