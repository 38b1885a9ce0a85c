/- The contracts of slices.Clone at writes and at operations, and of engine.copyOps. -/
import Derived.Test.YtkgmgnfcmnhhaaaScrJ
namespace Go.Proofs.Ytkgmgnfcmnhhaaa
open Go.RowKit
set_option linter.unusedSectionVars false
set_option linter.unusedVariables false
set_option linter.unusedSimpArgs false
set_option maxRecDepth 20000
set_option maxHeartbeats 4000000
def CloQ (w : World) (n k : Nat) (cs : List Value) (q : Ending) (w' : World) : Prop :=
  ∃ v', q = .returned v' ∧ Row w' v' n k cs ∧ (∀ g, v'.ownBlock = some g → w.heap.size ≤ g) ∧ Keeps [] w w'
theorem cloW (b : List Wrt) (hn : b.length ≤ 1073741824) (A : Option Addr) (cap : Nat) (w : World) (hv : Lst w (.slice A b.length cap) b.length (wCs b)) :
    Calls Try.prog 53 #[.slice A b.length cap] w (CloQ w b.length 3 (wCs b)) := by
  obtain ⟨A0, cap0, bb, o, he, hA, har⟩ := hv
  injection he with e1 _ e2
  subst e1; subst e2
  obtain ⟨i0, hi0, hz0, hz1, hz2⟩ := info_parts infoW
  have q30 : ∀ (w : World) (a : Option Addr) (n c n' c' : Nat), (binOp .eql 43 (.slice a n c) (.slice none n' c')).run Try.prog w = .ok (.bool a.isNone) w := fun w a n c n' c' => Lib.run_eql_slice_nil w _ _ a n c n' c' Try.underlying43
  cases A with
  | none =>
    have h0 : b.length = 0 := by
      rcases Nat.eq_zero_or_pos b.length with h | h
      · exact h
      · exact absurd (hA h) (by simp)
    obtain rfl := List.eq_nil_of_length_eq_zero h0
    clear h0 hA har
    go_enter Try.func53, Try.ntmps53
    go_wp2
    go_ret
    exact ⟨_, rfl, Row.nil _ _, fun g hg => by simp [Value.ownBlock] at hg, Keeps.refl _ _⟩
  | some a =>
    have ka := (Keeps.refl [] w).alloc (.cells #[] 81)
    have hbk := Blk.new w [] 81
    change Blk (w.alloc (.cells #[] 81)) _ _ at hbk
    have hr0 : Row (w.alloc (.cells #[] 81)) (.slice (some ⟨w.heap.size, 0, none⟩) 0 0) 0 3 [] := ⟨by simp, .inr ⟨w.heap.size, 0, [], rfl, hbk, Nat.le_refl _, by unfold maxLen; omega, by simp⟩⟩
    have hsrc := Arr.src hA (har.keeps ka (by simp)) (by rw [wCs_length])
    obtain ⟨v', w', hr, r, k, f⟩ := row_append hr0 43 43 81 i0 _ 40 Try.underlying43 hi0 hz0 hz1 hz2 rfl (by decide) a b.length cap (wCs b) (wCs_length b) hsrc (fun u hu => wCs_one' hu) (by omega) (by decide)
    have hsz : (w.alloc (.cells #[] 81)).heap.size = w.heap.size + 1 := by simp
    rw [Nat.zero_add, List.nil_append] at r
    obtain ⟨A2, C2, rfl⟩ := r.len
    have hr' : ∀ ty, (Builtin.append_ #[43, 43] ty #[.slice (some ⟨w.heap.size, 0, none⟩) 0 0, .slice (some a) b.length cap]).run Try.prog (w.alloc (.cells #[] 81)) = .ok (.slice A2 b.length C2) w' := fun ty => by rw [← hr]; rfl
    have kk : Keeps [] w w' := ka.trans k (fun i hi => .inr (by simp [Value.ownBlock] at hi; omega))
    have hf : ∀ g, (Value.slice A2 b.length C2).ownBlock = some g → w.heap.size ≤ g := fun g hg => by
      rcases f g hg with h1 | h1
      · simp [Value.ownBlock] at h1; omega
      · omega
    obtain ⟨n, hn'⟩ : ∃ n, b.length = n := ⟨_, rfl⟩
    rw [hn'] at hr' r hf ⊢
    clear hn hn' hA har hr hsrc
    go_enter Try.func53, Try.ntmps53
    go_wp2_with (at_builtin; refine list_append_eq rfl _ _ 43 43 rfl _ _ rfl rfl (hr' _) ?_)
    go_ret
    exact ⟨_, rfl, r, hf, kk⟩
theorem cloO (b : List OV) (hn : b.length ≤ 1073741824) (A : Option Addr) (cap : Nat) (w : World) (hv : Lst w (.slice A b.length cap) b.length (oCs b)) :
    Calls Try.prog 54 #[.slice A b.length cap] w (CloQ w b.length 7 (oCs b)) := by
  obtain ⟨A0, cap0, bb, o, he, hA, har⟩ := hv
  injection he with e1 _ e2
  subst e1; subst e2
  obtain ⟨i0, hi0, hz0, hz1, hz2⟩ := info_parts infoO
  have q30 : ∀ (w : World) (a : Option Addr) (n c n' c' : Nat), (binOp .eql 22 (.slice a n c) (.slice none n' c')).run Try.prog w = .ok (.bool a.isNone) w := fun w a n c n' c' => Lib.run_eql_slice_nil w _ _ a n c n' c' Try.underlying22
  cases A with
  | none =>
    have h0 : b.length = 0 := by
      rcases Nat.eq_zero_or_pos b.length with h | h
      · exact h
      · exact absurd (hA h) (by simp)
    obtain rfl := List.eq_nil_of_length_eq_zero h0
    clear h0 hA har
    go_enter Try.func54, Try.ntmps54
    go_wp2
    go_ret
    exact ⟨_, rfl, Row.nil _ _, fun g hg => by simp [Value.ownBlock] at hg, Keeps.refl _ _⟩
  | some a =>
    have ka := (Keeps.refl [] w).alloc (.cells #[] 45)
    have hbk := Blk.new w [] 45
    change Blk (w.alloc (.cells #[] 45)) _ _ at hbk
    have hr0 : Row (w.alloc (.cells #[] 45)) (.slice (some ⟨w.heap.size, 0, none⟩) 0 0) 0 7 [] := ⟨by simp, .inr ⟨w.heap.size, 0, [], rfl, hbk, Nat.le_refl _, by unfold maxLen; omega, by simp⟩⟩
    have hsrc := Arr.src hA (har.keeps ka (by simp)) (oCs_len b)
    obtain ⟨v', w', hr, r, k, f⟩ := row_append hr0 22 22 45 i0 _ 80 Try.underlying22 hi0 hz0 hz1 hz2 rfl (by decide) a b.length cap (oCs b) (oCs_len b) hsrc (fun u hu => by
      obtain ⟨x, _, hx⟩ := List.mem_flatMap.1 hu
      exact oC_one x u hx) (by omega) (by decide)
    have hsz : (w.alloc (.cells #[] 45)).heap.size = w.heap.size + 1 := by simp
    rw [Nat.zero_add, List.nil_append] at r
    obtain ⟨A2, C2, rfl⟩ := r.len
    have hr' : ∀ ty, (Builtin.append_ #[22, 22] ty #[.slice (some ⟨w.heap.size, 0, none⟩) 0 0, .slice (some a) b.length cap]).run Try.prog (w.alloc (.cells #[] 45)) = .ok (.slice A2 b.length C2) w' := fun ty => by rw [← hr]; rfl
    have kk : Keeps [] w w' := ka.trans k (fun i hi => .inr (by simp [Value.ownBlock] at hi; omega))
    have hf : ∀ g, (Value.slice A2 b.length C2).ownBlock = some g → w.heap.size ≤ g := fun g hg => by
      rcases f g hg with h1 | h1
      · simp [Value.ownBlock] at h1; omega
      · omega
    obtain ⟨n, hn'⟩ : ∃ n, b.length = n := ⟨_, rfl⟩
    rw [hn'] at hr' r hf ⊢
    clear hn hn' hA har hr hsrc
    go_enter Try.func54, Try.ntmps54
    go_wp2_with (at_builtin; refine list_append_eq rfl _ _ 22 22 rfl _ _ rfl rfl (hr' _) ?_)
    go_ret
    exact ⟨_, rfl, r, hf, kk⟩
theorem set_op {xs : List OV} {q : Nat} {x x' : OV} {rest : List Value} {f : Nat} {v : Value} (h : xs[q]? = some x) (hf : f < 7) (hx : oC x' = (oC x).set f v) : (oCs xs ++ rest).set (q * 7 + f) v = oCs (xs.set q x') ++ rest := by
  induction xs generalizing q with
  | nil => simp at h
  | cons y ys ih =>
    cases q with
    | zero =>
      simp at h; subst h
      rw [Nat.zero_mul, Nat.zero_add, List.set_cons_zero, oCs_cons, oCs_cons, hx, List.append_assoc, List.append_assoc, List.set_append_left _ _ (by rw [oC_len]; exact hf)]
    | succ q =>
      rw [List.set_cons_succ, oCs_cons, oCs_cons, List.append_assoc, List.append_assoc, List.set_append_right _ _ (by rw [oC_len]; omega), ← ih (by simpa using h)]
      congr 2
      rw [oC_len]; omega
/-- Operations in a row of their own, their batches where they may be. -/
theorem cpo_any (b : List OV) (hn : b.length ≤ 1073741824) (hb : ∀ x ∈ b, x.b.length ≤ 1073741824) (A : Option Addr) (cap : Nat) (w : World) (hv : Lst w (.slice A b.length cap) b.length (oCs b)) (hk : ∀ x ∈ b, OkB w x) :
    Calls Try.prog 40 #[.slice A b.length cap] w fun q w' => ∃ v' l, q = .returned v' ∧ l.length = b.length ∧ Row w' v' b.length 7 (oCs l) ∧ Keeps [] w w' := by
  have hq := cloO b hn A cap w hv
  obtain ⟨n, hnn⟩ : ∃ n, b.length = n := ⟨_, rfl⟩
  rw [hnn] at hq hn ⊢
  have Hn := Lib.hid hnn
  clear hnn hv
  go_enter Try.func40, Try.ntmps40
  go_wp2_with fail
  refine hq.mono ?_
  rintro q w1 ⟨v1, rfl, r1, f1, k1⟩
  clear hq
  obtain ⟨A1, C1, rfl⟩ := r1.len
  go_wp2_with fail
  go_loopw [9] (fun i wr => ∃ (k : Nat) (l : List OV), i = .int .i64 (k : Int) ∧ k ≤ n ∧ l.length = n ∧ Row wr (.slice A1 n C1) n 7 (oCs l) ∧ Keeps [] w wr ∧ Hid (l.drop k = b.drop k)) (fun i _ => n - (intOf i).toNat)
  case atStart => exact ⟨0, b, rfl, by omega, Hn.out, r1, k1, Lib.hid rfl⟩
  case round =>
    obtain ⟨k, l, rfl, hkl, hll, r, K, hd⟩ := hrel
    by_cases hkn : k < n
    · have hkx : k < b.length := by rw [Hn.out]; exact hkn
      obtain ⟨x, hx⟩ : ∃ x, b[k]? = some x := ⟨_, List.getElem?_eq_getElem hkx⟩
      have hxm := List.mem_of_getElem? hx
      have hlx : l[k]? = some x := by
        have h1 := congrArg (fun l => l[0]?) hd.out
        simpa [List.getElem?_drop, hx] using h1
      obtain ⟨h1, h | ⟨g, cap', rest, hvv, hbk, h2, h3, h4⟩⟩ := r
      · omega
      · injection hvv with e1 _ e2
        subst e1
        subst e2
        have hgw : w.heap.size ≤ g := f1 g (by simp [Value.ownBlock])
        have c3 := hbk.cell (k * 7 + 3)
        rw [oCs_cells l rest k x hlx 3 (by omega)] at c3
        simp only [oC, List.getElem?_cons_succ, List.getElem?_cons_zero] at c3
        have gf := hbk.frozen (k * 7 + 3)
        have gl := hbk.lt
        have hq := cloW x.b (hb x hxm) x.bA x.bc wr ((hk x hxm).keeps K)
        obtain ⟨m, hm⟩ : ∃ m, x.b.length = m := ⟨_, rfl⟩
        have Hm := Lib.hid hm
        rw [hm] at hq c3
        clear hm
        have hkn' : k < n := hkn
        go_wp2_with fail
        refine hq.mono ?_
        rintro q w3 ⟨v3, rfl, r3, f3, k3⟩
        obtain ⟨A3, C3, rfl⟩ := r3.len
        have hbk3 := k3.blk hbk (by simp)
        have gf3 := hbk3.frozen (k * 7 + 3)
        have gl3 := hbk3.lt
        have c33 := hbk3.cell (k * 7 + 3)
        rw [oCs_cells l rest k x hlx 3 (by omega)] at c33
        simp only [oC, List.getElem?_cons_succ, List.getElem?_cons_zero] at c33
        have hs := hbk3.set (k * 7 + 3) (.slice A3 m C3)
        rw [set_op (x' := { x with bA := A3, bc := C3 }) hlx (by omega) (by simp [oC, Hm.out])] at hs
        have kS := (Keeps.refl [g] w3).setCell ⟨g, k * 7 + 3, none⟩ (.slice A3 m C3) (.inl (by simp))
        have KK : Keeps [] w (w3.setCell ⟨g, k * 7 + 3, none⟩ (.slice A3 m C3)) := (K.trans k3 (by simp)).trans kS (by simp; omega)
        have hr2 : Row (w3.setCell ⟨g, k * 7 + 3, none⟩ (.slice A3 m C3)) (.slice (some ⟨g, 0, none⟩) n C1) n 7 (oCs (l.set k { x with bA := A3, bc := C3 })) := by
          refine ⟨by rw [oCs_len, List.length_set, hll], .inr ⟨g, C1, rest, rfl, hs, h2, h3, ?_⟩⟩
          rw [List.length_append, oCs_len, List.length_set, ← oCs_len l, ← List.length_append]
          exact h4
        have hd2 : Hid ((l.set k { x with bA := A3, bc := C3 }).drop (k + 1) = b.drop (k + 1)) := Lib.hid (by
          rw [List.drop_set_of_lt (by omega)]
          have := congrArg (List.drop 1) hd.out
          rwa [List.drop_drop, List.drop_drop] at this)
        rw [Hm.out] at c33
        clear hs hbk3 hbk h4 h1 hq c3 hlx hx hd
        go_wp2_with fail
        exact ⟨⟨k + 1, _, by go_num, by omega, by rw [List.length_set]; exact hll, hr2, KK, hd2⟩, by simp [intOf] <;> omega⟩
    · obtain rfl : k = n := by omega
      go_wp2_with fail
      go_ret
      exact ⟨_, l, rfl, hll, r, K⟩
end Go.Proofs.Ytkgmgnfcmnhhaaa
