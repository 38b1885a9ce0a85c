/- The reader of package script: the contracts of int, length and text. -/
import Derived.Test.YtkgmgnfcmnhhaaaScrB
namespace Go.Proofs.Ytkgmgnfcmnhhaaa
open Go.RowKit
set_option linter.unusedSectionVars false
set_option linter.unusedVariables false
set_option linter.unusedSimpArgs false
set_option maxRecDepth 20000
theorem wrap_toI (u : Nat) (h : u < 2 ^ 64) : IntKind.i64.wrap (u : Int) = toI u := by
  unfold toI
  rw [IntKind.wrap_i64]
  split <;> omega
theorem int_err (w : World) (g : Nat) (L : Str) (e : Int) (h : Rst w g L e) (he : e ≠ 0) :
    Calls Try.prog 24 #[.pointer (some ⟨g, 0, none⟩)] w fun q w' => q = .returned (.int .i64 0) ∧ Rst w' g L e ∧ Keeps [g] w w' := by
  have hv := varint_err w g L e h he
  go_enter Try.func24, Try.ntmps24
  go_wp2_with fail
  refine hv.mono ?_
  rintro q w1 ⟨rfl, h1, k1⟩
  go_wp2
  go_ret
  exact ⟨rfl, h1, k1⟩
theorem len_err (w : World) (g : Nat) (L : Str) (e : Int) (h : Rst w g L e) (he : e ≠ 0) :
    Calls Try.prog 27 #[.pointer (some ⟨g, 0, none⟩)] w fun q w' => q = .returned (.int .i64 0) ∧ Rst w' g L e ∧ Keeps [g] w w' := by
  have hv := varint_err w g L e h he
  go_enter Try.func27, Try.ntmps27
  go_wp2_with fail
  refine hv.mono ?_
  rintro q w1 ⟨rfl, h1, k1⟩
  obtain ⟨v, hb, A, cap, b, o, rfl, hA, hx, hn, hc, hm⟩ := id h1
  have c0 := hb.o2.1
  go_wp2
  all_goals go_ret
  all_goals exact ⟨rfl, h1, k1⟩
theorem int_ok (w : World) (g : Nat) (L : Str) (h : Rst w g L 0) :
    Calls Try.prog 24 #[.pointer (some ⟨g, 0, none⟩)] w (RdPost (rInt L) w g (fun n => .int .i64 n) (fun v => v = .int .i64 0)) := by
  have hv := varint_ok w g L h
  unfold rInt mapR
  cases hr : rv 0 L with
  | error e =>
    rw [hr] at hv
    have Hr := Lib.hid hr
    clear hr
    go_enter Try.func24, Try.ntmps24
    go_wp2_with fail
    refine hv.mono ?_
    rintro q w1 ⟨k1, ⟨v, rfl, rfl⟩, he, L', h1⟩
    have HE := Lib.hid he
    clear he
    go_wp2
    go_ret
    exact ⟨k1, ⟨_, rfl, rfl⟩, HE.out, _, h1⟩
  | ok z =>
    obtain ⟨u, r⟩ := z
    rw [hr] at hv
    have hw := wrap_toI u (law_num.bwd _ _ _ hr).2
    clear hr
    go_enter Try.func24, Try.ntmps24
    go_wp2_with fail
    refine hv.mono ?_
    rintro q w1 ⟨k1, rfl, h1⟩
    go_wp2
    go_ret
    refine ⟨k1, ?_, h1⟩
    simp [hw]
theorem len_ok (w : World) (g : Nat) (L : Str) (h : Rst w g L 0) :
    Calls Try.prog 27 #[.pointer (some ⟨g, 0, none⟩)] w (RdPost (rLen L) w g (fun n => .int .i64 (n : Int)) (fun v => v = .int .i64 0)) := by
  have hv := varint_ok w g L h
  unfold rLen
  cases hr : rv 0 L with
  | error e =>
    rw [hr] at hv
    have Hr := Lib.hid hr
    clear hr
    go_enter Try.func27, Try.ntmps27
    go_wp2_with fail
    refine hv.mono ?_
    rintro q w1 ⟨k1, ⟨v, rfl, rfl⟩, he, L', h1⟩
    have HE := Lib.hid he
    clear he
    obtain ⟨v, hb, A, cap, b, o, rfl, hA, hx, hn, hc, hm⟩ := id h1
    have c0 := hb.o2.1
    go_wp2
    all_goals go_ret
    all_goals exact ⟨k1, ⟨_, rfl, rfl⟩, HE.out, _, h1⟩
  | ok z =>
    obtain ⟨u, r⟩ := z
    rw [hr] at hv
    have hw := (law_num.bwd _ _ _ hr).2
    clear hr
    go_enter Try.func27, Try.ntmps27
    go_wp2_with fail
    refine hv.mono ?_
    rintro q w1 ⟨k1, rfl, h1⟩
    obtain ⟨v, hb, A, cap, b, o, rfl, hA, hx, hn, hc, hm⟩ := id h1
    have c0 := hb.o2.1
    have hf := fail_any w1 g r 0 11 h1
    rw [if_pos rfl] at hf
    by_cases hlt : r.length < u
    · simp only [if_pos hlt]
      have hi : (r.length : Int) < (u : Int) := by omega
      have H := Lib.hid hlt
      clear hlt hb hx hA
      go_wp2_with fail
      refine hf.mono ?_
      rintro q w2 ⟨rfl, h2, k2⟩
      have K2 := k1.trans k2 (by simp)
      go_wp2
      go_ret
      exact ⟨K2, ⟨_, rfl, rfl⟩, by omega, _, h2⟩
    · simp only [if_neg hlt]
      have hi : ¬ (r.length : Int) < (u : Int) := by omega
      have hu : u ≤ 9223372036854775807 := by omega
      clear hf hb hx hA
      go_wp2_with fail
      go_ret
      exact ⟨k1, rfl, h1⟩
end Go.Proofs.Ytkgmgnfcmnhhaaa
