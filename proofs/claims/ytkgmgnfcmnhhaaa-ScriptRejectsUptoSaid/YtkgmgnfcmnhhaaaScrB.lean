/- The reader of package script: the contract of varint. -/
import Derived.Test.YtkgmgnfcmnhhaaaScrA
import Derived.Test.YtkgmgnfcmnhhaaaScrC
namespace Go.Proofs.Ytkgmgnfcmnhhaaa
open Go.RowKit
set_option linter.unusedSectionVars false
set_option linter.unusedVariables false
set_option linter.unusedSimpArgs false
set_option maxRecDepth 20000
theorem Rst.err {w : World} {g : Nat} {L : Str} {e : Int} (h : Rst w g L e) : w.cell? ⟨g, 1, none⟩ = some (.int .i64 e) := by
  obtain ⟨v, hb, _⟩ := h
  exact hb.o2.2.1
theorem varint_err (w : World) (g : Nat) (L : Str) (e : Int) (h : Rst w g L e) (he : e ≠ 0) :
    Calls Try.prog 25 #[.pointer (some ⟨g, 0, none⟩)] w fun q w' => q = .returned (.int .u64 0) ∧ Rst w' g L e ∧ Keeps [g] w w' := by
  have h1 := h.err
  go_enter Try.func25, Try.ntmps25
  go_wp2_with fail
  go_loopw [3, 4] (fun u i wr => u = .int .u64 0 ∧ i = .int .i64 0 ∧ wr = w) (fun _ _ _ => 0)
  case atStart => exact ⟨rfl, rfl, rfl⟩
  case round =>
    obtain ⟨rfl, rfl, rfl⟩ := hrel
    go_wp2
    go_ret
    exact ⟨rfl, h, Keeps.refl _ _⟩
def RdPost {α : Type} (R : Rd α) (w : World) (g : Nat) (val : α → Value) (Z : Value → Prop) (q : Ending) (w' : World) : Prop :=
  Keeps [g] w w' ∧ match R with
    | .ok (x, r) => q = .returned (val x) ∧ Rst w' g r 0
    | .error e => (∃ v, q = .returned v ∧ Z v) ∧ e ≠ 0 ∧ ∃ L', Rst w' g L' e
theorem varint_ok (w : World) (g : Nat) (L : Str) (h : Rst w g L 0) :
    Calls Try.prog 25 #[.pointer (some ⟨g, 0, none⟩)] w (RdPost (rv 0 L) w g (fun u => .int .u64 (u : Int)) (fun v => v = .int .u64 0)) := by
  go_enter Try.func25, Try.ntmps25
  go_wp2_with fail
  go_loopw [3, 4] (fun u i wr => ∃ (k a : Nat) (M : Str), k ≤ 9 ∧ u = .int .u64 (a : Int) ∧ i = .int .i64 (k : Int) ∧ Hid (a < 2 ^ (7 * k) ∧ rv 0 L = (match rv k M with | .error e => .error e | .ok (x, r) => .ok (a + 2 ^ (7 * k) * x, r))) ∧ Rst wr g M 0 ∧ Keeps [g] w wr) (fun _ i _ => 9 - (intOf i).toNat)
  case atStart =>
    refine ⟨0, 0, L, by omega, rfl, rfl, Lib.hid ⟨by decide, ?_⟩, h, Keeps.refl _ _⟩
    cases rv 0 L with
    | error e => rfl
    | ok z => simp
  case round =>
    obtain ⟨k, a, M, hk, rfl, rfl, H, hM, kk⟩ := hrel
    have e1 := hM.err
    cases M with
    | nil =>
      have hby := byte_nil wr g hM
      have HR : Hid (rv 0 L = .error 11) := Lib.hid H.out.2
      go_wp2_with fail
      refine hby.mono ?_
      rintro q w1 ⟨rfl, h1, k1⟩
      have e2 := h1.err
      have K1 := kk.trans k1 (by simp)
      clear e1 hM hby
      simp only [vB]
      go_wp2
      go_ret
      refine ⟨K1, ?_⟩
      rw [HR.out]
      exact ⟨⟨_, rfl, rfl⟩, by omega, _, h1⟩
    | cons c r =>
      have hby := byte_cons wr g c r hM
      have hcl : c.toNat < 256 := c.toNat_lt
      have H2 := Lib.hid H.out.2
      have H1 := Lib.hid H.out.1
      clear H
      simp only [rv] at H2
      simp only [vB] at hby
      obtain ⟨m, hm⟩ : ∃ m, c.toNat = m := ⟨_, rfl⟩
      rw [hm] at hby hcl H2
      have Hm := Lib.hid hm
      clear hm
      go_wp2_with fail
      refine hby.mono ?_
      rintro q w1 ⟨rfl, h1, k1⟩
      have e2 := h1.err
      have K1 := kk.trans k1 (by simp)
      clear e1 hM hby
      by_cases hbad : k = 9 ∧ 1 < m ∨ 0 < k ∧ m = 0
      · have HR : Hid (rv 0 L = .error 12) := Lib.hid (by rw [H2.out, if_pos hbad])
        have hf := fail_any w1 g r 0 12 h1
        rw [if_pos rfl] at hf
        rcases hbad with ⟨rfl, hm⟩ | ⟨hk0, rfl⟩
        · go_wp2_with fail
          all_goals
            refine hf.mono ?_
            rintro q w2 ⟨rfl, h2, k2⟩
            have K2 := K1.trans k2 (by simp)
            clear e2
            go_wp2
            go_ret
            refine ⟨K2, ?_⟩
            rw [HR.out]
            exact ⟨⟨_, rfl, rfl⟩, by omega, _, h2⟩
        · go_wp2_with fail
          all_goals
            refine hf.mono ?_
            rintro q w2 ⟨rfl, h2, k2⟩
            have K2 := K1.trans k2 (by simp)
            clear e2
            go_wp2
            go_ret
            refine ⟨K2, ?_⟩
            rw [HR.out]
            exact ⟨⟨_, rfl, rfl⟩, by omega, _, h2⟩
      · have HB := Lib.hid hbad
        have HR := Lib.hid (show rv 0 L = _ from by rw [H2.out, if_neg hbad])
        have hput := b_put a m k H1.out hcl hk (by omega)
        have hlt : a + 2 ^ (7 * k) * (m % 128) < 2 ^ (7 * (k + 1)) := by
          have h1 := H1.out
          have e : 2 ^ (7 * (k + 1)) = 2 ^ (7 * k) * 128 := by rw [show 7 * (k + 1) = 7 * k + 7 by omega, Nat.pow_add]
          have : 2 ^ (7 * k) * (m % 128) ≤ 2 ^ (7 * k) * 127 := Nat.mul_le_mul_left _ (by omega)
          omega
        have HL := Lib.hid hlt
        have HP := Lib.hid hput
        clear hlt hput
        have hend : m < 128 → RdPost (rv 0 L) w g (fun u => .int .u64 (u : Int)) (fun v => v = .int .u64 0) (.returned (.int .u64 ((a + 2 ^ (7 * k) * (m % 128) : Nat) : Int))) w1 := fun hm => by
          refine ⟨K1, ?_⟩
          rw [HR.out, if_pos hm]
          simp only
          rw [Nat.mod_eq_of_lt hm]
          exact ⟨rfl, h1⟩
        have hnext : ¬ m < 128 → rv 0 L = (match rv (k + 1) r with | .error e => .error e | .ok (x, r) => .ok (a + 2 ^ (7 * k) * (m % 128) + 2 ^ (7 * (k + 1)) * x, r)) := fun hm => by
          rw [HR.out, if_neg hm]
          cases rv (k + 1) r with
          | error e => rfl
          | ok z =>
            simp only [Except.ok.injEq, Prod.mk.injEq, and_true]
            rw [show 7 * (k + 1) = 7 * k + 7 by omega, Nat.pow_add, Nat.mul_add, Nat.mul_assoc (2 ^ (7 * k)) (2 ^ 7)]
            simp only [Nat.add_assoc]
        have HE := Lib.hid hend
        have HN := Lib.hid hnext
        clear hend hnext
        by_cases h9 : k = 9
        · subst h9
          obtain rfl : m = 1 := by omega
          clear hbad
          go_wp2_with fail
          all_goals
            go_ret
            have := HE.out (by omega)
            rw [← HP.out] at this
            simpa using this
        · by_cases h0 : k = 0
          · subst h0
            clear hbad h9
            go_wp2_with fail
            · go_ret
              have := HE.out (by omega)
              rw [← HP.out] at this
              simpa using this
            · refine ⟨⟨1, a + 2 ^ (7 * 0) * (m % 128), r, by omega, ?_, rfl, Lib.hid ⟨HL.out, HN.out (by omega)⟩, h1, K1⟩, by simp [intOf]⟩
              have := HP.out
              rw [← this]
              simp
          · have hm0 : ¬ (m : Int) = 0 := by omega
            have hk9 : ¬ (k : Int) = 9 := by omega
            have hk0 : (0 : Int) < (k : Int) := by omega
            clear hbad
            go_wp2_with fail
            · go_ret
              have := HE.out (by omega)
              rw [← HP.out] at this
              exact this
            · refine ⟨⟨k + 1, a + 2 ^ (7 * k) * (m % 128), r, by omega, ?_, by simp, Lib.hid ⟨HL.out, HN.out (by omega)⟩, h1, K1⟩, by simp [intOf]; omega⟩
              rw [HP.out]
end Go.Proofs.Ytkgmgnfcmnhhaaa
