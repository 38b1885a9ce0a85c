/- Encodings of numbers, texts, lists and operations as bytes: what is written, what is read, and the laws. No program. -/
import Derived.Test.YtjmhnlbkfbieaaaGreatBatP
namespace Go.Proofs.YtjmhnlbkfbieaaaGreat
set_option linter.unusedVariables false
set_option linter.unusedSimpArgs false
/-- The bytes of a number. -/
def vi (u : Nat) : Str := if u < 128 then [UInt8.ofNat u] else UInt8.ofNat (u % 128 + 128) :: vi (u / 128)
termination_by u
decreasing_by omega
theorem vi_small {u : Nat} (h : u < 128) : vi u = [UInt8.ofNat u] := by rw [vi, if_pos h]
theorem vi_big {u : Nat} (h : 128 ≤ u) : vi u = UInt8.ofNat (u % 128 + 128) :: vi (u / 128) := by rw [vi, if_neg (by omega)]
theorem vi_pos (u : Nat) : 0 < (vi u).length := by
  rw [vi]; split <;> simp
/-- Reading: a value and the bytes behind it, or an error (11: too short, 12: not of the form). -/
abbrev Rd (α : Type) := Except Nat (α × Str)
def rv : Nat → Str → Rd Nat
  | _, [] => .error 11
  | i, c :: r =>
    if i = 9 ∧ 1 < c.toNat ∨ 0 < i ∧ c.toNat = 0 then .error 12
    else if c.toNat < 128 then .ok (c.toNat, r)
    else match rv (i + 1) r with
      | .error e => .error e
      | .ok (u, r') => .ok (c.toNat % 128 + 128 * u, r')
theorem toNat_ofNat {n : Nat} (h : n < 256) : (UInt8.ofNat n).toNat = n := by
  simp [UInt8.toNat_ofNat', Nat.mod_eq_of_lt h]
theorem ofNat_toNat (c : UInt8) : UInt8.ofNat c.toNat = c := by simp
/-- What is read from the bytes of a number. -/
theorem rv_vi (i u : Nat) (t : Str) (hi : i ≤ 9) (h : u < 2 ^ (64 - 7 * i)) (h0 : 0 < i → u ≠ 0) : rv i (vi u ++ t) = .ok (u, t) := by
  induction u using Nat.strongRecOn generalizing i with
  | _ u ih =>
    by_cases hu : u < 128
    · rw [vi_small hu]
      have hc : ¬ (i = 9 ∧ 1 < u ∨ 0 < i ∧ u = 0) := by
        rintro (⟨rfl, h1⟩ | ⟨h1, h2⟩)
        · simp at h; omega
        · exact h0 h1 h2
      simp only [List.cons_append, List.nil_append, rv, toNat_ofNat (show u < 256 by omega)]
      rw [if_neg hc, if_pos hu]
    · have hb : u % 128 + 128 < 256 := by omega
      rw [vi_big (by omega)]
      have hi9 : i ≠ 9 := by
        rintro rfl
        simp at h; omega
      have hc : ¬ (i = 9 ∧ 1 < u % 128 + 128 ∨ 0 < i ∧ u % 128 + 128 = 0) := by omega
      have hlt : u / 128 < 2 ^ (64 - 7 * (i + 1)) := by
        rw [Nat.div_lt_iff_lt_mul (by omega)]
        have : 2 ^ (64 - 7 * (i + 1)) * 128 = 2 ^ (64 - 7 * i) := by
          rw [show (128 : Nat) = 2 ^ 7 by decide, ← Nat.pow_add]
          congr 1
          omega
        omega
      simp only [List.cons_append, rv, toNat_ofNat hb]
      rw [if_neg hc, if_neg (by omega), ih (u / 128) (by omega) (i + 1) (by omega) hlt (by omega)]
      simp only [Except.ok.injEq, Prod.mk.injEq, and_true]
      omega
/-- What is read is the bytes of the number that is returned. -/
theorem rv_ok (b : Str) : ∀ (i u : Nat) (r : Str), i ≤ 9 → rv i b = .ok (u, r) → b = vi u ++ r ∧ u < 2 ^ (64 - 7 * i) ∧ (0 < i → u ≠ 0) := by
  induction b with
  | nil => intro i u r _ h; simp [rv] at h
  | cons c b ih =>
    intro i u r hi h
    simp only [rv] at h
    split at h
    · simp at h
    · rename_i hc
      split at h
      · rename_i hs
        simp only [Except.ok.injEq, Prod.mk.injEq] at h
        obtain ⟨rfl, rfl⟩ := h
        refine ⟨by rw [vi_small hs, ofNat_toNat]; rfl, ?_, fun h0 h1 => hc (.inr ⟨h0, h1⟩)⟩
        by_cases h9 : i = 9
        · subst h9
          have : ¬ 1 < c.toNat := fun h => hc (.inl ⟨rfl, h⟩)
          simp; omega
        · have : 2 ^ 7 ≤ 2 ^ (64 - 7 * i) := Nat.pow_le_pow_right (by omega) (by omega)
          omega
      · rename_i hs
        cases hr : rv (i + 1) b with
        | error e => simp [hr] at h
        | ok x =>
          obtain ⟨u', r'⟩ := x
          simp only [hr, Except.ok.injEq, Prod.mk.injEq] at h
          obtain ⟨rfl, rfl⟩ := h
          have hi9 : i ≠ 9 := by
            rintro rfl
            exact hc (.inl ⟨rfl, by omega⟩)
          obtain ⟨h1, h2, h3⟩ := ih (i + 1) u' r' (by omega) hr
          have h3 := h3 (by omega)
          have hcl : c.toNat < 256 := c.toNat_lt
          have hd : (c.toNat % 128 + 128 * u') / 128 = u' := by omega
          have hm : (c.toNat % 128 + 128 * u') % 128 + 128 = c.toNat := by omega
          refine ⟨?_, ?_, fun _ => by omega⟩
          · rw [vi_big (by omega), hd, hm, ofNat_toNat, h1]; rfl
          · have : 2 ^ (64 - 7 * (i + 1)) * 128 = 2 ^ (64 - 7 * i) := by
              rw [show (128 : Nat) = 2 ^ 7 by decide, ← Nat.pow_add]
              congr 1
              omega
            omega
/-- A proper beginning of the bytes of a number is too short. -/
theorem rv_pre (u : Nat) : ∀ (i : Nat) (p q : Str), i ≤ 9 → u < 2 ^ (64 - 7 * i) → p ++ q = vi u → q ≠ [] → rv i p = .error 11 := by
  induction u using Nat.strongRecOn with
  | _ u ih =>
    intro i p q hi h hp hq
    cases p with
    | nil => rfl
    | cons c p =>
      by_cases hu : u < 128
      · rw [vi_small hu] at hp
        simp only [List.cons_append, List.cons.injEq, List.append_eq_nil_iff] at hp
        exact absurd hp.2.2 hq
      · have hb : u % 128 + 128 < 256 := by omega
        rw [vi_big (by omega)] at hp
        simp only [List.cons_append, List.cons.injEq] at hp
        obtain ⟨rfl, hp⟩ := hp
        have hi9 : i ≠ 9 := by
          rintro rfl
          simp at h; omega
        have hlt : u / 128 < 2 ^ (64 - 7 * (i + 1)) := by
          rw [Nat.div_lt_iff_lt_mul (by omega)]
          have : 2 ^ (64 - 7 * (i + 1)) * 128 = 2 ^ (64 - 7 * i) := by
            rw [show (128 : Nat) = 2 ^ 7 by decide, ← Nat.pow_add]
            congr 1
            omega
          omega
        simp only [rv, toNat_ofNat hb]
        rw [if_neg (by omega), if_neg (by omega), ih (u / 128) (by omega) (i + 1) p q (by omega) hlt hp hq]
end Go.Proofs.YtjmhnlbkfbieaaaGreat
