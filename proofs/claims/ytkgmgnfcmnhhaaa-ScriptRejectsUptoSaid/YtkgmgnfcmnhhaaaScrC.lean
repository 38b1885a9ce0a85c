/- Plain laws on the bits of bytes and words, as a varint puts them together. -/
import Derived.WalkKit
namespace Go.Proofs.Ytkgmgnfcmnhhaaa
set_option linter.unusedSimpArgs false
theorem and127 (m : Nat) : m &&& 127 = m % 128 := Nat.and_two_pow_sub_one_eq_mod m 7
theorem b_and8 (m : Nat) (h : m < 256) : bits .and .u8 (m : Int) 127 = ((m % 128 : Nat) : Int) := by
  have : ∀ m : Fin 256, bits .and .u8 ((m.val : Nat) : Int) 127 = ((m.val % 128 : Nat) : Int) := by decide +kernel
  exact this ⟨m, h⟩
theorem or_parts (a x k : Nat) (h : a < 2 ^ k) : a ||| (x * 2 ^ k) = a + 2 ^ k * x := by
  rw [Nat.mul_comm x, Nat.or_comm, ← Nat.two_pow_add_eq_or_of_lt h, Nat.add_comm]
theorem b_put (a m k : Nat) (ha : a < 2 ^ (7 * k)) (hm : m < 256) (hk : k ≤ 9) (h9 : k = 9 → m ≤ 1) :
    bits .or .u64 (a : Int) (IntKind.u64.wrap (IntKind.u64.wrap (bits .and .u8 (m : Int) 127) * 2 ^ (7 * k))) = ((a + 2 ^ (7 * k) * (m % 128) : Nat) : Int) := by
  have hx : (m % 128) * 2 ^ (7 * k) < 18446744073709551616 := by
    by_cases h : k = 9
    · subst h
      have : m % 128 ≤ 1 := by have := h9 rfl; omega
      calc (m % 128) * 2 ^ (7 * 9) ≤ 1 * 2 ^ (7 * 9) := Nat.mul_le_mul_right _ this
        _ < _ := by decide
    · calc (m % 128) * 2 ^ (7 * k) ≤ 127 * 2 ^ (7 * 8) := Nat.mul_le_mul (by omega) (Nat.pow_le_pow_right (by omega) (by omega))
        _ < _ := by decide
  have ha' : a < 18446744073709551616 := Nat.lt_of_lt_of_le ha (by
    calc 2 ^ (7 * k) ≤ 2 ^ 64 := Nat.pow_le_pow_right (by omega) (by omega)
      _ ≤ _ := by decide)
  have e : ((m % 128 : Nat) : Int) * 2 ^ (7 * k) = (((m % 128) * 2 ^ (7 * k) : Nat) : Int) := by
    push_cast
    rfl
  have w2 : ∀ n : Nat, n < 18446744073709551616 → IntKind.u64.wrap (n : Int) = (n : Int) := fun n h => by
    rw [IntKind.wrap_u64]
    omega
  have w1 := w2 (m % 128) (by omega)
  rw [b_and8 m hm, w1, e, w2 _ hx, bits_or_u64_nat _ _ ha' hx, or_parts _ _ _ ha]
end Go.Proofs.Ytkgmgnfcmnhhaaa
