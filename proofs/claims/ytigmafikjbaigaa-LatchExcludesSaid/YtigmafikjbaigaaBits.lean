/- Plain laws on the bits of a 64-bit word, against the masks 1 and 2. No condition but that the word is a word. -/
import Derived.WalkKit
namespace Go.Proofs.Ytigmafikjbaigaa
theorem bits_andNot_u64_nat (a b : Nat) (ha : a < 18446744073709551616) (hb : b < 18446744073709551616) :
    bits .andNot .u64 (a : Int) (b : Int) = ((a &&& (2 ^ 64 - (b + 1)) : Nat) : Int) := by
  have h1 : (BitVec.ofInt 64 (a : Int)) = BitVec.ofNat 64 a := by simp
  have h2 : (BitVec.ofInt 64 (b : Int)) = BitVec.ofNat 64 b := by simp
  have h3 : (BitVec.ofNat 64 a &&& ~~~BitVec.ofNat 64 b).toNat = a &&& (2 ^ 64 - (b + 1)) := by
    rw [BitVec.toNat_and, BitVec.toNat_not, BitVec.toNat_ofNat, BitVec.toNat_ofNat, Nat.mod_eq_of_lt (by omega), Nat.mod_eq_of_lt (by omega)]
    congr 1
    omega
  have h4 : a &&& (2 ^ 64 - (b + 1)) ≤ a := Nat.and_le_left
  simp only [bits, IntKind.bits]
  show IntKind.u64.wrap ((BitVec.ofInt 64 (a : Int) &&& ~~~BitVec.ofInt 64 (b : Int)).toNat : Int) = _
  rw [h1, h2, h3, IntKind.wrap_u64]
  omega
theorem andNot1 (n : Nat) (h : n < 18446744073709551616) : n &&& (2 ^ 64 - (1 + 1)) = n / 2 * 2 := by
  refine Nat.eq_of_testBit_eq fun i => ?_
  have e : n / 2 * 2 = 2 ^ 1 * (n / 2 ^ 1) + 0 := by omega
  rw [e, Nat.testBit_two_pow_mul_add _ (by omega), Nat.testBit_and, Nat.testBit_two_pow_sub_succ (by decide), Nat.testBit_div_two_pow]
  by_cases hi : i < 1
  · obtain rfl : i = 0 := by omega
    simp
  · have h1 : Nat.testBit 1 i = false := by
      rw [Nat.testBit_eq_decide_div_mod_eq]
      have : 1 / 2 ^ i = 0 := Nat.div_eq_of_lt (by have := Nat.pow_lt_pow_right (a := 2) (by omega) (show 0 < i by omega); simpa using this)
      simp [this]
    rw [if_neg hi, h1]
    have : i - 1 + 1 = i := by omega
    rw [this]
    by_cases h64 : i < 64
    · simp [h64]
    · have : n.testBit i = false := Nat.testBit_lt_two_pow (Nat.lt_of_lt_of_le h (by have := Nat.pow_le_pow_right (n := 2) (by omega) (show 64 ≤ i by omega); simpa using this))
      simp [this]
theorem andNot2 (n : Nat) (h : n < 18446744073709551616) : n &&& (2 ^ 64 - (2 + 1)) = n / 4 * 4 + n % 2 := by
  refine Nat.eq_of_testBit_eq fun i => ?_
  have e : n / 4 * 4 + n % 2 = 2 ^ 2 * (n / 2 ^ 2) + n % 2 := by omega
  rw [e, Nat.testBit_two_pow_mul_add _ (by omega), Nat.testBit_and, Nat.testBit_two_pow_sub_succ (by decide), Nat.testBit_div_two_pow]
  by_cases hi : i < 2
  · have : i = 0 ∨ i = 1 := by omega
    rcases this with rfl | rfl
    · simp
    · simp [Nat.testBit_eq_decide_div_mod_eq]
  · have h1 : Nat.testBit 2 i = false := by
      rw [Nat.testBit_eq_decide_div_mod_eq]
      have : 2 / 2 ^ i = 0 := Nat.div_eq_of_lt (by have := Nat.pow_lt_pow_right (a := 2) (by omega) (show 1 < i by omega); simpa using this)
      simp [this]
    rw [if_neg hi, h1]
    have : i - 2 + 2 = i := by omega
    rw [this]
    by_cases h64 : i < 64
    · simp [h64]
    · have : n.testBit i = false := Nat.testBit_lt_two_pow (Nat.lt_of_lt_of_le h (by have := Nat.pow_le_pow_right (n := 2) (by omega) (show 64 ≤ i by omega); simpa using this))
      simp [this]
theorem or1 (n : Nat) : n ||| 1 = n / 2 * 2 + 1 := by
  have e : n = 2 ^ 1 * (n / 2) + n % 2 := by omega
  have e2 : n = 2 ^ 1 * (n / 2) ||| n % 2 := by rw [← Nat.two_pow_add_eq_or_of_lt (by omega)]; exact e
  have e3 : n ||| 1 = 2 ^ 1 * (n / 2) ||| (n % 2 ||| 1) := by rw [← Nat.or_assoc, ← e2]
  have e4 : n % 2 ||| 1 = 1 := by rcases (by omega : n % 2 = 0 ∨ n % 2 = 1) with h | h <;> rw [h] <;> rfl
  rw [e3, e4, ← Nat.two_pow_add_eq_or_of_lt (by omega)]
  omega
theorem or2 (n : Nat) : n ||| 2 = n / 4 * 4 + 2 + n % 2 := by
  have e : n = 2 ^ 2 * (n / 4) + n % 4 := by omega
  have e2 : n = 2 ^ 2 * (n / 4) ||| n % 4 := by rw [← Nat.two_pow_add_eq_or_of_lt (by omega)]; exact e
  have e3 : n ||| 2 = 2 ^ 2 * (n / 4) ||| (n % 4 ||| 2) := by rw [← Nat.or_assoc, ← e2]
  have e4 : n % 4 ||| 2 = 2 + n % 2 := by
    have hm : n % 2 = n % 4 % 2 := by omega
    rw [hm]
    rcases (by omega : n % 4 = 0 ∨ n % 4 = 1 ∨ n % 4 = 2 ∨ n % 4 = 3) with h | h | h | h <;> rw [h] <;> rfl
  rw [e3, e4, ← Nat.two_pow_add_eq_or_of_lt (by omega)]
  omega
theorem and1 (n : Nat) : n &&& 1 = n % 2 := Nat.and_one_is_mod n
theorem and2 (n : Nat) : n &&& 2 = n / 2 % 2 * 2 := by
  refine Nat.eq_of_testBit_eq fun i => ?_
  have e : n / 2 % 2 * 2 = 2 ^ 1 * (n / 2 % 2) + 0 := by omega
  rw [e, Nat.testBit_two_pow_mul_add _ (by omega), Nat.testBit_and]
  by_cases hi : i < 1
  · obtain rfl : i = 0 := by omega
    simp
  · rw [if_neg hi]
    by_cases h1 : i = 1
    · subst h1
      simp [Nat.testBit_eq_decide_div_mod_eq]
    · have h1' : Nat.testBit 2 i = false := by
        rw [Nat.testBit_eq_decide_div_mod_eq]
        have : 2 / 2 ^ i = 0 := Nat.div_eq_of_lt (by have := Nat.pow_lt_pow_right (a := 2) (by omega) (show 1 < i by omega); simpa using this)
        simp [this]
      have h2 : Nat.testBit (n / 2 % 2) (i - 1) = false := by
        refine Nat.testBit_lt_two_pow ?_
        have := Nat.pow_le_pow_right (n := 2) (by omega) (show 1 ≤ i - 1 by omega)
        omega
      rw [h1', h2]; simp
theorem b_andNot1 (x : Int) (h0 : 0 ≤ x) (h1 : x ≤ 18446744073709551615) : bits .andNot .u64 x 1 = x / 2 * 2 := by
  obtain ⟨n, rfl⟩ := Int.eq_ofNat_of_zero_le h0
  have := bits_andNot_u64_nat n 1 (by omega) (by omega)
  rw [andNot1 n (by omega)] at this
  simpa using this
theorem b_andNot2 (x : Int) (h0 : 0 ≤ x) (h1 : x ≤ 18446744073709551615) : bits .andNot .u64 x 2 = x / 4 * 4 + x % 2 := by
  obtain ⟨n, rfl⟩ := Int.eq_ofNat_of_zero_le h0
  have := bits_andNot_u64_nat n 2 (by omega) (by omega)
  rw [andNot2 n (by omega)] at this
  simpa using this
theorem b_or1 (x : Int) (h0 : 0 ≤ x) (h1 : x ≤ 18446744073709551615) : bits .or .u64 x 1 = x / 2 * 2 + 1 := by
  obtain ⟨n, rfl⟩ := Int.eq_ofNat_of_zero_le h0
  have := bits_or_u64_nat n 1 (by omega) (by omega)
  rw [or1 n] at this
  simpa using this
theorem b_or2 (x : Int) (h0 : 0 ≤ x) (h1 : x ≤ 18446744073709551615) : bits .or .u64 x 2 = x / 4 * 4 + 2 + x % 2 := by
  obtain ⟨n, rfl⟩ := Int.eq_ofNat_of_zero_le h0
  have := bits_or_u64_nat n 2 (by omega) (by omega)
  rw [or2 n] at this
  simpa using this
theorem b_and1 (x : Int) (h0 : 0 ≤ x) (h1 : x ≤ 18446744073709551615) : bits .and .u64 x 1 = x % 2 := by
  obtain ⟨n, rfl⟩ := Int.eq_ofNat_of_zero_le h0
  have := bits_and_u64_nat n 1 (by omega) (by omega)
  rw [and1 n] at this
  simpa using this
theorem b_and2 (x : Int) (h0 : 0 ≤ x) (h1 : x ≤ 18446744073709551615) : bits .and .u64 x 2 = x / 2 % 2 * 2 := by
  obtain ⟨n, rfl⟩ := Int.eq_ofNat_of_zero_le h0
  have := bits_and_u64_nat n 2 (by omega) (by omega)
  rw [and2 n] at this
  simpa using this
end Go.Proofs.Ytigmafikjbaigaa
