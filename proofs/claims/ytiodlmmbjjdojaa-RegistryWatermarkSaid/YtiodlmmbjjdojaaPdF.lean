/- slices.xorshift.Next, slices.nextPowerOfTwo, slices.breakPatternsOrdered at uint64, for fewer than 50 elements. -/
import Derived.Test.YtiodlmmbjjdojaaPdP
import Derived.Sort.LotD5
import Derived.Laws.Bits64
import Derived.Laws.Bits64b
namespace Go.Proofs.Ytiodlmmbjjdojaa
open Go.RowKit
set_option linter.unusedVariables false
set_option linter.unusedSimpArgs false
set_option maxRecDepth 100000
set_option maxHeartbeats 4000000
theorem next_any (g X : Nat) (hX : X < 18446744073709551616) (w : World) (hb : Blk w g [.int .u64 X]) :
    Calls Try.prog 86 #[.pointer (some ⟨g, 0, none⟩)] w fun q w' => q = .returned (.int .u64 (Go.Sort.xorNextN X : Nat)) ∧ Blk w' g [.int .u64 (Go.Sort.xorNextN X : Nat)] ∧ Keeps [g] w w' := by
  obtain ⟨A, hA⟩ : ∃ A : Nat, A = X ^^^ (X * 8192 % 18446744073709551616) := ⟨_, rfl⟩
  obtain ⟨B, hB⟩ : ∃ B : Nat, B = A ^^^ (A / 128) := ⟨_, rfl⟩
  obtain ⟨C, hC⟩ : ∃ C : Nat, C = B ^^^ (B * 131072 % 18446744073709551616) := ⟨_, rfl⟩
  have lA : A < 18446744073709551616 := by rw [hA]; exact Nat.xor_lt_two_pow (n := 64) (by omega) (by omega)
  have lB : B < 18446744073709551616 := by rw [hB]; exact Nat.xor_lt_two_pow (n := 64) (by omega) (by omega)
  have e1 : bits .xor .u64 (X : Int) (IntKind.u64.wrap ((X : Int) * 8192)) = (A : Int) := by
    rw [IntKind.wrap_u64, show ((X : Int) * 8192 % 18446744073709551616) = ((X * 8192 % 18446744073709551616 : Nat) : Int) by omega, bits_xor_u64_nat _ _ hX (by omega), hA]
  have e2 : bits .xor .u64 (A : Int) ((A : Int) / 128) = (B : Int) := by
    rw [show ((A : Int) / 128) = ((A / 128 : Nat) : Int) by omega, bits_xor_u64_nat _ _ lA (by omega), hB]
  have e3 : bits .xor .u64 (B : Int) (IntKind.u64.wrap ((B : Int) * 131072)) = (C : Int) := by
    rw [IntKind.wrap_u64, show ((B : Int) * 131072 % 18446744073709551616) = ((B * 131072 % 18446744073709551616 : Nat) : Int) by omega, bits_xor_u64_nat _ _ lB (by omega), hC]
  have hv : Go.Sort.xorNextN X = C := by unfold Go.Sort.xorNextN; simp only []; rw [← hA, ← hB, ← hC]
  rw [hv]
  clear hA hB hC hv
  obtain ⟨x0, xf, xl⟩ := hb.o1
  go_enter Try.func86, Try.ntmps86
  go_wp2_with fail
  go_region
  all_goals go_wp2_with fail
  all_goals obtain ⟨w1, hw1⟩ : ∃ w1, (w.setCell ⟨g, 0, none⟩ (.int .u64 A)).drew = w1 := ⟨_, rfl⟩
  all_goals rw [hw1]
  all_goals have b1 : Blk w1 g [.int .u64 A] := by rw [← hw1]; exact (hb.set 0 _).drew
  all_goals have k1 : Keeps [g] w w1 := by rw [← hw1]; exact ((Keeps.refl [g] w).setCell _ _ (.inl (by simp))).drew
  all_goals clear hw1 x0 xf xl hb
  all_goals obtain ⟨x0, xf, xl⟩ := b1.o1
  all_goals go_region
  all_goals go_wp2_with fail
  all_goals obtain ⟨w2, hw2⟩ : ∃ w2, (w1.setCell ⟨g, 0, none⟩ (.int .u64 B)).drew = w2 := ⟨_, rfl⟩
  all_goals rw [hw2]
  all_goals have b2 : Blk w2 g [.int .u64 B] := by rw [← hw2]; exact (b1.set 0 _).drew
  all_goals have k2 : Keeps [g] w w2 := by rw [← hw2]; exact (k1.setCell _ _ (.inl (by simp))).drew
  all_goals clear hw2 x0 xf xl b1 k1
  all_goals obtain ⟨x0, xf, xl⟩ := b2.o1
  all_goals go_region
  all_goals go_wp2_with fail
  all_goals go_ret
  all_goals exact ⟨rfl, (b2.set 0 _).drew, (k2.setCell _ _ (.inl (by simp))).drew⟩
end Go.Proofs.Ytiodlmmbjjdojaa
