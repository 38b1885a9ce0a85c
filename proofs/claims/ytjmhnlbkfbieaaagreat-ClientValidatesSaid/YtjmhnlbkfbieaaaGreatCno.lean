/- client.New for a thread that does not exist. -/
import Derived.Test.YtjmhnlbkfbieaaaGreatCln
namespace Go.Proofs.YtjmhnlbkfbieaaaGreat
open Go.RowKit
set_option linter.unusedSectionVars false
set_option linter.unusedVariables false
set_option linter.unusedSimpArgs false
set_option maxRecDepth 20000
set_option maxHeartbeats 4000000
theorem cnew_out (T S N C R F K : Int) (i : Int) (hi : ¬ (0 ≤ i ∧ i < T)) (A : Option Addr) (n cap : Nat) (w : World) :
    Calls Tryz.prog 11 #[.agg #[.int .i64 T, .int .i64 S, .int .i64 N, .int .i64 C, .int .i64 R, .int .i64 F, .int .u64 K], .int .i64 i, .slice A n cap] w fun q w' => q = .returned (.tuple #[.pointer none, .int .i64 1]) ∧ Keeps [] w w' := by
  have hin : (decide (0 ≤ i) && decide (i < T)) = false := by
    cases h : (decide (0 ≤ i) && decide (i < T)) with
    | false => rfl
    | true => simp at h; exact absurd h hi
  have kl := (Keeps.refl [] w).alloc (.cells #[.int .i64 T, .int .i64 S, .int .i64 N, .int .i64 C, .int .i64 R, .int .i64 F, .int .u64 K] 31)
  have bl := Blk.new w [.int .i64 T, .int .i64 S, .int .i64 N, .int .i64 C, .int .i64 R, .int .i64 F, .int .u64 K] 31
  change Blk (w.alloc (.cells #[.int .i64 T, .int .i64 S, .int .i64 N, .int .i64 C, .int .i64 R, .int .i64 F, .int .u64 K] 31)) _ _ at bl
  go_enter Tryz.func11, Tryz.ntmps11
  go_wp2_with fail
  refine (config_any T S N C R F K _).mono ?_
  rintro q w1 ⟨rfl, k1⟩
  have K1 := kl.trans k1 (by simp)
  go_wp2_with fail
  refine (inside_any i T _).mono ?_
  rintro q w2 ⟨rfl, rfl⟩
  rw [hin]
  go_wp2_with fail
  go_ret2
  exact ⟨rfl, K1⟩
/-- Two operations, the first of them valid. -/
theorem vProg_two (S : Int) (x z : OV) (h : vOp S x.op = true) : vProg S ([x, z].map OV.op) = vOp S z.op := by
  unfold vProg
  simp [h]
end Go.Proofs.YtjmhnlbkfbieaaaGreat
