/- The contract of blinktreeref3.Snapshot. -/
import Derived.Test.YtiodlmmbjjdojaaRelR
import Derived.Test.YtiodlmmbjjdojaaSame
namespace Go.Proofs.Ytiodlmmbjjdojaa
open Go.RowKit
set_option maxHeartbeats 1000000 in
theorem refSnapshot_any (T S N C R F K : Int) (h : CfgOK T S N C R F K) (t j : Int) (t0 : 0 ≤ t) (t1 : t < T) (j0 : 0 ≤ j) (j1 : j < S) (w : World) :
    Calls Try.prog 28 #[.agg #[.int .i64 T, .int .i64 S, .int .i64 N, .int .i64 C, .int .i64 R, .int .i64 F, .int .u64 K], .int .i64 t, .int .i64 j] w fun e w' => e = .returned (.int .i64 (8 + t * S + j)) ∧ Keeps [] w w' := by
  have bT := h.T1
  have bS := h.S1
  obtain ⟨p0, p1⟩ := prod_bounds (a := t) (b := S) (A := 64) (B := 8) t0 (by omega) (by omega) bS
  go_enter Try.func28, Try.ntmps28
  go_wp2_with fail
  go_ret
  exact ⟨rfl, (Keeps.refl _ _).alloc _⟩
end Go.Proofs.Ytiodlmmbjjdojaa
