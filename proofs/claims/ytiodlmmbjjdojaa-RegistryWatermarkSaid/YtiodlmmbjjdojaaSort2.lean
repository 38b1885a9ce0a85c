/- The contracts of slices.Sort at []uint64, for at most twelve elements. -/
import Derived.Test.YtiodlmmbjjdojaaSort
namespace Go.Proofs.Ytiodlmmbjjdojaa
open Go.RowKit
set_option maxRecDepth 100000 in
set_option maxHeartbeats 4000000 in
theorem len64_any (x : Nat) (hx : x ≤ 12) (w : World) : Calls Try.prog 81 #[.int .u64 x] w fun e w' => (∃ v : Int, e = .returned (.int .i64 v)) ∧ w = w' := by
  rcases (by omega : x = 0 ∨ x = 1 ∨ x = 2 ∨ x = 3 ∨ x = 4 ∨ x = 5 ∨ x = 6 ∨ x = 7 ∨ x = 8 ∨ x = 9 ∨ x = 10 ∨ x = 11 ∨ x = 12) with rfl | rfl | rfl | rfl | rfl | rfl | rfl | rfl | rfl | rfl | rfl | rfl | rfl
  all_goals
    go_enter Try.func81, Try.ntmps81
    go_wp2_with fail
    go_ret
    exact ⟨⟨_, rfl⟩, rfl⟩
theorem len_any (x : Nat) (hx : x ≤ 12) (w : World) : Calls Try.prog 63 #[.int .u64 x] w fun e w' => (∃ v : Int, e = .returned (.int .i64 v)) ∧ w = w' := by
  go_enter Try.func63, Try.ntmps63
  go_wp2_with fail
  refine (len64_any x hx _).mono ?_
  rintro e w' ⟨⟨v, rfl⟩, rfl⟩
  go_wp2_with fail
  go_ret
  exact ⟨⟨v, rfl⟩, rfl⟩
set_option maxHeartbeats 1000000 in
theorem pdq_any (xs : List Int) (b cap : Nat) (rest : List Value) (v : Int) (w : World) (hb : Blk w b (xs.map uV ++ rest)) (hn : xs.length ≤ 12) :
    Calls Try.prog 62 #[.slice (some ⟨b, 0, none⟩) xs.length cap, .int .i64 0, .int .i64 xs.length, .int .i64 v] w fun e w' => e = .returned (.tuple #[]) ∧ Blk w' b ((isort xs).map uV ++ rest) ∧ Keeps [b] w w' := by
  go_enter Try.func62, Try.ntmps62
  go_wp2_with fail
  refine wp_loop_rounds 1 ?_
  rw [rounds_succ]
  go_wp2_with fail
  refine (ins_any xs b cap rest w hb (by omega)).mono ?_
  rintro e w1 ⟨rfl, h1, k1⟩
  go_wp2_with fail
  refine bodyPost_ret (results_none rfl _ _ _) rfl ?_
  exact ⟨rfl, h1, k1⟩
theorem pdq_nil (v : Int) (w : World) :
    Calls Try.prog 62 #[.slice none 0 0, .int .i64 0, .int .i64 0, .int .i64 v] w fun e w' => e = .returned (.tuple #[]) ∧ Keeps [] w w' := by
  go_enter Try.func62, Try.ntmps62
  go_wp2_with fail
  refine wp_loop_rounds 1 ?_
  rw [rounds_succ]
  go_wp2_with fail
  refine (ins_nil w).mono ?_
  rintro e w1 ⟨rfl, k1⟩
  go_wp2_with fail
  refine bodyPost_ret (results_none rfl _ _ _) rfl ?_
  exact ⟨rfl, k1⟩
set_option maxHeartbeats 1000000 in
theorem sort_any (xs : List Int) (b cap : Nat) (rest : List Value) (w : World) (hb : Blk w b (xs.map uV ++ rest)) (hn : xs.length ≤ 12) :
    Calls Try.prog 44 #[.slice (some ⟨b, 0, none⟩) xs.length cap] w fun e w' => e = .returned (.tuple #[]) ∧ Blk w' b ((isort xs).map uV ++ rest) ∧ Keeps [b] w w' := by
  go_enter Try.func44, Try.ntmps44
  go_wp2_with fail
  refine (len_any xs.length hn _).mono ?_
  rintro e w' ⟨⟨v, rfl⟩, rfl⟩
  go_wp2_with fail
  refine (pdq_any xs b cap rest v w hb hn).mono ?_
  rintro e w1 ⟨rfl, h1, k1⟩
  go_wp2_with fail
  go_end0
  exact ⟨rfl, h1, k1⟩
theorem sort_nil (w : World) :
    Calls Try.prog 44 #[.slice none 0 0] w fun e w' => e = .returned (.tuple #[]) ∧ Keeps [] w w' := by
  go_enter Try.func44, Try.ntmps44
  go_wp2_with fail
  refine (len_any 0 (by omega) _).mono ?_
  rintro e w' ⟨⟨v, rfl⟩, rfl⟩
  go_wp2_with fail
  refine (pdq_nil v w).mono ?_
  rintro e w1 ⟨rfl, k1⟩
  go_wp2_with fail
  go_end0
  exact ⟨rfl, k1⟩
end Go.Proofs.Ytiodlmmbjjdojaa
