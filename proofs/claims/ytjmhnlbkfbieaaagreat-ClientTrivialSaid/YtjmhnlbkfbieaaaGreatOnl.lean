/- The contract of the reference's Only (package ref22). -/
import Derived.Test.YtjmhnlbkfbieaaaGreatScrK
import Derived.Laws.ResultCell
namespace Go.Proofs.YtjmhnlbkfbieaaaGreat
open Go.RowKit
set_option linter.unusedSectionVars false
set_option linter.unusedVariables false
set_option linter.unusedSimpArgs false
set_option maxRecDepth 20000
set_option maxHeartbeats 4000000
def onlyV (x : OV) : OV :=
  if x.c = 1 then ⟨1, x.k, 0, none, 0, [], 0, 0, 0⟩ else
  if x.c = 2 then ⟨2, x.k, x.t, none, 0, [], 0, 0, 0⟩ else
  if x.c = 3 then ⟨3, [], 0, x.bA, x.bc, x.b, 0, 0, 0⟩ else
  if x.c = 4 then ⟨4, [], 0, none, 0, [], x.h, 0, 0⟩ else
  if x.c = 5 then ⟨5, [], 0, none, 0, [], x.h, 0, 0⟩ else
  if x.c = 6 then ⟨6, [], 0, none, 0, [], x.h, x.u, 0⟩ else
  if x.c = 7 then ⟨7, if x.m = 0 then x.k else [], 0, none, 0, [], 0, x.u, x.m⟩ else
  if x.c = 8 then ⟨8, [], 0, none, 0, [], 0, x.u, 0⟩ else
  if x.c = 9 then ⟨9, [], 0, none, 0, [], 0, 0, 0⟩ else ⟨0, [], 0, none, 0, [], 0, 0, 0⟩
def OnlyQ (w : World) (x : OV) (q : Ending) (w' : World) : Prop := Keeps [] w w' ∧ ∃ y, y = onlyV x ∧ q = .returned (.tuple #[.agg #[.int .i64 y.c, .string ⟨y.k.toArray⟩, .int .u64 (y.t : Int), .slice y.bA y.b.length y.bc, .int .i64 y.h, .int .i64 y.u, .int .i64 y.m], .bool (decide (1 ≤ x.c ∧ x.c ≤ 9))])
theorem only_any (x : OV) (w : World) : Calls Tryz.prog 20 #[.agg #[.int .i64 x.c, .string ⟨x.k.toArray⟩, .int .u64 (x.t : Int), .slice x.bA x.b.length x.bc, .int .i64 x.h, .int .i64 x.u, .int .i64 x.m]] w (OnlyQ w x) := by
  by_cases hr : 1 ≤ x.c ∧ x.c ≤ 9
  · have hd : decide (1 ≤ x.c ∧ x.c ≤ 9) = true := decide_eq_true hr
    unfold OnlyQ
    rw [hd]
    obtain hc | hc | hc | hc | hc | hc | hc | hc | hc : x.c = 1 ∨ x.c = 2 ∨ x.c = 3 ∨ x.c = 4 ∨ x.c = 5 ∨ x.c = 6 ∨ x.c = 7 ∨ x.c = 8 ∨ x.c = 9 := by omega
    · have ho : onlyV x = ⟨1, x.k, 0, none, 0, [], 0, 0, 0⟩ := by simp [onlyV, hc]
      clear hr hd
      go_enter Tryz.func20, Tryz.ntmps20
      go_wp2_with fail
      refine bodyPost_ret (results_blk2 (cs := [.int .i64 1, .string ⟨x.k.toArray⟩, .int .u64 0, .slice none 0 0, .int .i64 0, .int .i64 0, .int .i64 0]) rfl _ _ (w.heap.size + 1) _ rfl ((Blk.new_at _ (w.heap.size + 1) _ 25 (by simp)).alloc _) Tryz.underlying25 sizO) rfl ?_
      first | exact ⟨(((Keeps.refl [] w).alloc _).alloc _).alloc _, _, ho.symm, by first | rfl | simp⟩ | exact ⟨((((Keeps.refl [] w).alloc _).alloc _).alloc _).drew, _, ho.symm, by first | rfl | simp⟩
    · have ho : onlyV x = ⟨2, x.k, x.t, none, 0, [], 0, 0, 0⟩ := by simp [onlyV, hc]
      clear hr hd
      go_enter Tryz.func20, Tryz.ntmps20
      go_wp2_with fail
      go_region
      all_goals go_wp2_with fail
      all_goals
        refine bodyPost_ret (results_blk2 (cs := [.int .i64 2, .string ⟨x.k.toArray⟩, .int .u64 (x.t : Int), .slice none 0 0, .int .i64 0, .int .i64 0, .int .i64 0]) rfl _ _ (w.heap.size + 1) _ rfl ((Blk.new_at _ (w.heap.size + 1) _ 25 (by simp)).alloc _) Tryz.underlying25 sizO) rfl ?_
        first | exact ⟨(((Keeps.refl [] w).alloc _).alloc _).alloc _, _, ho.symm, by first | rfl | simp⟩ | exact ⟨((((Keeps.refl [] w).alloc _).alloc _).alloc _).drew, _, ho.symm, by first | rfl | simp⟩
    · have ho : onlyV x = ⟨3, [], 0, x.bA, x.bc, x.b, 0, 0, 0⟩ := by simp [onlyV, hc]
      clear hr hd
      go_enter Tryz.func20, Tryz.ntmps20
      go_wp2_with fail
      refine bodyPost_ret (results_blk2 (cs := [.int .i64 3, .string ⟨#[]⟩, .int .u64 0, .slice x.bA x.b.length x.bc, .int .i64 0, .int .i64 0, .int .i64 0]) rfl _ _ (w.heap.size + 1) _ rfl ((Blk.new_at _ (w.heap.size + 1) _ 25 (by simp)).alloc _) Tryz.underlying25 sizO) rfl ?_
      first | exact ⟨(((Keeps.refl [] w).alloc _).alloc _).alloc _, _, ho.symm, by first | rfl | simp⟩ | exact ⟨((((Keeps.refl [] w).alloc _).alloc _).alloc _).drew, _, ho.symm, by first | rfl | simp⟩
    · have ho : onlyV x = ⟨4, [], 0, none, 0, [], x.h, 0, 0⟩ := by simp [onlyV, hc]
      clear hr hd
      go_enter Tryz.func20, Tryz.ntmps20
      go_wp2_with fail
      refine bodyPost_ret (results_blk2 (cs := [.int .i64 4, .string ⟨#[]⟩, .int .u64 0, .slice none 0 0, .int .i64 x.h, .int .i64 0, .int .i64 0]) rfl _ _ (w.heap.size + 1) _ rfl ((Blk.new_at _ (w.heap.size + 1) _ 25 (by simp)).alloc _) Tryz.underlying25 sizO) rfl ?_
      first | exact ⟨(((Keeps.refl [] w).alloc _).alloc _).alloc _, _, ho.symm, by first | rfl | simp⟩ | exact ⟨((((Keeps.refl [] w).alloc _).alloc _).alloc _).drew, _, ho.symm, by first | rfl | simp⟩
    · have ho : onlyV x = ⟨5, [], 0, none, 0, [], x.h, 0, 0⟩ := by simp [onlyV, hc]
      clear hr hd
      go_enter Tryz.func20, Tryz.ntmps20
      go_wp2_with fail
      refine bodyPost_ret (results_blk2 (cs := [.int .i64 5, .string ⟨#[]⟩, .int .u64 0, .slice none 0 0, .int .i64 x.h, .int .i64 0, .int .i64 0]) rfl _ _ (w.heap.size + 1) _ rfl ((Blk.new_at _ (w.heap.size + 1) _ 25 (by simp)).alloc _) Tryz.underlying25 sizO) rfl ?_
      first | exact ⟨(((Keeps.refl [] w).alloc _).alloc _).alloc _, _, ho.symm, by first | rfl | simp⟩ | exact ⟨((((Keeps.refl [] w).alloc _).alloc _).alloc _).drew, _, ho.symm, by first | rfl | simp⟩
    · have ho : onlyV x = ⟨6, [], 0, none, 0, [], x.h, x.u, 0⟩ := by simp [onlyV, hc]
      clear hr hd
      go_enter Tryz.func20, Tryz.ntmps20
      go_wp2_with fail
      go_region
      all_goals go_wp2_with fail
      all_goals
        refine bodyPost_ret (results_blk2 (cs := [.int .i64 6, .string ⟨#[]⟩, .int .u64 0, .slice none 0 0, .int .i64 x.h, .int .i64 x.u, .int .i64 0]) rfl _ _ (w.heap.size + 1) _ rfl ((Blk.new_at _ (w.heap.size + 1) _ 25 (by simp)).alloc _) Tryz.underlying25 sizO) rfl ?_
        first | exact ⟨(((Keeps.refl [] w).alloc _).alloc _).alloc _, _, ho.symm, by first | rfl | simp⟩ | exact ⟨((((Keeps.refl [] w).alloc _).alloc _).alloc _).drew, _, ho.symm, by first | rfl | simp⟩
    · by_cases hm : x.m = 0
      · have ho : onlyV x = ⟨7, x.k, 0, none, 0, [], 0, x.u, 0⟩ := by simp [onlyV, hc, hm]
        clear hr hd
        go_enter Tryz.func20, Tryz.ntmps20
        go_wp2_with fail
        go_region
        all_goals go_wp2_with fail
        all_goals
          refine bodyPost_ret (results_blk2 (cs := [.int .i64 7, .string ⟨x.k.toArray⟩, .int .u64 0, .slice none 0 0, .int .i64 0, .int .i64 x.u, .int .i64 0]) rfl _ _ (w.heap.size + 1) _ rfl ((Blk.new_at _ (w.heap.size + 1) _ 25 (by simp)).alloc _) Tryz.underlying25 sizO) rfl ?_
          first | exact ⟨(((Keeps.refl [] w).alloc _).alloc _).alloc _, _, ho.symm, by first | rfl | simp⟩ | exact ⟨((((Keeps.refl [] w).alloc _).alloc _).alloc _).drew, _, ho.symm, by first | rfl | simp⟩
      · have ho : onlyV x = ⟨7, [], 0, none, 0, [], 0, x.u, x.m⟩ := by simp [onlyV, hc, hm]
        clear hr hd
        go_enter Tryz.func20, Tryz.ntmps20
        go_wp2_with fail
        go_region
        all_goals go_wp2_with fail
        all_goals
          refine bodyPost_ret (results_blk2 (cs := [.int .i64 7, .string ⟨#[]⟩, .int .u64 0, .slice none 0 0, .int .i64 0, .int .i64 x.u, .int .i64 x.m]) rfl _ _ (w.heap.size + 1) _ rfl ((Blk.new_at _ (w.heap.size + 1) _ 25 (by simp)).alloc _) Tryz.underlying25 sizO) rfl ?_
          first | exact ⟨(((Keeps.refl [] w).alloc _).alloc _).alloc _, _, ho.symm, by first | rfl | simp⟩ | exact ⟨((((Keeps.refl [] w).alloc _).alloc _).alloc _).drew, _, ho.symm, by first | rfl | simp⟩
    · have ho : onlyV x = ⟨8, [], 0, none, 0, [], 0, x.u, 0⟩ := by simp [onlyV, hc]
      clear hr hd
      go_enter Tryz.func20, Tryz.ntmps20
      go_wp2_with fail
      refine bodyPost_ret (results_blk2 (cs := [.int .i64 8, .string ⟨#[]⟩, .int .u64 0, .slice none 0 0, .int .i64 0, .int .i64 x.u, .int .i64 0]) rfl _ _ (w.heap.size + 1) _ rfl ((Blk.new_at _ (w.heap.size + 1) _ 25 (by simp)).alloc _) Tryz.underlying25 sizO) rfl ?_
      first | exact ⟨(((Keeps.refl [] w).alloc _).alloc _).alloc _, _, ho.symm, by first | rfl | simp⟩ | exact ⟨((((Keeps.refl [] w).alloc _).alloc _).alloc _).drew, _, ho.symm, by first | rfl | simp⟩
    · have ho : onlyV x = ⟨9, [], 0, none, 0, [], 0, 0, 0⟩ := by simp [onlyV, hc]
      clear hr hd
      go_enter Tryz.func20, Tryz.ntmps20
      go_wp2_with fail
      refine bodyPost_ret (results_blk2 (cs := [.int .i64 9, .string ⟨#[]⟩, .int .u64 0, .slice none 0 0, .int .i64 0, .int .i64 0, .int .i64 0]) rfl _ _ (w.heap.size + 1) _ rfl ((Blk.new_at _ (w.heap.size + 1) _ 25 (by simp)).alloc _) Tryz.underlying25 sizO) rfl ?_
      first | exact ⟨(((Keeps.refl [] w).alloc _).alloc _).alloc _, _, ho.symm, by first | rfl | simp⟩ | exact ⟨((((Keeps.refl [] w).alloc _).alloc _).alloc _).drew, _, ho.symm, by first | rfl | simp⟩
  · have hd : decide (1 ≤ x.c ∧ x.c ≤ 9) = false := decide_eq_false hr
    unfold OnlyQ
    rw [hd]
    have h1 : ¬ x.c = 1 := by omega
    have h2 : ¬ x.c = 2 := by omega
    have h3 : ¬ x.c = 3 := by omega
    have h4 : ¬ x.c = 4 := by omega
    have h5 : ¬ x.c = 5 := by omega
    have h6 : ¬ x.c = 6 := by omega
    have h7 : ¬ x.c = 7 := by omega
    have h8 : ¬ x.c = 8 := by omega
    have h9 : ¬ x.c = 9 := by omega
    have ho : onlyV x = ⟨0, [], 0, none, 0, [], 0, 0, 0⟩ := by simp [onlyV, *]
    clear hr hd
    go_enter Tryz.func20, Tryz.ntmps20
    go_wp2_with fail
    refine bodyPost_ret (results_blk2 (cs := [.int .i64 0, .string ⟨#[]⟩, .int .u64 0, .slice none 0 0, .int .i64 0, .int .i64 0, .int .i64 0]) rfl _ _ (w.heap.size + 1) _ rfl ((Blk.new_at _ (w.heap.size + 1) _ 25 (by simp)).alloc _) Tryz.underlying25 sizO) rfl ?_
    first | exact ⟨(((Keeps.refl [] w).alloc _).alloc _).alloc _, _, ho.symm, by first | rfl | simp⟩ | exact ⟨((((Keeps.refl [] w).alloc _).alloc _).alloc _).drew, _, ho.symm, by first | rfl | simp⟩
end Go.Proofs.YtjmhnlbkfbieaaaGreat
