/- The contracts of clock.Now. -/
import Derived.Test.YtjmhnlbkfbieaaaGreatLay
import Derived.Laws.EntriesVeiled
import Derived.Deep.RegionHeld3
namespace Go.Proofs.YtjmhnlbkfbieaaaGreat
open Go.RowKit
@[go_sem] theorem fn_neq_nil (f : Fn) (a b : Array Value) (w : World) : (binOp .neq 123 (.func f a b) .nilFunc).run Tryz.prog w = .ok (.bool true) w := by kernel_rfl
@[go_sem] theorem fn_eql_nil (f : Fn) (a b : Array Value) (w : World) : (binOp .eql 123 (.func f a b) .nilFunc).run Tryz.prog w = .ok (.bool false) w := by kernel_rfl
@[go_sem] theorem nil_neq_nil (w : World) : (binOp .neq 123 .nilFunc .nilFunc).run Tryz.prog w = .ok (.bool false) w := by kernel_rfl
@[go_sem] theorem nil_eql_nil (w : World) : (binOp .eql 123 .nilFunc .nilFunc).run Tryz.prog w = .ok (.bool true) w := by kernel_rfl
set_option maxHeartbeats 400000 in
theorem stepsBegin_any (fn : Fn) (fa fb : Array Value) (w : World) :
    Calls Tryz.prog 49 #[.func fn fa fb] w fun e w' => e = .returned (.agg #[.func fn fa fb, .bool true]) ∧ Keeps [] w w' := by
  go_enter Tryz.func49, Tryz.ntmps49
  go_wp2
  exact bodyPost_ret (v := .agg #[.func fn fa fb, .bool true]) (by simp [results, Tryz.results49, go_sem]) rfl ⟨rfl, (Keeps.refl _ _).alloc _⟩
/-- A clock.Now ahead of its step. -/
structure NowB (w : World) (nb lb pb : Nat) (T S N C R F K : Int) : Prop where
  self : Blk w nb [.func (.func 87) #[] #[.pointer (some ⟨lb, 0, none⟩), .pointer (some ⟨pb, 0, none⟩)], .bool true, .int .u64 0]
  lay : Blk w lb [.int .i64 T, .int .i64 S, .int .i64 N, .int .i64 C, .int .i64 R, .int .i64 F, .int .u64 K]
  ptr : Blk w pb [.pointer (some ⟨nb, 0, none⟩)]
  ne1 : nb ≠ lb
  ne2 : nb ≠ pb
theorem NowB.keeps {w w' : World} {nb lb pb : Nat} {T S N C R F K : Int} (h : NowB w nb lb pb T S N C R F K) {S' : List Nat} (k : Keeps S' w w') (h1 : nb ∉ S') (h2 : lb ∉ S') (h3 : pb ∉ S') : NowB w' nb lb pb T S N C R F K :=
  ⟨k.blk h.self h1, k.blk h.lay h2, k.blk h.ptr h3, h.ne1, h.ne2⟩
theorem NowB.alloc {w : World} {nb lb pb : Nat} {T S N C R F K : Int} (h : NowB w nb lb pb T S N C R F K) (o : Obj) : NowB (w.alloc o) nb lb pb T S N C R F K :=
  ⟨h.self.alloc o, h.lay.alloc o, h.ptr.alloc o, h.ne1, h.ne2⟩
theorem NowB.lt {w : World} {nb lb pb : Nat} {T S N C R F K : Int} (h : NowB w nb lb pb T S N C R F K) : nb < w.heap.size ∧ lb < w.heap.size ∧ pb < w.heap.size := ⟨h.self.lt, h.lay.lt, h.ptr.lt⟩
theorem NowB.other {w : World} {nb lb pb : Nat} {T S N C R F K : Int} (h : NowB w nb lb pb T S N C R F K) (a : Addr) (v : Value) (h1 : nb ≠ a.block) (h2 : lb ≠ a.block) (h3 : pb ≠ a.block) : NowB (w.setCell a v) nb lb pb T S N C R F K :=
  ⟨h.self.other a v h1, h.lay.other a v h2, h.ptr.other a v h3, h.ne1, h.ne2⟩
/-- A clock.Now behind its step. -/
def NowD (w : World) (nb : Nat) (t : Int) : Prop := Blk w nb [.nilFunc, .bool true, .int .u64 t]
set_option maxHeartbeats 1000000 in
theorem newNow_any (T S N C R F K : Int) (w : World) :
    Calls Tryz.prog 51 #[.agg #[.int .i64 T, .int .i64 S, .int .i64 N, .int .i64 C, .int .i64 R, .int .i64 F, .int .u64 K]] w fun e w' => ∃ nb lb pb, e = .returned (.pointer (some ⟨nb, 0, none⟩)) ∧ NowB w' nb lb pb T S N C R F K ∧ w.heap.size ≤ nb ∧ w.heap.size ≤ lb ∧ w.heap.size ≤ pb ∧ Keeps [] w w' := by
  go_enter Tryz.func51, Tryz.ntmps51
  go_wp2_with fail
  have hl := ((Blk.new w [.int .i64 T, .int .i64 S, .int .i64 N, .int .i64 C, .int .i64 R, .int .i64 F, .int .u64 K] 31).alloc (.cells #[.nilFunc, .bool false, .int .u64 0] 179)).alloc (.cells #[.pointer (some ⟨w.heap.size + 1, 0, none⟩)] 132)
  have hn := (Blk.new_at (w.alloc (.cells #[.int .i64 T, .int .i64 S, .int .i64 N, .int .i64 C, .int .i64 R, .int .i64 F, .int .u64 K] 31)) (w.heap.size + 1) [.nilFunc, .bool false, .int .u64 0] 179 (by simp)).alloc (.cells #[.pointer (some ⟨w.heap.size + 1, 0, none⟩)] 132)
  have hp := Blk.new_at ((w.alloc (.cells #[.int .i64 T, .int .i64 S, .int .i64 N, .int .i64 C, .int .i64 R, .int .i64 F, .int .u64 K] 31)).alloc (.cells #[.nilFunc, .bool false, .int .u64 0] 179)) (w.heap.size + 1 + 1) [.pointer (some ⟨w.heap.size + 1, 0, none⟩)] 132 (by simp)
  have K0 := (((Keeps.refl [] w).alloc (.cells #[.int .i64 T, .int .i64 S, .int .i64 N, .int .i64 C, .int .i64 R, .int .i64 F, .int .u64 K] 31)).alloc (.cells #[.nilFunc, .bool false, .int .u64 0] 179)).alloc (.cells #[.pointer (some ⟨w.heap.size + 1, 0, none⟩)] 132)
  obtain ⟨wb, hwb⟩ : ∃ wb, wb = ((w.alloc (.cells #[.int .i64 T, .int .i64 S, .int .i64 N, .int .i64 C, .int .i64 R, .int .i64 F, .int .u64 K] 31)).alloc (.cells #[.nilFunc, .bool false, .int .u64 0] 179)).alloc (.cells #[.pointer (some ⟨w.heap.size + 1, 0, none⟩)] 132) := ⟨_, rfl⟩
  rw [← hwb] at hl hn hp K0 ⊢
  clear hwb
  have hpo := hp.o1
  have p0 := hpo.1
  go_region_held3 (fun w' => w'.cell? ⟨w.heap.size + 1 + 1, 0, none⟩ = some (.pointer (some ⟨w.heap.size + 1, 0, none⟩)))
    (first
      | exact k5.cellEq (w := wb.drew) p0 (by simp)
      | go_keep)
    ((go_at_call 49; refine (stepsBegin_any _ _ _ _).mono ?_; rintro e w5 ⟨rfl, k5⟩; have hn5 := k5.undrew.blk hn (by simp); have hn5o := hn5.o3))
  have hp5 := k5.undrew.blk hp (by simp)
  have hp5o := hp5.o1
  go_wp2_with fail
  go_ret
  have hl5 := k5.undrew.blk hl (by simp)
  exact ⟨w.heap.size + 1, w.heap.size, w.heap.size + 1 + 1, rfl, ⟨(hn5.set 0 _).set 1 _, (hl5.other _ _ (by simp)).other _ _ (by simp), (hp5.other _ _ (by simp)).other _ _ (by simp), by omega, by omega⟩, by omega, Nat.le_refl _, by omega, ((K0.trans k5.undrew (by simp)).setCell _ _ (.inr (by simp))).setCell _ _ (.inr (by simp))⟩
theorem nowTime_done (w : World) (nb : Nat) (t : Int) (h : NowD w nb t) :
    Calls Tryz.prog 54 #[.pointer (some ⟨nb, 0, none⟩)] w fun e w' => e = .returned (.int .u64 t) ∧ w = w' := by
  have ho := Blk.o3 h
  go_enter Tryz.func54, Tryz.ntmps54
  go_wp2
  go_ret
  exact ⟨rfl, rfl⟩
set_option maxHeartbeats 1000000 in
theorem nowStep_any (w : World) (nb lb pb m c : Nat) (L : List C3) (n : Int) (T S N C R F K : Int) (h : NowB w nb lb pb T S N C R F K) (hm : MemAt w m c L n) (n0 : 0 ≤ n) (n1 : n ≤ 4611686018427387904) (ha : nb ≠ m ∧ lb ≠ m ∧ pb ≠ m) (ha2 : nb ≠ c) :
    Calls Tryz.prog 360 #[.pointer (some ⟨nb, 0, none⟩), .pointer (some ⟨m, 0, none⟩)] w fun e w' => e = .returned (.bool true) ∧ NowD w' nb (memAt L 2).N ∧ MemAt w' m c L (n + 1) ∧ Keeps [m, nb] w w' := by
  obtain ⟨h1, h2, h3, hne1, hne2⟩ := h
  have h1o := h1.o3
  have h3o := h3.o1
  go_enter Tryz.func360, Tryz.ntmps360
  go_wp2_with fail
  go_in
  go_wp2_with fail
  go_in
  go_wp2_with fail
  have h2o := h2.o7
  have p0 := h3o.1
  obtain ⟨l0, l1, l2, l3, l4, l5, l6, -⟩ := h2o
  go_region_held3 (fun w' => w'.cell? ⟨pb, 0, none⟩ = some (.pointer (some ⟨nb, 0, none⟩)) ∧ w'.cell? ⟨lb, 0, none⟩ = some (.int .i64 T) ∧ w'.cell? ⟨lb, 1, none⟩ = some (.int .i64 S) ∧ w'.cell? ⟨lb, 2, none⟩ = some (.int .i64 N) ∧ w'.cell? ⟨lb, 3, none⟩ = some (.int .i64 C) ∧ w'.cell? ⟨lb, 4, none⟩ = some (.int .i64 R) ∧ w'.cell? ⟨lb, 5, none⟩ = some (.int .i64 F) ∧ w'.cell? ⟨lb, 6, none⟩ = some (.int .u64 K))
    (first
      | exact ⟨k5.cellEq (w := w.drew) p0 (by simp), k5.cellEq (w := w.drew) l0 (by simp), k5.cellEq (w := w.drew) l1 (by simp), k5.cellEq (w := w.drew) l2 (by simp), k5.cellEq (w := w.drew) l3 (by simp), k5.cellEq (w := w.drew) l4 (by simp), k5.cellEq (w := w.drew) l5 (by simp), k5.cellEq (w := w.drew) l6 (by simp)⟩
      | exact ⟨k56.cellEq p0 (by simp; omega), k56.cellEq l0 (by simp; omega), k56.cellEq l1 (by simp; omega), k56.cellEq l2 (by simp; omega), k56.cellEq l3 (by simp; omega), k56.cellEq l4 (by simp; omega), k56.cellEq l5 (by simp; omega), k56.cellEq l6 (by simp; omega)⟩
      | go_keep)
    ((first
      | (go_at_call 88; refine (published_any T S N C R F K _).mono ?_; rintro e w5 ⟨rfl, k5⟩)
      | (go_at_call 59; refine (load_any _ m c L n (hm.keeps k5.undrew (by simp) (by simp)) 2 n0 n1).mono ?_; rintro e w6 ⟨rfl, h6, k6⟩; have k56 := (k5.undrew.mono (S' := [m]) (by simp)).trans k6 (by simp); have hn6 := k56.blk h1 (by simp; omega); have hn6o := hn6.o3)))
  go_wp2_with fail
  go_ret
  exact ⟨rfl, (hn6.set 2 _).set 0 _, (h6.other _ _ (by simp; omega) (by simp; omega)).other _ _ (by simp; omega) (by simp; omega), ((k56.mono (S' := [m, nb]) (by intro i hi; left; simp at hi ⊢; omega)).setCell _ _ (.inl (by simp))).setCell _ _ (.inl (by simp))⟩
end Go.Proofs.YtjmhnlbkfbieaaaGreat
