/- The contracts of the machines of package latch: Acquire and Release, over a memory that lies in the heap as MemAt says. -/
import Derived.Test.YtigmafikjbaigaaMem
import Derived.Test.YtigmafikjbaigaaLatch
import Derived.Laws.EntriesVeiled
import Derived.Deep.CutRange
import Derived.Deep.DeepCutAuto
import Derived.Deep.LoopGhost
import Derived.Deep.RegionHeld3
namespace Go.Proofs.Ytigmafikjbaigaa
open Go.RowKit
inductive ASt where
  | look
  | lock
  | done
def ASt.fn (ab : Nat) : ASt → Value
  | .look => .func (.func 42) #[.pointer (some ⟨ab, 0, none⟩)] #[]
  | .lock => .func (.func 46) #[.pointer (some ⟨ab, 0, none⟩)] #[]
  | .done => .nilFunc
/-- Block ab is an Acquire of cell i, in state s, with the word x. -/
def Acq (w : World) (ab : Nat) (s : ASt) (i x : Int) : Prop := Blk w ab [s.fn ab, .bool true, .int .i64 i, .int .u64 x]
@[go_sem] theorem fn_neq_nil (f : Fn) (a b : Array Value) (w : World) : (binOp .neq 67 (.func f a b) .nilFunc).run Try.prog w = .ok (.bool true) w := by kernel_rfl
@[go_sem] theorem fn_eql_nil (f : Fn) (a b : Array Value) (w : World) : (binOp .eql 67 (.func f a b) .nilFunc).run Try.prog w = .ok (.bool false) w := by kernel_rfl
@[go_sem] theorem nil_neq_nil (w : World) : (binOp .neq 67 .nilFunc .nilFunc).run Try.prog w = .ok (.bool false) w := by kernel_rfl
@[go_sem] theorem nil_eql_nil (w : World) : (binOp .eql 67 .nilFunc .nilFunc).run Try.prog w = .ok (.bool true) w := by kernel_rfl
set_option maxHeartbeats 400000 in
theorem stepsBegin_any (fn : Fn) (fa fb : Array Value) (w : World) :
    Calls Try.prog 41 #[.func fn fa fb] w fun e w' => e = .returned (.agg #[.func fn fa fb, .bool true]) ∧ Keeps [] w w' := by
  go_enter Try.func41, Try.ntmps41
  go_wp2
  exact bodyPost_ret (v := .agg #[.func fn fa fb, .bool true]) (by simp [results, Try.results41, go_sem]) rfl ⟨rfl, (Keeps.refl _ _).alloc _⟩
set_option maxHeartbeats 400000 in
theorem newAcquire_any (i : Int) (w : World) :
    Calls Try.prog 35 #[.int .i64 i] w fun e w' => ∃ ab, e = .returned (.pointer (some ⟨ab, 0, none⟩)) ∧ Acq w' ab .look i 0 ∧ w.heap.size ≤ ab ∧ Keeps [] w w' := by
  go_enter Try.func35, Try.ntmps35
  go_wp2_with fail
  refine (stepsBegin_any _ _ _ _).mono ?_
  rintro e w1 ⟨rfl, k1⟩
  have hb := k1.blk (Blk.new_at w w.heap.size [.nilFunc, .bool false, .int .i64 i, .int .u64 0] 71 rfl) (by simp)
  have c0 := hb.cell 0
  have c1 := hb.cell 1
  have cf := hb.frozen
  have cl := hb.lt
  simp only [List.getElem?_cons_zero, List.getElem?_cons_succ] at c0 c1
  go_wp2_with fail
  go_ret
  refine ⟨_, rfl, ?_, Nat.le_refl _, ?_⟩
  · exact (hb.set 0 _).set 1 _
  · exact ((((Keeps.refl [] w).alloc _).trans k1 (by simp)).setCell _ _ (.inr (Nat.le_refl _))).setCell _ _ (.inr (Nat.le_refl _))
set_option maxHeartbeats 400000 in
theorem acqStep_done (w : World) (ab m : Nat) (i x : Int) (h : Acq w ab .done i x) :
    Calls Try.prog 36 #[.pointer (some ⟨ab, 0, none⟩), .pointer (some ⟨m, 0, none⟩)] w fun e w' => e = .returned (.bool true) ∧ w = w' := by
  have c0 := h.cell 0
  simp only [ASt.fn, List.getElem?_cons_zero] at c0
  go_enter Try.func36, Try.ntmps36
  go_wp2
  go_ret
  exact ⟨rfl, rfl⟩
set_option maxHeartbeats 400000 in
theorem acqWord_done (w : World) (ab : Nat) (i x : Int) (h : Acq w ab .done i x) :
    Calls Try.prog 37 #[.pointer (some ⟨ab, 0, none⟩)] w fun e w' => e = .returned (.int .u64 x) ∧ w = w' := by
  have c0 := h.cell 0
  have c1 := h.cell 1
  have c3 := h.cell 3
  simp only [ASt.fn, List.getElem?_cons_zero, List.getElem?_cons_succ] at c0 c1 c3
  go_enter Try.func37, Try.ntmps37
  go_wp2
  go_ret
  exact ⟨rfl, rfl⟩
set_option maxHeartbeats 400000 in
theorem acqStep_busy (w : World) (ab m c : Nat) (L : List C3) (n : Int) (i x : Int) (h : Acq w ab .look i x) (hm : MemAt w m c L n) (n0 : 0 ≤ n) (n1 : n ≤ 4611686018427387904) (ha : ab ≠ m ∧ ab ≠ c)
    (v0 : 0 ≤ (memAt L i).N) (v1 : (memAt L i).N ≤ 18446744073709551615) (hodd : (memAt L i).N % 2 = 1) :
    Calls Try.prog 36 #[.pointer (some ⟨ab, 0, none⟩), .pointer (some ⟨m, 0, none⟩)] w fun e w' => e = .returned (.bool false) ∧
      Acq w' ab .look i x ∧ MemAt w' m c L (n + 1) ∧ Keeps [m, ab] w w' := by
  have c0 := h.cell 0
  have c2 := h.cell 2
  have c3 := h.cell 3
  have cf := h.frozen
  have cl := h.lt
  simp only [ASt.fn, List.getElem?_cons_zero, List.getElem?_cons_succ] at c0 c2 c3
  have Hodd := Lib.hid hodd
  clear hodd
  go_enter Try.func36, Try.ntmps36
  go_wp2_with fail
  go_in
  go_wp2_with fail
  go_in
  go_wp2_with fail
  refine (load_any _ m c L n hm i n0 n1).mono ?_
  rintro e w1 ⟨rfl, h1, k1⟩
  have hb := k1.blk h (by simp; exact ha.1)
  have q0 := hb.cell 0
  have q2 := hb.cell 2
  have q3 := hb.cell 3
  have qf := hb.frozen
  have ql := hb.lt
  simp only [ASt.fn, List.getElem?_cons_zero, List.getElem?_cons_succ] at q0 q2 q3
  have K1 := k1.mono (S' := [m, ab]) (by simp)
  clear c0 c2 c3 cf cl
  go_wp2_with (go_at_call 15; refine (locked_yes _ v0 v1 Hodd.out _).mono ?_; rintro e w' ⟨rfl, rfl⟩)
  go_ret
  exact ⟨rfl, hb.set 0 (ASt.fn ab .look), h1.other _ _ (Ne.symm ha.1) (Ne.symm ha.2), K1.setCell _ _ (.inl (by simp))⟩
set_option maxHeartbeats 400000 in
theorem acqStep_free (w : World) (ab m c : Nat) (L : List C3) (n : Int) (i x : Int) (h : Acq w ab .look i x) (hm : MemAt w m c L n) (n0 : 0 ≤ n) (n1 : n ≤ 4611686018427387904) (ha : ab ≠ m ∧ ab ≠ c)
    (v0 : 0 ≤ (memAt L i).N) (v1 : (memAt L i).N ≤ 18446744073709551615) (hodd : (memAt L i).N % 2 = 0) :
    Calls Try.prog 36 #[.pointer (some ⟨ab, 0, none⟩), .pointer (some ⟨m, 0, none⟩)] w fun e w' => e = .returned (.bool false) ∧
      Acq w' ab .lock i ((memAt L i).N / 2 * 2 + 1) ∧ MemAt w' m c L (n + 1) ∧ Keeps [m, ab] w w' := by
  have c0 := h.cell 0
  have c2 := h.cell 2
  have c3 := h.cell 3
  have cf := h.frozen
  have cl := h.lt
  simp only [ASt.fn, List.getElem?_cons_zero, List.getElem?_cons_succ] at c0 c2 c3
  have Hodd := Lib.hid hodd
  clear hodd
  go_enter Try.func36, Try.ntmps36
  go_wp2_with fail
  go_in
  go_wp2_with fail
  go_in
  go_wp2_with fail
  refine (load_any _ m c L n hm i n0 n1).mono ?_
  rintro e w1 ⟨rfl, h1, k1⟩
  have hb := k1.blk h (by simp; exact ha.1)
  have q0 := hb.cell 0
  have q2 := hb.cell 2
  have q3 := hb.cell 3
  have qf := hb.frozen
  have ql := hb.lt
  simp only [ASt.fn, List.getElem?_cons_zero, List.getElem?_cons_succ] at q0 q2 q3
  have K1 := k1.mono (S' := [m, ab]) (by simp)
  clear c0 c2 c3 cf cl
  go_wp2_with (first | (go_at_call 15; refine (locked_no _ v0 v1 Hodd.out _).mono ?_; rintro e w' ⟨rfl, rfl⟩) | (go_at_call 14; refine (lock_any _ v0 v1 _).mono ?_; rintro e w' ⟨rfl, rfl⟩))
  go_ret
  exact ⟨rfl, (hb.set 3 _).set 0 (ASt.fn ab .lock), (h1.other _ _ (Ne.symm ha.1) (Ne.symm ha.2)).other _ _ (Ne.symm ha.1) (Ne.symm ha.2), (K1.setCell _ _ (.inl (by simp))).setCell _ _ (.inl (by simp))⟩
set_option maxHeartbeats 1000000 in
theorem acqStep_hit (w : World) (ab m c : Nat) (L : List C3) (n : Int) (i x : Int) (h : Acq w ab .lock i x) (hm : MemAt w m c L n) (n0 : 0 ≤ n) (n1 : n ≤ 4611686018427387904) (ha : ab ≠ m ∧ ab ≠ c)
    (x0 : 0 ≤ x) (x1 : x ≤ 18446744073709551615) (hh : (memIn L i && (memAt L i).N == x / 2 * 2) = true) :
    Calls Try.prog 36 #[.pointer (some ⟨ab, 0, none⟩), .pointer (some ⟨m, 0, none⟩)] w fun e w' => e = .returned (.bool true) ∧
      Acq w' ab .done i x ∧ MemAt w' m c (memSet L i ⟨x, ⟨#[]⟩, 0⟩) (n + 1) ∧ Keeps [m, c, ab] w w' := by
  have c0 := h.cell 0
  have c2 := h.cell 2
  have c3 := h.cell 3
  have cf := h.frozen
  have cl := h.lt
  simp only [ASt.fn, List.getElem?_cons_zero, List.getElem?_cons_succ] at c0 c2 c3
  have Hh := Lib.hid hh
  clear hh
  go_enter Try.func36, Try.ntmps36
  go_wp2_with fail
  go_in
  go_wp2_with fail
  go_in
  go_upto_region 1 with fail
  go_cut [21] (fun s wx => s = .bool (!true) ∧ Acq wx ab .lock i x ∧ MemAt wx m c (memSet L i ⟨x, ⟨#[]⟩, 0⟩) (n + 1) ∧ Keeps [m, c] w wx)
  case first =>
    go_region_held3 (fun w' => w'.cell? ⟨ab, 2, none⟩ = some (.int .i64 i) ∧ w'.cell? ⟨ab, 3, none⟩ = some (.int .u64 x))
      (first
        | go_keep
        | exact ⟨k1.cellEq (w := w.drew) c2 (by simp <;> omega), k1.cellEq (w := w.drew) c3 (by simp <;> omega)⟩)
      ((first | (go_at_call 12; refine (unlock_any _ x0 x1 _).mono ?_; rintro e w' ⟨rfl, rfl⟩) | (go_at_call 28; refine (swap_any _ m c L n (by exact hm.drew) i (x / 2 * 2) x 0 ⟨#[]⟩ n0 n1).mono ?_; rintro e w1 ⟨he, h1, k1⟩; rw [Hh.out] at he h1; subst he)))
    all_goals go_wp2_with fail
    all_goals go_meet
    all_goals exact ⟨rfl, k1.undrew.blk h (by simp <;> omega), by simpa using h1, k1.undrew⟩
  case rest =>
    obtain ⟨rfl, hb, h1, k1⟩ := hcut
    have q0 := hb.cell 0
    have q2 := hb.cell 2
    have q3 := hb.cell 3
    have qf := hb.frozen
    have ql := hb.lt
    simp only [ASt.fn, List.getElem?_cons_zero, List.getElem?_cons_succ] at q0 q2 q3
    have K1 := k1.mono (S' := [m, c, ab]) (by intro j hj; left; simp at hj ⊢; omega)
    clear c0 c2 c3 cf cl
    go_wp2_with fail
    go_ret
    exact ⟨rfl, hb.set 0 (ASt.fn ab .done), h1.other _ _ (Ne.symm ha.1) (Ne.symm ha.2), K1.setCell _ _ (.inl (by simp))⟩
set_option maxHeartbeats 1000000 in
theorem acqStep_miss (w : World) (ab m c : Nat) (L : List C3) (n : Int) (i x : Int) (h : Acq w ab .lock i x) (hm : MemAt w m c L n) (n0 : 0 ≤ n) (n1 : n ≤ 4611686018427387904) (ha : ab ≠ m ∧ ab ≠ c)
    (x0 : 0 ≤ x) (x1 : x ≤ 18446744073709551615) (hh : (memIn L i && (memAt L i).N == x / 2 * 2) = false) :
    Calls Try.prog 36 #[.pointer (some ⟨ab, 0, none⟩), .pointer (some ⟨m, 0, none⟩)] w fun e w' => e = .returned (.bool false) ∧
      Acq w' ab .look i x ∧ MemAt w' m c L (n + 1) ∧ Keeps [m, c, ab] w w' := by
  have c0 := h.cell 0
  have c2 := h.cell 2
  have c3 := h.cell 3
  have cf := h.frozen
  have cl := h.lt
  simp only [ASt.fn, List.getElem?_cons_zero, List.getElem?_cons_succ] at c0 c2 c3
  have Hh := Lib.hid hh
  clear hh
  go_enter Try.func36, Try.ntmps36
  go_wp2_with fail
  go_in
  go_wp2_with fail
  go_in
  go_upto_region 1 with fail
  go_cut [21] (fun s wx => s = .bool (!false) ∧ Acq wx ab .lock i x ∧ MemAt wx m c L (n + 1) ∧ Keeps [m, c] w wx)
  case first =>
    go_region_held3 (fun w' => w'.cell? ⟨ab, 2, none⟩ = some (.int .i64 i) ∧ w'.cell? ⟨ab, 3, none⟩ = some (.int .u64 x))
      (first
        | go_keep
        | exact ⟨k1.cellEq (w := w.drew) c2 (by simp <;> omega), k1.cellEq (w := w.drew) c3 (by simp <;> omega)⟩)
      ((first | (go_at_call 12; refine (unlock_any _ x0 x1 _).mono ?_; rintro e w' ⟨rfl, rfl⟩) | (go_at_call 28; refine (swap_any _ m c L n (by exact hm.drew) i (x / 2 * 2) x 0 ⟨#[]⟩ n0 n1).mono ?_; rintro e w1 ⟨he, h1, k1⟩; rw [Hh.out] at he h1; subst he)))
    all_goals go_wp2_with fail
    all_goals go_meet
    all_goals exact ⟨rfl, k1.undrew.blk h (by simp <;> omega), by simpa using h1, k1.undrew⟩
  case rest =>
    obtain ⟨rfl, hb, h1, k1⟩ := hcut
    have q0 := hb.cell 0
    have q2 := hb.cell 2
    have q3 := hb.cell 3
    have qf := hb.frozen
    have ql := hb.lt
    simp only [ASt.fn, List.getElem?_cons_zero, List.getElem?_cons_succ] at q0 q2 q3
    have K1 := k1.mono (S' := [m, c, ab]) (by intro j hj; left; simp at hj ⊢; omega)
    clear c0 c2 c3 cf cl
    go_wp2_with fail
    go_ret
    exact ⟨rfl, hb.set 0 (ASt.fn ab .look), h1.other _ _ (Ne.symm ha.1) (Ne.symm ha.2), K1.setCell _ _ (.inl (by simp))⟩
/-- Block rb is a Release: before its step (with the boxes of its cell's number and of its word) or behind it. -/
def Rel (w : World) (rb ib wb : Nat) (i x : Int) : Prop :=
  Blk w rb [.func (.func 45) #[] #[.pointer (some ⟨ib, 0, none⟩), .pointer (some ⟨wb, 0, none⟩)], .bool true] ∧ Blk w ib [.int .i64 i] ∧ Blk w wb [.int .u64 x]
set_option maxHeartbeats 400000 in
theorem newRelease_any (i x : Int) (w : World) :
    Calls Try.prog 38 #[.int .i64 i, .int .u64 x] w fun e w' => ∃ rb ib wb, e = .returned (.pointer (some ⟨rb, 0, none⟩)) ∧ Rel w' rb ib wb i x ∧ w.heap.size ≤ rb ∧ w.heap.size ≤ ib ∧ w.heap.size ≤ wb ∧ Keeps [] w w' := by
  go_enter Try.func38, Try.ntmps38
  go_wp2_with fail
  refine (stepsBegin_any _ _ _ _).mono ?_
  rintro e w1 ⟨rfl, k1⟩
  have hi := k1.blk ((Blk.new_at w w.heap.size [.int .i64 i] 3 rfl).alloc _) (by simp)
  have hx := k1.blk (Blk.new_at (w.alloc (.cells #[.int .i64 i] 3)) (w.heap.size + 1) [.int .u64 x] 22 (by simp)) (by simp)
  go_wp2_with fail
  go_ret
  refine ⟨_, _, _, rfl, ⟨Blk.new w1 _ _, hi.alloc _, hx.alloc _⟩, ?_, Nat.le_refl _, by omega, ?_⟩
  · have := k1.size; simp at this; omega
  · exact ((((Keeps.refl [] w).alloc _).alloc _).trans k1 (by simp)).alloc _
set_option maxHeartbeats 1000000 in
theorem relStep_any (w : World) (rb ib wb m c : Nat) (L : List C3) (n : Int) (i x : Int) (h : Rel w rb ib wb i x) (hm : MemAt w m c L n) (n0 : 0 ≤ n) (n1 : n ≤ 4611686018427387904) (ha : rb ≠ m ∧ rb ≠ c)
    (x0 : 0 ≤ x) (x1 : x ≤ 18446744073709551615) :
    Calls Try.prog 39 #[.pointer (some ⟨rb, 0, none⟩), .pointer (some ⟨m, 0, none⟩)] w fun e w' => e = .returned (.bool true) ∧
      MemAt w' m c (memSet L i ⟨x / 2 * 2, ⟨#[]⟩, 0⟩) (n + 1) ∧ Keeps [m, c, rb] w w' := by
  obtain ⟨hr, hi, hx⟩ := h
  have c0 := hr.cell 0
  have d0 := hi.cell 0
  have e0 := hx.cell 0
  simp only [List.getElem?_cons_zero] at c0 d0 e0
  have cf := hr.frozen
  have cl := hr.lt
  go_enter Try.func39, Try.ntmps39
  go_wp2_with fail
  go_in
  go_wp2_with fail
  go_in
  go_upto_region 1 with fail
  go_cut [10] (fun s wx => MemAt wx m c (memSet L i ⟨x / 2 * 2, ⟨#[]⟩, 0⟩) (n + 1) ∧ Keeps [m, c] w wx)
  case first =>
    go_region_with (first | (go_at_call 12; refine (unlock_any _ x0 x1 _).mono ?_; rintro e w' ⟨rfl, rfl⟩) | (go_at_call 29; refine (store_any _ m c L n (by exact hm.drew) i (x / 2 * 2) 0 ⟨#[]⟩ n0 n1).mono ?_; rintro e w1 ⟨rfl, h1, k1⟩))
    all_goals go_wp2_with fail
    all_goals go_meet
    all_goals exact ⟨h1, k1.undrew⟩
  case rest =>
    obtain ⟨h1, k1⟩ := hcut
    have hb := k1.blk hr (by simp <;> omega)
    have q0 := hb.cell 0
    have qf := hb.frozen
    have ql := hb.lt
    simp only [List.getElem?_cons_zero] at q0
    have K1 := k1.mono (S' := [m, c, rb]) (by intro j hj; left; simp at hj ⊢; omega)
    clear c0 d0 e0 cf cl
    go_wp2_with fail
    go_ret
    exact ⟨rfl, h1.other _ _ (Ne.symm ha.1) (Ne.symm ha.2), K1.setCell _ _ (.inl (by simp))⟩
end Go.Proofs.Ytigmafikjbaigaa
