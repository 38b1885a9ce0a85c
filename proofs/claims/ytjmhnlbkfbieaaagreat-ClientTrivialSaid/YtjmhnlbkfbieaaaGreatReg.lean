/- The contracts of package registry: Open, Release. -/
import Derived.Test.YtjmhnlbkfbieaaaGreatClock
namespace Go.Proofs.YtjmhnlbkfbieaaaGreat
open Go.RowKit
set_option maxHeartbeats 1000000 in
theorem newOpen_any (T S N C R F K : Int) (h : CfgOK T S N C R F K) (t j : Int) (t0 : 0 ≤ t) (t1 : t < T) (j0 : 0 ≤ j) (j1 : j < S) (w : World) :
    Calls Tryz.prog 40 #[.agg #[.int .i64 T, .int .i64 S, .int .i64 N, .int .i64 C, .int .i64 R, .int .i64 F, .int .u64 K], .int .i64 t, .int .i64 j] w fun e w' => ∃ nb lb pb ob, e = .returned (.pointer (some ⟨ob, 0, none⟩)) ∧ NowB w' nb lb pb T S N C R F K ∧ Blk w' ob [.func (.func 67) #[.pointer (some ⟨ob, 0, none⟩)] #[], .bool true, .int .i64 (8 + t * S + j), .pointer (some ⟨nb, 0, none⟩), .int .i64 0] ∧
      w.heap.size ≤ nb ∧ w.heap.size ≤ lb ∧ w.heap.size ≤ pb ∧ w.heap.size ≤ ob ∧ nb ≠ ob ∧ ob ≠ lb ∧ ob ≠ pb ∧ Keeps [] w w' := by
  go_enter Tryz.func40, Tryz.ntmps40
  go_wp2_with fail
  have hl := Blk.new w [.int .i64 T, .int .i64 S, .int .i64 N, .int .i64 C, .int .i64 R, .int .i64 F, .int .u64 K] 31
  have K0 := (Keeps.refl [] w).alloc (.cells #[.int .i64 T, .int .i64 S, .int .i64 N, .int .i64 C, .int .i64 R, .int .i64 F, .int .u64 K] 31)
  obtain ⟨wb, hwb⟩ : ∃ wb, wb = w.alloc (.cells #[.int .i64 T, .int .i64 S, .int .i64 N, .int .i64 C, .int .i64 R, .int .i64 F, .int .u64 K] 31) := ⟨_, rfl⟩
  rw [← hwb] at hl K0 ⊢
  clear hwb
  obtain ⟨l0, l1, l2, l3, l4, l5, l6, -, hll⟩ := hl.o7
  go_region_held3 (fun w' => w'.cell? ⟨w.heap.size, 0, none⟩ = some (.int .i64 T) ∧ w'.cell? ⟨w.heap.size, 1, none⟩ = some (.int .i64 S) ∧ w'.cell? ⟨w.heap.size, 2, none⟩ = some (.int .i64 N) ∧ w'.cell? ⟨w.heap.size, 3, none⟩ = some (.int .i64 C) ∧ w'.cell? ⟨w.heap.size, 4, none⟩ = some (.int .i64 R) ∧ w'.cell? ⟨w.heap.size, 5, none⟩ = some (.int .i64 F) ∧ w'.cell? ⟨w.heap.size, 6, none⟩ = some (.int .u64 K))
    (first
      | exact ⟨k5.cellEq (w := wb.drew) l0 (by simp), k5.cellEq (w := wb.drew) l1 (by simp), k5.cellEq (w := wb.drew) l2 (by simp), k5.cellEq (w := wb.drew) l3 (by simp), k5.cellEq (w := wb.drew) l4 (by simp), k5.cellEq (w := wb.drew) l5 (by simp), k5.cellEq (w := wb.drew) l6 (by simp)⟩
      | exact ⟨k56.cellEq l0 (by simp), k56.cellEq l1 (by simp), k56.cellEq l2 (by simp), k56.cellEq l3 (by simp), k56.cellEq l4 (by simp), k56.cellEq l5 (by simp), k56.cellEq l6 (by simp)⟩
      | go_keep)
    ((first
      | (go_at_call 66; refine (snapshot_yes T S N C R F K h t j t0 t1 j0 j1 _).mono ?_; rintro e w5 ⟨rfl, k5⟩)
      | (go_at_call 51; refine (newNow_any T S N C R F K _).mono ?_; rintro e w6 ⟨nb, lb, pb, rfl, hn6, hnb, hlb, hpb, k6⟩; have k56 := k5.undrew.trans k6 (by simp))))
  have ho := Blk.new w6 [.nilFunc, .bool false, .int .i64 (8 + t * S + j), .pointer (some ⟨nb, 0, none⟩), .int .i64 0] 153
  have hn := hn6.alloc (.cells #[.nilFunc, .bool false, .int .i64 (8 + t * S + j), .pointer (some ⟨nb, 0, none⟩), .int .i64 0] 153)
  have K6 := (K0.trans k56 (by simp)).alloc (.cells #[.nilFunc, .bool false, .int .i64 (8 + t * S + j), .pointer (some ⟨nb, 0, none⟩), .int .i64 0] 153)
  have hn6l := hn6.lt
  have s5 := (k5.undrew).size
  have s0 := K0.size
  clear l0 l1 l2 l3 l4 l5 l6
  go_wp2_with fail
  refine (stepsBegin_any _ _ _ _).mono ?_
  rintro e w7 ⟨rfl, k7⟩
  replace ho := k7.blk ho (by simp)
  have hoo := ho.o5
  have hn7 := hn.keeps k7 (by simp) (by simp) (by simp)
  go_wp2_with fail
  go_ret
  exact ⟨nb, lb, pb, w6.heap.size, rfl, (hn7.other _ _ (by simp; omega) (by simp; omega) (by simp; omega)).other _ _ (by simp; omega) (by simp; omega) (by simp; omega), (ho.set 0 _).set 1 _, by omega, by omega, by omega, by have := k6.size; omega, by omega, by omega, by omega, ((K6.trans k7 (by simp)).setCell _ _ (.inr (by have := k6.size; simp; omega))).setCell _ _ (.inr (by have := k6.size; simp; omega))⟩
@[go_sem] theorem nilAhead_now (k : Nat) (a : Addr) (w : World) : (nilAhead (k + 1) 132 (.pointer (some a)) "Step").run Tryz.prog w = .ok (some false) w := by kernel_rfl
@[go_sem] theorem method_now (k : Nat) (a : Addr) (w : World) : (method (k + 1) 132 (.pointer (some a)) "Step").run Tryz.prog w = .ok (360, .pointer (some a)) w := by kernel_rfl
set_option maxHeartbeats 400000 in
theorem call_any (T : TypeId) (v : Value) (fn : Fn) (fa fb : Array Value) (w : World) :
    Calls Tryz.prog 52 #[.iface T v, .func fn fa fb] w fun e w' => ∃ xb tb sb, e = .returned (.func (.func 89) #[] #[.pointer (some ⟨xb, 0, none⟩), .pointer (some ⟨tb, 0, none⟩), .pointer (some ⟨sb, 0, none⟩)]) ∧ Blk w' xb [.iface T v] ∧ Blk w' tb [.func fn fa fb] ∧ Blk w' sb [.func (.func 89) #[] #[.pointer (some ⟨xb, 0, none⟩), .pointer (some ⟨tb, 0, none⟩), .pointer (some ⟨sb, 0, none⟩)]] ∧
      w.heap.size ≤ xb ∧ w.heap.size ≤ tb ∧ w.heap.size ≤ sb ∧ Keeps [] w w' := by
  go_enter Tryz.func52, Tryz.ntmps52
  go_wp2_with fail
  go_ret
  exact ⟨w.heap.size, w.heap.size + 1, w.heap.size + 1 + 1, rfl, ((Blk.new _ _ _).alloc _).alloc _, (Blk.new_at _ _ _ _ (by simp)).alloc _, Blk.new_at _ _ _ _ (by simp), by omega, by omega, by omega, (((Keeps.refl [] w).alloc _).alloc _).alloc _⟩
/-- An Open behind its first step: it runs its Now. -/
structure OpenB (w : World) (ob nb lb pb xb tb sb hb : Nat) (i : Int) (T S N C R F K : Int) : Prop where
  self : Blk w ob [.func (.func 89) #[] #[.pointer (some ⟨xb, 0, none⟩), .pointer (some ⟨tb, 0, none⟩), .pointer (some ⟨sb, 0, none⟩)], .bool true, .int .i64 i, .pointer (some ⟨nb, 0, none⟩), .int .i64 0]
  x : Blk w xb [.iface 132 (.pointer (some ⟨nb, 0, none⟩))]
  t : Blk w tb [.func (.func 107) #[] #[.pointer (some ⟨hb, 0, none⟩)]]
  s : Blk w sb [.func (.func 89) #[] #[.pointer (some ⟨xb, 0, none⟩), .pointer (some ⟨tb, 0, none⟩), .pointer (some ⟨sb, 0, none⟩)]]
  h : Blk w hb [.pointer (some ⟨ob, 0, none⟩)]
  now : NowB w nb lb pb T S N C R F K
set_option maxHeartbeats 1000000 in
theorem openStep1 (w : World) (ob nb lb pb m c : Nat) (L : List C3) (n i : Int) (T S N C R F K : Int) (ho : Blk w ob [.func (.func 67) #[.pointer (some ⟨ob, 0, none⟩)] #[], .bool true, .int .i64 i, .pointer (some ⟨nb, 0, none⟩), .int .i64 0]) (hn : NowB w nb lb pb T S N C R F K)
    (hm : MemAt w m c L n) (n0 : 0 ≤ n) (n1 : n ≤ 4611686018427387904) (ha : ob ≠ m ∧ ob ≠ c) (hb : nb ≠ m ∧ lb ≠ m ∧ pb ≠ m ∧ nb ≠ c ∧ lb ≠ c ∧ pb ≠ c) (hd : nb ≠ ob ∧ ob ≠ lb ∧ ob ≠ pb) :
    Calls Tryz.prog 347 #[.pointer (some ⟨ob, 0, none⟩), .pointer (some ⟨m, 0, none⟩)] w fun e w' => e = .returned (.bool false) ∧ ∃ xb tb sb hb, OpenB w' ob nb lb pb xb tb sb hb i T S N C R F K ∧
      w.heap.size ≤ xb ∧ w.heap.size ≤ tb ∧ w.heap.size ≤ sb ∧ w.heap.size ≤ hb ∧ MemAt w' m c (memSet L i ⟨1, ⟨#[]⟩, 0⟩) (n + 1) ∧ Keeps [m, c, ob] w w' := by
  have hoo := ho.o5
  have ob0 := ho.lt
  go_enter Tryz.func347, Tryz.ntmps347
  go_wp2_with fail
  go_in
  go_wp2_with fail
  go_in
  go_wp2_with fail
  refine (store_any _ m c L n (by exact hm.alloc _) i 1 0 ⟨#[]⟩ n0 n1).mono ?_
  rintro e w5 ⟨rfl, h5, k5⟩
  replace ho := k5.blk (ho.alloc _) (by simp; omega)
  replace hoo := ho.o5
  replace hn := (hn.alloc (.cells #[.pointer (some ⟨ob, 0, none⟩)] 106)).keeps k5 (by simp; omega) (by simp; omega) (by simp; omega)
  have hb5 := k5.blk (Blk.new w [.pointer (some ⟨ob, 0, none⟩)] 106) (by simp; have := hm.lt; omega)
  have hb5o := hb5.o1
  have K5 := ((Keeps.refl [m, c] w).alloc (.cells #[.pointer (some ⟨ob, 0, none⟩)] 106)).trans k5 (by simp)
  go_wp2_with fail
  refine (call_any _ _ _ _ _ _).mono ?_
  rintro e w6 ⟨xb, tb, sb, rfl, hx6, ht6, hs6, hxl, htl, hsl, k6⟩
  replace ho := k6.blk ho (by simp)
  replace hoo := ho.o5
  have hn6 := hn.keeps k6 (by simp) (by simp) (by simp)
  have hb6 := k6.blk hb5 (by simp)
  have h6 := h5.keeps k6 (by simp) (by simp)
  have s5 := hb5.lt
  have s6 := ho.lt
  have s7 := hn.lt
  have s8 := h5.lt
  go_wp2_with fail
  go_ret
  exact ⟨rfl, xb, tb, sb, w.heap.size, ⟨ho.set 0 _, hx6.other _ _ (by simp; omega), ht6.other _ _ (by simp; omega), hs6.other _ _ (by simp; omega), hb6.other _ _ (by simp; omega), hn6.other _ _ (by simp; omega) (by simp; omega) (by simp; omega)⟩, by omega, by omega, by omega, Nat.le_refl _,
    (h6.other _ _ (by simp; omega) (by simp; omega)), ((K5.trans k6 (by simp)).mono (S' := [m, c, ob]) (by intro j hj; left; simp at hj ⊢; omega)).setCell _ _ (.inl (by simp))⟩
/-- An Open that has its time: ahead of its last step or behind it (nil). -/
structure OpenC (w : World) (ob nb : Nat) (next : Value) (i t : Int) : Prop where
  self : Blk w ob [next, .bool true, .int .i64 i, .pointer (some ⟨nb, 0, none⟩), .int .i64 1]
  now : NowD w nb t
set_option maxHeartbeats 1000000 in
theorem openStep2 (w : World) (ob nb lb pb xb tb sb hb m c : Nat) (L : List C3) (n i : Int) (T S N C R F K : Int) (h : OpenB w ob nb lb pb xb tb sb hb i T S N C R F K)
    (hm : MemAt w m c L n) (n0 : 0 ≤ n) (n1 : n ≤ 4611686018427387904) (ha : ob ≠ m ∧ ob ≠ c) (ha2 : nb ≠ m ∧ lb ≠ m ∧ pb ≠ m ∧ nb ≠ c) (hb2 : xb ≠ m ∧ tb ≠ m ∧ sb ≠ m ∧ hb ≠ m) (hd : nb ≠ ob ∧ nb ≠ xb ∧ nb ≠ tb ∧ nb ≠ sb ∧ nb ≠ hb) :
    Calls Tryz.prog 347 #[.pointer (some ⟨ob, 0, none⟩), .pointer (some ⟨m, 0, none⟩)] w fun e w' => e = .returned (.bool false) ∧ OpenC w' ob nb (.func (.func 108) #[.pointer (some ⟨ob, 0, none⟩)] #[]) i (memAt L 2).N ∧
      MemAt w' m c L (n + 1) ∧ Keeps [m, nb, ob] w w' := by
  obtain ⟨h1, h2, h3, h4, h5, h6⟩ := h
  have h1o := h1.o5
  have h2o := h2.o1
  have h3o := h3.o1
  have h4o := h4.o1
  have h5o := h5.o1
  go_enter Tryz.func347, Tryz.ntmps347
  go_wp2_with fail
  go_in
  go_wp2_with fail
  go_in
  go_wp2_with fail
  refine (nowStep_any w nb lb pb m c L n T S N C R F K h6 hm n0 n1 (by omega) (by omega)).mono ?_
  rintro e w5 ⟨rfl, hn5, hm5, k5⟩
  have g1 := k5.blk h1 (by simp; omega)
  have g3 := k5.blk h3 (by simp; omega)
  have g4 := k5.blk h4 (by simp; omega)
  have g5 := k5.blk h5 (by simp; omega)
  replace h1o := g1.o5
  replace h3o := g3.o1
  replace h4o := g4.o1
  replace h5o := g5.o1
  clear h2o
  have hm5l := hm5.lt
  go_wp2_with fail
  go_in
  go_wp2_with fail
  go_ret
  exact ⟨rfl, ⟨((g1.set 4 _).set 0 _), (hn5.other _ _ (by simp; omega)).other _ _ (by simp; omega)⟩, (hm5.other _ _ (by simp; omega) (by simp; omega)).other _ _ (by simp; omega) (by simp; omega),
    ((k5.mono (S' := [m, nb, ob]) (by intro j hj; left; simp at hj ⊢; omega)).setCell _ _ (.inl (by simp))).setCell _ _ (.inl (by simp))⟩
set_option maxHeartbeats 1000000 in
theorem openStep3 (w : World) (ob nb m c : Nat) (L : List C3) (n i t : Int) (h : OpenC w ob nb (.func (.func 108) #[.pointer (some ⟨ob, 0, none⟩)] #[]) i t) (t0 : 0 ≤ t) (t1 : t ≤ 4611686018427387904)
    (hm : MemAt w m c L n) (n0 : 0 ≤ n) (n1 : n ≤ 4611686018427387904) (ha : ob ≠ m ∧ ob ≠ c) (ha2 : nb ≠ m ∧ nb ≠ c) (hd : nb ≠ ob) :
    Calls Tryz.prog 347 #[.pointer (some ⟨ob, 0, none⟩), .pointer (some ⟨m, 0, none⟩)] w fun e w' => e = .returned (.bool true) ∧ OpenC w' ob nb .nilFunc i t ∧
      MemAt w' m c (memSet L i ⟨t + 1, ⟨#[]⟩, 0⟩) (n + 1) ∧ Keeps [m, c, ob] w w' := by
  obtain ⟨h1, h2⟩ := h
  have h1o := h1.o5
  go_enter Tryz.func347, Tryz.ntmps347
  go_wp2_with fail
  go_in
  go_wp2_with fail
  go_in
  go_wp2_with fail
  obtain ⟨o0, o1, o2, o3, o4, of, ol⟩ := h1o
  have hsum : IntKind.u64.wrap (t + 1) = t + 1 := IntWalk.u64_in _ (by omega)
  clear o0 o1 o4 of
  go_region_held3 (fun w' => w'.cell? ⟨ob, 2, none⟩ = some (.int .i64 i) ∧ w'.cell? ⟨ob, 3, none⟩ = some (.pointer (some ⟨nb, 0, none⟩)))
    (first
      | go_keep
      | exact ⟨k5.undrew.cellEq o2 (by simp; omega), k5.undrew.cellEq o3 (by simp; omega)⟩)
    ((first
      | (go_at_call 54; refine (nowTime_done _ nb t (Blk.drew h2)).mono ?_; rintro e w' ⟨rfl, rfl⟩)
      | (go_at_call 69; refine (store_any _ m c L n (by exact hm.drew) i (t + 1) 0 ⟨#[]⟩ n0 n1).mono ?_; rintro e w5 ⟨rfl, h5, k5⟩)))
  have g1 := k5.undrew.blk h1 (by simp; omega)
  have g1o := g1.o5
  have g2 := k5.undrew.blk h2 (by simp; omega)
  go_wp2_with fail
  go_ret
  exact ⟨rfl, ⟨g1.set 0 _, g2.other _ _ (by simp; omega)⟩, h5.other _ _ (by simp; omega) (by simp; omega),
    (k5.undrew.mono (S' := [m, c, ob]) (by intro j hj; left; simp at hj ⊢; omega)).setCell _ _ (.inl (by simp))⟩
theorem openTime_done (w : World) (ob nb : Nat) (i t : Int) (h : OpenC w ob nb .nilFunc i t) :
    Calls Tryz.prog 350 #[.pointer (some ⟨ob, 0, none⟩)] w fun e w' => e = .returned (.int .u64 t) ∧ w = w' := by
  have h1o := h.self.o5
  have h2 := h.now
  go_enter Tryz.func350, Tryz.ntmps350
  go_wp2_with fail
  go_in
  go_wp2_with (go_at_call 54; refine (nowTime_done w nb t h2).mono ?_; rintro e w' ⟨rfl, rfl⟩)
  go_ret
  exact ⟨rfl, rfl⟩
end Go.Proofs.YtjmhnlbkfbieaaaGreat
