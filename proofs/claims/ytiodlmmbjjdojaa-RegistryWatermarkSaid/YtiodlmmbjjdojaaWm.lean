/- The contracts of package registry: Watermark. -/
import Derived.Test.YtiodlmmbjjdojaaReg2
namespace Go.Proofs.Ytiodlmmbjjdojaa
open Go.RowKit
/-- A Watermark ahead of its first step. -/
structure WmA (w : World) (wm nb lb pb xb tb sb nx wx : Nat) (T S N C R F K : Int) : Prop where
  self : Blk w wm [.func (.func 59) #[] #[.pointer (some ⟨xb, 0, none⟩), .pointer (some ⟨tb, 0, none⟩), .pointer (some ⟨sb, 0, none⟩)], .bool true, .int .i64 T, .int .i64 S, .int .i64 N, .int .i64 C, .int .i64 R, .int .i64 F, .int .u64 K, .int .u64 0]
  x : Blk w xb [.iface 75 (.pointer (some ⟨nb, 0, none⟩))]
  t : Blk w tb [.func (.func 37) #[] #[.pointer (some ⟨nx, 0, none⟩), .pointer (some ⟨wx, 0, none⟩)]]
  s : Blk w sb [.func (.func 59) #[] #[.pointer (some ⟨xb, 0, none⟩), .pointer (some ⟨tb, 0, none⟩), .pointer (some ⟨sb, 0, none⟩)]]
  n : Blk w nx [.pointer (some ⟨nb, 0, none⟩)]
  w_ : Blk w wx [.pointer (some ⟨wm, 0, none⟩)]
  now : NowB w nb lb pb T S N C R F K
/-- A Watermark that will load cell k of the registry next. -/
structure WmS (w : World) (wm ab kb : Nat) (T S N C R F K : Int) (k t : Int) : Prop where
  self : Blk w wm [.func (.func 60) #[] #[.pointer (some ⟨ab, 0, none⟩), .pointer (some ⟨kb, 0, none⟩)], .bool true, .int .i64 T, .int .i64 S, .int .i64 N, .int .i64 C, .int .i64 R, .int .i64 F, .int .u64 K, .int .u64 t]
  a : Blk w ab [.pointer (some ⟨wm, 0, none⟩)]
  k_ : Blk w kb [.int .i64 k]
/-- A Watermark that has finished. -/
def WmD (w : World) (wm : Nat) (T S N C R F K : Int) (t : Int) : Prop := Blk w wm [.nilFunc, .bool true, .int .i64 T, .int .i64 S, .int .i64 N, .int .i64 C, .int .i64 R, .int .i64 F, .int .u64 K, .int .u64 t]
set_option maxHeartbeats 1000000 in
theorem newWatermark_any (T S N C R F K : Int) (w : World) :
    Calls Try.prog 15 #[.agg #[.int .i64 T, .int .i64 S, .int .i64 N, .int .i64 C, .int .i64 R, .int .i64 F, .int .u64 K]] w fun e w' => ∃ wm nb lb pb xb tb sb nx wx, e = .returned (.pointer (some ⟨wm, 0, none⟩)) ∧ WmA w' wm nb lb pb xb tb sb nx wx T S N C R F K ∧ w.heap.size ≤ wm ∧ w.heap.size ≤ nb ∧ w.heap.size ≤ lb ∧ w.heap.size ≤ pb ∧ w.heap.size ≤ xb ∧ w.heap.size ≤ tb ∧ w.heap.size ≤ sb ∧ w.heap.size ≤ nx ∧ w.heap.size ≤ wx ∧
      nb ≠ wm ∧ nb ≠ tb ∧ nb ≠ nx ∧ nb ≠ wx ∧ wx ≠ wm ∧ nx ≠ wm ∧ Keeps [] w w' := by
  go_enter Try.func15, Try.ntmps15
  go_wp2_with fail
  have hw := (Blk.new_at (w.alloc (.cells #[.int .i64 T, .int .i64 S, .int .i64 N, .int .i64 C, .int .i64 R, .int .i64 F, .int .u64 K] 29)) (w.heap.size + 1) [.nilFunc, .bool false, .int .i64 T, .int .i64 S, .int .i64 N, .int .i64 C, .int .i64 R, .int .i64 F, .int .u64 K, .int .u64 0] 74 (by simp)).alloc (.cells #[.pointer (some ⟨w.heap.size + 1, 0, none⟩)] 40)
  have hx := Blk.new_at ((w.alloc (.cells #[.int .i64 T, .int .i64 S, .int .i64 N, .int .i64 C, .int .i64 R, .int .i64 F, .int .u64 K] 29)).alloc (.cells #[.nilFunc, .bool false, .int .i64 T, .int .i64 S, .int .i64 N, .int .i64 C, .int .i64 R, .int .i64 F, .int .u64 K, .int .u64 0] 74)) (w.heap.size + 1 + 1) [.pointer (some ⟨w.heap.size + 1, 0, none⟩)] 40 (by simp)
  have K0 := (((Keeps.refl [] w).alloc (.cells #[.int .i64 T, .int .i64 S, .int .i64 N, .int .i64 C, .int .i64 R, .int .i64 F, .int .u64 K] 29)).alloc (.cells #[.nilFunc, .bool false, .int .i64 T, .int .i64 S, .int .i64 N, .int .i64 C, .int .i64 R, .int .i64 F, .int .u64 K, .int .u64 0] 74)).alloc (.cells #[.pointer (some ⟨w.heap.size + 1, 0, none⟩)] 40)
  refine (newNow_any T S N C R F K _).mono ?_
  rintro e w1 ⟨nb, lb, pb, rfl, hn, hnb, hlb, hpb, k1⟩
  replace hw := k1.blk hw (by simp)
  replace hx := k1.blk hx (by simp)
  have K1 := K0.trans k1 (by simp)
  simp at hnb hlb hpb
  clear K0 k1
  go_wp2_with fail
  have hx2 := hx.alloc (.cells #[.pointer (some ⟨nb, 0, none⟩)] 75)
  have hw2 := hw.alloc (.cells #[.pointer (some ⟨nb, 0, none⟩)] 75)
  have hn2 := hn.alloc (.cells #[.pointer (some ⟨nb, 0, none⟩)] 75)
  have hp2 := Blk.new w1 [.pointer (some ⟨nb, 0, none⟩)] 75
  have K2 := K1.alloc (.cells #[.pointer (some ⟨nb, 0, none⟩)] 75)
  have hnl := hn.lt
  have hwl := hw.lt
  have hxl := hx.lt
  obtain ⟨wb, hwb⟩ : ∃ wb, wb = w1.alloc (.cells #[.pointer (some ⟨nb, 0, none⟩)] 75) := ⟨_, rfl⟩
  have hsz : w1.heap.size < wb.heap.size := by rw [hwb]; simp
  rw [← hwb] at hx2 hw2 hn2 hp2 K2 ⊢
  clear hwb hx hw hn K1
  have q1 : w1.heap.size ≠ w.heap.size + 1 := by omega
  have x0 := hx2.o1.1
  have p0 := hp2.o1.1
  go_region_held3 (fun w' => w'.cell? ⟨w.heap.size + 1 + 1, 0, none⟩ = some (.pointer (some ⟨w.heap.size + 1, 0, none⟩)) ∧ w'.cell? ⟨w1.heap.size, 0, none⟩ = some (.pointer (some ⟨nb, 0, none⟩)))
    (first
      | exact ⟨k5.cellEq (w := wb.drew) x0 (by simp), k5.cellEq (w := wb.drew) p0 (by simp)⟩
      | exact ⟨k56.cellEq x0 (by simp), k56.cellEq p0 (by simp)⟩
      | exact ⟨(((k56.blk hx2 (by simp)).other _ _ (by simp)).other _ _ (by simp)).cell 0, (((k56.blk hp2 (by simp)).other _ _ (by simp; omega)).other _ _ (by simp; omega)).cell 0⟩
      | go_keep)
    ((first
      | (go_at_call 36; refine (call_any _ _ _ _ _ _).mono ?_; rintro e w5 ⟨xb, tb, sb, rfl, hx5, ht5, hs5, hxb, htb, hsb, k5⟩)
      | (go_at_call 35; refine (stepsBegin_any _ _ _ _).mono ?_; rintro e w6 ⟨rfl, k6⟩; have k56 := k5.undrew.trans k6 (by simp); have hw6 := k56.blk hw2 (by simp); have hw6o := hw6.o10)))
  have hx6 := k56.blk hx2 (by simp)
  have hp6 := k56.blk hp2 (by simp)
  have hn6 := hn2.keeps k56 (by simp) (by simp) (by simp)
  have hxx6 := k6.blk hx5 (by simp)
  have htt6 := k6.blk ht5 (by simp)
  have hss6 := k6.blk hs5 (by simp)
  simp at hxb htb hsb
  go_wp2_with fail
  go_ret
  exact ⟨w.heap.size + 1, nb, lb, pb, xb, tb, sb, w1.heap.size, w.heap.size + 1 + 1, rfl, ⟨(hw6.set 0 _).set 1 _, (hxx6.other _ _ (by simp; omega)).other _ _ (by simp; omega), (htt6.other _ _ (by simp; omega)).other _ _ (by simp; omega),
    (hss6.other _ _ (by simp; omega)).other _ _ (by simp; omega), (hp6.other _ _ (by simp; omega)).other _ _ (by simp; omega), (hx6.other _ _ (by simp)).other _ _ (by simp), (hn6.other _ _ (by simp; omega) (by simp; omega) (by simp; omega)).other _ _ (by simp; omega) (by simp; omega) (by simp; omega)⟩,
    by omega, by omega, by omega, by omega, by omega, by omega, by omega, by omega, by omega, by omega, by omega, by omega, by omega, by omega, by omega, ((K2.trans k56 (by simp)).setCell _ _ (.inr (by simp))).setCell _ _ (.inr (by simp))⟩
set_option maxHeartbeats 400000 in
theorem scan_any (w : World) (wm : Nat) (k : Int) :
    Calls Try.prog 39 #[.pointer (some ⟨wm, 0, none⟩), .int .i64 k] w fun e w' => ∃ ab kb, e = .returned (.func (.func 60) #[] #[.pointer (some ⟨ab, 0, none⟩), .pointer (some ⟨kb, 0, none⟩)]) ∧ Blk w' ab [.pointer (some ⟨wm, 0, none⟩)] ∧ Blk w' kb [.int .i64 k] ∧ w.heap.size ≤ ab ∧ w.heap.size ≤ kb ∧ Keeps [] w w' := by
  go_enter Try.func39, Try.ntmps39
  go_wp2_with fail
  go_ret
  exact ⟨w.heap.size, w.heap.size + 1, rfl, (Blk.new _ _ _).alloc _, Blk.new_at _ _ _ _ (by simp), by omega, by omega, ((Keeps.refl [] w).alloc _).alloc _⟩
set_option maxHeartbeats 1000000 in
theorem wmStep0 (w : World) (wm nb lb pb xb tb sb nx wx m c : Nat) (L : List C3) (n : Int) (T S N C R F K : Int) (h : WmA w wm nb lb pb xb tb sb nx wx T S N C R F K)
    (hm : MemAt w m c L n) (n0 : 0 ≤ n) (n1 : n ≤ 4611686018427387904) (ha : wm ≠ m ∧ wm ≠ c) (ha2 : nb ≠ m ∧ lb ≠ m ∧ pb ≠ m ∧ nb ≠ c) (hb2 : tb ≠ m ∧ nx ≠ m ∧ wx ≠ m) (hd : nb ≠ wm ∧ nb ≠ tb ∧ nb ≠ nx ∧ nb ≠ wx) (hd2 : wx ≠ wm ∧ nx ≠ wm) :
    Calls Try.prog 16 #[.pointer (some ⟨wm, 0, none⟩), .pointer (some ⟨m, 0, none⟩)] w fun e w' => e = .returned (.bool false) ∧ ∃ ab kb, WmS w' wm ab kb T S N C R F K 0 (memAt L 2).N ∧ w.heap.size ≤ ab ∧ w.heap.size ≤ kb ∧
      MemAt w' m c L (n + 1) ∧ Keeps [m, nb, wm] w w' := by
  obtain ⟨h1, h2, h3, h4, h5, h6, h7⟩ := h
  have h1o := h1.o10
  have h2o := h2.o1
  have h3o := h3.o1
  go_enter Try.func16, Try.ntmps16
  go_wp2_with fail
  go_in
  go_wp2_with fail
  go_in
  go_wp2_with fail
  refine (nowStep_any w nb lb pb m c L n T S N C R F K h7 hm n0 n1 (by omega) (by omega)).mono ?_
  rintro e w5 ⟨rfl, hn5, hm5, k5⟩
  have g1 := k5.blk h1 (by simp; omega)
  have g3 := k5.blk h3 (by simp; omega)
  have g5 := k5.blk h5 (by simp; omega)
  have g6 := k5.blk h6 (by simp; omega)
  replace h1o := g1.o10
  replace h3o := g3.o1
  have g5o := g5.o1
  have g6o := g6.o1
  clear h2o
  have hm5l := hm5.lt
  go_wp2_with fail
  go_in
  go_wp2_with fail
  have x0 := g6o.1
  have n0' := g5o.1
  go_region_held3 (fun w' => w'.cell? ⟨wx, 0, none⟩ = some (.pointer (some ⟨wm, 0, none⟩)) ∧ w'.cell? ⟨nx, 0, none⟩ = some (.pointer (some ⟨nb, 0, none⟩)))
    (first | exact ⟨(g6.other ⟨wm, 9, none⟩ (.int .u64 (memAt L 2).N) (by simp; omega)).cell 0, (g5.other ⟨wm, 9, none⟩ (.int .u64 (memAt L 2).N) (by simp; omega)).cell 0⟩ | go_keep)
    ((go_at_call 38; refine (nowTime_done _ nb _ (Blk.drew hn5)).mono ?_; rintro e w' ⟨rfl, rfl⟩))
  have e1 := (g1.set 9 (.int .u64 (memAt L 2).N)).drew
  have e6 := (g6.other ⟨wm, 9, none⟩ (.int .u64 (memAt L 2).N) (by simp; omega)).drew
  have em := (hm5.other ⟨wm, 9, none⟩ (.int .u64 (memAt L 2).N) (by simp; omega) (by simp; omega)).drew
  have ek := ((k5.mono (S' := [m, nb, wm]) (by intro j hj; left; simp at hj ⊢; omega)).setCell ⟨wm, 9, none⟩ (.int .u64 (memAt L 2).N) (.inl (by simp))).drew
  obtain ⟨wc, hwc⟩ : ∃ wc, wc = (w5.setCell ⟨wm, 9, none⟩ (.int .u64 (memAt L 2).N)).drew := ⟨_, rfl⟩
  rw [← hwc] at e1 e6 em ek ⊢
  clear hwc g1 g3 g5 g6 h1o h3o g5o g6o x0 n0'
  simp only [List.set_cons_succ, List.set_cons_zero] at e1
  have e6o := e6.o1
  have wmc := em.lt
  have wms := e1.lt
  go_wp2_with fail
  refine (scan_any _ wm 0).mono ?_
  rintro e w7 ⟨ab, kb, rfl, ha7, hk7, hab, hkb, k7⟩
  have f1 := k7.blk e1 (by simp)
  have f1o := f1.o10
  have fm := em.keeps k7 (by simp) (by simp)
  have fK := ek.trans k7 (by simp)
  have es := ek.size
  clear e6o
  go_wp2_with fail
  go_ret
  exact ⟨rfl, ab, kb, ⟨f1.set 0 _, ha7.other _ _ (by simp; omega), hk7.other _ _ (by simp; omega)⟩, by omega, by omega, fm.other _ _ (by simp; omega) (by simp; omega), fK.setCell _ _ (.inl (by simp))⟩
end Go.Proofs.Ytiodlmmbjjdojaa
