/- client: Finish of the task that releases a snapshot (written by gen_trl.py). -/
import Derived.Test.YtjmhnlbkfbieaaaGreatTrl
import Derived.Deep.RegionHeld3
import Derived.StillTailTactics
namespace Go.Proofs.YtjmhnlbkfbieaaaGreat
open Go.RowKit
set_option linter.unusedSectionVars false
set_option linter.unusedVariables false
set_option linter.unusedSimpArgs false
set_option maxRecDepth 100000
set_option maxHeartbeats 4000000
/-- The cursors of a client: the cursor r open on snapshot h, the others closed. -/
def scO (r : Nat) (h : Int) : List Value := (sc0.set (r * 4) (.bool true)).set (r * 4 + 1) (.int .i64 h)
def scK (r : Nat) (h : Int) (k : Nat) : List Value := if r < k then sc0 else scO r h
theorem set4_pre (pre sc : List Value) (k : Nat) (a b c d : Value) (hp : pre.length = 16) : ((((pre ++ sc).set (16 + k * 4) a).set (16 + k * 4 + 1) b).set (16 + k * 4 + 2) c).set (16 + k * 4 + 3) d = pre ++ ((((sc.set (k * 4) a).set (k * 4 + 1) b).set (k * 4 + 2) c).set (k * 4 + 3) d) := by
  rw [List.set_append_right _ _ (by omega), List.set_append_right _ _ (by omega), List.set_append_right _ _ (by omega), List.set_append_right _ _ (by omega), show 16 + k * 4 - pre.length = k * 4 by omega, show 16 + k * 4 + 1 - pre.length = k * 4 + 1 by omega, show 16 + k * 4 + 2 - pre.length = k * 4 + 2 by omega, show 16 + k * 4 + 3 - pre.length = k * 4 + 3 by omega]
theorem get_pre (pre sc : List Value) (k : Nat) (hp : pre.length = 16) : (pre ++ sc)[16 + k]? = sc[k]? := by
  rw [List.getElem?_append_right (by omega), show 16 + k - pre.length = k by omega]
theorem scK_clear (r k : Nat) (h : Int) (hr : r < 8) (hk : k < 8) : ((((scK r h k).set (k * 4) (.bool false)).set (k * 4 + 1) (.int .i64 0)).set (k * 4 + 2) (.int .i64 0)).set (k * 4 + 3) (.string ⟨#[]⟩) = scK r h (k + 1) := by
  obtain rfl | rfl | rfl | rfl | rfl | rfl | rfl | rfl : r = 0 ∨ r = 1 ∨ r = 2 ∨ r = 3 ∨ r = 4 ∨ r = 5 ∨ r = 6 ∨ r = 7 := by omega
  all_goals (obtain rfl | rfl | rfl | rfl | rfl | rfl | rfl | rfl : k = 0 ∨ k = 1 ∨ k = 2 ∨ k = 3 ∨ k = 4 ∨ k = 5 ∨ k = 6 ∨ k = 7 := by omega)
  all_goals rfl
theorem scK_same (r k : Nat) (h : Int) (hn : k ≠ r) : scK r h (k + 1) = scK r h k := by
  unfold scK
  by_cases h1 : r < k
  · rw [if_pos h1, if_pos (by omega)]
  · rw [if_neg h1, if_neg (by omega)]
/-- What the cursor k holds: open, its snapshot, its position. -/
theorem scK_get (r k : Nat) (h : Int) (hr : r < 8) (hk : k < 8) : ∃ a : Bool, (scK r h k)[k * 4]? = some (.bool a) ∧ (scK r h k)[k * 4 + 1]? = some (.int .i64 (if k = r then h else 0)) ∧ (scK r h k)[k * 4 + 2]? = some (.int .i64 0) ∧ (scK r h k)[k * 4 + 3]? = some (.string ⟨#[]⟩) := by
  obtain rfl | rfl | rfl | rfl | rfl | rfl | rfl | rfl : r = 0 ∨ r = 1 ∨ r = 2 ∨ r = 3 ∨ r = 4 ∨ r = 5 ∨ r = 6 ∨ r = 7 := by omega
  all_goals (obtain rfl | rfl | rfl | rfl | rfl | rfl | rfl | rfl : k = 0 ∨ k = 1 ∨ k = 2 ∨ k = 3 ∨ k = 4 ∨ k = 5 ∨ k = 6 ∨ k = 7 := by omega)
  all_goals exact ⟨_, rfl, rfl, rfl, rfl⟩
theorem rfin_any (w : World) (rl rb gc gs s h r : Nat) (v : Int) (sn pre : List Value) (tm : Int) (v0 : Value) (hp : pre.length = 16) (hp15 : pre[15]? = some (.slice (some ⟨gs, 0, none⟩) s s)) (b : Blk w rl [.int .i64 v, .pointer (some ⟨rb, 0, none⟩), .int .i64 h]) (b1 : Blk w gc (pre ++ scO r h)) (b2 : Blk w gs sn) (hr : r < 8) (hh : h < s) (hv0 : sn[h * 2]? = some v0) (hv1 : sn[h * 2 + 1]? = some (.int .u64 tm)) (hne : gs ≠ gc ∧ gs ≠ rl ∧ rl ≠ gc) :
    Calls Tryz.prog 352 #[.pointer (some ⟨rl, 0, none⟩), .pointer (some ⟨gc, 0, none⟩)] w fun q w' => q = .returned (.agg #[.int .i64 0, .int .u64 tm, .string ⟨#[]⟩, .string ⟨#[]⟩]) ∧ Blk w' gs ((sn.set (h * 2) (.bool false)).set (h * 2 + 1) (.int .u64 0)) ∧ Blk w' gc (pre ++ sc0) ∧ Keeps [gc, gs] w w' := by
  have kw := (Keeps.refl [] w).alloc (.cells #[.int .i64 0, .int .u64 0, .string ⟨#[]⟩, .string ⟨#[]⟩] 52)
  have bA := Blk.new w [.int .i64 0, .int .u64 0, .string ⟨#[]⟩, .string ⟨#[]⟩] 52
  change Blk (w.alloc (.cells #[.int .i64 0, .int .u64 0, .string ⟨#[]⟩, .string ⟨#[]⟩] 52)) _ _ at bA
  have c1 := kw.blk b1 (by simp)
  have c2 := kw.blk b2 (by simp)
  have cr := kw.blk b (by simp)
  have hgs := b2.lt
  have hgc := b1.lt
  go_enter Tryz.func352, Tryz.ntmps352
  go_upto_region 1 with fail
  obtain ⟨W, hW⟩ : ∃ W, w.alloc (.cells #[.int .i64 0, .int .u64 0, .string ⟨#[]⟩, .string ⟨#[]⟩] 52) = W := ⟨_, rfl⟩
  obtain ⟨gA, hgA⟩ : ∃ gA, w.heap.size = gA := ⟨_, rfl⟩
  have HG : Hid (w.heap.size = gA ∧ gs < gA ∧ gc < gA) := Lib.hid ⟨hgA, by omega, by omega⟩
  rw [hW] at kw bA c1 c2 cr ⊢
  rw [hgA] at bA ⊢
  clear hW hgA b1 b2 b hgs hgc
  have f15 : W.cell? ⟨gc, 15, none⟩ = some (.slice (some ⟨gs, 0, none⟩) s s) := by rw [c1.cell, List.getElem?_append_left (by omega)]; exact hp15
  have p2 : W.cell? ⟨rl, 2, none⟩ = some (.int .i64 h) := cr.cell 2
  have x0 : W.cell? ⟨gs, h * 2, none⟩ = some v0 := by rw [c2.cell]; exact hv0
  have x1 : W.cell? ⟨gs, h * 2 + 1, none⟩ = some (.int .u64 tm) := by rw [c2.cell]; exact hv1
  have hsI : (h : Int) < (s : Int) := by omega
  have hh0 : (0 : Int) ≤ (h : Int) := by omega
  have ne1 := World.new_ne W _ f15
  have ne2 := World.new_ne W _ p2
  have ne3 := World.new_ne W _ x1
  go_region_held3 (fun w' => w'.cell? ⟨gc, 15, none⟩ = some (.slice (some ⟨gs, 0, none⟩) s s) ∧ w'.cell? ⟨rl, 2, none⟩ = some (.int .i64 h) ∧ w'.cell? ⟨gs, h * 2 + 1, none⟩ = some (.int .u64 tm))
    (first | (with_reducible exact ⟨f15, p2, x1⟩) | go_keep)
    (fail)
  have kB := ((Keeps.refl [] W).alloc (.cells #[.int .i64 0, .int .u64 tm, .string ⟨#[]⟩, .string ⟨#[]⟩] 52)).drew
  have bX := (Blk.new W [.int .i64 0, .int .u64 tm, .string ⟨#[]⟩, .string ⟨#[]⟩] 52).drew
  obtain ⟨W2, hW2⟩ : ∃ W2, (W.alloc (.cells #[.int .i64 0, .int .u64 tm, .string ⟨#[]⟩, .string ⟨#[]⟩] 52)).drew = W2 := ⟨_, rfl⟩
  obtain ⟨gX, hgX⟩ : ∃ gX, W.heap.size = gX := ⟨_, rfl⟩
  have HX : Hid (gA < gX ∧ gs < gX ∧ gc < gX ∧ w.heap.size ≤ gX) := Lib.hid (by have := bA.lt; have := HG.out; omega)
  change Blk ((W.alloc (.cells #[.int .i64 0, .int .u64 tm, .string ⟨#[]⟩, .string ⟨#[]⟩] 52)).drew) _ _ at bX
  rw [hW2] at kB bX ⊢
  rw [hgX] at bX ⊢
  have c12 := kB.blk c1 (by simp)
  have c22 := kB.blk c2 (by simp)
  have cr2 := kB.blk cr (by simp)
  have bA2 := kB.blk bA (by simp)
  have K2 := kw.trans kB (by simp)
  clear hW2 hgX kB kw c1 c2 cr bA f15 p2 x0 x1 ne1 ne2 ne3
  have f15 : W2.cell? ⟨gc, 15, none⟩ = some (.slice (some ⟨gs, 0, none⟩) s s) := by rw [c12.cell, List.getElem?_append_left (by omega)]; exact hp15
  have p2 : W2.cell? ⟨rl, 2, none⟩ = some (.int .i64 h) := cr2.cell 2
  have x0 : W2.cell? ⟨gs, h * 2, none⟩ = some v0 := by rw [c22.cell]; exact hv0
  have x1 : W2.cell? ⟨gs, h * 2 + 1, none⟩ = some (.int .u64 tm) := by rw [c22.cell]; exact hv1
  have xf := c22.frozen
  have xl := c22.lt
  have kC := (((Keeps.refl [gs] W2).setCell ⟨gs, h * 2, none⟩ (.bool false) (.inl (by simp))).setCell ⟨gs, h * 2 + 1, none⟩ (.int .u64 0) (.inl (by simp))).drew
  have bC := ((c22.set (h * 2) (.bool false)).set (h * 2 + 1) (.int .u64 0)).drew
  go_upto_region 2 with fail
  go_region
  obtain ⟨W3, hW3⟩ : ∃ W3, ((W2.setCell ⟨gs, h * 2, none⟩ (.bool false)).setCell ⟨gs, h * 2 + 1, none⟩ (.int .u64 0)).drew = W3 := ⟨_, rfl⟩
  rw [hW3] at kC bC ⊢
  have c13 := kC.blk c12 (by simp; exact fun e => hne.1 e.symm)
  have cr3 := kC.blk cr2 (by simp; exact fun e => hne.2.1 e.symm)
  have bA3 := kC.blk bA2 (by have := HG.out; simp; omega)
  have bX3 := kC.blk bX (by have := HX.out; simp; omega)
  have K3 : Keeps [gc, gs] w W3 := (K2.mono (S' := [gc, gs]) (by simp)).trans kC (by simp)
  clear hW3 kC c12 c22 cr2 bA2 bX K2 f15 p2 x0 x1 xf xl
  go_upto_block 4 with fail
  go_loopw [29] (fun i wr => ∃ k : Nat, k ≤ 8 ∧ i = .int .i64 k ∧ Blk wr gc (pre ++ scK r h k) ∧ Keeps [gc] W3 wr) (fun i _ => 8 - (intOf i).toNat)
  case atStart => exact ⟨0, by omega, rfl, by simpa [scK] using c13, Keeps.refl _ _⟩
  case round =>
    clear c13
    obtain ⟨k, hk, rfl, bk, kk⟩ := hrel
    have crk := kk.blk cr3 (by simp; exact hne.2.2)
    by_cases hlt : k < 8
    · obtain ⟨a, g0, g1, g2, g3⟩ := scK_get r k h hr hlt
      have y0 : wr.cell? ⟨gc, 16 + k * 4, none⟩ = some (.bool a) := by rw [bk.cell, get_pre _ _ _ hp]; exact g0
      have y2 : wr.cell? ⟨gc, 16 + k * 4 + 2, none⟩ = some (.int .i64 0) := by rw [bk.cell, Nat.add_assoc, get_pre _ _ _ hp]; exact g2
      have y3 : wr.cell? ⟨gc, 16 + k * 4 + 3, none⟩ = some (.string ⟨#[]⟩) := by rw [bk.cell, Nat.add_assoc, get_pre _ _ _ hp]; exact g3
      have p2 : wr.cell? ⟨rl, 2, none⟩ = some (.int .i64 h) := crk.cell 2
      have yf := bk.frozen
      have yl := bk.lt
      have hkI : (k : Int) < 8 := by omega
      have hk0 : (0 : Int) ≤ (k : Int) := by omega
      have kS := ((((Keeps.refl [gc] wr).setCell ⟨gc, 16 + k * 4, none⟩ (.bool false) (.inl (by simp))).setCell ⟨gc, 16 + k * 4 + 1, none⟩ (.int .i64 0) (.inl (by simp))).setCell ⟨gc, 16 + k * 4 + 2, none⟩ (.int .i64 0) (.inl (by simp))).setCell ⟨gc, 16 + k * 4 + 3, none⟩ (.string ⟨#[]⟩) (.inl (by simp))
      have bS := (((bk.set (16 + k * 4) (.bool false)).set (16 + k * 4 + 1) (.int .i64 0)).set (16 + k * 4 + 2) (.int .i64 0)).set (16 + k * 4 + 3) (.string ⟨#[]⟩)
      rw [set4_pre _ _ _ _ _ _ _ hp, scK_clear r k h hr hlt] at bS
      by_cases hkr : k = r
      · rw [if_pos hkr] at g1
        have y1 : wr.cell? ⟨gc, 16 + k * 4 + 1, none⟩ = some (.int .i64 h) := by rw [bk.cell, Nat.add_assoc, get_pre _ _ _ hp]; exact g1
        clear g0 g1 g2 g3 hkr
        go_wp2_with fail
        go_quiet (fail)
        go_wp2_with fail
        exact ⟨⟨k + 1, by omega, by go_num, bS.drewN _, (kk.trans kS (by simp)).drewN _⟩, by simp [intOf]; omega⟩
      · rw [if_neg hkr] at g1
        have y1 : wr.cell? ⟨gc, 16 + k * 4 + 1, none⟩ = some (.int .i64 0) := by rw [bk.cell, Nat.add_assoc, get_pre _ _ _ hp]; exact g1
        have hs2 := scK_same r k h hkr
        clear g0 g1 g2 g3 hkr
        by_cases hh1 : (h : Int) = 0
        · have hb : ((0 : Int) == (h : Int)) = true := by simp [hh1]
          go_wp2_with fail
          go_quiet (fail)
          go_wp2_with fail
          exact ⟨⟨k + 1, by omega, by go_num, bS.drewN _, (kk.trans kS (by simp)).drewN _⟩, by simp [intOf]; omega⟩
        · have hb : ((0 : Int) == (h : Int)) = false := by simp; omega
          have hh2 : ¬ ((0 : Int) = (h : Int)) := fun e => hh1 e.symm
          go_wp2_with fail
          go_quiet (fail)
          go_wp2_with fail
          exact ⟨⟨k + 1, by omega, by go_num, by rw [hs2]; exact bk.drewN _, kk.drewN _⟩, by simp [intOf]; omega⟩
    · obtain rfl : k = 8 := by omega
      have bXk := kk.blk bX3 (by have := HX.out; simp; omega)
      have bAk := kk.blk bA3 (by have := HG.out; simp; omega)
      have bsk := kk.blk bC (by simp; exact hne.1)
      obtain ⟨x0, x1, x2, x3, xf, xl⟩ := bXk.o4
      obtain ⟨a0, a1, a2, a3, af, al⟩ := bAk.o4
      have kS := ((((Keeps.refl [gA] wr).setCell ⟨gA, 0, none⟩ (.int .i64 0) (.inl (by simp))).setCell ⟨gA, 1, none⟩ (.int .u64 tm) (.inl (by simp))).setCell ⟨gA, 2, none⟩ (.string ⟨#[]⟩) (.inl (by simp))).setCell ⟨gA, 3, none⟩ (.string ⟨#[]⟩) (.inl (by simp))
      have bS := (((bAk.set 0 (.int .i64 0)).set 1 (.int .u64 tm)).set 2 (.string ⟨#[]⟩)).set 3 (.string ⟨#[]⟩)
      simp only [List.set_cons_zero, List.set_cons_succ] at bS
      have b8 : Blk wr gc (pre ++ sc0) := by have := bk; unfold scK at this; rwa [if_pos hr] at this
      go_wp2_with fail
      refine bodyPost_ret (results_blk (cs := [.int .i64 0, .int .u64 tm, .string ⟨#[]⟩, .string ⟨#[]⟩]) rfl _ _ gA _ rfl bS Tryz.underlying52 sizA) rfl ?_
      exact ⟨rfl, kS.blk bsk (by have := HG.out; simp; omega), kS.blk b8 (by have := HG.out; simp; omega), (K3.trans kk (by simp)).trans kS (by have := HG.out; simp; omega)⟩
end Go.Proofs.YtjmhnlbkfbieaaaGreat
