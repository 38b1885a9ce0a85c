/- The contract of the reference's SameOp, where the batches are equal or of different lengths. -/
import Derived.Test.YtjmhnlbkfbieaaaGreatScrJ
import Derived.BigQuiet
namespace Go.Proofs.YtjmhnlbkfbieaaaGreat
open Go.RowKit
set_option linter.unusedSectionVars false
set_option linter.unusedVariables false
set_option linter.unusedSimpArgs false
set_option maxRecDepth 100000
set_option maxHeartbeats 4000000
def sopB (x y : OV) : Bool := decide (x.b.length = y.b.length) && (decide (x.c = y.c) && (decide (x.k = y.k) && (decide (x.t = y.t) && (decide (x.h = y.h) && (decide (x.u = y.u) && decide (x.m = y.m))))))
theorem key_ne {a b : Str} (h : ¬ a = b) : ¬ (⟨a.toArray⟩ : ByteArray) = ⟨b.toArray⟩ := fun he => h (by have := congrArg (fun b => b.data.toList) he; simpa using this)
theorem sop_any (x y : OV) (hxy : x.b = y.b ∨ x.b.length ≠ y.b.length) (hn : x.b.length ≤ 4611686018427387904) (w : World) (hx : OkB w x) (hy : OkB w y) : Calls Tryz.prog 21 #[.agg #[.int .i64 x.c, .string ⟨x.k.toArray⟩, .int .u64 (x.t : Int), .slice x.bA x.b.length x.bc, .int .i64 x.h, .int .i64 x.u, .int .i64 x.m], .agg #[.int .i64 y.c, .string ⟨y.k.toArray⟩, .int .u64 (y.t : Int), .slice y.bA y.b.length y.bc, .int .i64 y.h, .int .i64 y.u, .int .i64 y.m]] w fun e w' => e = .returned (.bool (sopB x y)) ∧ Keeps [] w w' := by
  obtain ⟨A, c, bb, o, e1, h1, h2⟩ := hx
  obtain ⟨A', c', bb', o', e2, h1', h2'⟩ := hy
  injection e1 with q1 _ q2
  injection e2 with q3 _ q4
  have Q1 := Lib.hid q1
  have Q3 := Lib.hid q3
  clear q1 q2 q3 q4
  have K2 : Keeps [] w ((w.alloc (.cells #[.int .i64 x.c, .string ⟨x.k.toArray⟩, .int .u64 (x.t : Int), .slice x.bA x.b.length x.bc, .int .i64 x.h, .int .i64 x.u, .int .i64 x.m] 25)).alloc (.cells #[.int .i64 y.c, .string ⟨y.k.toArray⟩, .int .u64 (y.t : Int), .slice y.bA y.b.length y.bc, .int .i64 y.h, .int .i64 y.u, .int .i64 y.m] 25)) := ((Keeps.refl [] w).alloc _).alloc _
  have hb1 := (Blk.new w [.int .i64 x.c, .string ⟨x.k.toArray⟩, .int .u64 (x.t : Int), .slice x.bA x.b.length x.bc, .int .i64 x.h, .int .i64 x.u, .int .i64 x.m] 25).alloc (.cells #[.int .i64 y.c, .string ⟨y.k.toArray⟩, .int .u64 (y.t : Int), .slice y.bA y.b.length y.bc, .int .i64 y.h, .int .i64 y.u, .int .i64 y.m] 25)
  have hb2 := Blk.new_at (w.alloc (.cells #[.int .i64 x.c, .string ⟨x.k.toArray⟩, .int .u64 (x.t : Int), .slice x.bA x.b.length x.bc, .int .i64 x.h, .int .i64 x.u, .int .i64 x.m] 25)) (w.heap.size + 1) [.int .i64 y.c, .string ⟨y.k.toArray⟩, .int .u64 (y.t : Int), .slice y.bA y.b.length y.bc, .int .i64 y.h, .int .i64 y.u, .int .i64 y.m] 25 (by simp)
  go_enter Tryz.func21, Tryz.ntmps21
  go_upto_region 1 with fail
  generalize w.heap.size + 1 = g2 at hb2 ⊢
  generalize w.heap.size = g1 at hb1 ⊢
  generalize hW : (w.alloc (.cells #[.int .i64 x.c, .string ⟨x.k.toArray⟩, .int .u64 (x.t : Int), .slice x.bA x.b.length x.bc, .int .i64 x.h, .int .i64 x.u, .int .i64 x.m] 25)).alloc (.cells #[.int .i64 y.c, .string ⟨y.k.toArray⟩, .int .u64 (y.t : Int), .slice y.bA y.b.length y.bc, .int .i64 y.h, .int .i64 y.u, .int .i64 y.m] 25) = W at hb1 hb2 K2 ⊢
  have hb1' : Blk W g1 [.int .i64 x.c, .string ⟨x.k.toArray⟩, .int .u64 (x.t : Int), .slice x.bA x.b.length x.bc, .int .i64 x.h, .int .i64 x.u, .int .i64 x.m] := hb1
  have hb2' : Blk W g2 [.int .i64 y.c, .string ⟨y.k.toArray⟩, .int .u64 (y.t : Int), .slice y.bA y.b.length y.bc, .int .i64 y.h, .int .i64 y.u, .int .i64 y.m] := hb2
  obtain ⟨p0, p1, p2, p3, p4, p5, p6, pf, pl⟩ := hb1'.o7
  obtain ⟨q0, q1', q2', q3', q4', q5, q6, qf, ql⟩ := hb2'.o7
  have har := Lib.hid (h2.keeps K2 (by simp))
  have har' := Lib.hid (h2'.keeps K2 (by simp))
  clear hW hb1 hb2 hb1' hb2' h2 h2'
  by_cases hlen : x.b.length = y.b.length
  · have hbb : x.b = y.b := by
      rcases hxy with h | h
      · exact h
      · exact absurd hlen h
    obtain ⟨n, hnn⟩ : ∃ n, x.b.length = n := ⟨_, rfl⟩
    have Hn := Lib.hid hnn
    have Hbb := Lib.hid hbb
    have hny : y.b.length = n := by rw [← hlen, hnn]
    rw [hnn] at p3 hn h1
    rw [hny] at q3' h1'
    rw [hnn, hny]
    have hself : ((n : Int) != (n : Int)) = false := by simp
    have hsb : sopB x y = (decide (x.c = y.c) && (decide (x.k = y.k) && (decide (x.t = y.t) && (decide (x.h = y.h) && (decide (x.u = y.u) && decide (x.m = y.m)))))) := by
      unfold sopB
      rw [hnn, hny]
      simp
    have HS := Lib.hid hsb
    clear hxy hlen hbb hnn hny hsb
    go_wp2_with fail
    go_loopw [5] (fun i wr => ∃ k z : Nat, k ≤ n ∧ i = .int .i64 k ∧ wr = W.drewN z) (fun i _ => n - (intOf i).toNat)
    case atStart => exact ⟨0, 0, by omega, rfl, rfl⟩
    case round =>
      obtain ⟨k, z, hk, rfl, rfl⟩ := hrel
      by_cases hlt : k < n
      · have hA := h1 (by omega)
        have hA' := h1' (by omega)
        rw [← Q1.out] at hA
        rw [← Q3.out] at hA'
        rw [hA] at p3
        rw [hA'] at q3'
        obtain ⟨x', hx'⟩ : ∃ x', x.b[k]? = some x' := ⟨_, List.getElem?_eq_getElem (by rw [Hn.out]; exact hlt)⟩
        obtain ⟨c0, c1, c2, cl⟩ := har.out.wrt hx'
        obtain ⟨d0, d1, d2, dl⟩ := har'.out.wrt (by rw [← Hbb.out]; exact hx')
        have hkn : (k : Int) < (n : Int) := by omega
        clear hx' hA hA'
        go_wp2_with fail
        go_quiet (fail)
        go_wp2_with fail
        go_roundw
        case rel => exact ⟨k + 1, _, by omega, by go_num, rfl⟩
        case measure => simp [intOf] <;> omega
      · obtain rfl : k = n := by omega
        by_cases g0 : x.c = y.c
        · skip
          by_cases g1 : x.k = y.k
          · have e1 : (⟨x.k.toArray⟩ : ByteArray) = ⟨y.k.toArray⟩ := by rw [g1]
            skip
            by_cases g2 : x.t = y.t
            · have e2 : (x.t : Int) = (y.t : Int) := by rw [g2]
              skip
              by_cases g3 : x.h = y.h
              · skip
                by_cases g4 : x.u = y.u
                · skip
                  by_cases g5 : x.m = y.m
                  · skip
                    have hfin : sopB x y = true := by rw [HS.out]; simp [g0, g1, g2, g3, g4, g5]
                    have HF := Lib.hid hfin
                    clear hfin
                    go_wp2_with fail
                    go_ret
                    exact ⟨by rw [HF.out]; first | rfl | (simp; assumption), K2.drewN _⟩
                  · have hfin : sopB x y = false := by rw [HS.out]; simp [g5]
                    have HF := Lib.hid hfin
                    clear hfin
                    go_wp2_with fail
                    go_ret
                    exact ⟨by rw [HF.out]; first | rfl | (simp; assumption), K2.drewN _⟩
                · have hfin : sopB x y = false := by rw [HS.out]; simp [g4]
                  have HF := Lib.hid hfin
                  clear hfin
                  go_wp2_with fail
                  go_ret
                  exact ⟨by rw [HF.out]; first | rfl | (simp; assumption), K2.drewN _⟩
              · have hfin : sopB x y = false := by rw [HS.out]; simp [g3]
                have HF := Lib.hid hfin
                clear hfin
                go_wp2_with fail
                go_ret
                exact ⟨by rw [HF.out]; first | rfl | (simp; assumption), K2.drewN _⟩
            · have hfin : sopB x y = false := by rw [HS.out]; simp [g2]
              have HF := Lib.hid hfin
              have g2' : ¬ (x.t : Int) = (y.t : Int) := by omega
              clear hfin
              go_wp2_with fail
              go_ret
              exact ⟨by rw [HF.out]; first | rfl | (simp; assumption), K2.drewN _⟩
          · have hfin : sopB x y = false := by rw [HS.out]; simp [g1]
            have HF := Lib.hid hfin
            have g1' := key_ne g1
            clear hfin
            go_wp2_with fail
            go_ret
            exact ⟨by rw [HF.out]; first | rfl | (simp; assumption), K2.drewN _⟩
        · have hfin : sopB x y = false := by rw [HS.out]; simp [g0]
          have HF := Lib.hid hfin
          clear hfin
          go_wp2_with fail
          go_ret
          exact ⟨by rw [HF.out]; first | rfl | (simp; assumption), K2.drewN _⟩
  · have hlen' : ¬ ((x.b.length : Int) = (y.b.length : Int)) := by omega
    have hsb : sopB x y = false := by unfold sopB; simp [hlen]
    have HS := Lib.hid hsb
    clear hsb hxy hlen
    go_wp2_with fail
    go_ret
    exact ⟨by rw [HS.out]; rfl, K2⟩
end Go.Proofs.YtjmhnlbkfbieaaaGreat
