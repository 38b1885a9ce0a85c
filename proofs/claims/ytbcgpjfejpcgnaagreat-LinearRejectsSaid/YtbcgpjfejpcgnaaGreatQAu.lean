/- Lemmas on the way to LinearRejects. No condition. -/
import Derived.Test.YtbcgpjfejpcgnaaGreatQAh
import Derived.Test.YtbcgpjfejpcgnaaGreatQAn
import Derived.Test.YtbcgpjfejpcgnaaGreatQAo
import Derived.Deep.RegionHeld3
import Derived.Lib.Hide
import Derived.Test.YtbcgpjfejpcgnaaGreatRows
import Derived.SizedLaws
import Derived.BigQuiet
import Derived.Laws.ResultCell
import Derived.Deep.CutRange
import Derived.Deep.CutBlock
set_option linter.unusedSimpArgs false
set_option linter.unusedVariables false
set_option linter.unusedSectionVars false
section
namespace Go.Proofs.YtbcgpjfejpcgnaaGreat.O
open Go.RowKit
structure CfgOK (T S N C R F K : Int) : Prop where
  T0 : 1 ≤ T
  T1 : T ≤ 64
  S0 : 1 ≤ S
  S1 : S ≤ 8
  N0 : 1 ≤ N
  N1 : N ≤ 4096
  C0 : 1 ≤ C
  C1 : C ≤ 16384
  R0 : 1 ≤ R
  R1 : R ≤ 65536
  F0 : 4 ≤ F
  F1 : F ≤ 32
  K0 : 1 ≤ K
  K1 : K ≤ 1099511627776
set_option maxHeartbeats 400000 in
theorem between_any (a lo hi : Int) (w : World) :
    Calls Tryz.prog 54 #[.int .i64 a, .int .i64 lo, .int .i64 hi] w fun e w' => e = .returned (.bool (decide (lo ≤ a) && decide (a ≤ hi))) ∧ w = w' := by
  by_cases h : lo ≤ a
  · by_cases h2 : a ≤ hi
    · have e : (decide (lo ≤ a) && decide (a ≤ hi)) = true := by simp [h, h2]
      rw [e]
      go_enter Tryz.func54, Tryz.ntmps54
      go_wp2
      go_ret
      exact ⟨rfl, rfl⟩
    · have e : (decide (lo ≤ a) && decide (a ≤ hi)) = false := by simp [h2]
      rw [e]
      go_enter Tryz.func54, Tryz.ntmps54
      go_wp2
      go_ret
      exact ⟨rfl, rfl⟩
  · have e : (decide (lo ≤ a) && decide (a ≤ hi)) = false := by simp [h]
    rw [e]
    go_enter Tryz.func54, Tryz.ntmps54
    go_wp2
    go_ret
    exact ⟨rfl, rfl⟩
set_option maxHeartbeats 1000000 in
set_option maxHeartbeats 1000000 in
theorem valid_yes (T S N C R F K : Int) (h : CfgOK T S N C R F K) (w : World) :
    Calls Tryz.prog 40 #[.agg #[.int .i64 T, .int .i64 S, .int .i64 N, .int .i64 C, .int .i64 R, .int .i64 F, .int .u64 K]] w fun e w' => e = .returned (.bool true) ∧ Keeps [] w w' := by
  have E1 := Lib.hid (show (decide (1 ≤ T) && decide (T ≤ 64)) = true by have := h.T0; have := h.T1; simp; omega)
  have E2 := Lib.hid (show (decide (1 ≤ S) && decide (S ≤ 8)) = true by have := h.S0; have := h.S1; simp; omega)
  have E3 := Lib.hid (show (decide (1 ≤ N) && decide (N ≤ 4096)) = true by have := h.N0; have := h.N1; simp; omega)
  have E4 := Lib.hid (show (decide (1 ≤ C) && decide (C ≤ 16384)) = true by have := h.C0; have := h.C1; simp; omega)
  have E5 := Lib.hid (show (decide (1 ≤ R) && decide (R ≤ 65536)) = true by have := h.R0; have := h.R1; simp; omega)
  have E6 := Lib.hid (show (decide (4 ≤ F) && decide (F ≤ 32)) = true by have := h.F0; have := h.F1; simp; omega)
  have hK0 := h.K0
  have hK1 := h.K1
  go_enter Tryz.func40, Tryz.ntmps40
  go_wp2_with fail
  refine (between_any T 1 64 _).mono ?_
  rintro e w1 ⟨rfl, rfl⟩
  rw [E1.out]
  go_wp2_with fail
  refine (between_any S 1 8 _).mono ?_
  rintro e w2 ⟨rfl, rfl⟩
  rw [E2.out]
  go_wp2_with fail
  refine (between_any N 1 4096 _).mono ?_
  rintro e w3 ⟨rfl, rfl⟩
  rw [E3.out]
  go_wp2_with fail
  refine (between_any C 1 16384 _).mono ?_
  rintro e w4 ⟨rfl, rfl⟩
  rw [E4.out]
  go_wp2_with fail
  refine (between_any R 1 65536 _).mono ?_
  rintro e w5 ⟨rfl, rfl⟩
  rw [E5.out]
  go_wp2_with fail
  refine (between_any F 4 32 _).mono ?_
  rintro e w6 ⟨rfl, rfl⟩
  rw [E6.out]
  go_wp2_with fail
  go_ret
  exact ⟨rfl, (Keeps.refl _ _).alloc _⟩
end Go.Proofs.YtbcgpjfejpcgnaaGreat.O
end
section
namespace Go.Proofs.YtbcgpjfejpcgnaaGreat.O
open Go.RowKit
set_option linter.unusedSectionVars false
set_option linter.unusedVariables false
set_option linter.unusedSimpArgs false
set_option maxRecDepth 20000
theorem infoW : (Tryz.prog.info? 53).map (fun i => (i.zero, i.size, i.bytes)) = some (some (.agg #[.string ⟨#[]⟩, .string ⟨#[]⟩, .bool false]), 3, 40) := by kernel_rfl
def OV.bv (x : OV) : Value := .slice x.bA x.b.length x.bc
end Go.Proofs.YtbcgpjfejpcgnaaGreat.O
end
section
namespace Go.Proofs.YtbcgpjfejpcgnaaGreat.O
open Go.ChangeShapes Go.WideShapes Go.ChangeAt Go.RowKit
set_option linter.unusedSectionVars false
set_option linter.unusedVariables false
set_option linter.unusedSimpArgs false
set_option maxRecDepth 100000
theorem cellsW : Tryz.prog.cellsOf 53 = 3 := by kernel_rfl
theorem cellsS : Tryz.prog.cellsOf 9 = 1 := by kernel_rfl
theorem cellsB : Tryz.prog.cellsOf 4 = 1 := by kernel_rfl
theorem cellsI : Tryz.prog.cellsOf 3 = 1 := by kernel_rfl
theorem cellsU : Tryz.prog.cellsOf 22 = 1 := by kernel_rfl
theorem cellsWS : Tryz.prog.cellsOf 27 = 1 := by kernel_rfl
theorem cellsO : Tryz.prog.cellsOf 29 = 7 := by kernel_rfl
theorem str_of (s : ByteArray) : ∃ k : Str, s = ⟨k.toArray⟩ := ⟨s.data.toList, by cases s; simp⟩
def WrtB (N : Nat) (y : Wrt) : Prop := y.k.length ≤ N ∧ y.v.length ≤ N
def OpB (N : Nat) (o : OV) : Prop := o.k.length ≤ N ∧ ∀ y ∈ o.b, WrtB N y
theorem WrtB.mono {M N : Nat} {y : Wrt} (h : WrtB M y) (hl : M ≤ N) : WrtB N y := ⟨Nat.le_trans h.1 hl, Nat.le_trans h.2 hl⟩
theorem OpB.mono {M N : Nat} {o : OV} (h : OpB M o) (hl : M ≤ N) : OpB N o := ⟨Nat.le_trans h.1 hl, fun y hy => (h.2 y hy).mono hl⟩
end Go.Proofs.YtbcgpjfejpcgnaaGreat.O
end
section
namespace Go.Proofs.YtbcgpjfejpcgnaaGreat.O
open Go.RowKit
set_option linter.unusedSectionVars false
set_option linter.unusedVariables false
set_option linter.unusedSimpArgs false
set_option maxRecDepth 100000
set_option maxHeartbeats 4000000
def sopB (x y : OV) : Bool := decide (x.b.length = y.b.length) && (decide (x.c = y.c) && (decide (x.k = y.k) && (decide (x.t = y.t) && (decide (x.h = y.h) && (decide (x.u = y.u) && decide (x.m = y.m))))))
theorem key_ne {a b : Str} (h : ¬ a = b) : ¬ (⟨a.toArray⟩ : ByteArray) = ⟨b.toArray⟩ := fun he => h (by have := congrArg (fun b => b.data.toList) he; simpa using this)
theorem sop_any (x y : OV) (hxy : x.b = y.b ∨ x.b.length ≠ y.b.length) (hn : x.b.length ≤ 4611686018427387904) (w : World) (hx : OkB w x) (hy : OkB w y) : Calls Tryz.prog 19 #[.agg #[.int .i64 x.c, .string ⟨x.k.toArray⟩, .int .u64 (x.t : Int), .slice x.bA x.b.length x.bc, .int .i64 x.h, .int .i64 x.u, .int .i64 x.m], .agg #[.int .i64 y.c, .string ⟨y.k.toArray⟩, .int .u64 (y.t : Int), .slice y.bA y.b.length y.bc, .int .i64 y.h, .int .i64 y.u, .int .i64 y.m]] w fun e w' => e = .returned (.bool (sopB x y)) ∧ Keeps [] w w' := by
  obtain ⟨A, c, bb, o, e1, h1, h2⟩ := hx
  obtain ⟨A', c', bb', o', e2, h1', h2'⟩ := hy
  injection e1 with q1 _ q2
  injection e2 with q3 _ q4
  have Q1 := Lib.hid q1
  have Q3 := Lib.hid q3
  clear q1 q2 q3 q4
  have K2 : Keeps [] w ((w.alloc (.cells #[.int .i64 x.c, .string ⟨x.k.toArray⟩, .int .u64 (x.t : Int), .slice x.bA x.b.length x.bc, .int .i64 x.h, .int .i64 x.u, .int .i64 x.m] 29)).alloc (.cells #[.int .i64 y.c, .string ⟨y.k.toArray⟩, .int .u64 (y.t : Int), .slice y.bA y.b.length y.bc, .int .i64 y.h, .int .i64 y.u, .int .i64 y.m] 29)) := ((Keeps.refl [] w).alloc _).alloc _
  have hb1 := (Blk.new w [.int .i64 x.c, .string ⟨x.k.toArray⟩, .int .u64 (x.t : Int), .slice x.bA x.b.length x.bc, .int .i64 x.h, .int .i64 x.u, .int .i64 x.m] 29).alloc (.cells #[.int .i64 y.c, .string ⟨y.k.toArray⟩, .int .u64 (y.t : Int), .slice y.bA y.b.length y.bc, .int .i64 y.h, .int .i64 y.u, .int .i64 y.m] 29)
  have hb2 := Blk.new_at (w.alloc (.cells #[.int .i64 x.c, .string ⟨x.k.toArray⟩, .int .u64 (x.t : Int), .slice x.bA x.b.length x.bc, .int .i64 x.h, .int .i64 x.u, .int .i64 x.m] 29)) (w.heap.size + 1) [.int .i64 y.c, .string ⟨y.k.toArray⟩, .int .u64 (y.t : Int), .slice y.bA y.b.length y.bc, .int .i64 y.h, .int .i64 y.u, .int .i64 y.m] 29 (by simp)
  go_enter Tryz.func19, Tryz.ntmps19
  go_upto_region 1 with fail
  generalize w.heap.size + 1 = g2 at hb2 ⊢
  generalize w.heap.size = g1 at hb1 ⊢
  generalize hW : (w.alloc (.cells #[.int .i64 x.c, .string ⟨x.k.toArray⟩, .int .u64 (x.t : Int), .slice x.bA x.b.length x.bc, .int .i64 x.h, .int .i64 x.u, .int .i64 x.m] 29)).alloc (.cells #[.int .i64 y.c, .string ⟨y.k.toArray⟩, .int .u64 (y.t : Int), .slice y.bA y.b.length y.bc, .int .i64 y.h, .int .i64 y.u, .int .i64 y.m] 29) = W at hb1 hb2 K2 ⊢
  have hb1' : Blk W g1 [.int .i64 x.c, .string ⟨x.k.toArray⟩, .int .u64 (x.t : Int), .slice x.bA x.b.length x.bc, .int .i64 x.h, .int .i64 x.u, .int .i64 x.m] := hb1
  have hb2' : Blk W g2 [.int .i64 y.c, .string ⟨y.k.toArray⟩, .int .u64 (y.t : Int), .slice y.bA y.b.length y.bc, .int .i64 y.h, .int .i64 y.u, .int .i64 y.m] := hb2
  obtain ⟨p0, p1, p2, p3, p4, p5, p6, pf, pl⟩ := hb1'.o7
  obtain ⟨q0, q1', q2', q3', q4', q5, q6, qf, ql⟩ := hb2'.o7
  have har := Lib.hid (h2.keeps K2 (by simp))
  have har' := Lib.hid (h2'.keeps K2 (by simp))
  clear hW hb1 hb2 hb1' hb2' h2 h2'
  by_cases hlen : x.b.length = y.b.length
  · have hbb : x.b = y.b := by
      rcases hxy with h | h
      · exact h
      · exact absurd hlen h
    obtain ⟨n, hnn⟩ : ∃ n, x.b.length = n := ⟨_, rfl⟩
    have Hn := Lib.hid hnn
    have Hbb := Lib.hid hbb
    have hny : y.b.length = n := by rw [← hlen, hnn]
    rw [hnn] at p3 hn h1
    rw [hny] at q3' h1'
    rw [hnn, hny]
    have hself : ((n : Int) != (n : Int)) = false := by simp
    have hsb : sopB x y = (decide (x.c = y.c) && (decide (x.k = y.k) && (decide (x.t = y.t) && (decide (x.h = y.h) && (decide (x.u = y.u) && decide (x.m = y.m)))))) := by
      unfold sopB
      rw [hnn, hny]
      simp
    have HS := Lib.hid hsb
    clear hxy hlen hbb hnn hny hsb
    go_wp2_with fail
    go_loopw [5] (fun i wr => ∃ k z : Nat, k ≤ n ∧ i = .int .i64 k ∧ wr = W.drewN z) (fun i _ => n - (intOf i).toNat)
    case atStart => exact ⟨0, 0, by omega, rfl, rfl⟩
    case round =>
      obtain ⟨k, z, hk, rfl, rfl⟩ := hrel
      by_cases hlt : k < n
      · have hA := h1 (by omega)
        have hA' := h1' (by omega)
        rw [← Q1.out] at hA
        rw [← Q3.out] at hA'
        rw [hA] at p3
        rw [hA'] at q3'
        obtain ⟨x', hx'⟩ : ∃ x', x.b[k]? = some x' := ⟨_, List.getElem?_eq_getElem (by rw [Hn.out]; exact hlt)⟩
        obtain ⟨c0, c1, c2, cl⟩ := har.out.wrt hx'
        obtain ⟨d0, d1, d2, dl⟩ := har'.out.wrt (by rw [← Hbb.out]; exact hx')
        have hkn : (k : Int) < (n : Int) := by omega
        clear hx' hA hA'
        go_wp2_with fail
        go_quiet (fail)
        go_wp2_with fail
        go_roundw
        case rel => exact ⟨k + 1, _, by omega, by go_num, rfl⟩
        case measure => simp [intOf] <;> omega
      · obtain rfl : k = n := by omega
        by_cases g0 : x.c = y.c
        · skip
          by_cases g1 : x.k = y.k
          · have e1 : (⟨x.k.toArray⟩ : ByteArray) = ⟨y.k.toArray⟩ := by rw [g1]
            skip
            by_cases g2 : x.t = y.t
            · have e2 : (x.t : Int) = (y.t : Int) := by rw [g2]
              skip
              by_cases g3 : x.h = y.h
              · skip
                by_cases g4 : x.u = y.u
                · skip
                  by_cases g5 : x.m = y.m
                  · skip
                    have hfin : sopB x y = true := by rw [HS.out]; simp [g0, g1, g2, g3, g4, g5]
                    have HF := Lib.hid hfin
                    clear hfin
                    go_wp2_with fail
                    go_ret
                    exact ⟨by rw [HF.out]; first | rfl | (simp; assumption), K2.drewN _⟩
                  · have hfin : sopB x y = false := by rw [HS.out]; simp [g5]
                    have HF := Lib.hid hfin
                    clear hfin
                    go_wp2_with fail
                    go_ret
                    exact ⟨by rw [HF.out]; first | rfl | (simp; assumption), K2.drewN _⟩
                · have hfin : sopB x y = false := by rw [HS.out]; simp [g4]
                  have HF := Lib.hid hfin
                  clear hfin
                  go_wp2_with fail
                  go_ret
                  exact ⟨by rw [HF.out]; first | rfl | (simp; assumption), K2.drewN _⟩
              · have hfin : sopB x y = false := by rw [HS.out]; simp [g3]
                have HF := Lib.hid hfin
                clear hfin
                go_wp2_with fail
                go_ret
                exact ⟨by rw [HF.out]; first | rfl | (simp; assumption), K2.drewN _⟩
            · have hfin : sopB x y = false := by rw [HS.out]; simp [g2]
              have HF := Lib.hid hfin
              have g2' : ¬ (x.t : Int) = (y.t : Int) := by omega
              clear hfin
              go_wp2_with fail
              go_ret
              exact ⟨by rw [HF.out]; first | rfl | (simp; assumption), K2.drewN _⟩
          · have hfin : sopB x y = false := by rw [HS.out]; simp [g1]
            have HF := Lib.hid hfin
            have g1' := key_ne g1
            clear hfin
            go_wp2_with fail
            go_ret
            exact ⟨by rw [HF.out]; first | rfl | (simp; assumption), K2.drewN _⟩
        · have hfin : sopB x y = false := by rw [HS.out]; simp [g0]
          have HF := Lib.hid hfin
          clear hfin
          go_wp2_with fail
          go_ret
          exact ⟨by rw [HF.out]; first | rfl | (simp; assumption), K2.drewN _⟩
  · have hlen' : ¬ ((x.b.length : Int) = (y.b.length : Int)) := by omega
    have hsb : sopB x y = false := by unfold sopB; simp [hlen]
    have HS := Lib.hid hsb
    clear hsb hxy hlen
    go_wp2_with fail
    go_ret
    exact ⟨by rw [HS.out]; rfl, K2⟩
end Go.Proofs.YtbcgpjfejpcgnaaGreat.O
end
section
namespace Go.Proofs.YtbcgpjfejpcgnaaGreat.O
open Go.RowKit
set_option linter.unusedSectionVars false
set_option linter.unusedVariables false
set_option linter.unusedSimpArgs false
set_option maxRecDepth 20000
theorem results_blk2 {fn : Func} {p u : Tmp} {ty : TypeId} (h : fn.results = #[.cell p ty, .tmp u]) (tmps : Array Value) (w : World) (g : Nat) (cs : List Value) (d : Array Field)
    (hp : tmps.getD p undef = .pointer (some ⟨g, 0, none⟩)) (hb : Blk w g cs) (hu : Tryz.prog.underlying ty = some (.struct d)) (hi : (Tryz.prog.info? ty).map (·.size) = some cs.length) :
    (results fn tmps).run Tryz.prog w = .ok (.tuple #[.agg cs.toArray, tmps.getD u undef]) w := by
  obtain ⟨T, ht⟩ := hb
  rw [results_cell_tmp h, hp]
  have := run_loadVar_row (P := Tryz.prog) w g T ty cs.toArray _ (.struct d) ht hu rfl (by simpa using hi)
  simp [asAddr, Result.andThen, this]
end Go.Proofs.YtbcgpjfejpcgnaaGreat.O
end
section
namespace Go.Proofs.YtbcgpjfejpcgnaaGreat.O
open Go.RowKit
set_option linter.unusedSectionVars false
set_option linter.unusedVariables false
set_option linter.unusedSimpArgs false
set_option maxRecDepth 20000
set_option maxHeartbeats 4000000
def onlyV (x : OV) : OV :=
  if x.c = 1 then ⟨1, x.k, 0, none, 0, [], 0, 0, 0⟩ else
  if x.c = 2 then ⟨2, x.k, x.t, none, 0, [], 0, 0, 0⟩ else
  if x.c = 3 then ⟨3, [], 0, x.bA, x.bc, x.b, 0, 0, 0⟩ else
  if x.c = 4 then ⟨4, [], 0, none, 0, [], x.h, 0, 0⟩ else
  if x.c = 5 then ⟨5, [], 0, none, 0, [], x.h, 0, 0⟩ else
  if x.c = 6 then ⟨6, [], 0, none, 0, [], x.h, x.u, 0⟩ else
  if x.c = 7 then ⟨7, if x.m = 0 then x.k else [], 0, none, 0, [], 0, x.u, x.m⟩ else
  if x.c = 8 then ⟨8, [], 0, none, 0, [], 0, x.u, 0⟩ else
  if x.c = 9 then ⟨9, [], 0, none, 0, [], 0, 0, 0⟩ else ⟨0, [], 0, none, 0, [], 0, 0, 0⟩
def OnlyQ (w : World) (x : OV) (q : Ending) (w' : World) : Prop := Keeps [] w w' ∧ ∃ y, y = onlyV x ∧ q = .returned (.tuple #[.agg #[.int .i64 y.c, .string ⟨y.k.toArray⟩, .int .u64 (y.t : Int), .slice y.bA y.b.length y.bc, .int .i64 y.h, .int .i64 y.u, .int .i64 y.m], .bool (decide (1 ≤ x.c ∧ x.c ≤ 9))])
theorem only_any (x : OV) (w : World) : Calls Tryz.prog 18 #[.agg #[.int .i64 x.c, .string ⟨x.k.toArray⟩, .int .u64 (x.t : Int), .slice x.bA x.b.length x.bc, .int .i64 x.h, .int .i64 x.u, .int .i64 x.m]] w (OnlyQ w x) := by
  by_cases hr : 1 ≤ x.c ∧ x.c ≤ 9
  · have hd : decide (1 ≤ x.c ∧ x.c ≤ 9) = true := decide_eq_true hr
    unfold OnlyQ
    rw [hd]
    obtain hc | hc | hc | hc | hc | hc | hc | hc | hc : x.c = 1 ∨ x.c = 2 ∨ x.c = 3 ∨ x.c = 4 ∨ x.c = 5 ∨ x.c = 6 ∨ x.c = 7 ∨ x.c = 8 ∨ x.c = 9 := by omega
    · have ho : onlyV x = ⟨1, x.k, 0, none, 0, [], 0, 0, 0⟩ := by simp [onlyV, hc]
      clear hr hd
      go_enter Tryz.func18, Tryz.ntmps18
      go_wp2_with fail
      refine bodyPost_ret (results_blk2 (cs := [.int .i64 1, .string ⟨x.k.toArray⟩, .int .u64 0, .slice none 0 0, .int .i64 0, .int .i64 0, .int .i64 0]) rfl _ _ (w.heap.size + 1) _ rfl ((Blk.new_at _ (w.heap.size + 1) _ 29 (by simp)).alloc _) Tryz.underlying29 sizO) rfl ?_
      first | exact ⟨(((Keeps.refl [] w).alloc _).alloc _).alloc _, _, ho.symm, by first | rfl | simp⟩ | exact ⟨((((Keeps.refl [] w).alloc _).alloc _).alloc _).drew, _, ho.symm, by first | rfl | simp⟩
    · have ho : onlyV x = ⟨2, x.k, x.t, none, 0, [], 0, 0, 0⟩ := by simp [onlyV, hc]
      clear hr hd
      go_enter Tryz.func18, Tryz.ntmps18
      go_wp2_with fail
      go_region
      all_goals go_wp2_with fail
      all_goals
        refine bodyPost_ret (results_blk2 (cs := [.int .i64 2, .string ⟨x.k.toArray⟩, .int .u64 (x.t : Int), .slice none 0 0, .int .i64 0, .int .i64 0, .int .i64 0]) rfl _ _ (w.heap.size + 1) _ rfl ((Blk.new_at _ (w.heap.size + 1) _ 29 (by simp)).alloc _) Tryz.underlying29 sizO) rfl ?_
        first | exact ⟨(((Keeps.refl [] w).alloc _).alloc _).alloc _, _, ho.symm, by first | rfl | simp⟩ | exact ⟨((((Keeps.refl [] w).alloc _).alloc _).alloc _).drew, _, ho.symm, by first | rfl | simp⟩
    · have ho : onlyV x = ⟨3, [], 0, x.bA, x.bc, x.b, 0, 0, 0⟩ := by simp [onlyV, hc]
      clear hr hd
      go_enter Tryz.func18, Tryz.ntmps18
      go_wp2_with fail
      refine bodyPost_ret (results_blk2 (cs := [.int .i64 3, .string ⟨#[]⟩, .int .u64 0, .slice x.bA x.b.length x.bc, .int .i64 0, .int .i64 0, .int .i64 0]) rfl _ _ (w.heap.size + 1) _ rfl ((Blk.new_at _ (w.heap.size + 1) _ 29 (by simp)).alloc _) Tryz.underlying29 sizO) rfl ?_
      first | exact ⟨(((Keeps.refl [] w).alloc _).alloc _).alloc _, _, ho.symm, by first | rfl | simp⟩ | exact ⟨((((Keeps.refl [] w).alloc _).alloc _).alloc _).drew, _, ho.symm, by first | rfl | simp⟩
    · have ho : onlyV x = ⟨4, [], 0, none, 0, [], x.h, 0, 0⟩ := by simp [onlyV, hc]
      clear hr hd
      go_enter Tryz.func18, Tryz.ntmps18
      go_wp2_with fail
      refine bodyPost_ret (results_blk2 (cs := [.int .i64 4, .string ⟨#[]⟩, .int .u64 0, .slice none 0 0, .int .i64 x.h, .int .i64 0, .int .i64 0]) rfl _ _ (w.heap.size + 1) _ rfl ((Blk.new_at _ (w.heap.size + 1) _ 29 (by simp)).alloc _) Tryz.underlying29 sizO) rfl ?_
      first | exact ⟨(((Keeps.refl [] w).alloc _).alloc _).alloc _, _, ho.symm, by first | rfl | simp⟩ | exact ⟨((((Keeps.refl [] w).alloc _).alloc _).alloc _).drew, _, ho.symm, by first | rfl | simp⟩
    · have ho : onlyV x = ⟨5, [], 0, none, 0, [], x.h, 0, 0⟩ := by simp [onlyV, hc]
      clear hr hd
      go_enter Tryz.func18, Tryz.ntmps18
      go_wp2_with fail
      refine bodyPost_ret (results_blk2 (cs := [.int .i64 5, .string ⟨#[]⟩, .int .u64 0, .slice none 0 0, .int .i64 x.h, .int .i64 0, .int .i64 0]) rfl _ _ (w.heap.size + 1) _ rfl ((Blk.new_at _ (w.heap.size + 1) _ 29 (by simp)).alloc _) Tryz.underlying29 sizO) rfl ?_
      first | exact ⟨(((Keeps.refl [] w).alloc _).alloc _).alloc _, _, ho.symm, by first | rfl | simp⟩ | exact ⟨((((Keeps.refl [] w).alloc _).alloc _).alloc _).drew, _, ho.symm, by first | rfl | simp⟩
    · have ho : onlyV x = ⟨6, [], 0, none, 0, [], x.h, x.u, 0⟩ := by simp [onlyV, hc]
      clear hr hd
      go_enter Tryz.func18, Tryz.ntmps18
      go_wp2_with fail
      go_region
      all_goals go_wp2_with fail
      all_goals
        refine bodyPost_ret (results_blk2 (cs := [.int .i64 6, .string ⟨#[]⟩, .int .u64 0, .slice none 0 0, .int .i64 x.h, .int .i64 x.u, .int .i64 0]) rfl _ _ (w.heap.size + 1) _ rfl ((Blk.new_at _ (w.heap.size + 1) _ 29 (by simp)).alloc _) Tryz.underlying29 sizO) rfl ?_
        first | exact ⟨(((Keeps.refl [] w).alloc _).alloc _).alloc _, _, ho.symm, by first | rfl | simp⟩ | exact ⟨((((Keeps.refl [] w).alloc _).alloc _).alloc _).drew, _, ho.symm, by first | rfl | simp⟩
    · by_cases hm : x.m = 0
      · have ho : onlyV x = ⟨7, x.k, 0, none, 0, [], 0, x.u, 0⟩ := by simp [onlyV, hc, hm]
        clear hr hd
        go_enter Tryz.func18, Tryz.ntmps18
        go_wp2_with fail
        go_region
        all_goals go_wp2_with fail
        all_goals
          refine bodyPost_ret (results_blk2 (cs := [.int .i64 7, .string ⟨x.k.toArray⟩, .int .u64 0, .slice none 0 0, .int .i64 0, .int .i64 x.u, .int .i64 0]) rfl _ _ (w.heap.size + 1) _ rfl ((Blk.new_at _ (w.heap.size + 1) _ 29 (by simp)).alloc _) Tryz.underlying29 sizO) rfl ?_
          first | exact ⟨(((Keeps.refl [] w).alloc _).alloc _).alloc _, _, ho.symm, by first | rfl | simp⟩ | exact ⟨((((Keeps.refl [] w).alloc _).alloc _).alloc _).drew, _, ho.symm, by first | rfl | simp⟩
      · have ho : onlyV x = ⟨7, [], 0, none, 0, [], 0, x.u, x.m⟩ := by simp [onlyV, hc, hm]
        clear hr hd
        go_enter Tryz.func18, Tryz.ntmps18
        go_wp2_with fail
        go_region
        all_goals go_wp2_with fail
        all_goals
          refine bodyPost_ret (results_blk2 (cs := [.int .i64 7, .string ⟨#[]⟩, .int .u64 0, .slice none 0 0, .int .i64 0, .int .i64 x.u, .int .i64 x.m]) rfl _ _ (w.heap.size + 1) _ rfl ((Blk.new_at _ (w.heap.size + 1) _ 29 (by simp)).alloc _) Tryz.underlying29 sizO) rfl ?_
          first | exact ⟨(((Keeps.refl [] w).alloc _).alloc _).alloc _, _, ho.symm, by first | rfl | simp⟩ | exact ⟨((((Keeps.refl [] w).alloc _).alloc _).alloc _).drew, _, ho.symm, by first | rfl | simp⟩
    · have ho : onlyV x = ⟨8, [], 0, none, 0, [], 0, x.u, 0⟩ := by simp [onlyV, hc]
      clear hr hd
      go_enter Tryz.func18, Tryz.ntmps18
      go_wp2_with fail
      refine bodyPost_ret (results_blk2 (cs := [.int .i64 8, .string ⟨#[]⟩, .int .u64 0, .slice none 0 0, .int .i64 0, .int .i64 x.u, .int .i64 0]) rfl _ _ (w.heap.size + 1) _ rfl ((Blk.new_at _ (w.heap.size + 1) _ 29 (by simp)).alloc _) Tryz.underlying29 sizO) rfl ?_
      first | exact ⟨(((Keeps.refl [] w).alloc _).alloc _).alloc _, _, ho.symm, by first | rfl | simp⟩ | exact ⟨((((Keeps.refl [] w).alloc _).alloc _).alloc _).drew, _, ho.symm, by first | rfl | simp⟩
    · have ho : onlyV x = ⟨9, [], 0, none, 0, [], 0, 0, 0⟩ := by simp [onlyV, hc]
      clear hr hd
      go_enter Tryz.func18, Tryz.ntmps18
      go_wp2_with fail
      refine bodyPost_ret (results_blk2 (cs := [.int .i64 9, .string ⟨#[]⟩, .int .u64 0, .slice none 0 0, .int .i64 0, .int .i64 0, .int .i64 0]) rfl _ _ (w.heap.size + 1) _ rfl ((Blk.new_at _ (w.heap.size + 1) _ 29 (by simp)).alloc _) Tryz.underlying29 sizO) rfl ?_
      first | exact ⟨(((Keeps.refl [] w).alloc _).alloc _).alloc _, _, ho.symm, by first | rfl | simp⟩ | exact ⟨((((Keeps.refl [] w).alloc _).alloc _).alloc _).drew, _, ho.symm, by first | rfl | simp⟩
  · have hd : decide (1 ≤ x.c ∧ x.c ≤ 9) = false := decide_eq_false hr
    unfold OnlyQ
    rw [hd]
    have h1 : ¬ x.c = 1 := by omega
    have h2 : ¬ x.c = 2 := by omega
    have h3 : ¬ x.c = 3 := by omega
    have h4 : ¬ x.c = 4 := by omega
    have h5 : ¬ x.c = 5 := by omega
    have h6 : ¬ x.c = 6 := by omega
    have h7 : ¬ x.c = 7 := by omega
    have h8 : ¬ x.c = 8 := by omega
    have h9 : ¬ x.c = 9 := by omega
    have ho : onlyV x = ⟨0, [], 0, none, 0, [], 0, 0, 0⟩ := by simp [onlyV, *]
    clear hr hd
    go_enter Tryz.func18, Tryz.ntmps18
    go_wp2_with fail
    refine bodyPost_ret (results_blk2 (cs := [.int .i64 0, .string ⟨#[]⟩, .int .u64 0, .slice none 0 0, .int .i64 0, .int .i64 0, .int .i64 0]) rfl _ _ (w.heap.size + 1) _ rfl ((Blk.new_at _ (w.heap.size + 1) _ 29 (by simp)).alloc _) Tryz.underlying29 sizO) rfl ?_
    first | exact ⟨(((Keeps.refl [] w).alloc _).alloc _).alloc _, _, ho.symm, by first | rfl | simp⟩ | exact ⟨((((Keeps.refl [] w).alloc _).alloc _).alloc _).drew, _, ho.symm, by first | rfl | simp⟩
end Go.Proofs.YtbcgpjfejpcgnaaGreat.O
end
section
namespace Go.Proofs.YtbcgpjfejpcgnaaGreat.O
set_option linter.unusedVariables false
set_option linter.unusedSimpArgs false
def zrB (z : Opn) : Bool := match z.c with
  | 1 => decide (z.t = 0) && decide (z.h = 0) && decide (z.u = 0) && decide (z.m = 0)
  | 2 => decide (z.h = 0) && decide (z.u = 0) && decide (z.m = 0)
  | 3 => decide (z.k = []) && decide (z.t = 0) && decide (z.h = 0) && decide (z.u = 0) && decide (z.m = 0)
  | 4 => decide (z.k = []) && decide (z.t = 0) && decide (z.u = 0) && decide (z.m = 0)
  | 5 => decide (z.k = []) && decide (z.t = 0) && decide (z.u = 0) && decide (z.m = 0)
  | 6 => decide (z.k = []) && decide (z.t = 0) && decide (z.m = 0)
  | 7 => (decide (z.k = []) || decide (z.m = 0)) && decide (z.t = 0) && decide (z.h = 0)
  | 8 => decide (z.k = []) && decide (z.t = 0) && decide (z.h = 0) && decide (z.m = 0)
  | 9 => decide (z.k = []) && decide (z.t = 0) && decide (z.h = 0) && decide (z.u = 0) && decide (z.m = 0)
  | _ => false
def vOp (sn : Int) (z : Opn) : Bool :=
  zrB z && (decide (z.c = 3) || decide (z.b.length = 0)) && (decide (0 ≤ z.h) && decide (z.h < sn)) && (decide (0 ≤ z.u) && decide (z.u < 8)) && (decide (0 ≤ z.m) && decide (z.m < 5))
theorem vOp_code {sn : Int} {z : Opn} (h : vOp sn z = true) : 1 ≤ z.c ∧ z.c ≤ 9 := by
  simp only [vOp, Bool.and_eq_true] at h
  have h1 := h.1.1.1.1
  unfold zrB at h1
  split at h1
  all_goals first | omega | (simp at h1)
end Go.Proofs.YtbcgpjfejpcgnaaGreat.O
end
section
namespace Go.Proofs.YtbcgpjfejpcgnaaGreat.O
open Go.RowKit
set_option linter.unusedSectionVars false
set_option linter.unusedVariables false
set_option linter.unusedSimpArgs false
set_option maxRecDepth 20000
set_option maxHeartbeats 4000000
theorem inside_any (n lim : Int) (w : World) : Calls Tryz.prog 57 #[.int .i64 n, .int .i64 lim] w fun q w' => q = .returned (.bool (decide (0 ≤ n) && decide (n < lim))) ∧ w = w' := by
  by_cases h : 0 ≤ n
  · by_cases h2 : n < lim
    · have e : (decide (0 ≤ n) && decide (n < lim)) = true := by simp [h, h2]
      rw [e]
      go_enter Tryz.func57, Tryz.ntmps57
      go_wp2
      go_ret
      exact ⟨rfl, rfl⟩
    · have e : (decide (0 ≤ n) && decide (n < lim)) = false := by simp [h2]
      rw [e]
      go_enter Tryz.func57, Tryz.ntmps57
      go_wp2
      go_ret
      exact ⟨rfl, rfl⟩
  · have e : (decide (0 ≤ n) && decide (n < lim)) = false := by simp [h]
    rw [e]
    go_enter Tryz.func57, Tryz.ntmps57
    go_wp2
    go_ret
    exact ⟨rfl, rfl⟩
theorem cliValid_any (T S N C R F K : Int) (x : OV) (w : World) :
    Calls Tryz.prog 42 #[.agg #[.int .i64 T, .int .i64 S, .int .i64 N, .int .i64 C, .int .i64 R, .int .i64 F, .int .u64 K], .agg #[.int .i64 x.c, .string ⟨x.k.toArray⟩, .int .u64 (x.t : Int), .slice x.bA x.b.length x.bc, .int .i64 x.h, .int .i64 x.u, .int .i64 x.m]] w fun q w' => q = .returned (.bool (vOp S x.op)) ∧ Keeps [] w w' := by
  go_enter Tryz.func42, Tryz.ntmps42
  go_upto_block 0 with fail
  go_cut [1, 4, 6, 8, 16] from 17 to 46 (fun _ s4 s6 _ _ wx => s4 = .bool false ∧ ∃ (k' : Str) (t' : Nat) (h' u' m' : Int) (bb : Bool), s6 = .bool bb ∧ wx = ((w.alloc (.cells #[.int .i64 T, .int .i64 S, .int .i64 N, .int .i64 C, .int .i64 R, .int .i64 F, .int .u64 K] 24)).alloc (.cells #[.int .i64 x.c, .string ⟨x.k.toArray⟩, .int .u64 (x.t : Int), .slice x.bA x.b.length x.bc, .int .i64 x.h, .int .i64 x.u, .int .i64 x.m] 29)).alloc (.cells #[.int .i64 0, .string ⟨k'.toArray⟩, .int .u64 (t' : Int), .slice none 0 0, .int .i64 h', .int .i64 u', .int .i64 m'] 29) ∧
    Hid (vOp S x.op = (decide (k' = []) && decide (t' = 0) && decide (h' = 0) && decide (u' = 0) && decide (m' = 0) && !bb && (decide (0 ≤ x.h) && decide (x.h < S)) && (decide (0 ≤ x.u) && decide (x.u < 8)) && (decide (0 ≤ x.m) && decide (x.m < 5)))))
  case first =>
    by_cases hr : 1 ≤ x.c ∧ x.c ≤ 9
    · obtain hc | hc | hc | hc | hc | hc | hc | hc | hc : x.c = 1 ∨ x.c = 2 ∨ x.c = 3 ∨ x.c = 4 ∨ x.c = 5 ∨ x.c = 6 ∨ x.c = 7 ∨ x.c = 8 ∨ x.c = 9 := by omega
      · have hvm : vOp S x.op = (decide (([] : Str) = []) && decide ((x.t : Nat) = 0) && decide ((x.h : Int) = 0) && decide ((x.u : Int) = 0) && decide ((x.m : Int) = 0) && !(decide (0 < x.b.length)) && (decide (0 ≤ x.h) && decide (x.h < S)) && (decide (0 ≤ x.u) && decide (x.u < 8)) && (decide (0 ≤ x.m) && decide (x.m < 5))) := by
          simp [vOp, zrB, OV.op, hc]
          cases hb : x.b with
          | nil => simp
          | cons a l => simp
        have HV := Lib.hid hvm
        clear hvm
        go_wp2_with fail
        go_meet
        exact ⟨rfl, [], x.t, x.h, x.u, x.m, decide (0 < x.b.length), rfl, by rw [hc] <;> rfl, HV⟩
      · have hvm : vOp S x.op = (decide (([] : Str) = []) && decide ((0 : Nat) = 0) && decide ((x.h : Int) = 0) && decide ((x.u : Int) = 0) && decide ((x.m : Int) = 0) && !(decide (0 < x.b.length)) && (decide (0 ≤ x.h) && decide (x.h < S)) && (decide (0 ≤ x.u) && decide (x.u < 8)) && (decide (0 ≤ x.m) && decide (x.m < 5))) := by
          simp [vOp, zrB, OV.op, hc]
          cases hb : x.b with
          | nil => simp
          | cons a l => simp
        have HV := Lib.hid hvm
        clear hvm
        go_wp2_with fail
        go_meet
        exact ⟨rfl, [], 0, x.h, x.u, x.m, decide (0 < x.b.length), rfl, by rw [hc] <;> rfl, HV⟩
      · have hvm : vOp S x.op = (decide ((x.k : Str) = []) && decide ((x.t : Nat) = 0) && decide ((x.h : Int) = 0) && decide ((x.u : Int) = 0) && decide ((x.m : Int) = 0) && !(false) && (decide (0 ≤ x.h) && decide (x.h < S)) && (decide (0 ≤ x.u) && decide (x.u < 8)) && (decide (0 ≤ x.m) && decide (x.m < 5))) := by
          simp [vOp, zrB, OV.op, hc]
        have HV := Lib.hid hvm
        clear hvm
        go_wp2_with fail
        go_meet
        exact ⟨rfl, x.k, x.t, x.h, x.u, x.m, false, rfl, by rw [hc] <;> rfl, HV⟩
      · have hvm : vOp S x.op = (decide ((x.k : Str) = []) && decide ((x.t : Nat) = 0) && decide ((0 : Int) = 0) && decide ((x.u : Int) = 0) && decide ((x.m : Int) = 0) && !(decide (0 < x.b.length)) && (decide (0 ≤ x.h) && decide (x.h < S)) && (decide (0 ≤ x.u) && decide (x.u < 8)) && (decide (0 ≤ x.m) && decide (x.m < 5))) := by
          simp [vOp, zrB, OV.op, hc]
          cases hb : x.b with
          | nil => simp
          | cons a l => simp
        have HV := Lib.hid hvm
        clear hvm
        go_wp2_with fail
        go_meet
        exact ⟨rfl, x.k, x.t, 0, x.u, x.m, decide (0 < x.b.length), rfl, by rw [hc] <;> rfl, HV⟩
      · have hvm : vOp S x.op = (decide ((x.k : Str) = []) && decide ((x.t : Nat) = 0) && decide ((0 : Int) = 0) && decide ((x.u : Int) = 0) && decide ((x.m : Int) = 0) && !(decide (0 < x.b.length)) && (decide (0 ≤ x.h) && decide (x.h < S)) && (decide (0 ≤ x.u) && decide (x.u < 8)) && (decide (0 ≤ x.m) && decide (x.m < 5))) := by
          simp [vOp, zrB, OV.op, hc]
          cases hb : x.b with
          | nil => simp
          | cons a l => simp
        have HV := Lib.hid hvm
        clear hvm
        go_wp2_with fail
        go_meet
        exact ⟨rfl, x.k, x.t, 0, x.u, x.m, decide (0 < x.b.length), rfl, by rw [hc] <;> rfl, HV⟩
      · have hvm : vOp S x.op = (decide ((x.k : Str) = []) && decide ((x.t : Nat) = 0) && decide ((0 : Int) = 0) && decide ((0 : Int) = 0) && decide ((x.m : Int) = 0) && !(decide (0 < x.b.length)) && (decide (0 ≤ x.h) && decide (x.h < S)) && (decide (0 ≤ x.u) && decide (x.u < 8)) && (decide (0 ≤ x.m) && decide (x.m < 5))) := by
          simp [vOp, zrB, OV.op, hc]
          cases hb : x.b with
          | nil => simp
          | cons a l => simp
        have HV := Lib.hid hvm
        clear hvm
        go_wp2_with fail
        go_meet
        exact ⟨rfl, x.k, x.t, 0, 0, x.m, decide (0 < x.b.length), rfl, by rw [hc] <;> rfl, HV⟩
      · have hvm : vOp S x.op = ((decide (x.k = []) || decide (x.m = 0)) && decide (x.t = 0) && decide (x.h = 0) && !(decide (0 < x.b.length)) && (decide (0 ≤ x.h) && decide (x.h < S)) && (decide (0 ≤ x.u) && decide (x.u < 8)) && (decide (0 ≤ x.m) && decide (x.m < 5))) := by
          simp [vOp, zrB, OV.op, hc]
          cases hb : x.b with
          | nil => simp
          | cons a l => simp
        have HV := Lib.hid hvm
        clear hvm
        by_cases hm : x.m = 0
        · go_wp2_with fail
          go_meet
          refine ⟨rfl, [], x.t, x.h, 0, 0, decide (0 < x.b.length), rfl, by rw [hc, hm] <;> rfl, Lib.hid ?_⟩
          rw [HV.out]
          simp [hm]
        · go_wp2_with fail
          go_meet
          refine ⟨rfl, x.k, x.t, x.h, 0, 0, decide (0 < x.b.length), rfl, by rw [hc], Lib.hid ?_⟩
          rw [HV.out]
          simp [hm]
      · have hvm : vOp S x.op = (decide ((x.k : Str) = []) && decide ((x.t : Nat) = 0) && decide ((x.h : Int) = 0) && decide ((0 : Int) = 0) && decide ((x.m : Int) = 0) && !(decide (0 < x.b.length)) && (decide (0 ≤ x.h) && decide (x.h < S)) && (decide (0 ≤ x.u) && decide (x.u < 8)) && (decide (0 ≤ x.m) && decide (x.m < 5))) := by
          simp [vOp, zrB, OV.op, hc]
          cases hb : x.b with
          | nil => simp
          | cons a l => simp
        have HV := Lib.hid hvm
        clear hvm
        go_wp2_with fail
        go_meet
        exact ⟨rfl, x.k, x.t, x.h, 0, x.m, decide (0 < x.b.length), rfl, by rw [hc] <;> rfl, HV⟩
      · have hvm : vOp S x.op = (decide ((x.k : Str) = []) && decide ((x.t : Nat) = 0) && decide ((x.h : Int) = 0) && decide ((x.u : Int) = 0) && decide ((x.m : Int) = 0) && !(decide (0 < x.b.length)) && (decide (0 ≤ x.h) && decide (x.h < S)) && (decide (0 ≤ x.u) && decide (x.u < 8)) && (decide (0 ≤ x.m) && decide (x.m < 5))) := by
          simp [vOp, zrB, OV.op, hc]
          cases hb : x.b with
          | nil => simp
          | cons a l => simp
        have HV := Lib.hid hvm
        clear hvm
        go_wp2_with fail
        go_meet
        exact ⟨rfl, x.k, x.t, x.h, x.u, x.m, decide (0 < x.b.length), rfl, by rw [hc] <;> rfl, HV⟩
    · have hv : vOp S x.op = false := by
        cases h : vOp S x.op with
        | false => rfl
        | true =>
          have := vOp_code h
          simp only [OV.op] at this
          omega
      have h1 : ¬ x.c = 1 := by omega
      have h2 : ¬ x.c = 2 := by omega
      have h3 : ¬ x.c = 3 := by omega
      have h4 : ¬ x.c = 4 := by omega
      have h5 : ¬ x.c = 5 := by omega
      have h6 : ¬ x.c = 6 := by omega
      have h7 : ¬ x.c = 7 := by omega
      have h8 : ¬ x.c = 8 := by omega
      have h9 : ¬ x.c = 9 := by omega
      clear hr
      go_wp2_with fail
      go_ret
      exact ⟨by first | rfl | (rw [hv]; rfl), (((Keeps.refl [] w).alloc _).alloc _).alloc _⟩
  case rest =>
    obtain ⟨rfl, k', t', h', u', m', bb, rfl, rfl, HV⟩ := hcut
    by_cases hk : k' = []
    · subst hk
      by_cases h1 : t' = 0
      · subst h1
        by_cases h2 : h' = 0
        · subst h2
          by_cases h3 : u' = 0
          · subst h3
            by_cases h4 : m' = 0
            · subst h4
              cases bb with
              | true =>
                have hv : vOp S x.op = false := by rw [HV.out]; simp
                go_wp2_with fail
                go_ret
                exact ⟨by first | rfl | (rw [hv]; rfl), (((Keeps.refl [] w).alloc _).alloc _).alloc _⟩
              | false =>
                go_wp2_with fail
                refine (inside_any x.h S _).mono ?_
                rintro q w1 ⟨rfl, rfl⟩
                by_cases g1 : 0 ≤ x.h ∧ x.h < S
                · have G1 : (decide (0 ≤ x.h) && decide (x.h < S)) = true := by simp [g1.1, g1.2]
                  rw [G1]
                  go_wp2_with fail
                  refine (inside_any x.u 8 _).mono ?_
                  rintro q w1 ⟨rfl, rfl⟩
                  by_cases g2 : 0 ≤ x.u ∧ x.u < 8
                  · have G2 : (decide (0 ≤ x.u) && decide (x.u < 8)) = true := by simp [g2.1, g2.2]
                    rw [G2]
                    go_wp2_with fail
                    refine (inside_any x.m 5 _).mono ?_
                    rintro q w1 ⟨rfl, rfl⟩
                    go_wp2_with fail
                    go_ret
                    exact ⟨by rw [HV.out]; simp [G1, G2, g1.1, g1.2, g2.1, g2.2], (((Keeps.refl [] w).alloc _).alloc _).alloc _⟩
                  · have G2 : (decide (0 ≤ x.u) && decide (x.u < 8)) = false := by simp only [Bool.and_eq_false_iff, decide_eq_false_iff_not]; omega
                    rw [G2]
                    go_wp2_with fail
                    go_ret
                    exact ⟨by rw [HV.out]; simp [G2], (((Keeps.refl [] w).alloc _).alloc _).alloc _⟩
                · have G1 : (decide (0 ≤ x.h) && decide (x.h < S)) = false := by simp only [Bool.and_eq_false_iff, decide_eq_false_iff_not]; omega
                  rw [G1]
                  go_wp2_with fail
                  go_ret
                  exact ⟨by rw [HV.out]; simp [G1], (((Keeps.refl [] w).alloc _).alloc _).alloc _⟩
            · have hv : vOp S x.op = false := by rw [HV.out]; simp [h4]
              go_wp2_with fail
              go_ret
              exact ⟨by first | rfl | (rw [hv]; rfl), (((Keeps.refl [] w).alloc _).alloc _).alloc _⟩
          · have hv : vOp S x.op = false := by rw [HV.out]; simp [h3]
            go_wp2_with fail
            go_ret
            exact ⟨by first | rfl | (rw [hv]; rfl), (((Keeps.refl [] w).alloc _).alloc _).alloc _⟩
        · have hv : vOp S x.op = false := by rw [HV.out]; simp [h2]
          go_wp2_with fail
          go_ret
          exact ⟨by first | rfl | (rw [hv]; rfl), (((Keeps.refl [] w).alloc _).alloc _).alloc _⟩
      · have hv : vOp S x.op = false := by rw [HV.out]; simp [h1]
        go_wp2_with fail
        go_ret
        exact ⟨by first | rfl | (rw [hv]; rfl), (((Keeps.refl [] w).alloc _).alloc _).alloc _⟩
    · have hv : vOp S x.op = false := by rw [HV.out]; simp [hk]
      have hkk : ¬ (⟨k'.toArray⟩ : ByteArray) = ⟨#[]⟩ := fun he => hk (by have := congrArg (fun b => b.data.toList) he; simpa using this)
      go_wp2_with fail
      go_ret
      exact ⟨by first | rfl | (rw [hv]; rfl), (((Keeps.refl [] w).alloc _).alloc _).alloc _⟩
end Go.Proofs.YtbcgpjfejpcgnaaGreat.O
end
