/- The contracts of package registry: the Watermark's scan. -/
import Derived.Test.YtiodlmmbjjdojaaWm2
import Derived.Deep.CutRange
import Derived.Deep.DeepCutAuto
namespace Go.Proofs.Ytiodlmmbjjdojaa
open Go.RowKit
/-- What a scan makes of the least time so far and a cell of the registry. -/
def wmin (t x : Int) : Int := if x = 0 then t else if x - 1 < t then x - 1 else t
/-- What a scan returns: nil behind the last cell, else the scan from the next cell on. -/
def ScanPost (w : World) (wm m c : Nat) (L : List C3) (n : Int) (T S N C R F K : Int) (k t : Int) (old : Value) (e : Ending) (w' : World) : Prop :=
  ∃ nx, e = .returned nx ∧ (k + 1 = T * S → nx = .nilFunc) ∧ (k + 1 < T * S → ∃ ab kb, nx = .func (.func 60) #[] #[.pointer (some ⟨ab, 0, none⟩), .pointer (some ⟨kb, 0, none⟩)] ∧ Blk w' ab [.pointer (some ⟨wm, 0, none⟩)] ∧ Blk w' kb [.int .i64 (k + 1)] ∧ w.heap.size ≤ ab ∧ w.heap.size ≤ kb) ∧
    Blk w' wm [old, .bool true, .int .i64 T, .int .i64 S, .int .i64 N, .int .i64 C, .int .i64 R, .int .i64 F, .int .u64 K, .int .u64 t] ∧ MemAt w' m c L (n + 1) ∧ Keeps [m, wm] w w'

set_option maxHeartbeats 4000000 in
theorem scan1_load (w : World) (wm ab kb m c : Nat) (L : List C3) (n : Int) (T S N C R F K : Int) (k t : Int) (hc : CfgOK T S N C R F K) (h : WmS w wm ab kb T S N C R F K k t) (k0 : 0 ≤ k) (k1' : k < T * S)
    (hm : MemAt w m c L n) (n0 : 0 ≤ n) (n1 : n ≤ 4611686018427387904) (ha : wm ≠ m ∧ wm ≠ c ∧ ab ≠ m ∧ kb ≠ m ∧ ab ≠ wm ∧ kb ≠ wm)
    (x0 : 0 ≤ (memAt L (8 + k)).N) (x1 : (memAt L (8 + k)).N ≤ 18446744073709551615) :
    Calls Try.prog 60 #[.pointer (some ⟨m, 0, none⟩), .pointer (some ⟨ab, 0, none⟩), .pointer (some ⟨kb, 0, none⟩)] w
      (ScanPost w wm m c L n T S N C R F K k (wmin t (memAt L (8 + k)).N) (.func (.func 60) #[] #[.pointer (some ⟨ab, 0, none⟩), .pointer (some ⟨kb, 0, none⟩)])) := by
  obtain ⟨h1, h2, h3⟩ := h
  obtain ⟨o0, o1, o2, o3, o4, o5, o6, o7, o8, o9, of, ol⟩ := h1.o10
  have p2 := h2.o1.1
  have p3 := h3.o1.1
  have Hx0 := Lib.hid x0
  have Hx1 := Lib.hid x1
  clear x0 x1
  go_enter Try.func60, Try.ntmps60
  go_wp2_with fail
  go_region_held3 (fun w' => w'.cell? ⟨ab, 0, none⟩ = some (.pointer (some ⟨wm, 0, none⟩)) ∧ w'.cell? ⟨kb, 0, none⟩ = some (.int .i64 k) ∧ w'.cell? ⟨wm, 2, none⟩ = some (.int .i64 T) ∧ w'.cell? ⟨wm, 3, none⟩ = some (.int .i64 S) ∧ w'.cell? ⟨wm, 4, none⟩ = some (.int .i64 N) ∧ w'.cell? ⟨wm, 5, none⟩ = some (.int .i64 C) ∧ w'.cell? ⟨wm, 6, none⟩ = some (.int .i64 R) ∧ w'.cell? ⟨wm, 7, none⟩ = some (.int .i64 F) ∧ w'.cell? ⟨wm, 8, none⟩ = some (.int .u64 K))
    (first
      | exact ⟨p2, p3, o2, o3, o4, o5, o6, o7, o8⟩
      | exact ⟨k1.cellEq p2 (by simp), k1.cellEq p3 (by simp), k1.cellEq o2 (by simp), k1.cellEq o3 (by simp), k1.cellEq o4 (by simp), k1.cellEq o5 (by simp), k1.cellEq o6 (by simp), k1.cellEq o7 (by simp), k1.cellEq o8 (by simp)⟩
      | exact ⟨k12.cellEq p2 (by simp; omega), k12.cellEq p3 (by simp; omega), k12.cellEq o2 (by simp; omega), k12.cellEq o3 (by simp; omega), k12.cellEq o4 (by simp; omega), k12.cellEq o5 (by simp; omega), k12.cellEq o6 (by simp; omega), k12.cellEq o7 (by simp; omega), k12.cellEq o8 (by simp; omega)⟩
      | go_keep)
    ((first
      | (go_at_call 43; refine (entry_any T S N C R F K hc k k0 k1' _).mono ?_; rintro e w1 ⟨rfl, k1⟩; replace k1 := k1.undrew)
      | (go_at_call 57; refine (load_any _ m c L n (hm.keeps k1 (by simp) (by simp)) (8 + k) n0 n1).mono ?_; rintro e w2 ⟨rfl, h5, k2⟩; have k12 := (k1.mono (S' := [m]) (by simp)).trans k2 (by simp))))
  have g1 := k12.blk h1 (by simp; omega)
  have g2 := k12.blk h2 (by simp; omega)
  have g3 := k12.blk h3 (by simp; omega)
  have g1o := g1.o10
  have g2o := g2.o1
  clear o0 o1 o2 o3 o4 o5 o6 o7 o8 o9 of ol p2 p3
  obtain ⟨x, hx⟩ : ∃ x, (memAt L (8 + k)).N = x := ⟨_, rfl⟩
  rw [hx] at Hx0 Hx1 ⊢
  have Hx := Lib.hid hx
  clear hx
  go_upto_if 16 with fail
  go_cut [5] (fun s wx => WmS wx wm ab kb T S N C R F K k (wmin t (memAt L (8 + k)).N) ∧ MemAt wx m c L (n + 1) ∧ Keeps [m, wm] w wx)
  case first =>
    by_cases hx0 : x = 0
    · have Hx0' := Lib.hid hx0
      clear hx0
      rw [Hx0'.out]
      go_wp2_with fail
      go_meet
      rw [Hx.out, Hx0'.out]
      exact ⟨⟨g1, g2, g3⟩, h5, k12.mono (by intro j hj; left; simp at hj ⊢; omega)⟩
    · have hb : (x != 0) = true := by simp [hx0]
      have hw : IntKind.u64.wrap (x - 1) = x - 1 := IntWalk.u64_in _ ⟨by have := Hx0.out; omega, by have := Hx1.out; omega⟩
      have hmn : wmin t x = if x - 1 < t then x - 1 else t := by simp [wmin, hx0]
      have Hmn := Lib.hid hmn
      have Hxn := Lib.hid hx0
      clear hx0 hmn
      go_wp2_with fail
      go_region
      all_goals go_wp2_with fail
      all_goals go_meet
      all_goals rw [Hx.out, Hmn.out]
      all_goals (first | rw [if_pos (by omega)] | rw [if_neg (by omega)])
      all_goals exact ⟨⟨(g1.set 9 _).drew, (g2.other ⟨wm, 9, none⟩ _ (by simp; omega)).drew, (g3.other ⟨wm, 9, none⟩ _ (by simp; omega)).drew⟩, (h5.other ⟨wm, 9, none⟩ _ (by simp; omega) (by simp; omega)).drew, ((k12.mono (S' := [m, wm]) (by intro j hj; left; simp at hj ⊢; omega)).setCell ⟨wm, 9, none⟩ _ (.inl (by simp))).drew⟩
  case rest =>
    obtain ⟨q1, hm5, K5⟩ := hcut
    obtain ⟨r1, r2, r3⟩ := q1
    obtain ⟨o0, o1, o2, o3, o4, o5, o6, o7, o8, o9, of, ol⟩ := r1.o10
    have r2o := r2.o1
    have r3o := r3.o1
    have p2 := r2o.1
    have p3 := r3o.1
    have q1 := hc.T0
    have q2 := hc.T1
    have q3 := hc.S0
    have q4 := hc.S1
    obtain ⟨z0, z1⟩ := prod_bounds (a := T) (b := S) (A := 64) (B := 8) (by omega) (by omega) (by omega) q4
    have hsum : IntKind.i64.wrap (k + 1) = k + 1 := IntWalk.i64_in _ ⟨by omega, by omega⟩
    have hlo := Lib.hid k1'
    have hk5 := K5.size
    clear q1 q2 q3 q4 z0 z1 k1' k0 n0 n1 g1o g2o
    go_wp2_with fail
    go_region_held3 (fun w' => w'.cell? ⟨ab, 0, none⟩ = some (.pointer (some ⟨wm, 0, none⟩)) ∧ w'.cell? ⟨kb, 0, none⟩ = some (.int .i64 k) ∧ w'.cell? ⟨wm, 2, none⟩ = some (.int .i64 T) ∧ w'.cell? ⟨wm, 3, none⟩ = some (.int .i64 S) ∧ w'.cell? ⟨wm, 4, none⟩ = some (.int .i64 N) ∧ w'.cell? ⟨wm, 5, none⟩ = some (.int .i64 C) ∧ w'.cell? ⟨wm, 6, none⟩ = some (.int .i64 R) ∧ w'.cell? ⟨wm, 7, none⟩ = some (.int .i64 F) ∧ w'.cell? ⟨wm, 8, none⟩ = some (.int .u64 K))
      (first
        | exact ⟨p2, p3, o2, o3, o4, o5, o6, o7, o8⟩
        | exact ⟨k9.cellEq p2 (by simp), k9.cellEq p3 (by simp), k9.cellEq o2 (by simp), k9.cellEq o3 (by simp), k9.cellEq o4 (by simp), k9.cellEq o5 (by simp), k9.cellEq o6 (by simp), k9.cellEq o7 (by simp), k9.cellEq o8 (by simp)⟩
        | go_keep)
      ((go_at_call 42; refine (entries_any T S N C R F K hc _).mono ?_; rintro e w9 ⟨rfl, k9⟩; replace k9 := k9.undrew))
    have v1 := k9.blk r1 (by simp)
    have v2 := k9.blk r2 (by simp)
    have v3 := k9.blk r3 (by simp)
    have vm := hm5.keeps k9 (by simp) (by simp)
    have vK := K5.trans k9 (by simp)
    have v2o := v2.o1
    have v3o := v3.o1
    by_cases hlast : k + 1 = T * S
    · have hb : (k + 1 == T * S) = true := by rw [beq_iff_eq]; exact hlast
      have Hl := Lib.hid hlast
      clear hlast
      go_wp2_with fail
      go_ret
      exact ⟨.nilFunc, rfl, fun _ => rfl, fun hl => absurd Hl.out (by omega), v1, vm, vK⟩
    · have hb : (k + 1 == T * S) = false := by rw [beq_eq_false_iff_ne]; exact hlast
      have Hl := Lib.hid hlast
      clear hlast
      go_wp2_with fail
      refine (scan_any _ wm (k + 1)).mono ?_
      rintro e w10 ⟨ab', kb', rfl, ha10, hk10, hab, hkb, k10⟩
      have s9 := k9.size
      go_wp2_with fail
      go_ret
      exact ⟨_, rfl, fun hl => absurd hl Hl.out, fun _ => ⟨ab', kb', rfl, ha10, hk10, by omega, by omega⟩, k10.blk v1 (by simp), vm.keeps k10 (by simp) (by simp), vK.trans k10 (by simp)⟩
end Go.Proofs.Ytiodlmmbjjdojaa
