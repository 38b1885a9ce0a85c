/- layout.Valid, layout.New and layout.Start on configurations that are not valid. -/
import Derived.Test.YtkgmgnfcmnhhaaaStart
namespace Go.Proofs.Ytkgmgnfcmnhhaaa
open Go.RowKit
set_option linter.unusedSectionVars false
set_option linter.unusedVariables false
set_option linter.unusedSimpArgs false
set_option maxRecDepth 20000
set_option maxHeartbeats 4000000
theorem and_no {a b : Prop} [Decidable a] [Decidable b] (h : ¬ (a ∧ b)) : (decide a && decide b) = false := by
  cases ha : decide a
  · rfl
  · simp at ha
    simp
    exact fun hb => h ⟨ha, hb⟩
theorem and_yes {a b : Prop} [Decidable a] [Decidable b] (h : a ∧ b) : (decide a && decide b) = true := by simp [h.1, h.2]
theorem valid_no (T S N C R F K : Int) (h : ¬ CfgOK T S N C R F K) (w : World) :
    Calls Try.prog 55 #[.agg #[.int .i64 T, .int .i64 S, .int .i64 N, .int .i64 C, .int .i64 R, .int .i64 F, .int .u64 K]] w fun e w' => e = .returned (.bool false) ∧ Keeps [] w w' := by
  by_cases h1 : 1 ≤ T ∧ T ≤ 64
  · have E1 := Lib.hid (and_yes h1)
    by_cases h2 : 1 ≤ S ∧ S ≤ 8
    · have E2 := Lib.hid (and_yes h2)
      by_cases h3 : 1 ≤ N ∧ N ≤ 4096
      · have E3 := Lib.hid (and_yes h3)
        by_cases h4 : 1 ≤ C ∧ C ≤ 16384
        · have E4 := Lib.hid (and_yes h4)
          by_cases h5 : 1 ≤ R ∧ R ≤ 65536
          · have E5 := Lib.hid (and_yes h5)
            by_cases h6 : 4 ≤ F ∧ F ≤ 32
            · have E6 := Lib.hid (and_yes h6)
              have hk : ¬ (1 ≤ K ∧ K ≤ 1099511627776) := fun hk => h ⟨h1.1, h1.2, h2.1, h2.2, h3.1, h3.2, h4.1, h4.2, h5.1, h5.2, h6.1, h6.2, hk.1, hk.2⟩
              by_cases hk1 : 1 ≤ K
              · have hk2 : ¬ K ≤ 1099511627776 := fun h => hk ⟨hk1, h⟩
                clear h1 h2 h3 h4 h5 h6 h hk
                go_enter Try.func55, Try.ntmps55
                go_wp2_with fail
                refine (between_any T 1 64 _).mono ?_
                rintro e w1 ⟨rfl, rfl⟩
                rw [E1.out]
                go_wp2_with fail
                refine (between_any S 1 8 _).mono ?_
                rintro e w2 ⟨rfl, rfl⟩
                rw [E2.out]
                go_wp2_with fail
                refine (between_any N 1 4096 _).mono ?_
                rintro e w3 ⟨rfl, rfl⟩
                rw [E3.out]
                go_wp2_with fail
                refine (between_any C 1 16384 _).mono ?_
                rintro e w4 ⟨rfl, rfl⟩
                rw [E4.out]
                go_wp2_with fail
                refine (between_any R 1 65536 _).mono ?_
                rintro e w5 ⟨rfl, rfl⟩
                rw [E5.out]
                go_wp2_with fail
                refine (between_any F 4 32 _).mono ?_
                rintro e w6 ⟨rfl, rfl⟩
                rw [E6.out]
                go_wp2_with fail
                go_ret
                exact ⟨by simp <;> omega, (Keeps.refl _ _).alloc _⟩
              · clear h1 h2 h3 h4 h5 h6 h hk
                go_enter Try.func55, Try.ntmps55
                go_wp2_with fail
                refine (between_any T 1 64 _).mono ?_
                rintro e w1 ⟨rfl, rfl⟩
                rw [E1.out]
                go_wp2_with fail
                refine (between_any S 1 8 _).mono ?_
                rintro e w2 ⟨rfl, rfl⟩
                rw [E2.out]
                go_wp2_with fail
                refine (between_any N 1 4096 _).mono ?_
                rintro e w3 ⟨rfl, rfl⟩
                rw [E3.out]
                go_wp2_with fail
                refine (between_any C 1 16384 _).mono ?_
                rintro e w4 ⟨rfl, rfl⟩
                rw [E4.out]
                go_wp2_with fail
                refine (between_any R 1 65536 _).mono ?_
                rintro e w5 ⟨rfl, rfl⟩
                rw [E5.out]
                go_wp2_with fail
                refine (between_any F 4 32 _).mono ?_
                rintro e w6 ⟨rfl, rfl⟩
                rw [E6.out]
                go_wp2_with fail
                go_ret
                exact ⟨rfl, (Keeps.refl _ _).alloc _⟩
            · have E6 := Lib.hid (and_no h6)
              clear h1 h2 h3 h4 h5 h6 h
              go_enter Try.func55, Try.ntmps55
              go_wp2_with fail
              refine (between_any T 1 64 _).mono ?_
              rintro e w1 ⟨rfl, rfl⟩
              rw [E1.out]
              go_wp2_with fail
              refine (between_any S 1 8 _).mono ?_
              rintro e w2 ⟨rfl, rfl⟩
              rw [E2.out]
              go_wp2_with fail
              refine (between_any N 1 4096 _).mono ?_
              rintro e w3 ⟨rfl, rfl⟩
              rw [E3.out]
              go_wp2_with fail
              refine (between_any C 1 16384 _).mono ?_
              rintro e w4 ⟨rfl, rfl⟩
              rw [E4.out]
              go_wp2_with fail
              refine (between_any R 1 65536 _).mono ?_
              rintro e w5 ⟨rfl, rfl⟩
              rw [E5.out]
              go_wp2_with fail
              refine (between_any F 4 32 _).mono ?_
              rintro e w6 ⟨rfl, rfl⟩
              rw [E6.out]
              go_wp2_with fail
              go_ret
              exact ⟨rfl, (Keeps.refl _ _).alloc _⟩
          · have E5 := Lib.hid (and_no h5)
            clear h1 h2 h3 h4 h5 h
            go_enter Try.func55, Try.ntmps55
            go_wp2_with fail
            refine (between_any T 1 64 _).mono ?_
            rintro e w1 ⟨rfl, rfl⟩
            rw [E1.out]
            go_wp2_with fail
            refine (between_any S 1 8 _).mono ?_
            rintro e w2 ⟨rfl, rfl⟩
            rw [E2.out]
            go_wp2_with fail
            refine (between_any N 1 4096 _).mono ?_
            rintro e w3 ⟨rfl, rfl⟩
            rw [E3.out]
            go_wp2_with fail
            refine (between_any C 1 16384 _).mono ?_
            rintro e w4 ⟨rfl, rfl⟩
            rw [E4.out]
            go_wp2_with fail
            refine (between_any R 1 65536 _).mono ?_
            rintro e w5 ⟨rfl, rfl⟩
            rw [E5.out]
            go_wp2_with fail
            go_ret
            exact ⟨rfl, (Keeps.refl _ _).alloc _⟩
        · have E4 := Lib.hid (and_no h4)
          clear h1 h2 h3 h4 h
          go_enter Try.func55, Try.ntmps55
          go_wp2_with fail
          refine (between_any T 1 64 _).mono ?_
          rintro e w1 ⟨rfl, rfl⟩
          rw [E1.out]
          go_wp2_with fail
          refine (between_any S 1 8 _).mono ?_
          rintro e w2 ⟨rfl, rfl⟩
          rw [E2.out]
          go_wp2_with fail
          refine (between_any N 1 4096 _).mono ?_
          rintro e w3 ⟨rfl, rfl⟩
          rw [E3.out]
          go_wp2_with fail
          refine (between_any C 1 16384 _).mono ?_
          rintro e w4 ⟨rfl, rfl⟩
          rw [E4.out]
          go_wp2_with fail
          go_ret
          exact ⟨rfl, (Keeps.refl _ _).alloc _⟩
      · have E3 := Lib.hid (and_no h3)
        clear h1 h2 h3 h
        go_enter Try.func55, Try.ntmps55
        go_wp2_with fail
        refine (between_any T 1 64 _).mono ?_
        rintro e w1 ⟨rfl, rfl⟩
        rw [E1.out]
        go_wp2_with fail
        refine (between_any S 1 8 _).mono ?_
        rintro e w2 ⟨rfl, rfl⟩
        rw [E2.out]
        go_wp2_with fail
        refine (between_any N 1 4096 _).mono ?_
        rintro e w3 ⟨rfl, rfl⟩
        rw [E3.out]
        go_wp2_with fail
        go_ret
        exact ⟨rfl, (Keeps.refl _ _).alloc _⟩
    · have E2 := Lib.hid (and_no h2)
      clear h1 h2 h
      go_enter Try.func55, Try.ntmps55
      go_wp2_with fail
      refine (between_any T 1 64 _).mono ?_
      rintro e w1 ⟨rfl, rfl⟩
      rw [E1.out]
      go_wp2_with fail
      refine (between_any S 1 8 _).mono ?_
      rintro e w2 ⟨rfl, rfl⟩
      rw [E2.out]
      go_wp2_with fail
      go_ret
      exact ⟨rfl, (Keeps.refl _ _).alloc _⟩
  · have E1 := Lib.hid (and_no h1)
    clear h1 h
    go_enter Try.func55, Try.ntmps55
    go_wp2_with fail
    refine (between_any T 1 64 _).mono ?_
    rintro e w1 ⟨rfl, rfl⟩
    rw [E1.out]
    go_wp2_with fail
    go_ret
    exact ⟨rfl, (Keeps.refl _ _).alloc _⟩
theorem layNew_no (T S N C R F K : Int) (h : ¬ CfgOK T S N C R F K) (w : World) :
    Calls Try.prog 43 #[.agg #[.int .i64 T, .int .i64 S, .int .i64 N, .int .i64 C, .int .i64 R, .int .i64 F, .int .u64 K]] w fun e w' => e = .returned (.tuple #[.agg #[.int .i64 0, .int .i64 0, .int .i64 0, .int .i64 0, .int .i64 0, .int .i64 0, .int .u64 0], .int .i64 1]) ∧ Keeps [] w w' := by
  go_enter Try.func43, Try.ntmps43
  go_wp2_with fail
  refine (valid_no T S N C R F K h _).mono ?_
  rintro e w1 ⟨rfl, k1⟩
  have hr := k1.blk (Blk.new_at (w.alloc (.cells #[.int .i64 T, .int .i64 S, .int .i64 N, .int .i64 C, .int .i64 R, .int .i64 F, .int .u64 K] 26)) (w.heap.size + 1) [.int .i64 0, .int .i64 0, .int .i64 0, .int .i64 0, .int .i64 0, .int .i64 0, .int .u64 0] 86 (by simp)) (by simp)
  have K1 := (((Keeps.refl [] w).alloc (.cells #[.int .i64 T, .int .i64 S, .int .i64 N, .int .i64 C, .int .i64 R, .int .i64 F, .int .u64 K] 26)).alloc (.cells #[.int .i64 0, .int .i64 0, .int .i64 0, .int .i64 0, .int .i64 0, .int .i64 0, .int .u64 0] 86)).trans k1 (by simp)
  have r0 := hr.cell 0
  have r1 := hr.cell 1
  have r2 := hr.cell 2
  have r3 := hr.cell 3
  have r4 := hr.cell 4
  have r5 := hr.cell 5
  have r6 := hr.cell 6
  simp only [List.getElem?_cons_zero, List.getElem?_cons_succ] at r0 r1 r2 r3 r4 r5 r6
  have rf := hr.frozen
  have rl := hr.lt
  go_wp2_with fail
  exact bodyPost_ret (v := .tuple #[.agg #[.int .i64 0, .int .i64 0, .int .i64 0, .int .i64 0, .int .i64 0, .int .i64 0, .int .u64 0], .int .i64 1]) (by simp [results, Try.results43, go_sem, *]) rfl ⟨rfl, (((((((K1.setCell _ _ (.inr (by simp))).setCell _ _ (.inr (by simp))).setCell _ _ (.inr (by simp))).setCell _ _ (.inr (by simp))).setCell _ _ (.inr (by simp))).setCell _ _ (.inr (by simp))).setCell _ _ (.inr (by simp)))⟩
theorem start_no (T S N C R F K : Int) (h : ¬ CfgOK T S N C R F K) (w : World) :
    Calls Try.prog 38 #[.agg #[.int .i64 T, .int .i64 S, .int .i64 N, .int .i64 C, .int .i64 R, .int .i64 F, .int .u64 K]] w fun e w' => e = .returned (.tuple #[.agg #[.int .i64 0, .int .i64 0, .int .i64 0, .int .i64 0, .int .i64 0, .int .i64 0, .int .u64 0], .pointer none, .int .i64 1]) ∧ Keeps [] w w' := by
  go_enter Try.func38, Try.ntmps38
  go_wp2_with fail
  refine (layNew_no T S N C R F K h _).mono ?_
  rintro e w1 ⟨rfl, k1⟩
  have hr := k1.blk (Blk.new_at (w.alloc (.cells #[.int .i64 T, .int .i64 S, .int .i64 N, .int .i64 C, .int .i64 R, .int .i64 F, .int .u64 K] 26)) (w.heap.size + 1) [.int .i64 0, .int .i64 0, .int .i64 0, .int .i64 0, .int .i64 0, .int .i64 0, .int .u64 0] 86 (by simp)) (by simp)
  have K1 := (((Keeps.refl [] w).alloc (.cells #[.int .i64 T, .int .i64 S, .int .i64 N, .int .i64 C, .int .i64 R, .int .i64 F, .int .u64 K] 26)).alloc (.cells #[.int .i64 0, .int .i64 0, .int .i64 0, .int .i64 0, .int .i64 0, .int .i64 0, .int .u64 0] 86)).trans k1 (by simp)
  have r0 := hr.cell 0
  have r1 := hr.cell 1
  have r2 := hr.cell 2
  have r3 := hr.cell 3
  have r4 := hr.cell 4
  have r5 := hr.cell 5
  have r6 := hr.cell 6
  simp only [List.getElem?_cons_zero, List.getElem?_cons_succ] at r0 r1 r2 r3 r4 r5 r6
  have rf := hr.frozen
  have rl := hr.lt
  go_wp2_with fail
  exact bodyPost_ret (v := .tuple #[.agg #[.int .i64 0, .int .i64 0, .int .i64 0, .int .i64 0, .int .i64 0, .int .i64 0, .int .u64 0], .pointer none, .int .i64 1]) (by simp [results, Try.results38, go_sem, *]) rfl ⟨rfl, (((((((K1.setCell _ _ (.inr (by simp))).setCell _ _ (.inr (by simp))).setCell _ _ (.inr (by simp))).setCell _ _ (.inr (by simp))).setCell _ _ (.inr (by simp))).setCell _ _ (.inr (by simp))).setCell _ _ (.inr (by simp))).alloc _⟩
end Go.Proofs.Ytkgmgnfcmnhhaaa
