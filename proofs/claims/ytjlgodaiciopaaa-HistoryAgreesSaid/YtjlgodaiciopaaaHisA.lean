/- The contracts of the small functions: Precedes (both), sound, the closures, cmp.Compare[int], slices.Clone on writes. -/
import Derived.Test.YtjlgodaiciopaaaHisL
import Derived.Sort.Grow
namespace Go.Proofs.Ytjlgodaiciopaaa
open Go.RowKit
set_option maxRecDepth 100000
set_option linter.unusedSimpArgs false
set_option maxHeartbeats 1000000
theorem prec_any (x y : RV) (w : World) : Calls Try.prog 14 #[.agg #[.int .i64 x.n.th, .int .i64 x.n.ix, .int .i64 x.n.inv, .int .i64 x.n.pt, .int .i64 x.n.rs, .int .i64 x.code, .string x.key, .int .u64 x.time, .slice x.bA x.b.length x.bc, .int .i64 x.hd, .int .i64 x.cu, .int .i64 x.mo, .int .i64 x.er, .int .u64 x.at_, .string x.ak, .string x.av], .agg #[.int .i64 y.n.th, .int .i64 y.n.ix, .int .i64 y.n.inv, .int .i64 y.n.pt, .int .i64 y.n.rs, .int .i64 y.code, .string y.key, .int .u64 y.time, .slice y.bA y.b.length y.bc, .int .i64 y.hd, .int .i64 y.cu, .int .i64 y.mo, .int .i64 y.er, .int .u64 y.at_, .string y.ak, .string y.av]] w fun e w' => e = .returned (.bool (prec x.n y.n)) ∧ Keeps [] w w' := by
  have kk := ((Keeps.refl [] w).alloc (.cells #[.int .i64 x.n.th, .int .i64 x.n.ix, .int .i64 x.n.inv, .int .i64 x.n.pt, .int .i64 x.n.rs, .int .i64 x.code, .string x.key, .int .u64 x.time, .slice x.bA x.b.length x.bc, .int .i64 x.hd, .int .i64 x.cu, .int .i64 x.mo, .int .i64 x.er, .int .u64 x.at_, .string x.ak, .string x.av] 36)).alloc (.cells #[.int .i64 y.n.th, .int .i64 y.n.ix, .int .i64 y.n.inv, .int .i64 y.n.pt, .int .i64 y.n.rs, .int .i64 y.code, .string y.key, .int .u64 y.time, .slice y.bA y.b.length y.bc, .int .i64 y.hd, .int .i64 y.cu, .int .i64 y.mo, .int .i64 y.er, .int .u64 y.at_, .string y.ak, .string y.av] 36)
  by_cases h : x.n.rs = -1
  · have h1 : (x.n.rs != -1) = false := by simp [h]
    have hp : prec x.n y.n = false := by simp [prec, h]
    rw [hp]
    clear h hp
    go_enter Try.func14, Try.ntmps14
    go_wp2
    go_ret
    exact ⟨rfl, kk⟩
  · have h1 : (x.n.rs != -1) = true := by simp [h]
    have hp : prec x.n y.n = decide (x.n.rs < y.n.inv) := by simp [prec, h]
    rw [hp]
    clear h hp
    go_enter Try.func14, Try.ntmps14
    go_wp2
    go_ret
    exact ⟨rfl, kk⟩
theorem rprec_any (x y : RV) (w : World) : Calls Try.prog 20 #[.agg #[.int .i64 x.n.th, .int .i64 x.n.ix, .int .i64 x.n.inv, .int .i64 x.n.pt, .int .i64 x.n.rs, .int .i64 x.code, .string x.key, .int .u64 x.time, .slice x.bA x.b.length x.bc, .int .i64 x.hd, .int .i64 x.cu, .int .i64 x.mo, .int .i64 x.er, .int .u64 x.at_, .string x.ak, .string x.av], .agg #[.int .i64 y.n.th, .int .i64 y.n.ix, .int .i64 y.n.inv, .int .i64 y.n.pt, .int .i64 y.n.rs, .int .i64 y.code, .string y.key, .int .u64 y.time, .slice y.bA y.b.length y.bc, .int .i64 y.hd, .int .i64 y.cu, .int .i64 y.mo, .int .i64 y.er, .int .u64 y.at_, .string y.ak, .string y.av]] w fun e w' => e = .returned (.bool (prec x.n y.n)) ∧ Keeps [] w w' := by
  have kk := ((Keeps.refl [] w).alloc (.cells #[.int .i64 x.n.th, .int .i64 x.n.ix, .int .i64 x.n.inv, .int .i64 x.n.pt, .int .i64 x.n.rs, .int .i64 x.code, .string x.key, .int .u64 x.time, .slice x.bA x.b.length x.bc, .int .i64 x.hd, .int .i64 x.cu, .int .i64 x.mo, .int .i64 x.er, .int .u64 x.at_, .string x.ak, .string x.av] 36)).alloc (.cells #[.int .i64 y.n.th, .int .i64 y.n.ix, .int .i64 y.n.inv, .int .i64 y.n.pt, .int .i64 y.n.rs, .int .i64 y.code, .string y.key, .int .u64 y.time, .slice y.bA y.b.length y.bc, .int .i64 y.hd, .int .i64 y.cu, .int .i64 y.mo, .int .i64 y.er, .int .u64 y.at_, .string y.ak, .string y.av] 36)
  by_cases h : x.n.rs = -1
  · have h1 : (x.n.rs != -1) = false := by simp [h]
    have hp : prec x.n y.n = false := by simp [prec, h]
    rw [hp]
    clear h hp
    go_enter Try.func20, Try.ntmps20
    go_wp2
    go_ret
    exact ⟨rfl, kk⟩
  · have h1 : (x.n.rs != -1) = true := by simp [h]
    have hp : prec x.n y.n = decide (x.n.rs < y.n.inv) := by simp [prec, h]
    rw [hp]
    clear h hp
    go_enter Try.func20, Try.ntmps20
    go_wp2
    go_ret
    exact ⟨rfl, kk⟩
theorem o1_any (x : RV) (w : World) : Calls Try.prog 24 #[.agg #[.int .i64 x.n.th, .int .i64 x.n.ix, .int .i64 x.n.inv, .int .i64 x.n.pt, .int .i64 x.n.rs, .int .i64 x.code, .string x.key, .int .u64 x.time, .slice x.bA x.b.length x.bc, .int .i64 x.hd, .int .i64 x.cu, .int .i64 x.mo, .int .i64 x.er, .int .u64 x.at_, .string x.ak, .string x.av]] w fun e w' => e = .returned (.bool (x.n.pt != -1)) ∧ Keeps [] w w' := by
  have kk := ((Keeps.refl [] w).alloc (.cells #[.int .i64 x.n.th, .int .i64 x.n.ix, .int .i64 x.n.inv, .int .i64 x.n.pt, .int .i64 x.n.rs, .int .i64 x.code, .string x.key, .int .u64 x.time, .slice x.bA x.b.length x.bc, .int .i64 x.hd, .int .i64 x.cu, .int .i64 x.mo, .int .i64 x.er, .int .u64 x.at_, .string x.ak, .string x.av] 36))
  go_enter Try.func24, Try.ntmps24
  go_wp2
  go_ret
  exact ⟨rfl, kk⟩
theorem p1_any (x : RV) (w : World) : Calls Try.prog 29 #[.agg #[.int .i64 x.n.th, .int .i64 x.n.ix, .int .i64 x.n.inv, .int .i64 x.n.pt, .int .i64 x.n.rs, .int .i64 x.code, .string x.key, .int .u64 x.time, .slice x.bA x.b.length x.bc, .int .i64 x.hd, .int .i64 x.cu, .int .i64 x.mo, .int .i64 x.er, .int .u64 x.at_, .string x.ak, .string x.av]] w fun e w' => e = .returned (.bool (x.n.rs == -1)) ∧ Keeps [] w w' := by
  have kk := ((Keeps.refl [] w).alloc (.cells #[.int .i64 x.n.th, .int .i64 x.n.ix, .int .i64 x.n.inv, .int .i64 x.n.pt, .int .i64 x.n.rs, .int .i64 x.code, .string x.key, .int .u64 x.time, .slice x.bA x.b.length x.bc, .int .i64 x.hd, .int .i64 x.cu, .int .i64 x.mo, .int .i64 x.er, .int .u64 x.at_, .string x.ak, .string x.av] 36))
  go_enter Try.func29, Try.ntmps29
  go_wp2
  go_ret
  exact ⟨rfl, kk⟩
theorem t1_any (x : RV) (w : World) (g : Nat) (t : Int) (hg : w.cell? ⟨g, 0, none⟩ = some (.int .i64 t)) (hl : g < w.heap.size) : Calls Try.prog 30 #[.agg #[.int .i64 x.n.th, .int .i64 x.n.ix, .int .i64 x.n.inv, .int .i64 x.n.pt, .int .i64 x.n.rs, .int .i64 x.code, .string x.key, .int .u64 x.time, .slice x.bA x.b.length x.bc, .int .i64 x.hd, .int .i64 x.cu, .int .i64 x.mo, .int .i64 x.er, .int .u64 x.at_, .string x.ak, .string x.av], .pointer (some ⟨g, 0, none⟩)] w fun e w' => e = .returned (.bool (x.n.th == t)) ∧ Keeps [] w w' := by
  have kk := ((Keeps.refl [] w).alloc (.cells #[.int .i64 x.n.th, .int .i64 x.n.ix, .int .i64 x.n.inv, .int .i64 x.n.pt, .int .i64 x.n.rs, .int .i64 x.code, .string x.key, .int .u64 x.time, .slice x.bA x.b.length x.bc, .int .i64 x.hd, .int .i64 x.cu, .int .i64 x.mo, .int .i64 x.er, .int .u64 x.at_, .string x.ak, .string x.av] 36))
  go_enter Try.func30, Try.ntmps30
  go_wp2
  go_ret
  exact ⟨rfl, kk⟩
theorem nan_any (x : Int) (w : World) : Calls Try.prog 33 #[.int .i64 x] w fun e w' => e = .returned (.bool false) ∧ w' = w := by
  have h : (x != x) = false := by simp
  go_enter Try.func33, Try.ntmps33
  go_wp2
  go_ret
  exact ⟨rfl, rfl⟩
def cmpI (x y : Int) : Int := if x < y then -1 else if y < x then 1 else 0
theorem cmp_any (x y : Int) (w : World) : Calls Try.prog 27 #[.int .i64 x, .int .i64 y] w fun e w' => e = .returned (.int .i64 (cmpI x y)) ∧ w' = w := by
  by_cases h : x < y
  · have hc : cmpI x y = -1 := if_pos h
    rw [hc]
    go_enter Try.func27, Try.ntmps27
    go_wp2_with fail
    refine (nan_any _ _).mono ?_
    rintro e w1 ⟨rfl, rfl⟩
    go_wp2_with fail
    refine (nan_any _ _).mono ?_
    rintro e w2 ⟨rfl, rfl⟩
    go_wp2_with fail
    go_ret
    exact ⟨rfl, rfl⟩
  · by_cases h' : y < x
    · have hc : cmpI x y = 1 := by rw [cmpI, if_neg h, if_pos h']
      rw [hc]
      go_enter Try.func27, Try.ntmps27
      go_wp2_with fail
      refine (nan_any _ _).mono ?_
      rintro e w1 ⟨rfl, rfl⟩
      go_wp2_with fail
      refine (nan_any _ _).mono ?_
      rintro e w2 ⟨rfl, rfl⟩
      go_wp2_with fail
      go_ret
      exact ⟨rfl, rfl⟩
    · have hc : cmpI x y = 0 := by rw [cmpI, if_neg h, if_neg h']
      rw [hc]
      go_enter Try.func27, Try.ntmps27
      go_wp2_with fail
      refine (nan_any _ _).mono ?_
      rintro e w1 ⟨rfl, rfl⟩
      go_wp2_with fail
      refine (nan_any _ _).mono ?_
      rintro e w2 ⟨rfl, rfl⟩
      go_wp2_with fail
      go_ret
      exact ⟨rfl, rfl⟩
theorem o2_any (x y : RV) (w : World) : Calls Try.prog 26 #[.agg #[.int .i64 x.n.th, .int .i64 x.n.ix, .int .i64 x.n.inv, .int .i64 x.n.pt, .int .i64 x.n.rs, .int .i64 x.code, .string x.key, .int .u64 x.time, .slice x.bA x.b.length x.bc, .int .i64 x.hd, .int .i64 x.cu, .int .i64 x.mo, .int .i64 x.er, .int .u64 x.at_, .string x.ak, .string x.av], .agg #[.int .i64 y.n.th, .int .i64 y.n.ix, .int .i64 y.n.inv, .int .i64 y.n.pt, .int .i64 y.n.rs, .int .i64 y.code, .string y.key, .int .u64 y.time, .slice y.bA y.b.length y.bc, .int .i64 y.hd, .int .i64 y.cu, .int .i64 y.mo, .int .i64 y.er, .int .u64 y.at_, .string y.ak, .string y.av]] w fun e w' => e = .returned (.int .i64 (cmpI x.n.pt y.n.pt)) ∧ ∃ os, w' = Go.Sort.grow w os := by
  go_enter Try.func26, Try.ntmps26
  go_wp2_with fail
  refine (cmp_any _ _ _).mono ?_
  rintro e w1 ⟨rfl, rfl⟩
  go_wp2_with fail
  go_ret
  exact ⟨rfl, _, by rw [Go.Sort.alloc_eq_grow, Go.Sort.alloc_eq_grow, Go.Sort.grow_grow]⟩
/-- What the program's sound asks of a record, as it computes it. -/
def sndB (r : Rec) : Bool := !(decide (r.th < 0) || decide (r.ix < 0) || decide (r.inv < 0) || (r.pt != -1 && decide (r.pt < r.inv))) && (r.rs == -1 || (r.pt != -1 && decide (r.pt ≤ r.rs)))
theorem snd_any (x : RV) (w : World) : Calls Try.prog 22 #[.agg #[.int .i64 x.n.th, .int .i64 x.n.ix, .int .i64 x.n.inv, .int .i64 x.n.pt, .int .i64 x.n.rs, .int .i64 x.code, .string x.key, .int .u64 x.time, .slice x.bA x.b.length x.bc, .int .i64 x.hd, .int .i64 x.cu, .int .i64 x.mo, .int .i64 x.er, .int .u64 x.at_, .string x.ak, .string x.av]] w fun e w' => e = .returned (.bool (sndB x.n)) ∧ Keeps [] w w' := by
  have kk := ((Keeps.refl [] w).alloc (.cells #[.int .i64 x.n.th, .int .i64 x.n.ix, .int .i64 x.n.inv, .int .i64 x.n.pt, .int .i64 x.n.rs, .int .i64 x.code, .string x.key, .int .u64 x.time, .slice x.bA x.b.length x.bc, .int .i64 x.hd, .int .i64 x.cu, .int .i64 x.mo, .int .i64 x.er, .int .u64 x.at_, .string x.ak, .string x.av] 36))
  obtain ⟨⟨th, ix, inv, pt, rs⟩, c1, c2, c3, c4, c5, c6, c7, c8, c9, c10, c11, c12, c13⟩ := x
  simp only at kk ⊢
  have end1 : ∀ b, sndB ⟨th, ix, inv, pt, rs⟩ = b → (∀ (e : Ending) w', (e = .returned (.bool b) ∧ Keeps [] w w') → e = .returned (.bool (sndB ⟨th, ix, inv, pt, rs⟩)) ∧ Keeps [] w w') := fun b hb e w' h => by rw [hb]; exact h
  by_cases h1 : th < 0
  · refine (Calls.mono (P := Try.prog) ?_ (end1 false (by simp [sndB, h1])))
    clear end1
    go_enter Try.func22, Try.ntmps22
    go_wp2
    go_ret
    exact ⟨rfl, kk⟩
  · have h1' : decide (th < 0) = false := decide_eq_false h1
    by_cases h2 : ix < 0
    · refine (Calls.mono (P := Try.prog) ?_ (end1 false (by simp [sndB, h2])))
      clear end1
      go_enter Try.func22, Try.ntmps22
      go_wp2
      go_ret
      exact ⟨rfl, kk⟩
    · have h2' : decide (ix < 0) = false := decide_eq_false h2
      by_cases h3 : inv < 0
      · refine (Calls.mono (P := Try.prog) ?_ (end1 false (by simp [sndB, h3])))
        clear end1
        go_enter Try.func22, Try.ntmps22
        go_wp2
        go_ret
        exact ⟨rfl, kk⟩
      · have h3' : decide (inv < 0) = false := decide_eq_false h3
        by_cases h4 : pt = -1
        · subst h4
          refine (Calls.mono (P := Try.prog) ?_ (end1 (rs == -1) (by simp [sndB, h1, h2, h3])))
          clear end1
          by_cases h5 : rs = -1
          · subst h5
            go_enter Try.func22, Try.ntmps22
            go_wp2
            go_ret
            exact ⟨rfl, kk⟩
          · have h5' : (rs == -1) = false := by simp [h5]
            rw [h5']
            go_enter Try.func22, Try.ntmps22
            go_wp2
            go_ret
            exact ⟨rfl, kk⟩
        · have h4' : (pt != -1) = true := by simp [h4]
          by_cases h5 : pt < inv
          · refine (Calls.mono (P := Try.prog) ?_ (end1 false (by simp [sndB, h4, h5])))
            clear end1
            go_enter Try.func22, Try.ntmps22
            go_wp2
            go_ret
            exact ⟨rfl, kk⟩
          · have h5' : decide (pt < inv) = false := decide_eq_false h5
            by_cases h6 : rs = -1
            · subst h6
              refine (Calls.mono (P := Try.prog) ?_ (end1 true (by simp [sndB, h1, h2, h3, h4, h5])))
              clear end1
              go_enter Try.func22, Try.ntmps22
              go_wp2
              go_ret
              exact ⟨rfl, kk⟩
            · have h6' : (rs == -1) = false := by simp [h6]
              refine (Calls.mono (P := Try.prog) ?_ (end1 (decide (pt ≤ rs)) (by simp [sndB, h1, h2, h3, h5, h6', h4'])))
              clear end1
              go_enter Try.func22, Try.ntmps22
              go_wp2
              go_ret
              exact ⟨rfl, kk⟩
end Go.Proofs.Ytjlgodaiciopaaa
