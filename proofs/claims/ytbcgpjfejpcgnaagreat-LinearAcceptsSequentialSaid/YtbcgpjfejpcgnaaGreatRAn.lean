/- Lemmas on the way to LinearAcceptsSequential. No condition. -/
import Derived.Test.YtbcgpjfejpcgnaaGreatRAl
import Derived.Test.YtbcgpjfejpcgnaaGreatRAm
import Derived.Deep.RegionHeld3
import Derived.Deep.CutRange
set_option linter.unusedSimpArgs false
set_option linter.unusedVariables false
set_option linter.unusedSectionVars false
section
namespace Go.Proofs.YtbcgpjfejpcgnaaGreat
open Go.RowKit
set_option maxRecDepth 100000
set_option linter.unusedSimpArgs false
set_option linter.unusedVariables false
variable {w w' : World} {base ww : Nat} {bv sv cv : Value} {vs : List Value} {s : WS}
theorem Blk.o16 {w : World} {b : Nat} {x0 x1 x2 x3 x4 x5 x6 x7 x8 x9 x10 x11 x12 x13 x14 x15 : Value} (h : Blk w b [x0, x1, x2, x3, x4, x5, x6, x7, x8, x9, x10, x11, x12, x13, x14, x15]) : w.cell? ⟨b, 0, none⟩ = some x0 ∧ w.cell? ⟨b, 1, none⟩ = some x1 ∧ w.cell? ⟨b, 2, none⟩ = some x2 ∧ w.cell? ⟨b, 3, none⟩ = some x3 ∧ w.cell? ⟨b, 4, none⟩ = some x4 ∧ w.cell? ⟨b, 5, none⟩ = some x5 ∧ w.cell? ⟨b, 6, none⟩ = some x6 ∧ w.cell? ⟨b, 7, none⟩ = some x7 ∧ w.cell? ⟨b, 8, none⟩ = some x8 ∧ w.cell? ⟨b, 9, none⟩ = some x9 ∧ w.cell? ⟨b, 10, none⟩ = some x10 ∧ w.cell? ⟨b, 11, none⟩ = some x11 ∧ w.cell? ⟨b, 12, none⟩ = some x12 ∧ w.cell? ⟨b, 13, none⟩ = some x13 ∧ w.cell? ⟨b, 14, none⟩ = some x14 ∧ w.cell? ⟨b, 15, none⟩ = some x15 ∧ (∀ j, w.frozen? ⟨b, j, none⟩ = false) ∧ b < w.heap.size :=
  ⟨h.cell 0, h.cell 1, h.cell 2, h.cell 3, h.cell 4, h.cell 5, h.cell 6, h.cell 7, h.cell 8, h.cell 9, h.cell 10, h.cell 11, h.cell 12, h.cell 13, h.cell 14, h.cell 15, h.frozen, h.lt⟩
theorem xlocal_any (h : WX w base ww bv sv cv vs s) {n : Nat} (hi : Inv n s) (hn : n ≤ 100) (x : RX) (hx : OkX x) (hcd : 5 ≤ x.code ∧ x.code ≤ 8) :
    Calls Tryz.prog 27 #[.pointer (some ⟨ww, 0, none⟩), .agg #[.int .i64 (x.t : Int), .int .i64 x.ix, .int .i64 x.inv, .int .i64 x.pt, .int .i64 x.rs, .int .i64 (x.code : Int), .string ⟨x.key.toArray⟩, .int .u64 (x.time : Int), .slice x.bA x.b.length x.bc, .int .i64 (x.hd : Int), .int .i64 (x.cu : Int), .int .i64 (x.mo : Int), .int .i64 x.er, .int .u64 (x.at_ : Int), .string ⟨x.ak.toArray⟩, .string ⟨x.av.toArray⟩]] w (LocP w base ww bv sv cv vs (perfW s x)) := by
  have h5 := xl5_any h hi hn x hx
  have h6 := xl6_any h hi hn x hx
  have h7 := xl7_any h hi hn x hx
  have h8 := xl8_any h hi hn x hx
  have hc : x.code = 5 ∨ x.code = 6 ∨ x.code = 7 ∨ x.code = 8 := by omega
  unfold perfW
  rcases hc with e | e | e | e
  · have := h5 e
    simpa [e] using this
  · have := h6 e
    simpa [e] using this
  · have := h7 e
    simpa [e] using this
  · have := h8 e
    simpa [e] using this
set_option maxHeartbeats 4000000 in
theorem xp1_any (h : WX w base ww bv sv cv vs s) {n : Nat} (hi : Inv n s) (hn : n ≤ 99) (x : RX) (hx : OkX x) (hok : OkX' w x) (ht : x.time ≤ 18446744073709551615) (hb : x.b.length ≤ 1000) (hcd : x.code = 1) :
    Calls Tryz.prog 16 #[.pointer (some ⟨ww, 0, none⟩), .agg #[.int .i64 (x.t : Int), .int .i64 x.ix, .int .i64 x.inv, .int .i64 x.pt, .int .i64 x.rs, .int .i64 (x.code : Int), .string ⟨x.key.toArray⟩, .int .u64 (x.time : Int), .slice x.bA x.b.length x.bc, .int .i64 (x.hd : Int), .int .i64 (x.cu : Int), .int .i64 (x.mo : Int), .int .i64 x.er, .int .u64 (x.at_ : Int), .string ⟨x.ak.toArray⟩, .string ⟨x.av.toArray⟩]] w (ResP w base ww bv sv cv vs ((getW s x, true, s))) := by
  have K := (((Keeps.refl [] w).alloc (.cells #[.int .i64 (x.t : Int), .int .i64 x.ix, .int .i64 x.inv, .int .i64 x.pt, .int .i64 x.rs, .int .i64 (x.code : Int), .string ⟨x.key.toArray⟩, .int .u64 (x.time : Int), .slice x.bA x.b.length x.bc, .int .i64 (x.hd : Int), .int .i64 (x.cu : Int), .int .i64 (x.mo : Int), .int .i64 x.er, .int .u64 (x.at_ : Int), .string ⟨x.ak.toArray⟩, .string ⟨x.av.toArray⟩] 34)).alloc (.cells #[.int .i64 0, .int .u64 0, .string ⟨#[]⟩, .string ⟨#[]⟩] 32)).alloc (.cells #[.int .i64 (x.code : Int), .string ⟨x.key.toArray⟩, .int .u64 (x.time : Int), .slice x.bA x.b.length x.bc, .int .i64 (x.hd : Int), .int .i64 (x.cu : Int), .int .i64 (x.mo : Int)] 29)
  have bR := ((Blk.new w [.int .i64 (x.t : Int), .int .i64 x.ix, .int .i64 x.inv, .int .i64 x.pt, .int .i64 x.rs, .int .i64 (x.code : Int), .string ⟨x.key.toArray⟩, .int .u64 (x.time : Int), .slice x.bA x.b.length x.bc, .int .i64 (x.hd : Int), .int .i64 (x.cu : Int), .int .i64 (x.mo : Int), .int .i64 x.er, .int .u64 (x.at_ : Int), .string ⟨x.ak.toArray⟩, .string ⟨x.av.toArray⟩] 34).alloc (.cells #[.int .i64 0, .int .u64 0, .string ⟨#[]⟩, .string ⟨#[]⟩] 32)).alloc (.cells #[.int .i64 (x.code : Int), .string ⟨x.key.toArray⟩, .int .u64 (x.time : Int), .slice x.bA x.b.length x.bc, .int .i64 (x.hd : Int), .int .i64 (x.cu : Int), .int .i64 (x.mo : Int)] 29)
  have bA := (Blk.new_at (w.alloc (.cells #[.int .i64 (x.t : Int), .int .i64 x.ix, .int .i64 x.inv, .int .i64 x.pt, .int .i64 x.rs, .int .i64 (x.code : Int), .string ⟨x.key.toArray⟩, .int .u64 (x.time : Int), .slice x.bA x.b.length x.bc, .int .i64 (x.hd : Int), .int .i64 (x.cu : Int), .int .i64 (x.mo : Int), .int .i64 x.er, .int .u64 (x.at_ : Int), .string ⟨x.ak.toArray⟩, .string ⟨x.av.toArray⟩] 34)) (w.heap.size + 1) [.int .i64 0, .int .u64 0, .string ⟨#[]⟩, .string ⟨#[]⟩] 32 (by simp)).alloc (.cells #[.int .i64 (x.code : Int), .string ⟨x.key.toArray⟩, .int .u64 (x.time : Int), .slice x.bA x.b.length x.bc, .int .i64 (x.hd : Int), .int .i64 (x.cu : Int), .int .i64 (x.mo : Int)] 29)
  have bO := Blk.new_at ((w.alloc (.cells #[.int .i64 (x.t : Int), .int .i64 x.ix, .int .i64 x.inv, .int .i64 x.pt, .int .i64 x.rs, .int .i64 (x.code : Int), .string ⟨x.key.toArray⟩, .int .u64 (x.time : Int), .slice x.bA x.b.length x.bc, .int .i64 (x.hd : Int), .int .i64 (x.cu : Int), .int .i64 (x.mo : Int), .int .i64 x.er, .int .u64 (x.at_ : Int), .string ⟨x.ak.toArray⟩, .string ⟨x.av.toArray⟩] 34)).alloc (.cells #[.int .i64 0, .int .u64 0, .string ⟨#[]⟩, .string ⟨#[]⟩] 32)) (w.heap.size + 1 + 1) [.int .i64 (x.code : Int), .string ⟨x.key.toArray⟩, .int .u64 (x.time : Int), .slice x.bA x.b.length x.bc, .int .i64 (x.hd : Int), .int .i64 (x.cu : Int), .int .i64 (x.mo : Int)] 29 (by simp)
  obtain ⟨W, hW⟩ : ∃ W, W = ((w.alloc (.cells #[.int .i64 (x.t : Int), .int .i64 x.ix, .int .i64 x.inv, .int .i64 x.pt, .int .i64 x.rs, .int .i64 (x.code : Int), .string ⟨x.key.toArray⟩, .int .u64 (x.time : Int), .slice x.bA x.b.length x.bc, .int .i64 (x.hd : Int), .int .i64 (x.cu : Int), .int .i64 (x.mo : Int), .int .i64 x.er, .int .u64 (x.at_ : Int), .string ⟨x.ak.toArray⟩, .string ⟨x.av.toArray⟩] 34)).alloc (.cells #[.int .i64 0, .int .u64 0, .string ⟨#[]⟩, .string ⟨#[]⟩] 32)).alloc (.cells #[.int .i64 (x.code : Int), .string ⟨x.key.toArray⟩, .int .u64 (x.time : Int), .slice x.bA x.b.length x.bc, .int .i64 (x.hd : Int), .int .i64 (x.cu : Int), .int .i64 (x.mo : Int)] 29) := ⟨_, rfl⟩
  rw [← hW] at K bR bA bO
  have hWX := h.keeps K
  have hBs := hi.nB
  have hSs := hi.nS
  have e1 : ((x.code : Int) == 1) = true := by rw [beq_iff_eq]; have := hcd; omega
  have e2 : ((x.code : Int) == 2) = false := by rw [beq_eq_false_iff_ne]; have := hcd; omega
  have e3 : ((x.code : Int) == 3) = false := by rw [beq_eq_false_iff_ne]; have := hcd; omega
  have e9 : ((x.code : Int) == 9) = false := by rw [beq_eq_false_iff_ne]; have := hcd; omega
  have e4 : ((x.code : Int) == 4) = false := by rw [beq_eq_false_iff_ne]; have := hcd; omega
  have HW := Lib.hid hW
  have Hcode := Lib.hid hcd
  obtain ⟨R, hR⟩ : ∃ R, (getW s x, true, s) = R := ⟨_, rfl⟩
  have HR := Lib.hid hR
  have H := Lib.hid h
  have no : ¬ OwnW ww bv sv cv vs (w.heap.size + 1) := fun e => by have := (h.oge e).2; omega
  have HB := Lib.hid (And.intro bR (And.intro bA (And.intro bO (And.intro K (And.intro hWX no)))))
  rw [hR]
  clear h hR hcd hW bR bA bO K hWX no
  go_enter Tryz.func16, Tryz.ntmps16
  go_wp2_with fail
  rw [← HW.out]
  refine (validK_any _ _).mono ?_
  rintro e w4 ⟨rfl, hw4⟩
  have hw4' := hw4.symm
  subst hw4'
  clear hw4
  obtain ⟨bR, bA, bO, K, hWX, no⟩ := HB.out
  by_cases hk : 32 < x.key.length
  · have hRv : R = (errA 8, true, s) := by rw [← HR.out]; unfold getW; rw [if_pos hk]
    have HRv := Lib.hid hRv
    have hk' : decide (x.key.length ≤ 32) = false := decide_eq_false (by omega)
    obtain ⟨bS, kS⟩ := bA.set4 (.int .i64 8) (.int .u64 0) (.string ⟨#[]⟩) (.string ⟨#[]⟩)
    obtain ⟨o0, o1, o2, o3, o4, o5⟩ := bA.o4
    have HX := Lib.hid (And.intro (hWX.beside kS no) ((Ef.refl (O := OwnW ww bv sv cv vs) K).fresh kS (by omega)))
    have HbS := Lib.hid bS
    clear bS kS

    clear bR bA bO K hWX no HB HR hRv hk
    go_wp2_with fail
    refine bodyPost_ret (results_ct rfl _ _ (w.heap.size + 1) [.int .i64 8, .int .u64 0, .string ⟨#[]⟩, .string ⟨#[]⟩] _ rfl HbS.out Tryz.underlying32 sizAn) rfl ?_
    obtain rfl := HRv.out
    exact ⟨rfl, _, _, _, _, HX.out.1, HX.out.2⟩
  · have hk' : decide (x.key.length ≤ 32) = true := decide_eq_true (by omega)
    have hent := fun u (k : Keeps [] W u) => xentry_any (hWX.keeps k) (by omega) hi.b16 x.key s.Bs.length (by omega)
    have htm := fun u (k : Keeps [] W u) => xtime_any (hWX.keeps k) (by omega)
    obtain ⟨a, ha⟩ : ∃ a, entW s.Bs x.key s.Bs.length = a := ⟨_, rfl⟩
    rw [ha] at hent
    have hRv : R = (a, true, s) := by rw [← HR.out, ← ha]; unfold getW; rw [if_neg hk, if_pos Hcode.out]
    have HRv := Lib.hid hRv
    obtain ⟨N, hN⟩ : ∃ N, s.Bs.length = N := ⟨_, rfl⟩
    rw [hN] at hent htm
    have p0 : W.cell? ⟨w.heap.size + 1 + 1, 0, none⟩ = some (.int .i64 (x.code : Int)) := bO.cell 0
    have p1 : W.cell? ⟨w.heap.size + 1 + 1, 1, none⟩ = some (.string ⟨x.key.toArray⟩) := bO.cell 1
    have pl := bO.lt
    have hS : ∀ w' : World, Keeps [w.heap.size + 1] W w' → w'.cell? ⟨w.heap.size + 1 + 1, 1, none⟩ = some (.string ⟨x.key.toArray⟩) := fun w' k => k.cellEq p1 (by simp)
    have HZ := Lib.hid (And.intro bA (And.intro K (And.intro hWX no)))
    clear bR bA bO K hWX no HB HR hRv hk ha hN hBs
    go_wp2_with fail
    go_region_held3 (fun w' => w'.cell? ⟨w.heap.size + 1 + 1, 1, none⟩ = some (.string ⟨x.key.toArray⟩))
      (first
        | (with_reducible exact hS _ ((Keeps.refl [w.heap.size + 1] W).drew))
        | (with_reducible exact hS _ k6m)
        | (with_reducible exact hS _ (((((k6m.setCell ⟨w.heap.size + 1, 0, none⟩ (.int .i64 a.er) (.inl (by simp))).setCell ⟨w.heap.size + 1, 1, none⟩ (.int .u64 (a.tm : Int)) (.inl (by simp))).setCell ⟨w.heap.size + 1, 2, none⟩ (.string ⟨a.k.toArray⟩) (.inl (by simp))).setCell ⟨w.heap.size + 1, 3, none⟩ (.string ⟨a.v.toArray⟩) (.inl (by simp)))))
        | fail)
      ((first
        | (go_at_call 22; refine (htm _ (Keeps.refl [] W).drew).mono ?_; rintro e w5 ⟨rfl, rfl⟩)
        | (go_at_call 21; refine (hent _ (Keeps.refl [] W).drew).mono ?_; rintro e w6 ⟨rfl, k6r⟩; have k6 : Keeps [] W w6 := k6r.undrew; have k6m : Keeps [w.heap.size + 1] W w6 := k6.mono (by simp); have bA6 := k6.blk HZ.out.1 (by simp); have hS6 := bA6.set4 (.int .i64 a.er) (.int .u64 (a.tm : Int)) (.string ⟨a.k.toArray⟩) (.string ⟨a.v.toArray⟩); have o6 := bA6.o4)
        | fail))
    all_goals
      have HbS := Lib.hid hS6.1
      have HX := Lib.hid (And.intro ((HZ.out.2.2.1.keeps k6).beside hS6.2 HZ.out.2.2.2) ((Ef.refl (O := OwnW ww bv sv cv vs) (HZ.out.2.1.trans k6 (by simp))).fresh hS6.2 (by omega)))
      clear hS6 k6 k6m k6r bA6 o6
      go_wp2_with fail
      refine bodyPost_ret (results_ct rfl _ _ (w.heap.size + 1) [.int .i64 a.er, .int .u64 (a.tm : Int), .string ⟨a.k.toArray⟩, .string ⟨a.v.toArray⟩] _ rfl HbS.out Tryz.underlying32 sizAn) rfl ?_
      obtain rfl := HRv.out
      exact ⟨rfl, _, _, _, _, HX.out.1, HX.out.2⟩
set_option maxHeartbeats 4000000 in
theorem xp2_any (h : WX w base ww bv sv cv vs s) {n : Nat} (hi : Inv n s) (hn : n ≤ 99) (x : RX) (hx : OkX x) (hok : OkX' w x) (ht : x.time ≤ 18446744073709551615) (hb : x.b.length ≤ 1000) (hcd : x.code = 2) :
    Calls Tryz.prog 16 #[.pointer (some ⟨ww, 0, none⟩), .agg #[.int .i64 (x.t : Int), .int .i64 x.ix, .int .i64 x.inv, .int .i64 x.pt, .int .i64 x.rs, .int .i64 (x.code : Int), .string ⟨x.key.toArray⟩, .int .u64 (x.time : Int), .slice x.bA x.b.length x.bc, .int .i64 (x.hd : Int), .int .i64 (x.cu : Int), .int .i64 (x.mo : Int), .int .i64 x.er, .int .u64 (x.at_ : Int), .string ⟨x.ak.toArray⟩, .string ⟨x.av.toArray⟩]] w (ResP w base ww bv sv cv vs ((getW s x, true, s))) := by
  have K := (((Keeps.refl [] w).alloc (.cells #[.int .i64 (x.t : Int), .int .i64 x.ix, .int .i64 x.inv, .int .i64 x.pt, .int .i64 x.rs, .int .i64 (x.code : Int), .string ⟨x.key.toArray⟩, .int .u64 (x.time : Int), .slice x.bA x.b.length x.bc, .int .i64 (x.hd : Int), .int .i64 (x.cu : Int), .int .i64 (x.mo : Int), .int .i64 x.er, .int .u64 (x.at_ : Int), .string ⟨x.ak.toArray⟩, .string ⟨x.av.toArray⟩] 34)).alloc (.cells #[.int .i64 0, .int .u64 0, .string ⟨#[]⟩, .string ⟨#[]⟩] 32)).alloc (.cells #[.int .i64 (x.code : Int), .string ⟨x.key.toArray⟩, .int .u64 (x.time : Int), .slice x.bA x.b.length x.bc, .int .i64 (x.hd : Int), .int .i64 (x.cu : Int), .int .i64 (x.mo : Int)] 29)
  have bR := ((Blk.new w [.int .i64 (x.t : Int), .int .i64 x.ix, .int .i64 x.inv, .int .i64 x.pt, .int .i64 x.rs, .int .i64 (x.code : Int), .string ⟨x.key.toArray⟩, .int .u64 (x.time : Int), .slice x.bA x.b.length x.bc, .int .i64 (x.hd : Int), .int .i64 (x.cu : Int), .int .i64 (x.mo : Int), .int .i64 x.er, .int .u64 (x.at_ : Int), .string ⟨x.ak.toArray⟩, .string ⟨x.av.toArray⟩] 34).alloc (.cells #[.int .i64 0, .int .u64 0, .string ⟨#[]⟩, .string ⟨#[]⟩] 32)).alloc (.cells #[.int .i64 (x.code : Int), .string ⟨x.key.toArray⟩, .int .u64 (x.time : Int), .slice x.bA x.b.length x.bc, .int .i64 (x.hd : Int), .int .i64 (x.cu : Int), .int .i64 (x.mo : Int)] 29)
  have bA := (Blk.new_at (w.alloc (.cells #[.int .i64 (x.t : Int), .int .i64 x.ix, .int .i64 x.inv, .int .i64 x.pt, .int .i64 x.rs, .int .i64 (x.code : Int), .string ⟨x.key.toArray⟩, .int .u64 (x.time : Int), .slice x.bA x.b.length x.bc, .int .i64 (x.hd : Int), .int .i64 (x.cu : Int), .int .i64 (x.mo : Int), .int .i64 x.er, .int .u64 (x.at_ : Int), .string ⟨x.ak.toArray⟩, .string ⟨x.av.toArray⟩] 34)) (w.heap.size + 1) [.int .i64 0, .int .u64 0, .string ⟨#[]⟩, .string ⟨#[]⟩] 32 (by simp)).alloc (.cells #[.int .i64 (x.code : Int), .string ⟨x.key.toArray⟩, .int .u64 (x.time : Int), .slice x.bA x.b.length x.bc, .int .i64 (x.hd : Int), .int .i64 (x.cu : Int), .int .i64 (x.mo : Int)] 29)
  have bO := Blk.new_at ((w.alloc (.cells #[.int .i64 (x.t : Int), .int .i64 x.ix, .int .i64 x.inv, .int .i64 x.pt, .int .i64 x.rs, .int .i64 (x.code : Int), .string ⟨x.key.toArray⟩, .int .u64 (x.time : Int), .slice x.bA x.b.length x.bc, .int .i64 (x.hd : Int), .int .i64 (x.cu : Int), .int .i64 (x.mo : Int), .int .i64 x.er, .int .u64 (x.at_ : Int), .string ⟨x.ak.toArray⟩, .string ⟨x.av.toArray⟩] 34)).alloc (.cells #[.int .i64 0, .int .u64 0, .string ⟨#[]⟩, .string ⟨#[]⟩] 32)) (w.heap.size + 1 + 1) [.int .i64 (x.code : Int), .string ⟨x.key.toArray⟩, .int .u64 (x.time : Int), .slice x.bA x.b.length x.bc, .int .i64 (x.hd : Int), .int .i64 (x.cu : Int), .int .i64 (x.mo : Int)] 29 (by simp)
  obtain ⟨W, hW⟩ : ∃ W, W = ((w.alloc (.cells #[.int .i64 (x.t : Int), .int .i64 x.ix, .int .i64 x.inv, .int .i64 x.pt, .int .i64 x.rs, .int .i64 (x.code : Int), .string ⟨x.key.toArray⟩, .int .u64 (x.time : Int), .slice x.bA x.b.length x.bc, .int .i64 (x.hd : Int), .int .i64 (x.cu : Int), .int .i64 (x.mo : Int), .int .i64 x.er, .int .u64 (x.at_ : Int), .string ⟨x.ak.toArray⟩, .string ⟨x.av.toArray⟩] 34)).alloc (.cells #[.int .i64 0, .int .u64 0, .string ⟨#[]⟩, .string ⟨#[]⟩] 32)).alloc (.cells #[.int .i64 (x.code : Int), .string ⟨x.key.toArray⟩, .int .u64 (x.time : Int), .slice x.bA x.b.length x.bc, .int .i64 (x.hd : Int), .int .i64 (x.cu : Int), .int .i64 (x.mo : Int)] 29) := ⟨_, rfl⟩
  rw [← hW] at K bR bA bO
  have hWX := h.keeps K
  have hBs := hi.nB
  have hSs := hi.nS
  have e1 : ((x.code : Int) == 1) = false := by rw [beq_eq_false_iff_ne]; have := hcd; omega
  have e2 : ((x.code : Int) == 2) = true := by rw [beq_iff_eq]; have := hcd; omega
  have e3 : ((x.code : Int) == 3) = false := by rw [beq_eq_false_iff_ne]; have := hcd; omega
  have e9 : ((x.code : Int) == 9) = false := by rw [beq_eq_false_iff_ne]; have := hcd; omega
  have e4 : ((x.code : Int) == 4) = false := by rw [beq_eq_false_iff_ne]; have := hcd; omega
  have HW := Lib.hid hW
  have Hcode := Lib.hid hcd
  obtain ⟨R, hR⟩ : ∃ R, (getW s x, true, s) = R := ⟨_, rfl⟩
  have HR := Lib.hid hR
  have H := Lib.hid h
  have no : ¬ OwnW ww bv sv cv vs (w.heap.size + 1) := fun e => by have := (h.oge e).2; omega
  have HB := Lib.hid (And.intro bR (And.intro bA (And.intro bO (And.intro K (And.intro hWX no)))))
  rw [hR]
  clear h hR hcd hW bR bA bO K hWX no
  go_enter Tryz.func16, Tryz.ntmps16
  go_wp2_with fail
  rw [← HW.out]
  refine (validK_any _ _).mono ?_
  rintro e w4 ⟨rfl, hw4⟩
  have hw4' := hw4.symm
  subst hw4'
  clear hw4
  obtain ⟨bR, bA, bO, K, hWX, no⟩ := HB.out
  by_cases hk : 32 < x.key.length
  · have hRv : R = (errA 8, true, s) := by rw [← HR.out]; unfold getW; rw [if_pos hk]
    have HRv := Lib.hid hRv
    have hk' : decide (x.key.length ≤ 32) = false := decide_eq_false (by omega)
    obtain ⟨bS, kS⟩ := bA.set4 (.int .i64 8) (.int .u64 0) (.string ⟨#[]⟩) (.string ⟨#[]⟩)
    obtain ⟨o0, o1, o2, o3, o4, o5⟩ := bA.o4
    have HX := Lib.hid (And.intro (hWX.beside kS no) ((Ef.refl (O := OwnW ww bv sv cv vs) K).fresh kS (by omega)))
    have HbS := Lib.hid bS
    clear bS kS

    clear bR bA bO K hWX no HB HR hRv hk
    go_wp2_with fail
    refine bodyPost_ret (results_ct rfl _ _ (w.heap.size + 1) [.int .i64 8, .int .u64 0, .string ⟨#[]⟩, .string ⟨#[]⟩] _ rfl HbS.out Tryz.underlying32 sizAn) rfl ?_
    obtain rfl := HRv.out
    exact ⟨rfl, _, _, _, _, HX.out.1, HX.out.2⟩
  · have hk' : decide (x.key.length ≤ 32) = true := decide_eq_true (by omega)
    have hent := fun u (k : Keeps [] W u) => xentry_any (hWX.keeps k) (by omega) hi.b16 x.key x.time ht
    have htm := fun u (k : Keeps [] W u) => xtime_any (hWX.keeps k) (by omega)
    have hg : getW s x = if s.Bs.length < x.time then errA 4 else if x.time < s.F then errA 5 else entW s.Bs x.key x.time := by
      unfold getW
      rw [if_neg hk, if_neg (by have := Hcode.out; omega)]
    rw [hg] at HR
    obtain ⟨N, hN⟩ : ∃ N, s.Bs.length = N := ⟨_, rfl⟩
    rw [hN] at htm HR
    have p0 : W.cell? ⟨w.heap.size + 1 + 1, 0, none⟩ = some (.int .i64 (x.code : Int)) := bO.cell 0
    have p1 : W.cell? ⟨w.heap.size + 1 + 1, 1, none⟩ = some (.string ⟨x.key.toArray⟩) := bO.cell 1
    have p2 : W.cell? ⟨w.heap.size + 1 + 1, 2, none⟩ = some (.int .u64 (x.time : Int)) := bO.cell 2
    have pl := bO.lt
    have hd1 := htm _ (Keeps.refl [] W).drew
    have HZ := Lib.hid (And.intro bA (And.intro bO (And.intro K (And.intro hWX no))))
    clear bR bA bO K hWX no HB hk hN hBs hg
    have hS : ∀ w' : World, Keeps [] W w' → w'.cell? ⟨w.heap.size + 1 + 1, 2, none⟩ = some (.int .u64 (x.time : Int)) := fun w' k => k.cellEq p2 (by simp)
    go_wp2_with fail
    go_cut [29] from 29 to 35 (fun s29 wx => s29 = .bool (decide (N < x.time)) ∧ Keeps [] W wx)
    case first =>
      go_region_held3 (fun w' => w'.cell? ⟨w.heap.size + 1 + 1, 2, none⟩ = some (.int .u64 (x.time : Int)))
        (first
          | (with_reducible exact hS _ ((Keeps.refl [] W).drew))
          | fail)
        ((first
          | (go_at_call 22; refine hd1.mono ?_; rintro e w5 ⟨rfl, rfl⟩)
          | fail))
      all_goals
        go_wp2_with fail
        go_meet
        exact ⟨rfl, (Keeps.refl [] W).drew⟩
    case rest =>
      obtain ⟨rfl, kc⟩ := hcut
      obtain ⟨bA, bO, K, hWX, no⟩ := HZ.out
      have bA' := kc.blk bA (by simp)
      have bO' := kc.blk bO (by simp)
      have K' := K.trans kc (by simp)
      have hWX' := hWX.keeps kc
      by_cases h1 : N < x.time
      · have hRv : R = (errA 4, true, s) := by rw [← HR.out, if_pos h1]
        have HRv := Lib.hid hRv
        have hd : decide (N < x.time) = true := decide_eq_true h1
        obtain ⟨bS, kS⟩ := bA'.set4 (.int .i64 4) (.int .u64 0) (.string ⟨#[]⟩) (.string ⟨#[]⟩)
        obtain ⟨o0, o1, o2, o3, o4, o5⟩ := bA'.o4
        have HX := Lib.hid (And.intro (hWX'.beside kS no) ((Ef.refl (O := OwnW ww bv sv cv vs) K').fresh kS (by omega)))
        have HbS := Lib.hid bS
        clear bS kS

        clear bA bO K hWX no bA' bO' K' hWX' HZ HR hRv h1 kc hent htm hd1 hS p0 p1 p2
        rw [hd]
        go_wp2_with fail
        refine bodyPost_ret (results_ct rfl _ _ (w.heap.size + 1) [.int .i64 4, .int .u64 0, .string ⟨#[]⟩, .string ⟨#[]⟩] _ rfl HbS.out Tryz.underlying32 sizAn) rfl ?_
        obtain rfl := HRv.out
        exact ⟨rfl, _, _, _, _, HX.out.1, HX.out.2⟩
      · have hd : decide (N < x.time) = false := decide_eq_false h1
        have q1 : wc.cell? ⟨w.heap.size + 1 + 1, 1, none⟩ = some (.string ⟨x.key.toArray⟩) := bO'.cell 1
        have q2 : wc.cell? ⟨w.heap.size + 1 + 1, 2, none⟩ = some (.int .u64 (x.time : Int)) := bO'.cell 2
        have ql := bO'.lt
        obtain ⟨y0, y1, y2, y3, y4, y5⟩ := hWX'.hw.o4
        by_cases h2 : x.time < s.F
        · have hRv : R = (errA 5, true, s) := by rw [← HR.out, if_neg h1, if_pos h2]
          have HRv := Lib.hid hRv
          have hd2 : decide ((x.time : Int) < (s.F : Int)) = true := decide_eq_true (by omega)
          obtain ⟨bS, kS⟩ := bA'.set4 (.int .i64 5) (.int .u64 0) (.string ⟨#[]⟩) (.string ⟨#[]⟩)
          obtain ⟨o0, o1, o2, o3, o4, o5⟩ := bA'.o4
          have HX := Lib.hid (And.intro (hWX'.beside kS no) ((Ef.refl (O := OwnW ww bv sv cv vs) K').fresh kS (by omega)))
          have HbS := Lib.hid bS
          clear bS kS

          have h2' : (x.time : Int) < (s.F : Int) := by omega
          clear bA bO K hWX no bA' bO' K' hWX' HZ HR hRv h1 kc hent htm hd1 hS p0 p1 p2
          rw [hd]
          go_wp2_with fail
          go_region
          all_goals
            go_wp2_with fail
            refine bodyPost_ret (results_ct rfl _ _ (w.heap.size + 1) [.int .i64 5, .int .u64 0, .string ⟨#[]⟩, .string ⟨#[]⟩] _ rfl HbS.out.drew Tryz.underlying32 sizAn) rfl ?_
            obtain rfl := HRv.out
            exact ⟨rfl, _, _, _, _, HX.out.1.keeps ((Keeps.refl [] _).drew), HX.out.2.after ((Keeps.refl [] _).drew)⟩
        · have h2' : ¬ (x.time : Int) < (s.F : Int) := by omega
          obtain ⟨a, ha⟩ : ∃ a, entW s.Bs x.key x.time = a := ⟨_, rfl⟩
          rw [ha] at hent
          have hRv : R = (a, true, s) := by rw [← HR.out, if_neg h1, if_neg h2, ha]
          have HRv := Lib.hid hRv
          have hen2 := fun u (k : Keeps [] wc u) => hent u (kc.trans k (by simp))
          have HZ2 := Lib.hid (And.intro bA' (And.intro K' (And.intro hWX' no)))
          clear bA bO K hWX no bA' bO' K' hWX' HZ HR hRv h1 ha kc hent htm hd1 hS p0 p1 p2
          rw [hd]
          go_wp2_with fail
          go_region
          all_goals
            go_wp2_with fail
            refine (hen2 _ (by first | exact (Keeps.refl [] wc).drew | exact Keeps.refl [] wc)).mono ?_
            rintro e w6 ⟨rfl, k6r⟩
            have k6 : Keeps [] wc w6 := by first | exact k6r.undrew | exact k6r
            obtain ⟨bA, K, hWX, no⟩ := HZ2.out
            have bA6 := k6.blk bA (by simp)
            have hX6 := hWX.keeps k6
            have K6 := K.trans k6 (by simp)
            obtain ⟨bS, kS⟩ := bA6.set4 (.int .i64 a.er) (.int .u64 (a.tm : Int)) (.string ⟨a.k.toArray⟩) (.string ⟨a.v.toArray⟩)
            obtain ⟨o0, o1, o2, o3, o4, o5⟩ := bA6.o4
            have HX := Lib.hid (And.intro (hX6.beside kS no) ((Ef.refl (O := OwnW ww bv sv cv vs) K6).fresh kS (by omega)))
            have HbS := Lib.hid bS
            clear bS kS

            clear bA K hWX no bA6 hX6 K6 k6 k6r hen2 HZ2
            go_wp2_with fail
            refine bodyPost_ret (results_ct rfl _ _ (w.heap.size + 1) [.int .i64 a.er, .int .u64 (a.tm : Int), .string ⟨a.k.toArray⟩, .string ⟨a.v.toArray⟩] _ rfl HbS.out Tryz.underlying32 sizAn) rfl ?_
            obtain rfl := HRv.out
            exact ⟨rfl, _, _, _, _, HX.out.1, HX.out.2⟩
set_option maxHeartbeats 4000000 in
theorem xp3_any (h : WX w base ww bv sv cv vs s) {n : Nat} (hi : Inv n s) (hn : n ≤ 99) (x : RX) (hx : OkX x) (hok : OkX' w x) (ht : x.time ≤ 18446744073709551615) (hb : x.b.length ≤ 1000) (hcd : x.code = 3) :
    Calls Tryz.prog 16 #[.pointer (some ⟨ww, 0, none⟩), .agg #[.int .i64 (x.t : Int), .int .i64 x.ix, .int .i64 x.inv, .int .i64 x.pt, .int .i64 x.rs, .int .i64 (x.code : Int), .string ⟨x.key.toArray⟩, .int .u64 (x.time : Int), .slice x.bA x.b.length x.bc, .int .i64 (x.hd : Int), .int .i64 (x.cu : Int), .int .i64 (x.mo : Int), .int .i64 x.er, .int .u64 (x.at_ : Int), .string ⟨x.ak.toArray⟩, .string ⟨x.av.toArray⟩]] w (ResP w base ww bv sv cv vs (appW s x)) := by
  have K := (((Keeps.refl [] w).alloc (.cells #[.int .i64 (x.t : Int), .int .i64 x.ix, .int .i64 x.inv, .int .i64 x.pt, .int .i64 x.rs, .int .i64 (x.code : Int), .string ⟨x.key.toArray⟩, .int .u64 (x.time : Int), .slice x.bA x.b.length x.bc, .int .i64 (x.hd : Int), .int .i64 (x.cu : Int), .int .i64 (x.mo : Int), .int .i64 x.er, .int .u64 (x.at_ : Int), .string ⟨x.ak.toArray⟩, .string ⟨x.av.toArray⟩] 34)).alloc (.cells #[.int .i64 0, .int .u64 0, .string ⟨#[]⟩, .string ⟨#[]⟩] 32)).alloc (.cells #[.int .i64 (x.code : Int), .string ⟨x.key.toArray⟩, .int .u64 (x.time : Int), .slice x.bA x.b.length x.bc, .int .i64 (x.hd : Int), .int .i64 (x.cu : Int), .int .i64 (x.mo : Int)] 29)
  have bR := ((Blk.new w [.int .i64 (x.t : Int), .int .i64 x.ix, .int .i64 x.inv, .int .i64 x.pt, .int .i64 x.rs, .int .i64 (x.code : Int), .string ⟨x.key.toArray⟩, .int .u64 (x.time : Int), .slice x.bA x.b.length x.bc, .int .i64 (x.hd : Int), .int .i64 (x.cu : Int), .int .i64 (x.mo : Int), .int .i64 x.er, .int .u64 (x.at_ : Int), .string ⟨x.ak.toArray⟩, .string ⟨x.av.toArray⟩] 34).alloc (.cells #[.int .i64 0, .int .u64 0, .string ⟨#[]⟩, .string ⟨#[]⟩] 32)).alloc (.cells #[.int .i64 (x.code : Int), .string ⟨x.key.toArray⟩, .int .u64 (x.time : Int), .slice x.bA x.b.length x.bc, .int .i64 (x.hd : Int), .int .i64 (x.cu : Int), .int .i64 (x.mo : Int)] 29)
  have bA := (Blk.new_at (w.alloc (.cells #[.int .i64 (x.t : Int), .int .i64 x.ix, .int .i64 x.inv, .int .i64 x.pt, .int .i64 x.rs, .int .i64 (x.code : Int), .string ⟨x.key.toArray⟩, .int .u64 (x.time : Int), .slice x.bA x.b.length x.bc, .int .i64 (x.hd : Int), .int .i64 (x.cu : Int), .int .i64 (x.mo : Int), .int .i64 x.er, .int .u64 (x.at_ : Int), .string ⟨x.ak.toArray⟩, .string ⟨x.av.toArray⟩] 34)) (w.heap.size + 1) [.int .i64 0, .int .u64 0, .string ⟨#[]⟩, .string ⟨#[]⟩] 32 (by simp)).alloc (.cells #[.int .i64 (x.code : Int), .string ⟨x.key.toArray⟩, .int .u64 (x.time : Int), .slice x.bA x.b.length x.bc, .int .i64 (x.hd : Int), .int .i64 (x.cu : Int), .int .i64 (x.mo : Int)] 29)
  have bO := Blk.new_at ((w.alloc (.cells #[.int .i64 (x.t : Int), .int .i64 x.ix, .int .i64 x.inv, .int .i64 x.pt, .int .i64 x.rs, .int .i64 (x.code : Int), .string ⟨x.key.toArray⟩, .int .u64 (x.time : Int), .slice x.bA x.b.length x.bc, .int .i64 (x.hd : Int), .int .i64 (x.cu : Int), .int .i64 (x.mo : Int), .int .i64 x.er, .int .u64 (x.at_ : Int), .string ⟨x.ak.toArray⟩, .string ⟨x.av.toArray⟩] 34)).alloc (.cells #[.int .i64 0, .int .u64 0, .string ⟨#[]⟩, .string ⟨#[]⟩] 32)) (w.heap.size + 1 + 1) [.int .i64 (x.code : Int), .string ⟨x.key.toArray⟩, .int .u64 (x.time : Int), .slice x.bA x.b.length x.bc, .int .i64 (x.hd : Int), .int .i64 (x.cu : Int), .int .i64 (x.mo : Int)] 29 (by simp)
  obtain ⟨W, hW⟩ : ∃ W, W = ((w.alloc (.cells #[.int .i64 (x.t : Int), .int .i64 x.ix, .int .i64 x.inv, .int .i64 x.pt, .int .i64 x.rs, .int .i64 (x.code : Int), .string ⟨x.key.toArray⟩, .int .u64 (x.time : Int), .slice x.bA x.b.length x.bc, .int .i64 (x.hd : Int), .int .i64 (x.cu : Int), .int .i64 (x.mo : Int), .int .i64 x.er, .int .u64 (x.at_ : Int), .string ⟨x.ak.toArray⟩, .string ⟨x.av.toArray⟩] 34)).alloc (.cells #[.int .i64 0, .int .u64 0, .string ⟨#[]⟩, .string ⟨#[]⟩] 32)).alloc (.cells #[.int .i64 (x.code : Int), .string ⟨x.key.toArray⟩, .int .u64 (x.time : Int), .slice x.bA x.b.length x.bc, .int .i64 (x.hd : Int), .int .i64 (x.cu : Int), .int .i64 (x.mo : Int)] 29) := ⟨_, rfl⟩
  rw [← hW] at K bR bA bO
  have hWX := h.keeps K
  have hBs := hi.nB
  have hSs := hi.nS
  have e1 : ((x.code : Int) == 1) = false := by rw [beq_eq_false_iff_ne]; have := hcd; omega
  have e2 : ((x.code : Int) == 2) = false := by rw [beq_eq_false_iff_ne]; have := hcd; omega
  have e3 : ((x.code : Int) == 3) = true := by rw [beq_iff_eq]; have := hcd; omega
  have e9 : ((x.code : Int) == 9) = false := by rw [beq_eq_false_iff_ne]; have := hcd; omega
  have e4 : ((x.code : Int) == 4) = false := by rw [beq_eq_false_iff_ne]; have := hcd; omega
  have HW := Lib.hid hW
  have Hcode := Lib.hid hcd
  obtain ⟨R, hR⟩ : ∃ R, appW s x = R := ⟨_, rfl⟩
  have HR := Lib.hid hR
  have H := Lib.hid h
  have no : ¬ OwnW ww bv sv cv vs (w.heap.size + 1) := fun e => by have := (h.oge e).2; omega
  have HB := Lib.hid (And.intro bR (And.intro bA (And.intro bO (And.intro K (And.intro hWX no)))))
  rw [hR]
  clear h hR hcd hW bR bA bO K hWX no
  obtain ⟨⟨a, rb, s'⟩, rfl⟩ : ∃ r : Res, r = R := ⟨_, rfl⟩
  have happ : Calls Tryz.prog 23 #[.pointer (some ⟨ww, 0, none⟩), .agg #[.int .i64 (x.t : Int), .int .i64 x.ix, .int .i64 x.inv, .int .i64 x.pt, .int .i64 x.rs, .int .i64 (x.code : Int), .string ⟨x.key.toArray⟩, .int .u64 (x.time : Int), .slice x.bA x.b.length x.bc, .int .i64 (x.hd : Int), .int .i64 (x.cu : Int), .int .i64 (x.mo : Int), .int .i64 x.er, .int .u64 (x.at_ : Int), .string ⟨x.ak.toArray⟩, .string ⟨x.av.toArray⟩]] W (ResP W base ww bv sv cv vs (a, rb, s')) := by
    have := xapply_any HB.out.2.2.2.2.1 (by omega) x (hok.keeps HB.out.2.2.2.1) hb
    rw [HR.out] at this
    exact this
  obtain ⟨r0, r1, r2, r3, r4, r5, r6, r7, r8, r9, r10, r11, r12, r13, r14, r15, rf, rl⟩ := Blk.o16 HB.out.1
  go_enter Tryz.func16, Tryz.ntmps16
  go_wp2_with fail
  rw [← HW.out]
  refine happ.mono ?_
  rintro e w4 ⟨rfl, bv4, sv4, cv4, vs4, hX4, hE4⟩
  obtain ⟨bR, bA, bO, K, hWX, no⟩ := HB.out
  obtain ⟨bA4, no4⟩ := hE4.blk bA no
  have hE5 := Ef.before K hE4
  obtain ⟨bS, kS⟩ := bA4.set4 (.int .i64 a.er) (.int .u64 (a.tm : Int)) (.string ⟨a.k.toArray⟩) (.string ⟨a.v.toArray⟩)
  obtain ⟨o0, o1, o2, o3, o4, o5⟩ := bA4.o4
  have HX := Lib.hid (And.intro (hX4.beside kS no4) ((hE5).fresh kS (by omega)))
  have HbS := Lib.hid bS
  clear bS kS

  clear bR bA bO K hWX no bA4 no4 hE4 hE5 hX4 r0 r1 r2 r3 r4 r5 r6 r7 r8 r9 r10 r11 r12 r13 r14 r15 rf rl HB happ
  go_wp2_with fail
  refine bodyPost_ret (results_ct rfl _ _ (w.heap.size + 1) [.int .i64 a.er, .int .u64 (a.tm : Int), .string ⟨a.k.toArray⟩, .string ⟨a.v.toArray⟩] _ rfl HbS.out Tryz.underlying32 sizAn) rfl ?_
  skip
  exact ⟨rfl, _, _, _, _, HX.out.1, HX.out.2⟩
set_option maxHeartbeats 4000000 in
theorem xp4_any (h : WX w base ww bv sv cv vs s) {n : Nat} (hi : Inv n s) (hn : n ≤ 99) (x : RX) (hx : OkX x) (hok : OkX' w x) (ht : x.time ≤ 18446744073709551615) (hb : x.b.length ≤ 1000) (hcd : x.code = 4) :
    Calls Tryz.prog 16 #[.pointer (some ⟨ww, 0, none⟩), .agg #[.int .i64 (x.t : Int), .int .i64 x.ix, .int .i64 x.inv, .int .i64 x.pt, .int .i64 x.rs, .int .i64 (x.code : Int), .string ⟨x.key.toArray⟩, .int .u64 (x.time : Int), .slice x.bA x.b.length x.bc, .int .i64 (x.hd : Int), .int .i64 (x.cu : Int), .int .i64 (x.mo : Int), .int .i64 x.er, .int .u64 (x.at_ : Int), .string ⟨x.ak.toArray⟩, .string ⟨x.av.toArray⟩]] w (ResP w base ww bv sv cv vs (snpW s x)) := by
  have K := (((Keeps.refl [] w).alloc (.cells #[.int .i64 (x.t : Int), .int .i64 x.ix, .int .i64 x.inv, .int .i64 x.pt, .int .i64 x.rs, .int .i64 (x.code : Int), .string ⟨x.key.toArray⟩, .int .u64 (x.time : Int), .slice x.bA x.b.length x.bc, .int .i64 (x.hd : Int), .int .i64 (x.cu : Int), .int .i64 (x.mo : Int), .int .i64 x.er, .int .u64 (x.at_ : Int), .string ⟨x.ak.toArray⟩, .string ⟨x.av.toArray⟩] 34)).alloc (.cells #[.int .i64 0, .int .u64 0, .string ⟨#[]⟩, .string ⟨#[]⟩] 32)).alloc (.cells #[.int .i64 (x.code : Int), .string ⟨x.key.toArray⟩, .int .u64 (x.time : Int), .slice x.bA x.b.length x.bc, .int .i64 (x.hd : Int), .int .i64 (x.cu : Int), .int .i64 (x.mo : Int)] 29)
  have bR := ((Blk.new w [.int .i64 (x.t : Int), .int .i64 x.ix, .int .i64 x.inv, .int .i64 x.pt, .int .i64 x.rs, .int .i64 (x.code : Int), .string ⟨x.key.toArray⟩, .int .u64 (x.time : Int), .slice x.bA x.b.length x.bc, .int .i64 (x.hd : Int), .int .i64 (x.cu : Int), .int .i64 (x.mo : Int), .int .i64 x.er, .int .u64 (x.at_ : Int), .string ⟨x.ak.toArray⟩, .string ⟨x.av.toArray⟩] 34).alloc (.cells #[.int .i64 0, .int .u64 0, .string ⟨#[]⟩, .string ⟨#[]⟩] 32)).alloc (.cells #[.int .i64 (x.code : Int), .string ⟨x.key.toArray⟩, .int .u64 (x.time : Int), .slice x.bA x.b.length x.bc, .int .i64 (x.hd : Int), .int .i64 (x.cu : Int), .int .i64 (x.mo : Int)] 29)
  have bA := (Blk.new_at (w.alloc (.cells #[.int .i64 (x.t : Int), .int .i64 x.ix, .int .i64 x.inv, .int .i64 x.pt, .int .i64 x.rs, .int .i64 (x.code : Int), .string ⟨x.key.toArray⟩, .int .u64 (x.time : Int), .slice x.bA x.b.length x.bc, .int .i64 (x.hd : Int), .int .i64 (x.cu : Int), .int .i64 (x.mo : Int), .int .i64 x.er, .int .u64 (x.at_ : Int), .string ⟨x.ak.toArray⟩, .string ⟨x.av.toArray⟩] 34)) (w.heap.size + 1) [.int .i64 0, .int .u64 0, .string ⟨#[]⟩, .string ⟨#[]⟩] 32 (by simp)).alloc (.cells #[.int .i64 (x.code : Int), .string ⟨x.key.toArray⟩, .int .u64 (x.time : Int), .slice x.bA x.b.length x.bc, .int .i64 (x.hd : Int), .int .i64 (x.cu : Int), .int .i64 (x.mo : Int)] 29)
  have bO := Blk.new_at ((w.alloc (.cells #[.int .i64 (x.t : Int), .int .i64 x.ix, .int .i64 x.inv, .int .i64 x.pt, .int .i64 x.rs, .int .i64 (x.code : Int), .string ⟨x.key.toArray⟩, .int .u64 (x.time : Int), .slice x.bA x.b.length x.bc, .int .i64 (x.hd : Int), .int .i64 (x.cu : Int), .int .i64 (x.mo : Int), .int .i64 x.er, .int .u64 (x.at_ : Int), .string ⟨x.ak.toArray⟩, .string ⟨x.av.toArray⟩] 34)).alloc (.cells #[.int .i64 0, .int .u64 0, .string ⟨#[]⟩, .string ⟨#[]⟩] 32)) (w.heap.size + 1 + 1) [.int .i64 (x.code : Int), .string ⟨x.key.toArray⟩, .int .u64 (x.time : Int), .slice x.bA x.b.length x.bc, .int .i64 (x.hd : Int), .int .i64 (x.cu : Int), .int .i64 (x.mo : Int)] 29 (by simp)
  obtain ⟨W, hW⟩ : ∃ W, W = ((w.alloc (.cells #[.int .i64 (x.t : Int), .int .i64 x.ix, .int .i64 x.inv, .int .i64 x.pt, .int .i64 x.rs, .int .i64 (x.code : Int), .string ⟨x.key.toArray⟩, .int .u64 (x.time : Int), .slice x.bA x.b.length x.bc, .int .i64 (x.hd : Int), .int .i64 (x.cu : Int), .int .i64 (x.mo : Int), .int .i64 x.er, .int .u64 (x.at_ : Int), .string ⟨x.ak.toArray⟩, .string ⟨x.av.toArray⟩] 34)).alloc (.cells #[.int .i64 0, .int .u64 0, .string ⟨#[]⟩, .string ⟨#[]⟩] 32)).alloc (.cells #[.int .i64 (x.code : Int), .string ⟨x.key.toArray⟩, .int .u64 (x.time : Int), .slice x.bA x.b.length x.bc, .int .i64 (x.hd : Int), .int .i64 (x.cu : Int), .int .i64 (x.mo : Int)] 29) := ⟨_, rfl⟩
  rw [← hW] at K bR bA bO
  have hWX := h.keeps K
  have hBs := hi.nB
  have hSs := hi.nS
  have e1 : ((x.code : Int) == 1) = false := by rw [beq_eq_false_iff_ne]; have := hcd; omega
  have e2 : ((x.code : Int) == 2) = false := by rw [beq_eq_false_iff_ne]; have := hcd; omega
  have e3 : ((x.code : Int) == 3) = false := by rw [beq_eq_false_iff_ne]; have := hcd; omega
  have e9 : ((x.code : Int) == 9) = false := by rw [beq_eq_false_iff_ne]; have := hcd; omega
  have e4 : ((x.code : Int) == 4) = true := by rw [beq_iff_eq]; have := hcd; omega
  have HW := Lib.hid hW
  have Hcode := Lib.hid hcd
  obtain ⟨R, hR⟩ : ∃ R, snpW s x = R := ⟨_, rfl⟩
  have HR := Lib.hid hR
  have H := Lib.hid h
  have no : ¬ OwnW ww bv sv cv vs (w.heap.size + 1) := fun e => by have := (h.oge e).2; omega
  have HB := Lib.hid (And.intro bR (And.intro bA (And.intro bO (And.intro K (And.intro hWX no)))))
  rw [hR]
  obtain ⟨r, hr⟩ := SnAt.ex s.Ss x.t x.hd
  have hs1 := xsnap_q hWX (by omega) hi.dS hr 0
  have q0 : W.cell? ⟨w.heap.size, 0, none⟩ = some (.int .i64 (x.t : Int)) := bR.cell 0
  have ql := bR.lt
  have q4 : W.cell? ⟨w.heap.size + 1 + 1, 4, none⟩ = some (.int .i64 (x.hd : Int)) := bO.cell 4
  have qm := bO.lt
  have Hr := Lib.hid hr
  clear hr
  clear h hR hcd hW bR bA bO K hWX no
  go_enter Tryz.func16, Tryz.ntmps16
  go_wp2_with fail
  rw [← HW.out]
  refine hs1.mono ?_
  rintro e w4 ⟨rfl, z, rfl⟩
  obtain ⟨bR, bA, bO, K, hWX, no⟩ := HB.out
  have kz := (Keeps.refl [] W).drewN z
  have bA4 := kz.blk bA (by simp)
  have bR4 := kz.blk bR (by simp)
  have bO4 := kz.blk bO (by simp)
  have K4 := K.trans kz (by simp)
  have hX4 := hWX.keeps kz
  obtain ⟨W2, hW2⟩ : ∃ W2, W2 = W.drewN z := ⟨_, rfl⟩
  rw [← hW2] at bA4 bR4 bO4 K4 hX4 ⊢
  rcases Hr.out.fnd hi.dS with ⟨hr1, hno⟩ | ⟨k, p, hr1, hp, hsn, hfil⟩
  · have hr0 : ¬ 0 ≤ r := by omega
    have hRv : R = (okA s.Bs.length, true, ⟨s.Bs, s.F, s.Ss ++ [⟨x.t, x.hd, s.Bs.length⟩], s.Cs⟩) := by rw [← HR.out]; unfold snpW; rw [hno]
    have HRv := Lib.hid hRv
    have hop := xopen_any hX4 (by omega) (by omega) x.t x.hd hi.dS hno
    have c0 : W2.cell? ⟨w.heap.size, 0, none⟩ = some (.int .i64 (x.t : Int)) := bR4.cell 0
    have cl := bR4.lt
    have c4 : W2.cell? ⟨w.heap.size + 1 + 1, 4, none⟩ = some (.int .i64 (x.hd : Int)) := bO4.cell 4
    have cm := bO4.lt
    have HZ := Lib.hid (And.intro bA4 (And.intro K4 no))
    clear bR bA bO K hWX no bA4 bR4 bO4 K4 hX4 kz hW2 hno hr1 HR Hr HB hRv hs1 q0 ql q4 qm
    go_wp2_with fail
    refine hop.mono ?_
    rintro e w5 ⟨rfl, bv5, sv5, cv5, vs5, hX5, hE5⟩
    obtain ⟨bA4, K4, no⟩ := HZ.out
    obtain ⟨bA5, no5⟩ := hE5.blk bA4 no
    have hE6 := Ef.before K4 hE5
    obtain ⟨bS, kS⟩ := bA5.set4 (.int .i64 0) (.int .u64 (s.Bs.length : Int)) (.string ⟨#[]⟩) (.string ⟨#[]⟩)
    obtain ⟨o0, o1, o2, o3, o4, o5⟩ := bA5.o4
    have HX := Lib.hid (And.intro (hX5.beside kS no5) ((hE6).fresh kS (by omega)))
    have HbS := Lib.hid bS
    clear bS kS

    clear bA4 K4 no bA5 no5 hE5 hE6 hX5 HZ hop c0 cl c4 cm
    go_wp2_with fail
    refine bodyPost_ret (results_ct rfl _ _ (w.heap.size + 1) [.int .i64 0, .int .u64 (s.Bs.length : Int), .string ⟨#[]⟩, .string ⟨#[]⟩] _ rfl HbS.out Tryz.underlying32 sizAn) rfl ?_
    obtain rfl := HRv.out
    exact ⟨rfl, _, _, _, _, HX.out.1, HX.out.2⟩
  · have hr0 : 0 ≤ r := by omega
    have hRv : R = (errA 7, true, s) := by rw [← HR.out]; unfold snpW; rw [hsn]
    have HRv := Lib.hid hRv
    obtain ⟨bS, kS⟩ := bA4.set4 (.int .i64 7) (.int .u64 0) (.string ⟨#[]⟩) (.string ⟨#[]⟩)
    obtain ⟨o0, o1, o2, o3, o4, o5⟩ := bA4.o4
    have HX := Lib.hid (And.intro (hX4.beside kS no) ((Ef.refl (O := OwnW ww bv sv cv vs) K4).fresh kS (by omega)))
    have HbS := Lib.hid bS
    clear bS kS

    clear bR bA bO K hWX no bA4 bR4 bO4 K4 hX4 kz hW2 hsn hfil hp hr1 HR Hr HB hRv hs1 q0 ql q4 qm
    go_wp2_with fail
    refine bodyPost_ret (results_ct rfl _ _ (w.heap.size + 1) [.int .i64 7, .int .u64 0, .string ⟨#[]⟩, .string ⟨#[]⟩] _ rfl HbS.out Tryz.underlying32 sizAn) rfl ?_
    obtain rfl := HRv.out
    exact ⟨rfl, _, _, _, _, HX.out.1, HX.out.2⟩
set_option maxHeartbeats 4000000 in
theorem xp5_any (h : WX w base ww bv sv cv vs s) {n : Nat} (hi : Inv n s) (hn : n ≤ 99) (x : RX) (hx : OkX x) (hok : OkX' w x) (ht : x.time ≤ 18446744073709551615) (hb : x.b.length ≤ 1000) (hcd : 5 ≤ x.code ∧ x.code ≤ 8) :
    Calls Tryz.prog 16 #[.pointer (some ⟨ww, 0, none⟩), .agg #[.int .i64 (x.t : Int), .int .i64 x.ix, .int .i64 x.inv, .int .i64 x.pt, .int .i64 x.rs, .int .i64 (x.code : Int), .string ⟨x.key.toArray⟩, .int .u64 (x.time : Int), .slice x.bA x.b.length x.bc, .int .i64 (x.hd : Int), .int .i64 (x.cu : Int), .int .i64 (x.mo : Int), .int .i64 x.er, .int .u64 (x.at_ : Int), .string ⟨x.ak.toArray⟩, .string ⟨x.av.toArray⟩]] w (ResP w base ww bv sv cv vs (perfW s x)) := by
  have K := (((Keeps.refl [] w).alloc (.cells #[.int .i64 (x.t : Int), .int .i64 x.ix, .int .i64 x.inv, .int .i64 x.pt, .int .i64 x.rs, .int .i64 (x.code : Int), .string ⟨x.key.toArray⟩, .int .u64 (x.time : Int), .slice x.bA x.b.length x.bc, .int .i64 (x.hd : Int), .int .i64 (x.cu : Int), .int .i64 (x.mo : Int), .int .i64 x.er, .int .u64 (x.at_ : Int), .string ⟨x.ak.toArray⟩, .string ⟨x.av.toArray⟩] 34)).alloc (.cells #[.int .i64 0, .int .u64 0, .string ⟨#[]⟩, .string ⟨#[]⟩] 32)).alloc (.cells #[.int .i64 (x.code : Int), .string ⟨x.key.toArray⟩, .int .u64 (x.time : Int), .slice x.bA x.b.length x.bc, .int .i64 (x.hd : Int), .int .i64 (x.cu : Int), .int .i64 (x.mo : Int)] 29)
  have bR := ((Blk.new w [.int .i64 (x.t : Int), .int .i64 x.ix, .int .i64 x.inv, .int .i64 x.pt, .int .i64 x.rs, .int .i64 (x.code : Int), .string ⟨x.key.toArray⟩, .int .u64 (x.time : Int), .slice x.bA x.b.length x.bc, .int .i64 (x.hd : Int), .int .i64 (x.cu : Int), .int .i64 (x.mo : Int), .int .i64 x.er, .int .u64 (x.at_ : Int), .string ⟨x.ak.toArray⟩, .string ⟨x.av.toArray⟩] 34).alloc (.cells #[.int .i64 0, .int .u64 0, .string ⟨#[]⟩, .string ⟨#[]⟩] 32)).alloc (.cells #[.int .i64 (x.code : Int), .string ⟨x.key.toArray⟩, .int .u64 (x.time : Int), .slice x.bA x.b.length x.bc, .int .i64 (x.hd : Int), .int .i64 (x.cu : Int), .int .i64 (x.mo : Int)] 29)
  have bA := (Blk.new_at (w.alloc (.cells #[.int .i64 (x.t : Int), .int .i64 x.ix, .int .i64 x.inv, .int .i64 x.pt, .int .i64 x.rs, .int .i64 (x.code : Int), .string ⟨x.key.toArray⟩, .int .u64 (x.time : Int), .slice x.bA x.b.length x.bc, .int .i64 (x.hd : Int), .int .i64 (x.cu : Int), .int .i64 (x.mo : Int), .int .i64 x.er, .int .u64 (x.at_ : Int), .string ⟨x.ak.toArray⟩, .string ⟨x.av.toArray⟩] 34)) (w.heap.size + 1) [.int .i64 0, .int .u64 0, .string ⟨#[]⟩, .string ⟨#[]⟩] 32 (by simp)).alloc (.cells #[.int .i64 (x.code : Int), .string ⟨x.key.toArray⟩, .int .u64 (x.time : Int), .slice x.bA x.b.length x.bc, .int .i64 (x.hd : Int), .int .i64 (x.cu : Int), .int .i64 (x.mo : Int)] 29)
  have bO := Blk.new_at ((w.alloc (.cells #[.int .i64 (x.t : Int), .int .i64 x.ix, .int .i64 x.inv, .int .i64 x.pt, .int .i64 x.rs, .int .i64 (x.code : Int), .string ⟨x.key.toArray⟩, .int .u64 (x.time : Int), .slice x.bA x.b.length x.bc, .int .i64 (x.hd : Int), .int .i64 (x.cu : Int), .int .i64 (x.mo : Int), .int .i64 x.er, .int .u64 (x.at_ : Int), .string ⟨x.ak.toArray⟩, .string ⟨x.av.toArray⟩] 34)).alloc (.cells #[.int .i64 0, .int .u64 0, .string ⟨#[]⟩, .string ⟨#[]⟩] 32)) (w.heap.size + 1 + 1) [.int .i64 (x.code : Int), .string ⟨x.key.toArray⟩, .int .u64 (x.time : Int), .slice x.bA x.b.length x.bc, .int .i64 (x.hd : Int), .int .i64 (x.cu : Int), .int .i64 (x.mo : Int)] 29 (by simp)
  obtain ⟨W, hW⟩ : ∃ W, W = ((w.alloc (.cells #[.int .i64 (x.t : Int), .int .i64 x.ix, .int .i64 x.inv, .int .i64 x.pt, .int .i64 x.rs, .int .i64 (x.code : Int), .string ⟨x.key.toArray⟩, .int .u64 (x.time : Int), .slice x.bA x.b.length x.bc, .int .i64 (x.hd : Int), .int .i64 (x.cu : Int), .int .i64 (x.mo : Int), .int .i64 x.er, .int .u64 (x.at_ : Int), .string ⟨x.ak.toArray⟩, .string ⟨x.av.toArray⟩] 34)).alloc (.cells #[.int .i64 0, .int .u64 0, .string ⟨#[]⟩, .string ⟨#[]⟩] 32)).alloc (.cells #[.int .i64 (x.code : Int), .string ⟨x.key.toArray⟩, .int .u64 (x.time : Int), .slice x.bA x.b.length x.bc, .int .i64 (x.hd : Int), .int .i64 (x.cu : Int), .int .i64 (x.mo : Int)] 29) := ⟨_, rfl⟩
  rw [← hW] at K bR bA bO
  have hWX := h.keeps K
  have hBs := hi.nB
  have hSs := hi.nS
  have e1 : ((x.code : Int) == 1) = false := by rw [beq_eq_false_iff_ne]; have := hcd; omega
  have e2 : ((x.code : Int) == 2) = false := by rw [beq_eq_false_iff_ne]; have := hcd; omega
  have e3 : ((x.code : Int) == 3) = false := by rw [beq_eq_false_iff_ne]; have := hcd; omega
  have e9 : ((x.code : Int) == 9) = false := by rw [beq_eq_false_iff_ne]; have := hcd; omega
  have e4 : ((x.code : Int) == 4) = false := by rw [beq_eq_false_iff_ne]; have := hcd; omega
  have HW := Lib.hid hW
  have Hcode := Lib.hid hcd
  obtain ⟨R, hR⟩ : ∃ R, perfW s x = R := ⟨_, rfl⟩
  have HR := Lib.hid hR
  have H := Lib.hid h
  have no : ¬ OwnW ww bv sv cv vs (w.heap.size + 1) := fun e => by have := (h.oge e).2; omega
  have HB := Lib.hid (And.intro bR (And.intro bA (And.intro bO (And.intro K (And.intro hWX no)))))
  rw [hR]
  clear h hR hcd hW bR bA bO K hWX no
  obtain ⟨⟨a, rb, s'⟩, rfl⟩ : ∃ r : Res, r = R := ⟨_, rfl⟩
  have happ : Calls Tryz.prog 27 #[.pointer (some ⟨ww, 0, none⟩), .agg #[.int .i64 (x.t : Int), .int .i64 x.ix, .int .i64 x.inv, .int .i64 x.pt, .int .i64 x.rs, .int .i64 (x.code : Int), .string ⟨x.key.toArray⟩, .int .u64 (x.time : Int), .slice x.bA x.b.length x.bc, .int .i64 (x.hd : Int), .int .i64 (x.cu : Int), .int .i64 (x.mo : Int), .int .i64 x.er, .int .u64 (x.at_ : Int), .string ⟨x.ak.toArray⟩, .string ⟨x.av.toArray⟩]] W (LocP W base ww bv sv cv vs (a, rb, s')) := by
    have := xlocal_any HB.out.2.2.2.2.1 hi (by omega) x hx Hcode.out
    rw [HR.out] at this
    exact this
  obtain ⟨r0, r1, r2, r3, r4, r5, r6, r7, r8, r9, r10, r11, r12, r13, r14, r15, rf, rl⟩ := Blk.o16 HB.out.1
  go_enter Tryz.func16, Tryz.ntmps16
  go_wp2_with fail
  rw [← HW.out]
  refine happ.mono ?_
  rintro e w4 ⟨rfl, hrb, bv4, sv4, cv4, vs4, hX4, hE4⟩
  simp only at hrb
  subst hrb
  obtain ⟨bR, bA, bO, K, hWX, no⟩ := HB.out
  obtain ⟨bA4, no4⟩ := hE4.blk bA no
  have hE5 := Ef.before K hE4
  obtain ⟨bS, kS⟩ := bA4.set4 (.int .i64 a.er) (.int .u64 (a.tm : Int)) (.string ⟨a.k.toArray⟩) (.string ⟨a.v.toArray⟩)
  obtain ⟨o0, o1, o2, o3, o4, o5⟩ := bA4.o4
  have HX := Lib.hid (And.intro (hX4.beside kS no4) ((hE5).fresh kS (by omega)))
  have HbS := Lib.hid bS
  clear bS kS

  clear bR bA bO K hWX no bA4 no4 hE4 hE5 hX4 r0 r1 r2 r3 r4 r5 r6 r7 r8 r9 r10 r11 r12 r13 r14 r15 rf rl HB happ
  go_wp2_with fail
  refine bodyPost_ret (results_ct rfl _ _ (w.heap.size + 1) [.int .i64 a.er, .int .u64 (a.tm : Int), .string ⟨a.k.toArray⟩, .string ⟨a.v.toArray⟩] _ rfl HbS.out Tryz.underlying32 sizAn) rfl ?_
  skip
  exact ⟨rfl, _, _, _, _, HX.out.1, HX.out.2⟩
set_option maxHeartbeats 4000000 in
theorem xp9_any (h : WX w base ww bv sv cv vs s) {n : Nat} (hi : Inv n s) (hn : n ≤ 99) (x : RX) (hx : OkX x) (hok : OkX' w x) (ht : x.time ≤ 18446744073709551615) (hb : x.b.length ≤ 1000) (hcd : x.code = 9) :
    Calls Tryz.prog 16 #[.pointer (some ⟨ww, 0, none⟩), .agg #[.int .i64 (x.t : Int), .int .i64 x.ix, .int .i64 x.inv, .int .i64 x.pt, .int .i64 x.rs, .int .i64 (x.code : Int), .string ⟨x.key.toArray⟩, .int .u64 (x.time : Int), .slice x.bA x.b.length x.bc, .int .i64 (x.hd : Int), .int .i64 (x.cu : Int), .int .i64 (x.mo : Int), .int .i64 x.er, .int .u64 (x.at_ : Int), .string ⟨x.ak.toArray⟩, .string ⟨x.av.toArray⟩]] w (ResP w base ww bv sv cv vs (vacW s x)) := by
  have K := (((Keeps.refl [] w).alloc (.cells #[.int .i64 (x.t : Int), .int .i64 x.ix, .int .i64 x.inv, .int .i64 x.pt, .int .i64 x.rs, .int .i64 (x.code : Int), .string ⟨x.key.toArray⟩, .int .u64 (x.time : Int), .slice x.bA x.b.length x.bc, .int .i64 (x.hd : Int), .int .i64 (x.cu : Int), .int .i64 (x.mo : Int), .int .i64 x.er, .int .u64 (x.at_ : Int), .string ⟨x.ak.toArray⟩, .string ⟨x.av.toArray⟩] 34)).alloc (.cells #[.int .i64 0, .int .u64 0, .string ⟨#[]⟩, .string ⟨#[]⟩] 32)).alloc (.cells #[.int .i64 (x.code : Int), .string ⟨x.key.toArray⟩, .int .u64 (x.time : Int), .slice x.bA x.b.length x.bc, .int .i64 (x.hd : Int), .int .i64 (x.cu : Int), .int .i64 (x.mo : Int)] 29)
  have bR := ((Blk.new w [.int .i64 (x.t : Int), .int .i64 x.ix, .int .i64 x.inv, .int .i64 x.pt, .int .i64 x.rs, .int .i64 (x.code : Int), .string ⟨x.key.toArray⟩, .int .u64 (x.time : Int), .slice x.bA x.b.length x.bc, .int .i64 (x.hd : Int), .int .i64 (x.cu : Int), .int .i64 (x.mo : Int), .int .i64 x.er, .int .u64 (x.at_ : Int), .string ⟨x.ak.toArray⟩, .string ⟨x.av.toArray⟩] 34).alloc (.cells #[.int .i64 0, .int .u64 0, .string ⟨#[]⟩, .string ⟨#[]⟩] 32)).alloc (.cells #[.int .i64 (x.code : Int), .string ⟨x.key.toArray⟩, .int .u64 (x.time : Int), .slice x.bA x.b.length x.bc, .int .i64 (x.hd : Int), .int .i64 (x.cu : Int), .int .i64 (x.mo : Int)] 29)
  have bA := (Blk.new_at (w.alloc (.cells #[.int .i64 (x.t : Int), .int .i64 x.ix, .int .i64 x.inv, .int .i64 x.pt, .int .i64 x.rs, .int .i64 (x.code : Int), .string ⟨x.key.toArray⟩, .int .u64 (x.time : Int), .slice x.bA x.b.length x.bc, .int .i64 (x.hd : Int), .int .i64 (x.cu : Int), .int .i64 (x.mo : Int), .int .i64 x.er, .int .u64 (x.at_ : Int), .string ⟨x.ak.toArray⟩, .string ⟨x.av.toArray⟩] 34)) (w.heap.size + 1) [.int .i64 0, .int .u64 0, .string ⟨#[]⟩, .string ⟨#[]⟩] 32 (by simp)).alloc (.cells #[.int .i64 (x.code : Int), .string ⟨x.key.toArray⟩, .int .u64 (x.time : Int), .slice x.bA x.b.length x.bc, .int .i64 (x.hd : Int), .int .i64 (x.cu : Int), .int .i64 (x.mo : Int)] 29)
  have bO := Blk.new_at ((w.alloc (.cells #[.int .i64 (x.t : Int), .int .i64 x.ix, .int .i64 x.inv, .int .i64 x.pt, .int .i64 x.rs, .int .i64 (x.code : Int), .string ⟨x.key.toArray⟩, .int .u64 (x.time : Int), .slice x.bA x.b.length x.bc, .int .i64 (x.hd : Int), .int .i64 (x.cu : Int), .int .i64 (x.mo : Int), .int .i64 x.er, .int .u64 (x.at_ : Int), .string ⟨x.ak.toArray⟩, .string ⟨x.av.toArray⟩] 34)).alloc (.cells #[.int .i64 0, .int .u64 0, .string ⟨#[]⟩, .string ⟨#[]⟩] 32)) (w.heap.size + 1 + 1) [.int .i64 (x.code : Int), .string ⟨x.key.toArray⟩, .int .u64 (x.time : Int), .slice x.bA x.b.length x.bc, .int .i64 (x.hd : Int), .int .i64 (x.cu : Int), .int .i64 (x.mo : Int)] 29 (by simp)
  obtain ⟨W, hW⟩ : ∃ W, W = ((w.alloc (.cells #[.int .i64 (x.t : Int), .int .i64 x.ix, .int .i64 x.inv, .int .i64 x.pt, .int .i64 x.rs, .int .i64 (x.code : Int), .string ⟨x.key.toArray⟩, .int .u64 (x.time : Int), .slice x.bA x.b.length x.bc, .int .i64 (x.hd : Int), .int .i64 (x.cu : Int), .int .i64 (x.mo : Int), .int .i64 x.er, .int .u64 (x.at_ : Int), .string ⟨x.ak.toArray⟩, .string ⟨x.av.toArray⟩] 34)).alloc (.cells #[.int .i64 0, .int .u64 0, .string ⟨#[]⟩, .string ⟨#[]⟩] 32)).alloc (.cells #[.int .i64 (x.code : Int), .string ⟨x.key.toArray⟩, .int .u64 (x.time : Int), .slice x.bA x.b.length x.bc, .int .i64 (x.hd : Int), .int .i64 (x.cu : Int), .int .i64 (x.mo : Int)] 29) := ⟨_, rfl⟩
  rw [← hW] at K bR bA bO
  have hWX := h.keeps K
  have hBs := hi.nB
  have hSs := hi.nS
  have e1 : ((x.code : Int) == 1) = false := by rw [beq_eq_false_iff_ne]; have := hcd; omega
  have e2 : ((x.code : Int) == 2) = false := by rw [beq_eq_false_iff_ne]; have := hcd; omega
  have e3 : ((x.code : Int) == 3) = false := by rw [beq_eq_false_iff_ne]; have := hcd; omega
  have e9 : ((x.code : Int) == 9) = true := by rw [beq_iff_eq]; have := hcd; omega
  have e4 : ((x.code : Int) == 4) = false := by rw [beq_eq_false_iff_ne]; have := hcd; omega
  have HW := Lib.hid hW
  have Hcode := Lib.hid hcd
  obtain ⟨R, hR⟩ : ∃ R, vacW s x = R := ⟨_, rfl⟩
  have HR := Lib.hid hR
  have H := Lib.hid h
  have no : ¬ OwnW ww bv sv cv vs (w.heap.size + 1) := fun e => by have := (h.oge e).2; omega
  have HB := Lib.hid (And.intro bR (And.intro bA (And.intro bO (And.intro K (And.intro hWX no)))))
  rw [hR]
  have heq : ∀ w : World, (binOp .eql 32 (.agg #[.int .i64 x.er, .int .u64 (x.at_ : Int), .string ⟨x.ak.toArray⟩, .string ⟨x.av.toArray⟩]) (.agg #[.int .i64 0, .int .u64 (x.at_ : Int), .string ⟨#[]⟩, .string ⟨#[]⟩])).run Tryz.prog w = .ok (.bool (anB (ansX x) (okA x.at_))) w := fun w => eq_ans (ansX x) (okA x.at_) w
  obtain ⟨bb, hbb⟩ : ∃ bb, anB (ansX x) (okA x.at_) = bb := ⟨_, rfl⟩
  rw [hbb] at heq
  have hra := xraise_any (hWX.keeps (Keeps.refl [] W).drew) (by omega) (by omega) x.at_
  have noR : ¬ OwnW ww bv sv cv vs w.heap.size := fun e => by have := (h.oge e).2; omega
  have q12 : W.cell? ⟨w.heap.size, 12, none⟩ = some (.int .i64 x.er) := bR.cell 12
  have q13 : W.cell? ⟨w.heap.size, 13, none⟩ = some (.int .u64 (x.at_ : Int)) := bR.cell 13
  have q14 : W.cell? ⟨w.heap.size, 14, none⟩ = some (.string ⟨x.ak.toArray⟩) := bR.cell 14
  have q15 : W.cell? ⟨w.heap.size, 15, none⟩ = some (.string ⟨x.av.toArray⟩) := bR.cell 15
  have ql := bR.lt
  have Hbb := Lib.hid hbb
  have HnoR := Lib.hid noR
  have hMm : minT s.Ss s.Bs.length = minT s.Ss s.Bs.length := rfl
  obtain ⟨M, hM⟩ : ∃ M, minT s.Ss s.Bs.length = M := ⟨_, rfl⟩
  rw [hM] at hra
  have HM := Lib.hid hM
  clear hbb noR hMm hM
  clear h hR hcd hW bR bA bO K hWX no
  cases bb with
  | false =>
    have hRv : R = (ansX x, false, s) := by rw [← HR.out]; unfold vacW; rw [Hbb.out]; rfl
    have HRv := Lib.hid hRv
    obtain ⟨bR, bA, bO, K, hWX, no⟩ := HB.out
    obtain ⟨bS, kS⟩ := bA.set4 (.int .i64 x.er) (.int .u64 (x.at_ : Int)) (.string ⟨x.ak.toArray⟩) (.string ⟨x.av.toArray⟩)
    obtain ⟨o0, o1, o2, o3, o4, o5⟩ := bA.o4
    have HX := Lib.hid (And.intro (hWX.beside kS no) ((Ef.refl (O := OwnW ww bv sv cv vs) K).fresh kS (by omega)))
    have HbS := Lib.hid bS
    clear bS kS

    clear hra bR bA bO K hWX no HB HR hRv
    go_enter Tryz.func16, Tryz.ntmps16
    go_wp2_with fail
    rw [← HW.out]
    go_region
    all_goals
      go_wp2_with fail
      refine bodyPost_ret (results_ct rfl _ _ (w.heap.size + 1) [.int .i64 x.er, .int .u64 (x.at_ : Int), .string ⟨x.ak.toArray⟩, .string ⟨x.av.toArray⟩] _ rfl HbS.out.drew Tryz.underlying32 sizAn) rfl ?_
      obtain rfl := HRv.out
      exact ⟨rfl, _, _, _, _, HX.out.1.keeps ((Keeps.refl [] _).drew), HX.out.2.after ((Keeps.refl [] _).drew)⟩
  | true =>
    obtain ⟨S', hS'⟩ : ∃ S', S' = (⟨s.Bs, if x.at_ ≤ M then max s.F x.at_ else s.F, s.Ss, s.Cs⟩ : WS) := ⟨_, rfl⟩
    have hRv : R = (ansX x, decide (x.at_ ≤ M), S') := by
      rw [← HR.out, hS']; unfold vacW; rw [Hbb.out, HM.out]
      by_cases hl : x.at_ ≤ M
      · rw [if_pos hl, decide_eq_true hl]; rfl
      · rw [if_neg hl, decide_eq_false hl]; rfl
    have HRv := Lib.hid hRv
    rw [← hS'] at hra
    obtain ⟨dd, hdd⟩ : ∃ dd, decide (x.at_ ≤ M) = dd := ⟨_, rfl⟩
    rw [hdd] at hra HRv
    have hS : ∀ w' : World, Keeps [w.heap.size + 1] W w' → (w'.cell? ⟨w.heap.size, 12, none⟩ = some (.int .i64 x.er) ∧ w'.cell? ⟨w.heap.size, 13, none⟩ = some (.int .u64 (x.at_ : Int)) ∧ w'.cell? ⟨w.heap.size, 14, none⟩ = some (.string ⟨x.ak.toArray⟩) ∧ w'.cell? ⟨w.heap.size, 15, none⟩ = some (.string ⟨x.av.toArray⟩)) := fun w' k => ⟨k.cellEq q12 (by simp), k.cellEq q13 (by simp), k.cellEq q14 (by simp), k.cellEq q15 (by simp)⟩
    clear hS' hRv hdd HR
    go_enter Tryz.func16, Tryz.ntmps16
    go_wp2_with fail
    rw [← HW.out]
    go_region_held3 (fun w' => w'.cell? ⟨w.heap.size, 12, none⟩ = some (.int .i64 x.er) ∧ w'.cell? ⟨w.heap.size, 13, none⟩ = some (.int .u64 (x.at_ : Int)) ∧ w'.cell? ⟨w.heap.size, 14, none⟩ = some (.string ⟨x.ak.toArray⟩) ∧ w'.cell? ⟨w.heap.size, 15, none⟩ = some (.string ⟨x.av.toArray⟩))
      (first
        | (with_reducible exact hS _ ((Keeps.refl [w.heap.size + 1] W).drew))
        | (with_reducible exact t6)
        | (with_reducible exact t7)
        | fail)
      ((first
        | (go_at_call 24; refine hra.mono ?_; rintro e w6 ⟨rfl, hX6, hE6⟩; have hE6' := Ef.before ((Keeps.refl [] W).drew) hE6; have bR6 := (hE6'.blk HB.out.1 HnoR.out).1; have bA6 := (hE6'.blk HB.out.2.1 HB.out.2.2.2.2.2).1; have t6 : (w6.cell? ⟨w.heap.size, 12, none⟩ = some (.int .i64 x.er) ∧ w6.cell? ⟨w.heap.size, 13, none⟩ = some (.int .u64 (x.at_ : Int)) ∧ w6.cell? ⟨w.heap.size, 14, none⟩ = some (.string ⟨x.ak.toArray⟩) ∧ w6.cell? ⟨w.heap.size, 15, none⟩ = some (.string ⟨x.av.toArray⟩)) := ⟨bR6.cell 12, bR6.cell 13, bR6.cell 14, bR6.cell 15⟩; have hS6 := bA6.set4 (.int .i64 x.er) (.int .u64 (x.at_ : Int)) (.string ⟨x.ak.toArray⟩) (.string ⟨x.av.toArray⟩); have o6 := bA6.o4; have bR7 := hS6.2.blk bR6 (by simp); have t7 : ((((((w6.setCell ⟨w.heap.size + 1, 0, none⟩ (.int .i64 x.er)).setCell ⟨w.heap.size + 1, 1, none⟩ (.int .u64 (x.at_ : Int))).setCell ⟨w.heap.size + 1, 2, none⟩ (.string ⟨x.ak.toArray⟩)).setCell ⟨w.heap.size + 1, 3, none⟩ (.string ⟨x.av.toArray⟩))).cell? ⟨w.heap.size, 12, none⟩ = some (.int .i64 x.er) ∧ (((((w6.setCell ⟨w.heap.size + 1, 0, none⟩ (.int .i64 x.er)).setCell ⟨w.heap.size + 1, 1, none⟩ (.int .u64 (x.at_ : Int))).setCell ⟨w.heap.size + 1, 2, none⟩ (.string ⟨x.ak.toArray⟩)).setCell ⟨w.heap.size + 1, 3, none⟩ (.string ⟨x.av.toArray⟩))).cell? ⟨w.heap.size, 13, none⟩ = some (.int .u64 (x.at_ : Int)) ∧ (((((w6.setCell ⟨w.heap.size + 1, 0, none⟩ (.int .i64 x.er)).setCell ⟨w.heap.size + 1, 1, none⟩ (.int .u64 (x.at_ : Int))).setCell ⟨w.heap.size + 1, 2, none⟩ (.string ⟨x.ak.toArray⟩)).setCell ⟨w.heap.size + 1, 3, none⟩ (.string ⟨x.av.toArray⟩))).cell? ⟨w.heap.size, 14, none⟩ = some (.string ⟨x.ak.toArray⟩) ∧ (((((w6.setCell ⟨w.heap.size + 1, 0, none⟩ (.int .i64 x.er)).setCell ⟨w.heap.size + 1, 1, none⟩ (.int .u64 (x.at_ : Int))).setCell ⟨w.heap.size + 1, 2, none⟩ (.string ⟨x.ak.toArray⟩)).setCell ⟨w.heap.size + 1, 3, none⟩ (.string ⟨x.av.toArray⟩))).cell? ⟨w.heap.size, 15, none⟩ = some (.string ⟨x.av.toArray⟩)) := ⟨bR7.cell 12, bR7.cell 13, bR7.cell 14, bR7.cell 15⟩)
        | fail))
    all_goals
      have HbS := Lib.hid hS6.1
      have HX := Lib.hid (And.intro (hX6.beside hS6.2 HB.out.2.2.2.2.2) ((Ef.before HB.out.2.2.2.1 hE6').fresh hS6.2 (by omega)))
      clear hS6 hE6 hE6' hX6 bR6 bA6 t6 t7 o6 bR7
      go_wp2_with fail
      refine bodyPost_ret (results_ct rfl _ _ (w.heap.size + 1) [.int .i64 x.er, .int .u64 (x.at_ : Int), .string ⟨x.ak.toArray⟩, .string ⟨x.av.toArray⟩] _ rfl HbS.out Tryz.underlying32 sizAn) rfl ?_
      obtain rfl := HRv.out
      exact ⟨rfl, _, _, _, _, HX.out.1, HX.out.2⟩
theorem xperf_any (h : WX w base ww bv sv cv vs s) {n : Nat} (hi : Inv n s) (hn : n ≤ 99) (x : RX) (hx : OkX x) (hok : OkX' w x) (ht : x.time ≤ 18446744073709551615) (hb : x.b.length ≤ 1000) :
    Calls Tryz.prog 16 #[.pointer (some ⟨ww, 0, none⟩), .agg #[.int .i64 (x.t : Int), .int .i64 x.ix, .int .i64 x.inv, .int .i64 x.pt, .int .i64 x.rs, .int .i64 (x.code : Int), .string ⟨x.key.toArray⟩, .int .u64 (x.time : Int), .slice x.bA x.b.length x.bc, .int .i64 (x.hd : Int), .int .i64 (x.cu : Int), .int .i64 (x.mo : Int), .int .i64 x.er, .int .u64 (x.at_ : Int), .string ⟨x.ak.toArray⟩, .string ⟨x.av.toArray⟩]] w (ResP w base ww bv sv cv vs (perfW s x)) := by
  have hc := hx.code
  have e : x.code = 1 ∨ x.code = 2 ∨ x.code = 3 ∨ x.code = 9 ∨ x.code = 4 ∨ (5 ≤ x.code ∧ x.code ≤ 8) := by omega
  rcases e with e | e | e | e | e | e
  · have := xp1_any h hi hn x hx hok ht hb e
    have h2 : perfW s x = (getW s x, true, s) := by unfold perfW; rw [if_pos (.inl e)]
    rw [h2]; exact this
  · have := xp2_any h hi hn x hx hok ht hb e
    have h2 : perfW s x = (getW s x, true, s) := by unfold perfW; rw [if_pos (.inr e)]
    rw [h2]; exact this
  · have := xp3_any h hi hn x hx hok ht hb e
    have h2 : perfW s x = appW s x := by unfold perfW; rw [if_neg (by omega), if_pos e]
    rw [h2]; exact this
  · have := xp9_any h hi hn x hx hok ht hb e
    have h2 : perfW s x = vacW s x := by unfold perfW; rw [if_neg (by omega), if_neg (by omega), if_pos e]
    rw [h2]; exact this
  · have := xp4_any h hi hn x hx hok ht hb e
    have h2 : perfW s x = snpW s x := by unfold perfW; rw [if_neg (by omega), if_neg (by omega), if_neg (by omega), if_pos e]
    rw [h2]; exact this
  · exact xp5_any h hi hn x hx hok ht hb e
end Go.Proofs.YtbcgpjfejpcgnaaGreat
end
