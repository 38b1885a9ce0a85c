/- The contracts of slices.Sort at []uint64, for at most twelve elements. -/
import Derived.Test.YtiodlmmbjjdojaaMem
import Derived.Test.YtiodlmmbjjdojaaSortP
import Derived.Deep.RegionHeld3
import Derived.Deep.QuietTactic
import Derived.BigQuiet
namespace Go.Proofs.Ytiodlmmbjjdojaa
open Go.RowKit
def uV (x : Int) : Value := .int .u64 x
theorem isNaN_any (x : Int) (w : World) : Calls Try.prog 89 #[.int .u64 x] w fun e w' => e = .returned (.bool false) ∧ w = w' := by
  go_enter Try.func89, Try.ntmps89
  go_wp2
  go_ret
  exact ⟨by simp, rfl⟩
theorem less_any (x y : Int) (w : World) : Calls Try.prog 77 #[.int .u64 x, .int .u64 y] w fun e w' => e = .returned (.bool (decide (x < y))) ∧ w = w' := by
  go_enter Try.func77, Try.ntmps77
  go_wp2_with (go_at_call 89; refine (isNaN_any _ _).mono ?_; rintro e w' ⟨rfl, rfl⟩)
  go_ret
  exact ⟨rfl, rfl⟩
theorem swap_list (P Q : List Value) (a b : Value) (i : Nat) (h : P.length = i) : ((P ++ a :: b :: Q).set (i + 1) a).set i b = P ++ b :: a :: Q := by
  subst h
  simp
set_option maxHeartbeats 1000000 in
theorem ins_any (xs : List Int) (b cap : Nat) (rest : List Value) (w : World) (hb : Blk w b (xs.map uV ++ rest)) (hn : xs.length ≤ 4096) :
    Calls Try.prog 71 #[.slice (some ⟨b, 0, none⟩) xs.length cap, .int .i64 0, .int .i64 xs.length] w fun e w' => e = .returned (.tuple #[]) ∧ Blk w' b ((isort xs).map uV ++ rest) ∧ Keeps [b] w w' := by
  obtain ⟨n, hln⟩ : ∃ n, xs.length = n := ⟨_, rfl⟩
  rw [hln] at hn ⊢
  have Hln := Lib.hid hln
  clear hln
  go_enter Try.func71, Try.ntmps71
  by_cases h0 : n = 0
  · subst h0
    have hnil := List.eq_nil_of_length_eq_zero Hln.out
    subst hnil
    clear Hln
    go_wp2_with fail
    go_loopw [6] (fun i wr => i = .int .i64 1 ∧ wr = w) (fun _ _ => 0)
    case atStart => exact ⟨rfl, rfl⟩
    case round =>
      obtain ⟨rfl, rfl⟩ := hrel
      go_wp2_with fail
      go_end0
      exact ⟨rfl, hb, Keeps.refl _ _⟩
  obtain ⟨x0, B0, rfl⟩ : ∃ x0 B0, xs = x0 :: B0 := by
    cases xs with
    | nil => exact absurd Hln.out.symm h0
    | cons x0 B0 => exact ⟨x0, B0, rfl⟩
  have hl0 : B0.length + 1 = n := by have := Hln.out; simpa using this
  have Hl0 := Lib.hid hl0
  clear hl0
  go_wp2_with fail
  go_loopw [6] (fun i wr => ∃ (k : Nat) (S B : List Int), k ≤ n ∧ i = .int .i64 k ∧ Hid (S.length = k ∧ S.length + B.length = n ∧ isortGo S B = isort (x0 :: B0)) ∧ Blk wr b ((S ++ B).map uV ++ rest) ∧ Keeps [b] w wr) (fun i _ => n - (intOf i).toNat)
  case atStart =>
    exact ⟨1, [x0], B0, by omega, rfl, Lib.hid ⟨rfl, by simp; have := Hl0.out; omega, rfl⟩, hb, Keeps.refl _ _⟩
  case round =>
    obtain ⟨k, S, B, hkn, rfl, hS, hbk, hkp⟩ := hrel
    by_cases hlt : k < n
    · obtain ⟨x, B', rfl⟩ : ∃ x B', B = x :: B' := by
        cases B with
        | nil => have := hS.out; simp at this; omega
        | cons x B' => exact ⟨x, B', rfl⟩
      obtain ⟨wo, rfl⟩ : ∃ wo : World, wo = wr := ⟨_, rfl⟩
      go_wp2_with fail
      go_loopw [7] (fun j wq => ∃ (i : Nat) (A C : List Int), j = .int .i64 i ∧ i ≤ k ∧ Hid (A.length = i ∧ insR x A ++ C = insR x S.reverse ++ B') ∧ Blk wq b ((A.reverse ++ x :: C).map uV ++ rest) ∧ Keeps [b] w wq) (fun j _ => (intOf j).toNat)
      case atStart =>
        exact ⟨k, S.reverse, B', rfl, Nat.le_refl _, Lib.hid ⟨by simp [hS.out.1], rfl⟩, by simpa using hbk, hkp⟩
      case round =>
        obtain ⟨i, A, C, rfl, hik, hA, hbq, hkq⟩ := hrel
        cases A with
        | nil =>
          obtain rfl : 0 = i := hA.out.1
          go_wp2_with fail
          go_quiet (fail)
          go_wp2_with fail
          have hbz : Blk (wr.drewN nq) b ((insR x S.reverse ++ B').map uV ++ rest) := by rw [← hA.out.2]; exact hbq.drewN nq
          exact ⟨⟨k + 1, insR x S.reverse, B', by omega, by go_num, Lib.hid ⟨by rw [insR_length]; simp [hS.out.1], by rw [insR_length]; have := hS.out.2.1; simp at this ⊢; omega, hS.out.2.2⟩, hbz, hkq.drewN nq⟩, by simp [intOf]; omega⟩
        | cons y A =>
          obtain ⟨i', rfl⟩ : ∃ i', i = i' + 1 := ⟨A.length, by rw [← hA.out.1]; rfl⟩
          have hAl : Hid (A.length = i') := Lib.hid (by have := hA.out.1; simpa using this)
          have ey := hbq.cell i'
          have ex := hbq.cell (i' + 1)
          rw [List.map_append, List.append_assoc, List.reverse_cons, List.map_append, List.append_assoc, List.getElem?_append_right (by simp [hAl.out])] at ey ex
          simp only [List.length_map, List.length_reverse, hAl.out, Nat.sub_self, Nat.add_sub_cancel_left, List.map_cons, List.cons_append, List.map_nil, List.nil_append, List.getElem?_cons_zero, List.getElem?_cons_succ, uV] at ey ex
          have bf := hbq.frozen
          have bl := hbq.lt
          have hi0 : (0 : Int) ≤ (i' : Int) := by omega
          have hi1 : (i' : Int) + 1 < n := by omega
          have hi2 : (0 : Int) ≤ (i' : Int) + 1 := by omega
          have hi3 : (i' : Int) < n := by omega
          have hgt : decide ((i' : Int) + 1 > 0) = true := by simp
          have hwr : IntKind.i64.wrap (i' : Int) = i' := IntWalk.i64_in _ ⟨by omega, by omega⟩
          have hi4 : (0 : Int) ≤ (i' : Int) := by omega
          rw [show ((i' + 1 : Nat) : Int) = (i' : Int) + 1 from rfl]
          have HX := Lib.hid hik
          clear hik
          by_cases hxy : x < y
          · have hd : decide (x < y) = true := by simp [hxy]
            go_wp2_with fail
            go_region_held3 (fun w' => w'.cell? ⟨b, i', none⟩ = some (.int .u64 y) ∧ w'.cell? ⟨b, i' + 1, none⟩ = some (.int .u64 x)) (go_keep)
              ((go_at_call 77; refine (less_any _ _ _).mono ?_; rintro e w' ⟨rfl, rfl⟩))
            go_wp2_with fail
            have hbs := ((hbq.set (i' + 1) (.int .u64 y)).set i' (.int .u64 x)).drew.drew
            have hsl : (((List.map uV ((y :: A).reverse ++ x :: C) ++ rest).set (i' + 1) (uV y)).set i' (uV x)) = List.map uV (A.reverse ++ x :: y :: C) ++ rest := by
              have h := swap_list (A.reverse.map uV) (C.map uV ++ rest) (uV y) (uV x) i' (by simp [hAl.out])
              simpa using h
            simp only [uV] at hsl hbs
            rw [hsl] at hbs
            clear hsl
            go_region
            all_goals go_wp2_with fail
            all_goals exact ⟨⟨i', A, y :: C, rfl, by have := HX.out; omega, Lib.hid ⟨hAl.out, by rw [← hA.out.2, insR, if_pos hxy]; simp⟩, hbs, ((hkq.setCell ⟨b, i' + 1, none⟩ (.int .u64 y) (.inl (by simp))).setCell ⟨b, i', none⟩ (.int .u64 x) (.inl (by simp))).drew.drew⟩, by simp [intOf]⟩
          · have hd : decide (x < y) = false := by simp; omega
            go_wp2_with fail
            go_region_held3 (fun w' => w'.cell? ⟨b, i', none⟩ = some (.int .u64 y) ∧ w'.cell? ⟨b, i' + 1, none⟩ = some (.int .u64 x)) (go_keep)
              ((go_at_call 77; refine (less_any _ _ _).mono ?_; rintro e w' ⟨rfl, rfl⟩))
            go_wp2_with fail
            have hbz : Blk wr b ((insR x S.reverse ++ B').map uV ++ rest) := by
              rw [← hA.out.2, insR, if_neg (by omega)]
              simpa using hbq
            exact ⟨⟨k + 1, insR x S.reverse, B', by omega, by go_num, Lib.hid ⟨by rw [insR_length]; simp [hS.out.1], by rw [insR_length]; have := hS.out.2.1; simp at this ⊢; omega, hS.out.2.2⟩, hbz.drew, hkq.drew⟩, by simp [intOf]; omega⟩
    · obtain rfl : n = k := by omega
      have hB : B = [] := List.eq_nil_of_length_eq_zero (by have := hS.out; omega)
      subst hB
      go_wp2_with fail
      go_end0
      have h3 := hS.out.2.2
      rw [isortGo] at h3
      rw [List.append_nil, h3] at hbk
      exact ⟨rfl, hbk, hkp⟩
theorem ins_nil (w : World) :
    Calls Try.prog 71 #[.slice none 0 0, .int .i64 0, .int .i64 0] w fun e w' => e = .returned (.tuple #[]) ∧ Keeps [] w w' := by
  go_enter Try.func71, Try.ntmps71
  go_wp2_with fail
  go_loopw [6] (fun i wr => i = .int .i64 1 ∧ wr = w) (fun _ _ => 0)
  case atStart => exact ⟨rfl, rfl⟩
  case round =>
    obtain ⟨rfl, rfl⟩ := hrel
    go_wp2_with fail
    go_end0
    exact ⟨rfl, Keeps.refl _ _⟩
end Go.Proofs.Ytiodlmmbjjdojaa
