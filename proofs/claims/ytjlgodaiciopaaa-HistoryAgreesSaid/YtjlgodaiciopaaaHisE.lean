/- The contract of awake: it answers true. -/
import Derived.Test.YtjlgodaiciopaaaHisKW
import Derived.Test.YtjlgodaiciopaaaHisSL
import Derived.Test.YtjlgodaiciopaaaHisW
import Derived.BigQuiet
import Derived.Deep.DeepCutAuto
namespace Go.Proofs.Ytjlgodaiciopaaa
open Go.RowKit
set_option maxRecDepth 100000
set_option linter.unusedSimpArgs false
set_option maxHeartbeats 1000000
def aw1 : RV := ⟨⟨0, 0, 0, 1, 3⟩, 0, ⟨#[]⟩, 0, none, 0, [], 0, 0, 0, 0, 0, ⟨#[]⟩, ⟨#[]⟩⟩
def aw2 : RV := ⟨⟨1, 0, 2, 4, 5⟩, 0, ⟨#[]⟩, 0, none, 0, [], 0, 0, 0, 0, 0, ⟨#[]⟩, ⟨#[]⟩⟩
theorem aw_good : Good ([aw1, aw2].map (·.n)) := by
  refine ⟨?_, ?_, ?_, ?_, ?_⟩
  · intro r hr
    simp [aw1, aw2] at hr
    rcases hr with rfl | rfl <;> (unfold SoundR; simp)
  · simp [aw1, aw2]
  · simp [aw1, aw2]
  · simp [aw1, aw2]
  · intro i r hr
    match i with
    | 0 => simp [aw1, aw2] at hr; subst hr; rfl
    | 1 => simp [aw1, aw2] at hr; subst hr; rfl
    | i + 2 => simp [aw1, aw2] at hr
theorem aw_lst {w : World} {g : Nat} (h : Blk w g [.int .i64 0, .int .i64 0, .int .i64 0, .int .i64 1, .int .i64 3, .int .i64 0, .string ⟨#[]⟩, .int .u64 0, .slice none 0 0, .int .i64 0, .int .i64 0, .int .i64 0, .int .i64 0, .int .u64 0, .string ⟨#[]⟩, .string ⟨#[]⟩, .int .i64 1, .int .i64 0, .int .i64 2, .int .i64 4, .int .i64 5, .int .i64 0, .string ⟨#[]⟩, .int .u64 0, .slice none 0 0, .int .i64 0, .int .i64 0, .int .i64 0, .int .i64 0, .int .u64 0, .string ⟨#[]⟩, .string ⟨#[]⟩]) : Lst w (.slice (some ⟨g, 0, none⟩) 2 2) 2 (rCs [aw1, aw2]) := Lst.blk (rest := []) h
theorem aw_rng : ∀ x ∈ [aw1, aw2], RngA x.n := by
  intro x hx
  simp at hx
  rcases hx with rfl | rfl <;> simp [RngA, Rng, aw1, aw2]
theorem aw_ok (w : World) : OkL w [aw1, aw2] := by
  intro x hx
  simp at hx
  rcases hx with rfl | rfl <;> exact ⟨Lst.nil w, by simp [aw1, aw2]⟩
theorem aw_chk {w : World} {g : Nat} (h : Blk w g [.int .i64 0, .int .i64 0, .int .i64 0, .int .i64 1, .int .i64 3, .int .i64 0, .string ⟨#[]⟩, .int .u64 0, .slice none 0 0, .int .i64 0, .int .i64 0, .int .i64 0, .int .i64 0, .int .u64 0, .string ⟨#[]⟩, .string ⟨#[]⟩, .int .i64 1, .int .i64 0, .int .i64 2, .int .i64 4, .int .i64 5, .int .i64 0, .string ⟨#[]⟩, .int .u64 0, .slice none 0 0, .int .i64 0, .int .i64 0, .int .i64 0, .int .i64 0, .int .u64 0, .string ⟨#[]⟩, .string ⟨#[]⟩]) : Calls Try.prog 10 #[.slice (some ⟨g, 0, none⟩) 2 2] w fun e w' => e = .returned (.bool true) ∧ Keeps [] w w' := by
  refine (check_any [aw1, aw2] (by simp) aw_rng _ w (aw_lst h)).mono ?_
  rintro e w' ⟨r, rfl, hr, k⟩
  rw [hr.2 aw_good]
  exact ⟨rfl, k⟩
theorem aw_ovl {w : World} {g : Nat} (h : Blk w g [.int .i64 0, .int .i64 0, .int .i64 0, .int .i64 1, .int .i64 3, .int .i64 0, .string ⟨#[]⟩, .int .u64 0, .slice none 0 0, .int .i64 0, .int .i64 0, .int .i64 0, .int .i64 0, .int .u64 0, .string ⟨#[]⟩, .string ⟨#[]⟩, .int .i64 1, .int .i64 0, .int .i64 2, .int .i64 4, .int .i64 5, .int .i64 0, .string ⟨#[]⟩, .int .u64 0, .slice none 0 0, .int .i64 0, .int .i64 0, .int .i64 0, .int .i64 0, .int .u64 0, .string ⟨#[]⟩, .string ⟨#[]⟩]) : Calls Try.prog 15 #[.slice (some ⟨g, 0, none⟩) 2 2] w fun e w' => e = .returned (.int .i64 2) ∧ Keeps [] w w' :=
  (overlap_any [aw1, aw2] (by simp) _ w (aw_lst h)).mono fun e w' hh => ⟨hh.1.trans (by rfl), hh.2⟩
theorem aw_p12 (w : World) : Calls Try.prog 14 #[.agg #[.int .i64 0, .int .i64 0, .int .i64 0, .int .i64 1, .int .i64 3, .int .i64 0, .string ⟨#[]⟩, .int .u64 0, .slice none 0 0, .int .i64 0, .int .i64 0, .int .i64 0, .int .i64 0, .int .u64 0, .string ⟨#[]⟩, .string ⟨#[]⟩], .agg #[.int .i64 1, .int .i64 0, .int .i64 2, .int .i64 4, .int .i64 5, .int .i64 0, .string ⟨#[]⟩, .int .u64 0, .slice none 0 0, .int .i64 0, .int .i64 0, .int .i64 0, .int .i64 0, .int .u64 0, .string ⟨#[]⟩, .string ⟨#[]⟩]] w fun e w' => e = .returned (.bool false) ∧ Keeps [] w w' := prec_any aw1 aw2 w
theorem aw_p21 (w : World) : Calls Try.prog 14 #[.agg #[.int .i64 1, .int .i64 0, .int .i64 2, .int .i64 4, .int .i64 5, .int .i64 0, .string ⟨#[]⟩, .int .u64 0, .slice none 0 0, .int .i64 0, .int .i64 0, .int .i64 0, .int .i64 0, .int .u64 0, .string ⟨#[]⟩, .string ⟨#[]⟩], .agg #[.int .i64 0, .int .i64 0, .int .i64 0, .int .i64 1, .int .i64 3, .int .i64 0, .string ⟨#[]⟩, .int .u64 0, .slice none 0 0, .int .i64 0, .int .i64 0, .int .i64 0, .int .i64 0, .int .u64 0, .string ⟨#[]⟩, .string ⟨#[]⟩]] w fun e w' => e = .returned (.bool false) ∧ Keeps [] w w' := prec_any aw2 aw1 w
theorem aw_ord {w : World} {g : Nat} (h : Blk w g [.int .i64 0, .int .i64 0, .int .i64 0, .int .i64 1, .int .i64 3, .int .i64 0, .string ⟨#[]⟩, .int .u64 0, .slice none 0 0, .int .i64 0, .int .i64 0, .int .i64 0, .int .i64 0, .int .u64 0, .string ⟨#[]⟩, .string ⟨#[]⟩, .int .i64 1, .int .i64 0, .int .i64 2, .int .i64 4, .int .i64 5, .int .i64 0, .string ⟨#[]⟩, .int .u64 0, .slice none 0 0, .int .i64 0, .int .i64 0, .int .i64 0, .int .i64 0, .int .u64 0, .string ⟨#[]⟩, .string ⟨#[]⟩]) : Calls Try.prog 13 #[.slice (some ⟨g, 0, none⟩) 2 2] w fun e w' => (∃ A c, e = .returned (.slice A 2 c)) ∧ Keeps [] w w' := by
  refine (order_any [aw1, aw2] (by simp) _ w (aw_lst h) (aw_ok w)).mono ?_
  rintro e w' ⟨u, ys, rfl, hp, hs, k⟩
  have hl : ys.length = 2 := by
    have := congrArg List.length hs
    rw [List.length_map, List.length_map] at this
    rw [this]; rfl
  obtain ⟨A, c, rfl⟩ := hp.row.len
  rw [hl]
  exact ⟨⟨A, c, rfl⟩, k⟩
theorem aw_facts {W : World} {g : Nat} (hb : Blk W g [.int .i64 0, .int .i64 0, .int .i64 0, .int .i64 1, .int .i64 3, .int .i64 0, .string ⟨#[]⟩, .int .u64 0, .slice none 0 0, .int .i64 0, .int .i64 0, .int .i64 0, .int .i64 0, .int .u64 0, .string ⟨#[]⟩, .string ⟨#[]⟩, .int .i64 1, .int .i64 0, .int .i64 2, .int .i64 4, .int .i64 5, .int .i64 0, .string ⟨#[]⟩, .int .u64 0, .slice none 0 0, .int .i64 0, .int .i64 0, .int .i64 0, .int .i64 0, .int .u64 0, .string ⟨#[]⟩, .string ⟨#[]⟩]) (P : Program) (hP : Try.prog = P) (kc : Nat) (hk : 16 = kc) : ∃ cA cB : List Value,
    (∀ w', Keeps [] W w' → Sem.run P (loadCellsFrom ⟨g, 0, none⟩ 0 kc #[]) w' = .ok cA.toArray w') ∧ (∀ w', Keeps [] W w' → Sem.run P (loadCellsFrom ⟨g, kc, none⟩ 0 kc #[]) w' = .ok cB.toArray w') ∧
    (∀ w', Keeps [] W w' → Calls P 10 #[.slice (some ⟨g, 0, none⟩) 2 2] w' fun e w'' => e = .returned (.bool true) ∧ Keeps [] W w'') ∧
    (∀ w', Keeps [] W w' → Calls P 15 #[.slice (some ⟨g, 0, none⟩) 2 2] w' fun e w'' => e = .returned (.int .i64 2) ∧ Keeps [] W w'') ∧
    (∀ w', Keeps [] W w' → Calls P 14 #[.agg cA.toArray, .agg cB.toArray] w' fun e w'' => e = .returned (.bool false) ∧ Keeps [] W w'') ∧
    (∀ w', Keeps [] W w' → Calls P 14 #[.agg cB.toArray, .agg cA.toArray] w' fun e w'' => e = .returned (.bool false) ∧ Keeps [] W w'') ∧
    (∀ w', Keeps [] W w' → Calls P 13 #[.slice (some ⟨g, 0, none⟩) 2 2] w' fun e w'' => (∃ A c, e = .returned (.slice A 2 c)) ∧ Keeps [] W w'') := by
  subst hP; subst hk
  have cel : ∀ w', Keeps [] W w' → ∀ j u, ([.int .i64 0, .int .i64 0, .int .i64 0, .int .i64 1, .int .i64 3, .int .i64 0, .string ⟨#[]⟩, .int .u64 0, .slice none 0 0, .int .i64 0, .int .i64 0, .int .i64 0, .int .i64 0, .int .u64 0, .string ⟨#[]⟩, .string ⟨#[]⟩, .int .i64 1, .int .i64 0, .int .i64 2, .int .i64 4, .int .i64 5, .int .i64 0, .string ⟨#[]⟩, .int .u64 0, .slice none 0 0, .int .i64 0, .int .i64 0, .int .i64 0, .int .i64 0, .int .u64 0, .string ⟨#[]⟩, .string ⟨#[]⟩] : List Value)[j]? = some u → w'.cell? ⟨g, j, none⟩ = some u := fun w' k j u h => by rw [(k.blk hb (by simp)).cell]; exact h
  refine ⟨[.int .i64 0, .int .i64 0, .int .i64 0, .int .i64 1, .int .i64 3, .int .i64 0, .string ⟨#[]⟩, .int .u64 0, .slice none 0 0, .int .i64 0, .int .i64 0, .int .i64 0, .int .i64 0, .int .u64 0, .string ⟨#[]⟩, .string ⟨#[]⟩], [.int .i64 1, .int .i64 0, .int .i64 2, .int .i64 4, .int .i64 5, .int .i64 0, .string ⟨#[]⟩, .int .u64 0, .slice none 0 0, .int .i64 0, .int .i64 0, .int .i64 0, .int .i64 0, .int .u64 0, .string ⟨#[]⟩, .string ⟨#[]⟩], fun w' k => run_loadCellsFrom_list _ _ _ _ 16 rfl fun j u hj => ?_, fun w' k => run_loadCellsFrom_list _ _ _ _ 16 rfl fun j u hj => ?_,
    fun w' k => (aw_chk (k.blk hb (by simp))).mono fun e w'' h => ⟨h.1, k.trans h.2 (by simp)⟩, fun w' k => (aw_ovl (k.blk hb (by simp))).mono fun e w'' h => ⟨h.1, k.trans h.2 (by simp)⟩,
    fun w' k => (aw_p12 w').mono fun e w'' h => ⟨h.1, k.trans h.2 (by simp)⟩, fun w' k => (aw_p21 w').mono fun e w'' h => ⟨h.1, k.trans h.2 (by simp)⟩, fun w' k => (aw_ord (k.blk hb (by simp))).mono fun e w'' h => ⟨h.1, k.trans h.2 (by simp)⟩⟩
  · rw [Addr.add_lit, Nat.zero_add]
    refine cel w' k j u ?_
    have hl := (List.getElem?_eq_some_iff.1 hj).1
    rw [show ([.int .i64 0, .int .i64 0, .int .i64 0, .int .i64 1, .int .i64 3, .int .i64 0, .string ⟨#[]⟩, .int .u64 0, .slice none 0 0, .int .i64 0, .int .i64 0, .int .i64 0, .int .i64 0, .int .u64 0, .string ⟨#[]⟩, .string ⟨#[]⟩, .int .i64 1, .int .i64 0, .int .i64 2, .int .i64 4, .int .i64 5, .int .i64 0, .string ⟨#[]⟩, .int .u64 0, .slice none 0 0, .int .i64 0, .int .i64 0, .int .i64 0, .int .i64 0, .int .u64 0, .string ⟨#[]⟩, .string ⟨#[]⟩] : List Value) = [.int .i64 0, .int .i64 0, .int .i64 0, .int .i64 1, .int .i64 3, .int .i64 0, .string ⟨#[]⟩, .int .u64 0, .slice none 0 0, .int .i64 0, .int .i64 0, .int .i64 0, .int .i64 0, .int .u64 0, .string ⟨#[]⟩, .string ⟨#[]⟩] ++ [.int .i64 1, .int .i64 0, .int .i64 2, .int .i64 4, .int .i64 5, .int .i64 0, .string ⟨#[]⟩, .int .u64 0, .slice none 0 0, .int .i64 0, .int .i64 0, .int .i64 0, .int .i64 0, .int .u64 0, .string ⟨#[]⟩, .string ⟨#[]⟩] from rfl, List.getElem?_append_left hl]; exact hj
  · rw [Addr.add_lit]
    refine cel w' k (16 + j) u ?_
    rw [show ([.int .i64 0, .int .i64 0, .int .i64 0, .int .i64 1, .int .i64 3, .int .i64 0, .string ⟨#[]⟩, .int .u64 0, .slice none 0 0, .int .i64 0, .int .i64 0, .int .i64 0, .int .i64 0, .int .u64 0, .string ⟨#[]⟩, .string ⟨#[]⟩, .int .i64 1, .int .i64 0, .int .i64 2, .int .i64 4, .int .i64 5, .int .i64 0, .string ⟨#[]⟩, .int .u64 0, .slice none 0 0, .int .i64 0, .int .i64 0, .int .i64 0, .int .i64 0, .int .u64 0, .string ⟨#[]⟩, .string ⟨#[]⟩] : List Value) = [.int .i64 0, .int .i64 0, .int .i64 0, .int .i64 1, .int .i64 3, .int .i64 0, .string ⟨#[]⟩, .int .u64 0, .slice none 0 0, .int .i64 0, .int .i64 0, .int .i64 0, .int .i64 0, .int .u64 0, .string ⟨#[]⟩, .string ⟨#[]⟩] ++ [.int .i64 1, .int .i64 0, .int .i64 2, .int .i64 4, .int .i64 5, .int .i64 0, .string ⟨#[]⟩, .int .u64 0, .slice none 0 0, .int .i64 0, .int .i64 0, .int .i64 0, .int .i64 0, .int .u64 0, .string ⟨#[]⟩, .string ⟨#[]⟩] from rfl, List.getElem?_append_right (by simp), show 16 + j - ([.int .i64 0, .int .i64 0, .int .i64 0, .int .i64 1, .int .i64 3, .int .i64 0, .string ⟨#[]⟩, .int .u64 0, .slice none 0 0, .int .i64 0, .int .i64 0, .int .i64 0, .int .i64 0, .int .u64 0, .string ⟨#[]⟩, .string ⟨#[]⟩] : List Value).length = j by simp]; exact hj
set_option maxHeartbeats 8000000 in
theorem awake_any (w : World) : Calls Try.prog 8 #[] w fun e w' => e = .returned (.bool true) ∧ Keeps [] w w' := by
  have mixed : Try.prog.follows .mixedOrders = true := by kernel_rfl
  go_enter Try.func8, Try.ntmps8
  go_upto_region 2 with fail
  have hb := Blk.new w [.int .i64 0, .int .i64 0, .int .i64 0, .int .i64 1, .int .i64 3, .int .i64 0, .string ⟨#[]⟩, .int .u64 0, .slice none 0 0, .int .i64 0, .int .i64 0, .int .i64 0, .int .i64 0, .int .u64 0, .string ⟨#[]⟩, .string ⟨#[]⟩, .int .i64 1, .int .i64 0, .int .i64 2, .int .i64 4, .int .i64 5, .int .i64 0, .string ⟨#[]⟩, .int .u64 0, .slice none 0 0, .int .i64 0, .int .i64 0, .int .i64 0, .int .i64 0, .int .u64 0, .string ⟨#[]⟩, .string ⟨#[]⟩] 36
  have K0 : Keeps [] w (w.alloc (.cells #[.int .i64 0, .int .i64 0, .int .i64 0, .int .i64 1, .int .i64 3, .int .i64 0, .string ⟨#[]⟩, .int .u64 0, .slice none 0 0, .int .i64 0, .int .i64 0, .int .i64 0, .int .i64 0, .int .u64 0, .string ⟨#[]⟩, .string ⟨#[]⟩, .int .i64 1, .int .i64 0, .int .i64 2, .int .i64 4, .int .i64 5, .int .i64 0, .string ⟨#[]⟩, .int .u64 0, .slice none 0 0, .int .i64 0, .int .i64 0, .int .i64 0, .int .i64 0, .int .u64 0, .string ⟨#[]⟩, .string ⟨#[]⟩] 36)) := (Keeps.refl [] w).alloc _
  generalize hg : w.heap.size = g at hb ⊢
  generalize hW : w.alloc (.cells #[.int .i64 0, .int .i64 0, .int .i64 0, .int .i64 1, .int .i64 3, .int .i64 0, .string ⟨#[]⟩, .int .u64 0, .slice none 0 0, .int .i64 0, .int .i64 0, .int .i64 0, .int .i64 0, .int .u64 0, .string ⟨#[]⟩, .string ⟨#[]⟩, .int .i64 1, .int .i64 0, .int .i64 2, .int .i64 4, .int .i64 5, .int .i64 0, .string ⟨#[]⟩, .int .u64 0, .slice none 0 0, .int .i64 0, .int .i64 0, .int .i64 0, .int .i64 0, .int .u64 0, .string ⟨#[]⟩, .string ⟨#[]⟩] 36) = W at hb K0 ⊢
  clear hg hW
  go_cut [0] (fun s wx => s = .bool true ∧ Keeps [] W wx)
  case first =>
    obtain ⟨P, hP⟩ : ∃ P, Try.prog = P := ⟨_, rfl⟩
    obtain ⟨kc, hkc⟩ : ∃ kc, 16 = kc := ⟨_, rfl⟩
    have LL := sl
    have e10 : ∀ args w, (callFunc 10 args).run Try.prog w = .ok (.enter 10 args) w := enters_of Try.func10 (by kernel_rfl) rfl
    have e15 : ∀ args w, (callFunc 15 args).run Try.prog w = .ok (.enter 15 args) w := enters_of Try.func15 (by kernel_rfl) rfl
    have e14 : ∀ args w, (callFunc 14 args).run Try.prog w = .ok (.enter 14 args) w := enters_of Try.func14 (by kernel_rfl) rfl
    have e13 : ∀ args w, (callFunc 13 args).run Try.prog w = .ok (.enter 13 args) w := enters_of Try.func13 (by kernel_rfl) rfl
    rw [hP, hkc] at LL
    rw [hP] at mixed e10 e13 e14 e15 ⊢
    obtain ⟨cA, cB, lA, lB, f10, f15, fab, fba, f13⟩ := aw_facts hb P hP kc hkc
    have LA := Lib.hid lA
    have LB := Lib.hid lB
    have F10 := Lib.hid f10
    have F15 := Lib.hid f15
    have FAB := Lib.hid fab
    have FBA := Lib.hid fba
    have F13 := Lib.hid f13
    have t3 := LL.t3; have a3 := LL.a3; have z3 := LL.z3; have v3 := LL.v3; have t4 := LL.t4; have a4 := LL.a4; have z4 := LL.z4; have v4 := LL.v4; have t22 := LL.t22; have a22 := LL.a22; have z22 := LL.z22; have v22 := LL.v22; have aE := LL.aE; have zE := LL.zE
    have kd : Keeps [] W W.drew := (Keeps.refl [] W).drew
    clear hP hkc hb lA lB f10 f15 fab fba f13 K0 LL
    generalize (Value.agg #[.int .i64 0, .int .i64 0, .int .i64 0, .int .i64 1, .int .i64 3, .int .i64 0, .string ⟨#[]⟩, .int .u64 0, .slice none 0 0, .int .i64 0, .int .i64 0, .int .i64 0, .int .i64 0, .int .u64 0, .string ⟨#[]⟩, .string ⟨#[]⟩]) = va
    generalize (Value.agg #[.int .i64 1, .int .i64 0, .int .i64 2, .int .i64 4, .int .i64 5, .int .i64 0, .string ⟨#[]⟩, .int .u64 0, .slice none 0 0, .int .i64 0, .int .i64 0, .int .i64 0, .int .i64 0, .int .u64 0, .string ⟨#[]⟩, .string ⟨#[]⟩]) = vb
    go_region_law_o (go_simp; first
      | (go_at_call 10
         refine (F10.out _ kd).mono ?_
         rintro e w1 ⟨rfl, k1⟩)
      | (go_at_call 15
         refine (F15.out _ k1).mono ?_
         rintro e w2 ⟨rfl, k2⟩
         have la2 := LA.out w2 k2
         have lb2 := LB.out w2 k2)
      | (go_at_call 14
         refine (FAB.out _ k2).mono ?_
         rintro e w3 ⟨rfl, k3⟩
         have la3 := LA.out w3 k3
         have lb3 := LB.out w3 k3)
      | (go_at_call 14
         refine (FBA.out _ k3).mono ?_
         rintro e w4 ⟨rfl, k4⟩)
      | (go_at_call 13
         refine (F13.out _ k4).mono ?_
         rintro e w5 ⟨⟨A5, c5, rfl⟩, k5⟩))
    all_goals (
      go_wp2_with fail
      go_meet
      exact ⟨rfl, k5⟩)
  case rest =>
  obtain ⟨rfl, k⟩ := hcut
  go_wp2_with fail
  go_ret
  exact ⟨rfl, K0.trans k (by simp)⟩
end Go.Proofs.Ytjlgodaiciopaaa
