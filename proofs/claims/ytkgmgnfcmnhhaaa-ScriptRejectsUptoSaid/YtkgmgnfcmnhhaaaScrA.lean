/- The reader of package script: its state in memory, and the contracts of fail and byte. -/
import Derived.Test.YtkgmgnfcmnhhaaaProg
import Derived.Test.YtkgmgnfcmnhhaaaWorld
import Derived.Test.YtkgmgnfcmnhhaaaScrS
import Derived.Deep.QuietTactic
import Derived.BigQuiet
namespace Go.Proofs.Ytkgmgnfcmnhhaaa
open Go.RowKit
set_option linter.unusedSectionVars false
set_option linter.unusedVariables false
set_option linter.unusedSimpArgs false
def vB (c : UInt8) : Value := .int .u8 (c.toNat : Int)
/-- The slice v holds the bytes L, behind block g they do not lie. -/
def Bys (w : World) (g : Nat) (v : Value) (L : Str) : Prop := ∃ A cap b o, v = .slice A L.length cap ∧ (0 < L.length → A = some ⟨b, o, none⟩) ∧ Arr w b o (L.map vB) ∧ (0 < L.length → b < g) ∧ L.length ≤ cap ∧ cap ≤ 9223372036854775807
/-- The reader at block g: what is left to be read, and the error. -/
def Rst (w : World) (g : Nat) (L : Str) (e : Int) : Prop := ∃ v, Blk w g [v, .int .i64 e] ∧ Bys w g v L
theorem Arr.keepsIf {S : List Nat} {w w' : World} {b o : Nat} {xs : List Value} (h : Arr w b o xs) (k : Keeps S w w') (hn : 0 < xs.length → b ∉ S) : Arr w' b o xs := by
  cases xs with
  | nil => exact ⟨fun i hi => absurd hi (Nat.not_lt_zero i), fun h => absurd h (Nat.lt_irrefl 0)⟩
  | cons x xs => exact h.keeps k (hn (by simp))
theorem Bys.keeps {S : List Nat} {w w' : World} {g : Nat} {v : Value} {L : Str} (h : Bys w g v L) (k : Keeps S w w') (hS : ∀ s ∈ S, g ≤ s) : Bys w' g v L := by
  obtain ⟨A, cap, b, o, h1, h2, h3, h4, h5, h6⟩ := h
  exact ⟨A, cap, b, o, h1, h2, h3.keepsIf k (fun h0 hm => by have := hS b hm; have := h4 (by simpa using h0); omega), h4, h5, h6⟩
theorem fail_any (w : World) (g : Nat) (L : Str) (e x : Int) (h : Rst w g L e) :
    Calls Try.prog 28 #[.pointer (some ⟨g, 0, none⟩), .int .i64 x] w fun q w' => q = .returned (.tuple #[]) ∧ Rst w' g L (if e = 0 then x else e) ∧ Keeps [g] w w' := by
  obtain ⟨v, hb, hv⟩ := h
  obtain ⟨c0, c1, hf, hl⟩ := hb.o2
  by_cases h0 : e = 0
  · subst h0
    rw [if_pos rfl]
    go_enter Try.func28, Try.ntmps28
    go_wp2
    go_end0
    have k := (Keeps.refl [g] w).setCell ⟨g, 1, none⟩ (.int .i64 x) (.inl (by simp))
    exact ⟨rfl, ⟨v, hb.set 1 _, hv.keeps k (by simp)⟩, k⟩
  · rw [if_neg h0]
    go_enter Try.func28, Try.ntmps28
    go_wp2
    go_end0
    exact ⟨rfl, ⟨v, hb, hv⟩, Keeps.refl _ _⟩
theorem Arr.tail {w : World} {b o : Nat} {x : Value} {xs : List Value} (h : Arr w b o (x :: xs)) : Arr w b (o + 1) xs := by
  refine ⟨fun i hi => ?_, fun hp => h.2 (by simp)⟩
  have := h.1 (i + 1) (by simpa using hi)
  simpa [Nat.add_assoc, Nat.add_comm 1 i] using this
/-- What byte answers, and what it leaves. -/
def byteOf (L : Str) (e : Int) : UInt8 × Str × Int := if e ≠ 0 then (0, L, e) else match L with
  | [] => (0, [], 11)
  | c :: r => (c, r, 0)
theorem byte_err (w : World) (g : Nat) (L : Str) (e : Int) (h : Rst w g L e) (he : e ≠ 0) :
    Calls Try.prog 36 #[.pointer (some ⟨g, 0, none⟩)] w fun q w' => q = .returned (vB 0) ∧ Rst w' g L e ∧ Keeps [g] w w' := by
  obtain ⟨v, hb, hv⟩ := h
  obtain ⟨c0, c1, hf, hl⟩ := hb.o2
  go_enter Try.func36, Try.ntmps36
  go_wp2
  go_ret
  exact ⟨rfl, ⟨v, hb, hv⟩, Keeps.refl _ _⟩
theorem byte_nil (w : World) (g : Nat) (h : Rst w g [] 0) :
    Calls Try.prog 36 #[.pointer (some ⟨g, 0, none⟩)] w fun q w' => q = .returned (vB 0) ∧ Rst w' g [] 11 ∧ Keeps [g] w w' := by
  have hh := h
  obtain ⟨v, hb, A, cap, b, o, rfl, hA, hx, hn, hc, hm⟩ := h
  obtain ⟨c0, c1, hf, hl⟩ := hb.o2
  simp only [List.length_nil] at c0
  go_enter Try.func36, Try.ntmps36
  go_wp2_with fail
  refine (fail_any _ g [] 0 11 hh).mono ?_
  rintro q w' ⟨rfl, h1, k⟩
  rw [if_pos rfl] at h1
  go_wp2
  go_ret
  exact ⟨rfl, h1, k⟩
theorem byte_cons (w : World) (g : Nat) (c : UInt8) (L : Str) (h : Rst w g (c :: L) 0) :
    Calls Try.prog 36 #[.pointer (some ⟨g, 0, none⟩)] w fun q w' => q = .returned (vB c) ∧ Rst w' g L 0 ∧ Keeps [g] w w' := by
  obtain ⟨v, hb, A, cap, b, o, rfl, hA, hx, hn, hc, hm⟩ := h
  obtain ⟨c0, c1, hf, hl⟩ := hb.o2
  obtain rfl := hA (by simp)
  have hn' : b < g := hn (by simp)
  simp only [List.length_cons] at c0 hc hb
  have hx0 := hx.1 0 (by simp)
  simp only [List.map_cons, List.getElem?_cons_zero, Nat.add_zero] at hx0
  go_enter Try.func36, Try.ntmps36
  have k := fun v => (Keeps.refl [g] w).setCell ⟨g, 0, none⟩ v (.inl (by simp))
  go_wp2
  all_goals go_ret
  all_goals exact ⟨rfl, ⟨_, hb.set 0 _, ⟨_, _, b, o + 1, rfl, fun hp => by first | rfl | (exfalso; omega), hx.tail.keepsIf (k _) (fun h0 => by simp; omega), fun h0 => hn', by omega, by omega⟩⟩, k _⟩
theorem byte_any (w : World) (g : Nat) (L : Str) (e : Int) (h : Rst w g L e) :
    Calls Try.prog 36 #[.pointer (some ⟨g, 0, none⟩)] w fun q w' => q = .returned (vB (byteOf L e).1) ∧ Rst w' g (byteOf L e).2.1 (byteOf L e).2.2 ∧ Keeps [g] w w' := by
  unfold byteOf
  by_cases he : e = 0
  · subst he
    rw [if_neg (by simp)]
    cases L with
    | nil => exact byte_nil w g h
    | cons c L => exact byte_cons w g c L h
  · rw [if_pos he]
    exact byte_err w g L e h he
end Go.Proofs.Ytkgmgnfcmnhhaaa
