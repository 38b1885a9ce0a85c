/- The reader of package script: a state that is either what is left to be read or an error, and the contracts of byte, varint, int, length and text from any such state. -/
import Derived.Test.YtkgmgnfcmnhhaaaScrE
namespace Go.Proofs.Ytkgmgnfcmnhhaaa
open Go.RowKit
set_option linter.unusedSectionVars false
set_option linter.unusedVariables false
set_option linter.unusedSimpArgs false
set_option maxRecDepth 20000
/-- What a reader leaves, and the value it answers where there is no error. -/
def aft {α : Type} (s : Except Nat Str) (R : Str → Rd α) : Except Nat Str := match s with
  | .error e => .error e
  | .ok L => match R L with
    | .error e => .error e
    | .ok (_, r) => .ok r
def vls {α : Type} (s : Except Nat Str) (R : Str → Rd α) (x : α) : Prop := ∀ L, s = .ok L → ∀ y r, R L = .ok (y, r) → y = x
/-- The error x, if there is none yet. -/
def fl (s : Except Nat Str) (x : Nat) : Except Nat Str := match s with
  | .ok _ => .error x
  | .error e => .error e
/-- The reader at block g in such a state. -/
def Rs (w : World) (g : Nat) (s : Except Nat Str) : Prop := match s with
  | .ok L => Rst w g L 0
  | .error e => e ≠ 0 ∧ ∃ L, Rst w g L e
theorem aft_err {α : Type} (e : Nat) (R : Str → Rd α) : aft (.error e) R = .error e := rfl
theorem vls_err {α : Type} (e : Nat) (R : Str → Rd α) (x : α) : vls (.error e) R x := fun L h => by simp at h
theorem aft_map {α β : Type} (s : Except Nat Str) (g : α → β) (R : Str → Rd α) : aft s (mapR g R) = aft s R := by
  cases s with
  | error e => rfl
  | ok L =>
    simp only [aft, mapR]
    cases R L with
    | error e => rfl
    | ok z => rfl
theorem vls_map {α β : Type} {s : Except Nat Str} (g : α → β) {R : Str → Rd α} {x : α} (h : vls s R x) : vls s (mapR g R) (g x) := by
  intro L hL y r hy
  simp only [mapR] at hy
  cases hR : R L with
  | error e => simp [hR] at hy
  | ok z =>
    obtain ⟨x', r'⟩ := z
    simp only [hR, Except.ok.injEq, Prod.mk.injEq] at hy
    rw [← hy.1, h L hL x' r' hR]
theorem aft_seq {α β : Type} {s : Except Nat Str} {P : Str → Rd α} {Q : α → Str → Rd β} {x : α} (h : vls s P x) : aft s (seqR P Q) = aft (aft s P) (Q x) := by
  cases s with
  | error e => rfl
  | ok L =>
    simp only [aft, seqR]
    cases hP : P L with
    | error e => rfl
    | ok z =>
      obtain ⟨x', r'⟩ := z
      obtain rfl := h L rfl x' r' hP
      simp only
      cases Q x' r' with
      | error e => rfl
      | ok z => rfl
theorem vls_seq {α β : Type} {s : Except Nat Str} {P : Str → Rd α} {Q : α → Str → Rd β} {x : α} {y : β} (h : vls s P x) (h2 : vls (aft s P) (Q x) y) : vls s (seqR P Q) (x, y) := by
  intro L hL z r hz
  simp only [seqR] at hz
  cases hP : P L with
  | error e => simp [hP] at hz
  | ok t =>
    obtain ⟨x', r'⟩ := t
    obtain rfl := h L hL x' r' hP
    simp only [hP] at hz
    cases hQ : Q x' r' with
    | error e => simp [hQ] at hz
    | ok t =>
      obtain ⟨y', r2⟩ := t
      simp only [hQ, Except.ok.injEq, Prod.mk.injEq] at hz
      rw [← hz.1, h2 r' (by subst hL; simp [aft, hP]) y' r2 hQ]
theorem aft_rep0 {α : Type} (s : Except Nat Str) (Q : Str → Rd α) : aft s (repR Q 0) = s := by cases s <;> rfl
theorem vls_rep0 {α : Type} (s : Except Nat Str) (Q : Str → Rd α) : vls s (repR Q 0) [] := fun L _ y r h => by
  simp only [repR, Except.ok.injEq, Prod.mk.injEq] at h
  exact h.1.symm
theorem repR_succ {α : Type} (Q : Str → Rd α) (n : Nat) : repR Q (n + 1) = mapR (fun z => z.1 :: z.2) (seqR Q fun _ => repR Q n) := by funext b; rw [repR]
theorem aft_byte {s : Except Nat Str} (f : Nat → Bool) {c : UInt8} (h : vls s (rB fun _ => true) c) :
    aft s (rB f) = if f c.toNat = true then aft s (rB fun _ => true) else fl (aft s (rB fun _ => true)) 12 := by
  cases s with
  | error e => simp [aft, fl]
  | ok L =>
    cases L with
    | nil => simp [aft, rB, fl]
    | cons a L =>
      have := h _ rfl a L (by simp [rB])
      subst this
      simp only [aft, rB, if_true, fl]
      split
      · rename_i e he
        split at he
        · simp at he
        · rename_i hf
          rw [if_neg hf]
          simpa using he.symm
      · rename_i y r he
        split at he
        · rename_i hf
          rw [if_pos hf]
          simp only [Except.ok.injEq, Prod.mk.injEq] at he
          rw [he.2]
        · simp at he
theorem vls_byte {s : Except Nat Str} (f : Nat → Bool) {c : UInt8} (h : vls s (rB fun _ => true) c) : vls s (rB f) c := by
  intro L hL y r hy
  subst hL
  cases L with
  | nil => simp [rB] at hy
  | cons a L =>
    have := h _ rfl a L (by simp [rB])
    subst this
    simp only [rB] at hy
    split at hy
    · simp only [Except.ok.injEq, Prod.mk.injEq] at hy; exact hy.1.symm
    · simp at hy
theorem aft_repS {α : Type} {s : Except Nat Str} {Q : Str → Rd α} {n : Nat} {x : α} (h : vls s Q x) : aft s (repR Q (n + 1)) = aft (aft s Q) (repR Q n) := by
  rw [repR_succ, aft_map, aft_seq h]
theorem vls_repS {α : Type} {s : Except Nat Str} {Q : Str → Rd α} {n : Nat} {x : α} {l : List α} (h : vls s Q x) (h2 : vls (aft s Q) (repR Q n) l) : vls s (repR Q (n + 1)) (x :: l) := by
  rw [repR_succ]
  exact vls_map (fun z => z.1 :: z.2) (vls_seq (Q := fun _ => repR Q n) h h2)
theorem list_seq {α : Type} (Q : Str → Rd α) : rList Q = mapR (fun z => z.2) (seqR rLen (repR Q)) := by
  funext b
  simp only [rList, mapR, seqR]
  cases rLen b with
  | error e => rfl
  | ok z =>
    obtain ⟨n, r⟩ := z
    simp only
    cases repR Q n r with
    | error e => rfl
    | ok z => rfl
theorem aft_list {α : Type} {s : Except Nat Str} {Q : Str → Rd α} {n : Nat} (h : vls s rLen n) : aft s (rList Q) = aft (aft s rLen) (repR Q n) := by
  rw [list_seq, aft_map, aft_seq h]
theorem vls_list {α : Type} {s : Except Nat Str} {Q : Str → Rd α} {n : Nat} {l : List α} (h : vls s rLen n) (h2 : vls (aft s rLen) (repR Q n) l) : vls s (rList Q) l := by
  rw [list_seq]
  exact vls_map (fun z => z.2) (vls_seq h h2)
theorem aft_errs {α : Type} {s : Except Nat Str} {R : Str → Rd α} {e : Nat} (h : s = .error e) : aft s R = .error e := by subst h; rfl
/-- The error's cell. -/
theorem Rs.cell {w : World} {g : Nat} {s : Except Nat Str} (h : Rs w g s) : ∃ e : Nat, w.cell? ⟨g, 1, none⟩ = some (.int .i64 (e : Int)) ∧ (e = 0 ↔ ∃ L, s = .ok L) := by
  cases s with
  | ok L => exact ⟨0, Rst.err h, by simp⟩
  | error e =>
    obtain ⟨h0, L, h1⟩ := h
    exact ⟨e, h1.err, by simp [h0]⟩
theorem Rs.lt {w : World} {g : Nat} {s : Except Nat Str} (h : Rs w g s) : g < w.heap.size := by
  cases s with
  | ok L => obtain ⟨v, h1, _⟩ := h; exact h1.lt
  | error e => obtain ⟨_, L, v, h1, _⟩ := h; exact h1.lt
theorem Rst.keeps {w w' : World} {g : Nat} {L : Str} {e : Int} {S : List Nat} (h : Rst w g L e) (k : Keeps S w w') (hS : ∀ s ∈ S, g < s) : Rst w' g L e := by
  obtain ⟨v, h1, h2⟩ := h
  exact ⟨v, k.blk h1 (fun hm => by have := hS g hm; omega), h2.keeps k (fun s hs => by have := hS s hs; omega)⟩
theorem Rs.keepsS {w w' : World} {g : Nat} {s : Except Nat Str} {S : List Nat} (h : Rs w g s) (k : Keeps S w w') (hS : ∀ s ∈ S, g < s) : Rs w' g s := by
  cases s with
  | ok L => exact Rst.keeps h k hS
  | error e => exact ⟨h.1, h.2.choose, h.2.choose_spec.keeps k hS⟩
theorem Rs.keeps {w w' : World} {g : Nat} {s : Except Nat Str} (h : Rs w g s) (k : Keeps [] w w') : Rs w' g s := h.keepsS k (by simp)
/-- The common shape of a reader's contract. -/
def RdQ {α : Type} (w : World) (g : Nat) (s : Except Nat Str) (R : Str → Rd α) (val : α → Value) (q : Ending) (w' : World) : Prop :=
  ∃ x, q = .returned (val x) ∧ Keeps [g] w w' ∧ Rs w' g (aft s R) ∧ vls s R x
theorem rdQ_of {α : Type} {w w' : World} {g : Nat} {L : Str} {R : Str → Rd α} {val : α → Value} {z : α} {q : Ending} (h : RdPost (R L) w g val (fun v => v = val z) q w') : RdQ w g (.ok L) R val q w' := by
  obtain ⟨k, h⟩ := h
  cases hR : R L with
  | error e =>
    rw [hR] at h
    obtain ⟨⟨v, rfl, rfl⟩, h0, h1⟩ := h
    refine ⟨z, rfl, k, by simp only [aft, hR]; exact ⟨h0, h1⟩, fun L' hL y r hy => ?_⟩
    simp only [Except.ok.injEq] at hL
    subst hL
    simp [hR] at hy
  | ok t =>
    obtain ⟨x, r⟩ := t
    rw [hR] at h
    refine ⟨x, h.1, k, by simp only [aft, hR]; exact h.2, fun L' hL y r' hy => ?_⟩
    simp only [Except.ok.injEq] at hL
    subst hL
    simp only [hR, Except.ok.injEq, Prod.mk.injEq] at hy
    exact hy.1.symm
theorem rdQ_err {α : Type} {w w' : World} {g : Nat} {L : Str} {e : Nat} {R : Str → Rd α} {val : α → Value} {z : α} {q : Ending} (he : e ≠ 0) (h : q = .returned (val z) ∧ Rst w' g L e ∧ Keeps [g] w w') : RdQ w g (.error e) R val q w' :=
  ⟨z, h.1, h.2.2, ⟨he, L, h.2.1⟩, vls_err _ _ _⟩
variable (w : World) (g : Nat)
theorem txt_err (L : Str) (e : Int) (h : Rst w g L e) (he : e ≠ 0) :
    Calls Try.prog 41 #[.pointer (some ⟨g, 0, none⟩)] w fun q w' => q = .returned (.string ⟨#[]⟩) ∧ Rst w' g L e ∧ Keeps [g] w w' := by
  have hv := len_err w g L e h he
  go_enter Try.func41, Try.ntmps41
  go_wp2_with fail
  refine hv.mono ?_
  rintro q w1 ⟨rfl, h1, k1⟩
  have e1 := h1.err
  go_wp2
  all_goals go_ret
  all_goals exact ⟨rfl, h1, k1⟩
variable {s : Except Nat Str} (h : Rs w g s)
include h
theorem txtQ : Calls Try.prog 41 #[.pointer (some ⟨g, 0, none⟩)] w (RdQ w g s rTxt (fun t => .string ⟨t.toArray⟩)) := by
  cases s with
  | ok L => exact (txt_ok w g L h).mono fun q w' hq => rdQ_of (z := []) hq
  | error e => exact (txt_err w g _ e h.2.choose_spec (by have := h.1; omega)).mono fun q w' hq => rdQ_err (z := []) h.1 hq
theorem intQ : Calls Try.prog 24 #[.pointer (some ⟨g, 0, none⟩)] w (RdQ w g s rInt (fun n => .int .i64 n)) := by
  cases s with
  | ok L => exact (int_ok w g L h).mono fun q w' hq => rdQ_of (z := 0) hq
  | error e => exact (int_err w g _ e h.2.choose_spec (by have := h.1; omega)).mono fun q w' hq => rdQ_err (z := 0) h.1 hq
theorem varQ : Calls Try.prog 25 #[.pointer (some ⟨g, 0, none⟩)] w (RdQ w g s (rv 0) (fun u => .int .u64 (u : Int))) := by
  cases s with
  | ok L => exact (varint_ok w g L h).mono fun q w' hq => rdQ_of (z := 0) hq
  | error e => exact (varint_err w g _ e h.2.choose_spec (by have := h.1; omega)).mono fun q w' hq => rdQ_err (z := 0) h.1 hq
theorem lenQ : Calls Try.prog 27 #[.pointer (some ⟨g, 0, none⟩)] w (RdQ w g s rLen (fun n => .int .i64 (n : Int))) := by
  cases s with
  | ok L => exact (len_ok w g L h).mono fun q w' hq => rdQ_of (z := 0) hq
  | error e => exact (len_err w g _ e h.2.choose_spec (by have := h.1; omega)).mono fun q w' hq => rdQ_err (z := 0) h.1 hq
/-- A byte; where there is an error, the answer is 0. -/
theorem byteQ : Calls Try.prog 36 #[.pointer (some ⟨g, 0, none⟩)] w fun q w' => ∃ c : UInt8, q = .returned (vB c) ∧ Keeps [g] w w' ∧ Rs w' g (aft s (rB fun _ => true)) ∧ vls s (rB fun _ => true) c ∧ (∀ e, aft s (rB fun _ => true) = .error e → c = 0) := by
  cases s with
  | ok L =>
    cases L with
    | nil => exact (byte_nil w g h).mono fun q w' hq => ⟨0, hq.1, hq.2.2, ⟨by omega, [], hq.2.1⟩, fun L hL y r hy => by simp only [Except.ok.injEq] at hL; subst hL; simp [rB] at hy, fun _ _ => rfl⟩
    | cons c L => exact (byte_cons w g c L h).mono fun q w' hq => ⟨c, hq.1, hq.2.2, hq.2.1, fun L hL y r hy => by
        simp only [Except.ok.injEq] at hL; subst hL
        simp only [rB, if_true, Except.ok.injEq, Prod.mk.injEq] at hy
        exact hy.1.symm, fun e he => by simp [aft, rB] at he⟩
  | error e => exact (byte_err w g _ e h.2.choose_spec (by have := h.1; omega)).mono fun q w' hq => ⟨0, hq.1, hq.2.2, ⟨h.1, _, hq.2.1⟩, vls_err _ _ _, fun _ _ => rfl⟩
theorem failQ (x : Nat) (hx : x ≠ 0) : Calls Try.prog 28 #[.pointer (some ⟨g, 0, none⟩), .int .i64 (x : Int)] w fun q w' => q = .returned (.tuple #[]) ∧ Keeps [g] w w' ∧ Rs w' g (fl s x) := by
  cases s with
  | ok L => exact (fail_any w g L 0 x h).mono fun q w' hq => ⟨hq.1, hq.2.2, hx, L, by have := hq.2.1; rwa [if_pos rfl] at this⟩
  | error e => exact (fail_any w g _ e x h.2.choose_spec).mono fun q w' hq => ⟨hq.1, hq.2.2, h.1, _, by have := hq.2.1; rwa [if_neg (by have := h.1; omega)] at this⟩
end Go.Proofs.Ytkgmgnfcmnhhaaa
