/- Scripts as bytes: written, read, and the laws. No program. -/
import Derived.Test.YtjmhnlbkfbieaaaGreatScrR
namespace Go.Proofs.YtjmhnlbkfbieaaaGreat
set_option linter.unusedVariables false
set_option linter.unusedSimpArgs false
/-- What a reader's error is: 1 (not valid), 11 (too short), 12 (not of the form). -/
def Er {α : Type} (P : Str → Rd α) : Prop := ∀ b e, P b = .error e → e = 1 ∨ e = 11 ∨ e = 12
theorem Er.seq {α β : Type} {P : Str → Rd α} {Q : α → Str → Rd β} (h1 : Er P) (h2 : ∀ x, Er (Q x)) : Er (seqR P Q) := by
  intro b e h
  simp only [seqR] at h
  cases hp : P b with
  | error e' =>
    simp only [hp, Except.error.injEq] at h
    exact h ▸ h1 b e' hp
  | ok z =>
    obtain ⟨x, r⟩ := z
    simp only [hp] at h
    cases hq : Q x r with
    | error e' =>
      simp only [hq, Except.error.injEq] at h
      exact h ▸ h2 x r e' hq
    | ok z => simp [hq] at h
theorem Er.map {α β : Type} {P : Str → Rd α} (g : α → β) (h1 : Er P) : Er (mapR g P) := by
  intro b e h
  simp only [mapR] at h
  cases hp : P b with
  | error e' =>
    simp only [hp, Except.error.injEq] at h
    exact h ▸ h1 b e' hp
  | ok z => simp [hp] at h
theorem Er.rep {α : Type} {Q : Str → Rd α} (h : Er Q) : ∀ n, Er (repR Q n)
  | 0 => by intro b e h; simp [repR] at h
  | n + 1 => (h.seq fun _ => h.rep n).map _
theorem er_rv : ∀ (b : Str) (i e : Nat), rv i b = .error e → e = 11 ∨ e = 12
  | [], i, e, h => by simp [rv] at h; omega
  | c :: b, i, e, h => by
    simp only [rv] at h
    split at h
    · simp at h; omega
    · split at h
      · simp at h
      · cases hr : rv (i + 1) b with
        | error e' =>
          simp only [hr, Except.error.injEq] at h
          exact h ▸ er_rv b _ _ hr
        | ok z => simp [hr] at h
theorem er_num : Er (rv 0) := fun b e h => .inr (er_rv b 0 e h)
theorem er_len : Er rLen := by
  intro b e h
  unfold rLen at h
  split at h
  · rename_i e' he
    simp only [Except.error.injEq] at h
    exact h ▸ er_num b e' he
  · split at h
    · simp at h; omega
    · simp at h
theorem Er.list {α : Type} {Q : Str → Rd α} (h : Er Q) : Er (rList Q) := by
  intro b e h'
  unfold rList at h'
  split at h'
  · rename_i e' he
    simp only [Except.error.injEq] at h'
    exact h' ▸ er_len b e' he
  · exact h.rep _ _ _ h'
theorem er_byte (f : Nat → Bool) : Er (rB f) := by
  intro b e h
  cases b with
  | nil => simp [rB] at h; omega
  | cons c b =>
    simp only [rB] at h
    split at h
    · simp at h
    · simp at h; omega
theorem er_int : Er rInt := er_num.map _
theorem er_txt : Er rTxt := by rw [rTxt_list]; exact (er_byte _).list
theorem er_wrt : Er rWrt := (er_txt.seq fun _ => er_txt.seq fun _ => er_byte _).map _
theorem er_body (c : Nat) : Er (rBody c) := by
  unfold rBody
  split
  · exact er_txt.map _
  · exact (er_txt.seq fun _ => er_num).map _
  · exact er_wrt.list.map _
  · exact er_int.map _
  · exact er_int.map _
  · exact (er_int.seq fun _ => er_int).map _
  · exact (er_int.seq fun _ => er_int.seq fun _ => er_txt).map _
  · exact er_int.map _
  · intro b e h; simp at h
theorem er_op : Er rOp := ((er_byte _).seq fun _ => er_body _).map _
/-- A program, and the number of threads. -/
def eProg (l : List Opn) : Str := vi l.length ++ l.flatMap eOp
def rProg : Str → Rd (List Opn) := rList rOp
def ProgOk (l : List Opn) : Prop := l.length < 2 ^ 64 ∧ ∀ x ∈ l, OpnOk x
theorem law_prog : Law rProg eProg ProgOk := law_op.list fun x _ => eOp_pos x
def ePicks (l : List Int) : Str := vi l.length ++ l.flatMap eInt
def PicksOk (l : List Int) : Prop := l.length < 2 ^ 64 ∧ ∀ x ∈ l, IntOk x
theorem law_picks : Law (rList rInt) ePicks PicksOk := law_int.list fun x _ => vi_pos _
def rThr (b : Str) : Rd Nat := match rv 0 b with
  | .error e => .error e
  | .ok (u, r) => if 64 < u then .error 1 else .ok (u, r)
theorem law_thr : Law rThr vi (fun u => u ≤ 64) where
  fwd := fun u t h => by
    simp only [rThr, law_num.fwd u t (by omega)]
    rw [if_neg (by omega)]
  bwd := fun b u r h => by
    simp only [rThr] at h
    cases h1 : rv 0 b with
    | error e => simp [h1] at h
    | ok z =>
      obtain ⟨u', r'⟩ := z
      simp only [h1] at h
      split at h
      · simp at h
      · simp only [Except.ok.injEq, Prod.mk.injEq] at h
        obtain ⟨rfl, rfl⟩ := h
        exact ⟨(law_num.bwd _ _ _ h1).1, by omega⟩
  pre := fun u p q h hp hq => by
    simp only [rThr, law_num.pre u p q (by omega) hp hq]
theorem er_thr : Er rThr := by
  intro b e h
  unfold rThr at h
  split at h
  · rename_i e' he
    simp only [Except.error.injEq] at h
    exact h ▸ er_num b e' he
  · split at h
    · simp at h; omega
    · simp at h
structure Scr where
  th : Nat
  sn : Int
  no : Int
  ch : Int
  re : Int
  fa : Int
  cl : Nat
  ps : List (List Opn)
  pk : List Int
def eScr (x : Scr) : Str :=
  vi x.th ++ (eInt x.sn ++ (eInt x.no ++ (eInt x.ch ++ (eInt x.re ++ (eInt x.fa ++ (vi x.cl ++ (x.ps.flatMap eProg ++ ePicks x.pk)))))))
def ScrOk (x : Scr) : Prop :=
  x.th ≤ 64 ∧ IntOk x.sn ∧ IntOk x.no ∧ IntOk x.ch ∧ IntOk x.re ∧ IntOk x.fa ∧ x.cl < 2 ^ 64 ∧ (x.ps.length = x.th ∧ ∀ l ∈ x.ps, ProgOk l) ∧ PicksOk x.pk
def rScr : Str → Rd Scr :=
  mapR (fun z => ⟨z.1, z.2.1, z.2.2.1, z.2.2.2.1, z.2.2.2.2.1, z.2.2.2.2.2.1, z.2.2.2.2.2.2.1, z.2.2.2.2.2.2.2.1, z.2.2.2.2.2.2.2.2⟩)
    (seqR rThr fun n => seqR rInt fun _ => seqR rInt fun _ => seqR rInt fun _ => seqR rInt fun _ => seqR rInt fun _ => seqR (rv 0) fun _ => seqR (repR rProg n) fun _ => rList rInt)
theorem law_scr : Law rScr eScr ScrOk :=
  (law_thr.seq fun n _ => law_int.seq fun _ _ => law_int.seq fun _ _ => law_int.seq fun _ _ => law_int.seq fun _ _ => law_int.seq fun _ _ => law_num.seq fun _ _ => (law_prog.rep n).seq fun _ _ => law_picks).map _ eScr ScrOk
    (fun y ⟨h1, h2, h3, h4, h5, h6, h7, h8, h9⟩ => ⟨(y.th, y.sn, y.no, y.ch, y.re, y.fa, y.cl, y.ps, y.pk), ⟨h1, h2, h3, h4, h5, h6, h7, h8, h9⟩, rfl⟩)
    (fun x ⟨h1, h2, h3, h4, h5, h6, h7, h8, h9⟩ => ⟨⟨h1, h2, h3, h4, h5, h6, h7, h8, h9⟩, rfl⟩)
theorem er_scr : Er rScr :=
  (er_thr.seq fun _ => er_int.seq fun _ => er_int.seq fun _ => er_int.seq fun _ => er_int.seq fun _ => er_int.seq fun _ => er_num.seq fun _ => (er_op.list.rep _).seq fun _ => er_int.list).map _
/-- What Decode returns, for a test of scripts. -/
def dec (vld : Scr → Bool) (b : Str) : Except Nat Scr := match rScr b with
  | .error e => .error e
  | .ok (x, r) => if r ≠ [] then .error 12 else if vld x then .ok x else .error 1
theorem dec_enc {vld : Scr → Bool} {x : Scr} (hx : ScrOk x) (hv : vld x = true) : dec vld (eScr x) = .ok x := by
  have := law_scr.fwd x [] hx
  rw [List.append_nil] at this
  simp [dec, this, hv]
theorem dec_pre {vld : Scr → Bool} {x : Scr} (hx : ScrOk x) {p q : Str} (h : p ++ q = eScr x) (hq : q ≠ []) : dec vld p = .error 11 := by
  simp [dec, law_scr.pre x p q hx h hq]
theorem dec_more {vld : Scr → Bool} {x : Scr} (hx : ScrOk x) {t : Str} (ht : t ≠ []) : dec vld (eScr x ++ t) = .error 12 := by
  simp [dec, law_scr.fwd x t hx, ht]
theorem dec_ok {vld : Scr → Bool} {b : Str} {x : Scr} (h : dec vld b = .ok x) : vld x = true ∧ b = eScr x ∧ ScrOk x := by
  unfold dec at h
  split at h
  · simp at h
  · rename_i x' r hr
    split at h
    · simp at h
    · rename_i h0
      split at h
      · rename_i hv
        simp only [Except.ok.injEq] at h
        subst h
        obtain ⟨h1, h2⟩ := law_scr.bwd _ _ _ hr
        have : r = [] := Classical.byContradiction h0
        subst this
        exact ⟨hv, by simpa using h1, h2⟩
      · simp at h
theorem dec_err {vld : Scr → Bool} {b : Str} {e : Nat} (h : dec vld b = .error e) : e = 1 ∨ e = 11 ∨ e = 12 := by
  unfold dec at h
  split at h
  · rename_i e' he
    simp only [Except.error.injEq] at h
    exact h ▸ er_scr b e' he
  · split at h
    · simp at h; omega
    · split at h
      · simp at h
      · simp at h; omega
end Go.Proofs.YtjmhnlbkfbieaaaGreat
