/- Operations, programs and scripts as bytes: written, read, and the laws. No program. -/
import Derived.Test.YtjmhnlbkfbieaaaGreatScrQ
namespace Go.Proofs.YtjmhnlbkfbieaaaGreat
set_option linter.unusedVariables false
set_option linter.unusedSimpArgs false
theorem law_num : Law (rv 0) vi (fun u => u < 2 ^ 64) where
  fwd := fun u t h => rv_vi 0 u t (by omega) (by simpa using h) (by omega)
  bwd := fun b u r h => by
    obtain ⟨h1, h2, _⟩ := rv_ok b 0 u r (by omega) h
    exact ⟨h1, by simpa using h2⟩
  pre := fun u p q h hp hq => rv_pre u 0 p q (by omega) (by simpa using h) hp hq
/-- A number of 64 bits as a signed one, and back. -/
def toI (u : Nat) : Int := if u < 2 ^ 63 then (u : Int) else (u : Int) - 2 ^ 64
def ofI (n : Int) : Nat := (n % 2 ^ 64).toNat
def IntOk (n : Int) : Prop := -2 ^ 63 ≤ n ∧ n < 2 ^ 63
theorem ofI_lt (n : Int) : ofI n < 2 ^ 64 := by unfold ofI; omega
theorem toI_ofI {n : Int} (h : IntOk n) : toI (ofI n) = n := by
  unfold toI ofI; unfold IntOk at h
  split <;> omega
theorem ofI_toI {u : Nat} (h : u < 2 ^ 64) : ofI (toI u) = u := by
  unfold toI ofI
  split <;> omega
theorem toI_ok {u : Nat} (h : u < 2 ^ 64) : IntOk (toI u) := by
  unfold toI IntOk
  split <;> omega
def eInt (n : Int) : Str := vi (ofI n)
def rInt : Str → Rd Int := mapR toI (rv 0)
theorem law_int : Law rInt eInt IntOk :=
  law_num.map toI eInt IntOk (fun n h => ⟨ofI n, ofI_lt n, toI_ofI h⟩) (fun u h => ⟨toI_ok h, by unfold eInt; rw [ofI_toI h]⟩)
/-- One byte that passes a test. -/
def rB (f : Nat → Bool) : Str → Rd UInt8
  | [] => .error 11
  | c :: r => if f c.toNat then .ok (c, r) else .error 12
theorem law_byte (f : Nat → Bool) : Law (rB f) (fun c => [c]) (fun c => f c.toNat = true) where
  fwd := fun c t h => by simp [rB, h]
  bwd := fun b c r h => by
    cases b with
    | nil => simp [rB] at h
    | cons x b =>
      simp only [rB] at h
      split at h
      · simp only [Except.ok.injEq, Prod.mk.injEq] at h
        obtain ⟨rfl, rfl⟩ := h
        exact ⟨rfl, by assumption⟩
      · simp at h
  pre := fun c p q h hp hq => by
    cases p with
    | nil => rfl
    | cons x p =>
      simp only [List.cons_append, List.cons.injEq, List.append_eq_nil_iff] at hp
      exact absurd hp.2.2 hq
def eTxt (s : Str) : Str := vi s.length ++ s
def rTxt (b : Str) : Rd Str := match rLen b with
  | .error e => .error e
  | .ok (n, r) => .ok (r.take n, r.drop n)
theorem rep_byte : ∀ (n : Nat) (r : Str), n ≤ r.length → repR (rB fun _ => true) n r = .ok (r.take n, r.drop n)
  | 0, r, _ => by simp [repR]
  | n + 1, [], h => by simp at h
  | n + 1, c :: r, h => by
    simp only [repR, mapR, seqR, rB, if_true]
    rw [rep_byte n r (by simpa using h)]
    simp
theorem rTxt_list : rTxt = rList (rB fun _ => true) := by
  funext b
  unfold rTxt rList
  cases h : rLen b with
  | error e => rfl
  | ok z =>
    obtain ⟨n, r⟩ := z
    simp only
    rw [rep_byte]
    unfold rLen at h
    split at h
    · simp at h
    · split at h
      · simp at h
      · simp only [Except.ok.injEq, Prod.mk.injEq] at h
        obtain ⟨rfl, rfl⟩ := h
        omega
theorem law_txt : Law rTxt eTxt (fun s => s.length < 2 ^ 64) := by
  have h := (law_byte fun _ => true).list (fun x _ => by simp)
  rw [← rTxt_list] at h
  have hf : ∀ l : Str, l.flatMap (fun c => [c]) = l := fun l => by induction l with
    | nil => rfl
    | cons a l ih => simp [List.flatMap_cons, ih]
  exact {
    fwd := fun x t hx => by have := h.fwd x t ⟨hx, by simp⟩; rw [hf] at this; exact this
    bwd := fun b x r hx => by have := h.bwd b x r hx; rw [hf] at this; exact ⟨this.1, this.2.1⟩
    pre := fun x p q hx hp hq => h.pre x p q ⟨hx, by simp⟩ (by rw [hf]; exact hp) hq }
/-- A write. -/
def eWrt (x : Wrt) : Str := eTxt x.k ++ (eTxt x.v ++ [if x.d then 1 else 0])
def WrtOk (x : Wrt) : Prop := x.k.length < 2 ^ 64 ∧ x.v.length < 2 ^ 64
def rWrt : Str → Rd Wrt := mapR (fun z => ⟨z.1, z.2.1, z.2.2 == 1⟩) (seqR rTxt fun _ => seqR rTxt fun _ => rB fun c => decide (c ≤ 1))
theorem law_wrt : Law rWrt eWrt WrtOk :=
  (law_txt.seq fun _ _ => law_txt.seq fun _ _ => law_byte fun c => decide (c ≤ 1)).map _ eWrt WrtOk
    (fun ⟨k, v, d⟩ ⟨h1, h2⟩ => ⟨(k, v, if d then 1 else 0), ⟨h1, h2, by cases d <;> rfl⟩, by cases d <;> rfl⟩)
    (fun ⟨k, v, c⟩ ⟨h1, h2, h3⟩ => ⟨⟨h1, h2⟩, by
      simp only [decide_eq_true_eq] at h3
      have : c = 0 ∨ c = 1 := by
        rcases (by omega : c.toNat = 0 ∨ c.toNat = 1) with h | h
        · exact .inl (UInt8.toNat_inj.1 (by simpa using h))
        · exact .inr (UInt8.toNat_inj.1 (by simpa using h))
      rcases this with rfl | rfl <;> rfl⟩)
theorem eTxt_pos (s : Str) : 0 < (eTxt s).length := by
  have := vi_pos s.length
  unfold eTxt
  simp only [List.length_append]
  omega
theorem eWrt_pos (x : Wrt) : 0 < (eWrt x).length := by
  have := eTxt_pos x.k
  unfold eWrt
  simp only [List.length_append]
  omega
/-- An operation: code, key, time, batch, handle, cursor, move. -/
structure Opn where
  c : Nat
  k : Str := []
  t : Nat := 0
  b : List Wrt := []
  h : Int := 0
  u : Int := 0
  m : Int := 0
def eBatch (b : List Wrt) : Str := vi b.length ++ b.flatMap eWrt
def eBody (x : Opn) : Str := match x.c with
  | 1 => eTxt x.k
  | 2 => eTxt x.k ++ vi x.t
  | 3 => eBatch x.b
  | 4 => eInt x.h
  | 5 => eInt x.h
  | 6 => eInt x.u ++ eInt x.h
  | 7 => eInt x.u ++ (eInt x.m ++ eTxt x.k)
  | 8 => eInt x.u
  | _ => []
def eOp (x : Opn) : Str := UInt8.ofNat x.c :: eBody x
def rBody (c : Nat) : Str → Rd Opn := match c with
  | 1 => mapR (fun k => { c := 1, k := k }) rTxt
  | 2 => mapR (fun z => { c := 2, k := z.1, t := z.2 }) (seqR rTxt fun _ => rv 0)
  | 3 => mapR (fun b => { c := 3, b := b }) (rList rWrt)
  | 4 => mapR (fun h => { c := 4, h := h }) rInt
  | 5 => mapR (fun h => { c := 5, h := h }) rInt
  | 6 => mapR (fun z => { c := 6, u := z.1, h := z.2 }) (seqR rInt fun _ => rInt)
  | 7 => mapR (fun z => { c := 7, u := z.1, m := z.2.1, k := z.2.2 }) (seqR rInt fun _ => seqR rInt fun _ => rTxt)
  | 8 => mapR (fun u => { c := 8, u := u }) rInt
  | c => fun b => .ok ({ c := c }, b)
/-- The fields that an operation's code uses are within their types; the others are zero. -/
def BodyOk (c : Nat) (x : Opn) : Prop := x.c = c ∧ match c with
  | 1 => x = { c := 1, k := x.k } ∧ x.k.length < 2 ^ 64
  | 2 => x = { c := 2, k := x.k, t := x.t } ∧ x.k.length < 2 ^ 64 ∧ x.t < 2 ^ 64
  | 3 => x = { c := 3, b := x.b } ∧ x.b.length < 2 ^ 64 ∧ ∀ y ∈ x.b, WrtOk y
  | 4 => x = { c := 4, h := x.h } ∧ IntOk x.h
  | 5 => x = { c := 5, h := x.h } ∧ IntOk x.h
  | 6 => x = { c := 6, u := x.u, h := x.h } ∧ IntOk x.u ∧ IntOk x.h
  | 7 => x = { c := 7, u := x.u, m := x.m, k := x.k } ∧ IntOk x.u ∧ IntOk x.m ∧ x.k.length < 2 ^ 64
  | 8 => x = { c := 8, u := x.u } ∧ IntOk x.u
  | c => x = { c := c }
theorem law_nil {α : Type} (a : α) : Law (fun b => .ok (a, b)) (fun _ => []) (fun x => x = a) where
  fwd := fun x t h => by subst h; rfl
  bwd := fun b x r h => by
    simp only [Except.ok.injEq, Prod.mk.injEq] at h
    obtain ⟨rfl, rfl⟩ := h
    exact ⟨rfl, rfl⟩
  pre := fun x p q h hp hq => absurd (List.append_eq_nil_iff.1 hp).2 hq
theorem law_body (c : Nat) (h1 : 1 ≤ c) (h9 : c ≤ 9) : Law (rBody c) eBody (BodyOk c) := by
  obtain rfl | rfl | rfl | rfl | rfl | rfl | rfl | rfl | rfl : c = 1 ∨ c = 2 ∨ c = 3 ∨ c = 4 ∨ c = 5 ∨ c = 6 ∨ c = 7 ∨ c = 8 ∨ c = 9 := by omega
  · exact law_txt.map _ eBody (BodyOk 1) (fun y ⟨_, h, h2⟩ => ⟨y.k, h2, h.symm⟩) (fun x hx => ⟨⟨rfl, rfl, hx⟩, rfl⟩)
  · exact (law_txt.seq fun _ _ => law_num).map _ eBody (BodyOk 2) (fun y ⟨_, h, h2, h3⟩ => ⟨(y.k, y.t), ⟨h2, h3⟩, h.symm⟩) (fun x hx => ⟨⟨rfl, rfl, hx.1, hx.2⟩, rfl⟩)
  · exact (law_wrt.list fun x _ => eWrt_pos x).map _ eBody (BodyOk 3) (fun y ⟨_, h, h2⟩ => ⟨y.b, h2, h.symm⟩) (fun x hx => ⟨⟨rfl, rfl, hx⟩, rfl⟩)
  · exact law_int.map _ eBody (BodyOk 4) (fun y ⟨_, h, h2⟩ => ⟨y.h, h2, h.symm⟩) (fun x hx => ⟨⟨rfl, rfl, hx⟩, rfl⟩)
  · exact law_int.map _ eBody (BodyOk 5) (fun y ⟨_, h, h2⟩ => ⟨y.h, h2, h.symm⟩) (fun x hx => ⟨⟨rfl, rfl, hx⟩, rfl⟩)
  · exact (law_int.seq fun _ _ => law_int).map _ eBody (BodyOk 6) (fun y ⟨_, h, h2, h3⟩ => ⟨(y.u, y.h), ⟨h2, h3⟩, h.symm⟩) (fun x hx => ⟨⟨rfl, rfl, hx.1, hx.2⟩, rfl⟩)
  · exact (law_int.seq fun _ _ => law_int.seq fun _ _ => law_txt).map _ eBody (BodyOk 7) (fun y ⟨_, h, h2, h3, h4⟩ => ⟨(y.u, y.m, y.k), ⟨h2, h3, h4⟩, h.symm⟩) (fun x hx => ⟨⟨rfl, rfl, hx.1, hx.2.1, hx.2.2⟩, rfl⟩)
  · exact law_int.map _ eBody (BodyOk 8) (fun y ⟨_, h, h2⟩ => ⟨y.u, h2, h.symm⟩) (fun x hx => ⟨⟨rfl, rfl, hx⟩, rfl⟩)
  · have := law_nil ({ c := 9 } : Opn)
    exact {
      fwd := fun x t hx => by obtain ⟨_, rfl⟩ := hx; rfl
      bwd := fun b x r h => by
        obtain ⟨h1, h2⟩ := this.bwd b x r h
        subst h2
        exact ⟨h1, rfl, rfl⟩
      pre := fun x p q hx hp hq => by
        obtain ⟨_, rfl⟩ := hx
        exact absurd (List.append_eq_nil_iff.1 hp).2 hq }
def rOp : Str → Rd Opn := mapR (fun z => z.2) (seqR (rB fun c => decide (1 ≤ c ∧ c ≤ 9)) fun c => rBody c.toNat)
def OpnOk (x : Opn) : Prop := (1 ≤ x.c ∧ x.c ≤ 9) ∧ BodyOk x.c x
theorem law_op : Law rOp eOp OpnOk := by
  refine ((law_byte fun c => decide (1 ≤ c ∧ c ≤ 9)).seq (Q := fun c => rBody c.toNat) (f := fun _ => eBody) (okB := fun c => BodyOk c.toNat)
    fun c hc => law_body _ (by simp only [decide_eq_true_eq] at hc; exact hc.1) (by simp only [decide_eq_true_eq] at hc; exact hc.2)).map _ eOp OpnOk ?_ ?_
  · rintro x ⟨⟨h1, h9⟩, hb⟩
    have hc : (UInt8.ofNat x.c).toNat = x.c := toNat_ofNat (by omega)
    refine ⟨(UInt8.ofNat x.c, x), ⟨by simp only [hc, decide_eq_true_eq]; exact ⟨h1, h9⟩, ?_⟩, rfl⟩
    simp only [hc]
    exact hb
  · rintro ⟨c, x⟩ ⟨h1, h2⟩
    simp only [decide_eq_true_eq] at h1
    simp only at h2
    obtain ⟨h3, h4⟩ := id h2
    refine ⟨⟨by rw [h3]; exact h1, by rw [h3]; exact h2⟩, ?_⟩
    show UInt8.ofNat x.c :: eBody x = _
    rw [h3, ofNat_toNat]
    rfl
theorem eOp_pos (x : Opn) : 0 < (eOp x).length := by simp [eOp]
end Go.Proofs.YtjmhnlbkfbieaaaGreat
