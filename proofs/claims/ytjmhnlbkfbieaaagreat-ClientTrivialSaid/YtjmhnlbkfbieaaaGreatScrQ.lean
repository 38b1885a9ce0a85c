/- Readers and writers of bytes, put together: one behind the other, so many of one kind, a list with its length ahead. No program. -/
import Derived.Test.YtjmhnlbkfbieaaaGreatScrP
namespace Go.Proofs.YtjmhnlbkfbieaaaGreat
set_option linter.unusedVariables false
set_option linter.unusedSimpArgs false
structure Law {α : Type} (P : Str → Rd α) (e : α → Str) (ok : α → Prop) : Prop where
  fwd : ∀ x t, ok x → P (e x ++ t) = .ok (x, t)
  bwd : ∀ b x r, P b = .ok (x, r) → b = e x ++ r ∧ ok x
  pre : ∀ x p q, ok x → p ++ q = e x → q ≠ [] → P p = .error 11
def seqR {α β : Type} (P : Str → Rd α) (Q : α → Str → Rd β) (b : Str) : Rd (α × β) := match P b with
  | .error e => .error e
  | .ok (x, r) => match Q x r with
    | .error e => .error e
    | .ok (y, r') => .ok ((x, y), r')
def mapR {α β : Type} (g : α → β) (P : Str → Rd α) (b : Str) : Rd β := match P b with
  | .error e => .error e
  | .ok (x, r) => .ok (g x, r)
theorem Law.seq {α β : Type} {P : Str → Rd α} {e : α → Str} {okA : α → Prop} {Q : α → Str → Rd β} {f : α → β → Str} {okB : α → β → Prop}
    (hP : Law P e okA) (hQ : ∀ x, okA x → Law (Q x) (f x) (okB x)) : Law (seqR P Q) (fun z => e z.1 ++ f z.1 z.2) (fun z => okA z.1 ∧ okB z.1 z.2) where
  fwd := fun ⟨x, y⟩ t ⟨h1, h2⟩ => by
    simp only [seqR, List.append_assoc, hP.fwd x _ h1, (hQ x h1).fwd y t h2]
  bwd := fun b ⟨x, y⟩ r h => by
    simp only [seqR] at h
    cases h1 : P b with
    | error e => simp [h1] at h
    | ok z =>
      obtain ⟨x', r1⟩ := z
      simp only [h1] at h
      cases h2 : Q x' r1 with
      | error e => simp [h2] at h
      | ok z =>
        obtain ⟨y', r2⟩ := z
        simp only [h2, Except.ok.injEq, Prod.mk.injEq] at h
        obtain ⟨⟨rfl, rfl⟩, rfl⟩ := h
        obtain ⟨rfl, hA⟩ := hP.bwd _ _ _ h1
        obtain ⟨rfl, hB⟩ := (hQ _ hA).bwd _ _ _ h2
        exact ⟨by simp, hA, hB⟩
  pre := fun ⟨x, y⟩ p q ⟨h1, h2⟩ hp hq => by
    simp only at hp
    simp only [seqR]
    rcases List.append_eq_append_iff.1 hp with ⟨s, hs, hs2⟩ | ⟨s, rfl, hs2⟩
    · by_cases h0 : s = []
      · subst h0
        simp only [List.append_nil] at hs
        simp only [List.nil_append] at hs2
        have := hP.fwd x [] h1
        rw [List.append_nil, hs] at this
        rw [this]
        simp only
        rw [(hQ x h1).pre y [] q h2 (by simpa using hs2) hq]
      · rw [hP.pre x p s h1 hs.symm h0]
    · rw [hP.fwd x s h1]
      simp only
      rw [(hQ x h1).pre y s q h2 hs2.symm hq]
theorem Law.map {α β : Type} {P : Str → Rd α} {e : α → Str} {ok : α → Prop} (hP : Law P e ok) (g : α → β) (e' : β → Str) (ok' : β → Prop)
    (h1 : ∀ y, ok' y → ∃ x, ok x ∧ g x = y) (h2 : ∀ x, ok x → ok' (g x) ∧ e' (g x) = e x) : Law (mapR g P) e' ok' where
  fwd := fun y t hy => by
    obtain ⟨x, hx, rfl⟩ := h1 y hy
    simp only [mapR, (h2 x hx).2, hP.fwd x t hx]
  bwd := fun b y r h => by
    simp only [mapR] at h
    cases h3 : P b with
    | error e => simp [h3] at h
    | ok z =>
      obtain ⟨x, r1⟩ := z
      simp only [h3, Except.ok.injEq, Prod.mk.injEq] at h
      obtain ⟨rfl, rfl⟩ := h
      obtain ⟨rfl, hx⟩ := hP.bwd _ _ _ h3
      exact ⟨by rw [(h2 x hx).2], (h2 x hx).1⟩
  pre := fun y p q hy hp hq => by
    obtain ⟨x, hx, rfl⟩ := h1 y hy
    simp only [mapR, hP.pre x p q hx (by rw [hp, (h2 x hx).2]) hq]
def repR {α : Type} (Q : Str → Rd α) : Nat → Str → Rd (List α)
  | 0, b => .ok ([], b)
  | n + 1, b => mapR (fun z => z.1 :: z.2) (seqR Q (fun _ => repR Q n)) b
theorem Law.rep {α : Type} {Q : Str → Rd α} {e : α → Str} {ok : α → Prop} (hQ : Law Q e ok) : ∀ n, Law (repR Q n) (fun l => l.flatMap e) (fun l => l.length = n ∧ ∀ x ∈ l, ok x)
  | 0 => {
    fwd := fun x t ⟨h, _⟩ => by
      obtain rfl := List.length_eq_zero_iff.1 h
      rfl
    bwd := fun b x r h => by
      simp only [repR, Except.ok.injEq, Prod.mk.injEq] at h
      obtain ⟨rfl, rfl⟩ := h
      exact ⟨rfl, rfl, by simp⟩
    pre := fun x p q ⟨h, _⟩ hp hq => by
      obtain rfl := List.length_eq_zero_iff.1 h
      simp at hp
      exact absurd hp.2 hq }
  | n + 1 => by
    have := (hQ.seq (fun _ _ => hQ.rep n)).map (fun z => z.1 :: z.2) (fun l => l.flatMap e) (fun l => l.length = n + 1 ∧ ∀ x ∈ l, ok x)
      (fun y ⟨hy, hy2⟩ => by
        cases y with
        | nil => simp at hy
        | cons a l => exact ⟨(a, l), ⟨hy2 a (by simp), by simpa using hy, fun x hx => hy2 x (by simp [hx])⟩, rfl⟩)
      (fun ⟨a, l⟩ ⟨h1, h2, h3⟩ => ⟨⟨by simpa using h2, fun x hx => by
        rcases List.mem_cons.1 hx with rfl | hx
        · exact h1
        · exact h3 x hx⟩, by simp⟩)
    exact this
/-- A length: at most the number of bytes behind it. -/
def rLen (b : Str) : Rd Nat := match rv 0 b with
  | .error e => .error e
  | .ok (n, r) => if r.length < n then .error 11 else .ok (n, r)
def rList {α : Type} (Q : Str → Rd α) (b : Str) : Rd (List α) := match rLen b with
  | .error e => .error e
  | .ok (n, r) => repR Q n r
theorem flatQ_length {α : Type} {e : α → Str} {l : List α} (h : ∀ x ∈ l, 0 < (e x).length) : l.length ≤ (l.flatMap e).length := by
  induction l with
  | nil => simp
  | cons a l ih =>
    have h1 := h a (by simp)
    have := ih fun x hx => h x (by simp [hx])
    simp only [List.flatMap_cons, List.length_append, List.length_cons]
    omega
theorem Law.list {α : Type} {Q : Str → Rd α} {e : α → Str} {ok : α → Prop} (hQ : Law Q e ok) (hpos : ∀ x, ok x → 0 < (e x).length) :
    Law (rList Q) (fun l => vi l.length ++ l.flatMap e) (fun l => l.length < 2 ^ 64 ∧ ∀ x ∈ l, ok x) where
  fwd := fun l t ⟨h1, h2⟩ => by
    have := flatQ_length fun x hx => hpos x (h2 x hx)
    simp only [rList, rLen, List.append_assoc]
    rw [rv_vi 0 _ _ (by omega) (by simpa using h1) (by omega)]
    simp only [List.length_append]
    rw [if_neg (by omega)]
    exact (hQ.rep l.length).fwd l t ⟨rfl, h2⟩
  bwd := fun b l r h => by
    simp only [rList, rLen] at h
    cases h1 : rv 0 b with
    | error e => simp [h1] at h
    | ok z =>
      obtain ⟨n, r1⟩ := z
      simp only [h1] at h
      split at h
      · simp at h
      · rename_i n' r1' h0
        split at h0
        · simp at h0
        · simp only [Except.ok.injEq, Prod.mk.injEq] at h0
          obtain ⟨rfl, rfl⟩ := h0
          obtain ⟨rfl, hn, _⟩ := rv_ok _ _ _ _ (by omega) h1
          obtain ⟨rfl, rfl, hl⟩ := (hQ.rep _).bwd _ _ _ h
          exact ⟨by simp, by simpa using hn, hl⟩
  pre := fun l p q ⟨h1, h2⟩ hp hq => by
    replace hp : p ++ q = vi l.length ++ l.flatMap e := hp
    simp only [rList, rLen]
    rcases List.append_eq_append_iff.1 hp with ⟨s, hs, hs2⟩ | ⟨s, rfl, hs2⟩
    · by_cases h0 : s = []
      · subst h0
        simp only [List.append_nil] at hs
        simp only [List.nil_append] at hs2
        have := rv_vi 0 l.length [] (by omega) (by simpa using h1) (by omega)
        rw [List.append_nil, hs] at this
        rw [this]
        simp only [List.length_nil]
        by_cases hl : 0 < l.length
        · rw [if_pos hl]
        · obtain rfl := List.length_eq_zero_iff.1 (by omega : l.length = 0)
          simp at hs2
          exact absurd hs2 hq
      · rw [rv_pre l.length 0 p s (by omega) (by simpa using h1) hs.symm h0]
    · rw [rv_vi 0 _ _ (by omega) (by simpa using h1) (by omega)]
      simp only
      by_cases hs : s.length < l.length
      · rw [if_pos hs]
      · rw [if_neg hs]
        exact (hQ.rep l.length).pre l s q ⟨rfl, h2⟩ hs2.symm hq
end Go.Proofs.YtjmhnlbkfbieaaaGreat
