/- What RegistryProtects holds: several Opens and a Watermark over one memory. -/
import Derived.Test.YtiodlmmbjjdojaaProt
namespace Go.Proofs.Ytiodlmmbjjdojaa
open Go.RowKit
/-- A thread: no snapshot; marked; its time known; open. -/
inductive TS where
  | idle
  | one (ob : Nat) (G : List Nat)
  | two (ob : Nat) (G : List Nat) (t : Int)
  | held (ob : Nat) (G : List Nat) (t : Int)
def TS.ptr : TS → Value
  | .idle => .pointer none
  | .one ob _ => .pointer (some ⟨ob, 0, none⟩)
  | .two ob _ _ => .pointer (some ⟨ob, 0, none⟩)
  | .held ob _ _ => .pointer (some ⟨ob, 0, none⟩)
def TS.flag : TS → Value
  | .held _ _ _ => .bool true
  | _ => .bool false
def TS.foot : TS → List Nat
  | .idle => []
  | .one _ G => G
  | .two _ G _ => G
  | .held _ G _ => G
def TS.cell : TS → Int
  | .idle => 0
  | .one _ _ => 1
  | .two _ _ _ => 1
  | .held _ _ t => t + 1
def TS.time : TS → Option Int
  | .two _ _ t => some t
  | .held _ _ t => some t
  | _ => none
def TS.ok (w : World) (n t : Nat) : TS → Prop
  | .idle => True
  | .one ob G => O1 w ob G n 2 100 100 200 4 1000 (8 + 2 * (t : Int))
  | .two ob G τ => O2 w ob G (8 + 2 * (t : Int)) τ
  | .held ob G τ => O3 w ob G (8 + 2 * (t : Int)) τ
theorem TS.ok.keeps {w w' : World} {n t : Nat} {s : TS} (h : s.ok w n t) {X : List Nat} (k : Keeps X w w') (g : Apart s.foot X) : s.ok w' n t := by
  cases s with
  | idle => trivial
  | one ob G => exact O1.keeps h k g
  | two ob G τ => exact O2.keeps h k g
  | held ob G τ => exact O3.keeps h k g
/-- The Watermark: not begun; it will load cell k next, the least time so far is v. -/
inductive WS where
  | zero (G : List Nat)
  | scan (G : List Nat) (k : Nat) (v : Int)
  | done
def WS.foot : WS → List Nat
  | .zero G => G
  | .scan G _ _ => G
  | .done => []
def WS.ok (w : World) (wm n : Nat) : WS → Prop
  | .zero G => W0 w wm G n 2 100 100 200 4 1000
  | .scan G k v => W1 w wm G n 2 100 100 200 4 1000 k v
  | .done => True
theorem WS.ok.keeps {w w' : World} {wm n : Nat} {s : WS} (h : s.ok w wm n) {X : List Nat} (k : Keeps X w w') (g : Apart s.foot X) : s.ok w' wm n := by
  cases s with
  | zero G => exact W0.keeps h k g
  | scan G j v => exact W1.keeps h k g
  | done => trivial
def WS.inv (n : Nat) (P : Int) (ts : List TS) : WS → Prop
  | .zero _ => True
  | .scan _ k v => 0 ≤ v ∧ v ≤ P ∧ k < 2 * n ∧ ∀ (t : Nat) (s : TS) (τ : Int), ts[t]? = some s → s.time = some τ → 2 * t < k → v ≤ τ
  | .done => True
structure RP (w : World) (B m c oa ha wm n : Nat) (ts : List TS) (ws : WS) (L : List C3) (q P : Int) : Prop where
  mem : MemAt w m c L q
  len : L.length = 1508 + 2 * n
  tl : ts.length = n
  oblk : Blk w oa (ts.map TS.ptr)
  hblk : Blk w ha (ts.map TS.flag)
  mach : ∀ (t : Nat) (s : TS), ts[t]? = some s → s.ok w n t
  wok : ws.ok w wm n
  foot : ∀ (t : Nat) (s : TS), ts[t]? = some s → ∀ b, b ∈ s.foot → B ≤ b ∧ b < w.heap.size
  wfoot : ∀ b, b ∈ ws.foot → B ≤ b ∧ b < w.heap.size
  dis : ∀ (t t' : Nat) (s s' : TS), t ≠ t' → ts[t]? = some s → ts[t']? = some s' → Apart s.foot s'.foot
  wdis : ∀ (t : Nat) (s : TS), ts[t]? = some s → Apart s.foot ws.foot
  bs : B ≤ w.heap.size
  low : (m < B ∧ c < B ∧ oa < B ∧ ha < B) ∧ (oa ≠ m ∧ oa ≠ c ∧ ha ≠ m ∧ ha ≠ c ∧ oa ≠ ha)
  cell : ∀ (t : Nat) (s : TS), ts[t]? = some s → (memAt L (8 + 2 * (t : Int))).N = s.cell ∧ (memAt L (8 + 2 * (t : Int) + 1)).N = 0
  pub : (memAt L 2).N = P
  tau : ∀ (t : Nat) (s : TS) (τ : Int), ts[t]? = some s → s.time = some τ → 0 ≤ τ ∧ τ ≤ P
  winv : ws.inv n P ts
theorem Apart.low {G X : List Nat} {B : Nat} (h : ∀ b, b ∈ G → B ≤ b) (hX : ∀ b, b ∈ X → b < B) : Apart G X := fun b hb hx => by have := h b hb; have := hX b hx; omega
theorem Apart.symm {G X : List Nat} (h : Apart G X) : Apart X G := fun b hb hx => h b hx hb
/-- Thread t makes a move. -/
theorem RP.thread {w w' : World} {B m c oa ha wm n : Nat} {ts : List TS} {ws : WS} {L L' : List C3} {q q' P : Int} (h : RP w B m c oa ha wm n ts ws L q P) {t : Nat} {s s' : TS} (hts : ts[t]? = some s)
    (hm : MemAt w' m c L' q') (ho : Blk w' oa ((ts.set t s').map TS.ptr)) (hh : Blk w' ha ((ts.set t s').map TS.flag)) (hk : Keeps (m :: c :: oa :: ha :: s.foot) w w') (hok : s'.ok w' n t)
    (hf : ∀ b, b ∈ s'.foot → b ∈ s.foot ∨ w.heap.size ≤ b ∧ b < w'.heap.size) (hL : L'.length = L.length) (h2 : memAt L' 2 = memAt L 2) (hc : (memAt L' (8 + 2 * (t : Int))).N = s'.cell)
    (hoth : ∀ j : Int, 8 ≤ j → j ≠ 8 + 2 * (t : Int) → memAt L' j = memAt L j) (hτ : ∀ τ, s'.time = some τ → (0 ≤ τ ∧ τ ≤ P) ∧ (s.time = some τ ∨ τ = P)) : RP w' B m c oa ha wm n (ts.set t s') ws L' q' P := by
  have htl : t < ts.length := (List.getElem?_eq_some_iff.1 hts).1
  have hsz := hk.size
  have hget : ∀ (t' : Nat) (x : TS), (ts.set t s')[t']? = some x → (t' = t ∧ x = s') ∨ (t' ≠ t ∧ ts[t']? = some x) := by
    intro t' x hx
    by_cases e : t' = t
    · subst e
      rw [List.getElem?_set_self htl] at hx
      exact .inl ⟨rfl, by simpa using hx.symm⟩
    · rw [List.getElem?_set_ne (Ne.symm e)] at hx
      exact .inr ⟨e, hx⟩
  have hlow := h.low
  have hap : ∀ G : List Nat, (∀ b, b ∈ G → B ≤ b) → Apart G s.foot → Apart G (m :: c :: oa :: ha :: s.foot) := by
    intro G hG hs b hb hx
    have := hG b hb
    simp only [List.mem_cons] at hx
    rcases hx with rfl | rfl | rfl | rfl | hx
    · omega
    · omega
    · omega
    · omega
    · exact hs b hb hx
  refine ⟨hm, by rw [hL]; exact h.len, by rw [List.length_set]; exact h.tl, ho, hh, ?_, ?_, ?_, ?_, ?_, ?_, Nat.le_trans h.bs hsz, h.low, ?_, by rw [h2]; exact h.pub, ?_, ?_⟩
  · intro t' x hx
    rcases hget t' x hx with ⟨rfl, rfl⟩ | ⟨e, hx⟩
    · exact hok
    · exact (h.mach t' x hx).keeps hk (hap _ (fun b hb => (h.foot t' x hx b hb).1) (h.dis t' t x s e hx hts))
  · exact h.wok.keeps hk (hap _ (fun b hb => (h.wfoot b hb).1) (h.wdis t s hts).symm)
  · intro t' x hx b hb
    rcases hget t' x hx with ⟨rfl, rfl⟩ | ⟨e, hx⟩
    · rcases hf b hb with hb | ⟨hb1, hb2⟩
      · have := h.foot _ _ hts b hb; omega
      · have := h.bs; exact ⟨by omega, hb2⟩
    · have := h.foot t' x hx b hb; omega
  · intro b hb
    have := h.wfoot b hb; omega
  · intro t1 t2 x1 x2 hne hx1 hx2
    rcases hget t1 x1 hx1 with ⟨d1, f1⟩ | ⟨d1, f1⟩ <;> rcases hget t2 x2 hx2 with ⟨d2, f2⟩ | ⟨d2, f2⟩
    · exact absurd (d1.trans d2.symm) hne
    · subst f1
      intro b hb hx
      rcases hf b hb with hb | ⟨hb1, _⟩
      · exact h.dis t t2 s x2 (Ne.symm d2) hts f2 b hb hx
      · have := h.foot t2 x2 f2 b hx; omega
    · subst f2
      intro b hb hx
      rcases hf b hx with hx | ⟨hb1, _⟩
      · exact h.dis t1 t x1 s d1 f1 hts b hb hx
      · have := h.foot t1 x1 f1 b hb; omega
    · exact h.dis t1 t2 x1 x2 hne f1 f2
  · intro t' x hx b hb hw
    rcases hget t' x hx with ⟨rfl, rfl⟩ | ⟨e, hx⟩
    · rcases hf b hb with hb | ⟨hb1, _⟩
      · exact h.wdis _ _ hts b hb hw
      · have := h.wfoot b hw; omega
    · exact h.wdis _ _ hx b hb hw
  · intro t' x hx
    rcases hget t' x hx with ⟨rfl, rfl⟩ | ⟨e, hx⟩
    · refine ⟨hc, ?_⟩
      rw [hoth _ (by omega) (by omega)]
      exact (h.cell _ _ hts).2
    · rw [hoth _ (by omega) (by omega), hoth _ (by omega) (by omega)]
      exact h.cell t' x hx
  · intro t' x τ hx hτ'
    rcases hget t' x hx with ⟨rfl, rfl⟩ | ⟨e, hx⟩
    · exact (hτ τ hτ').1
    · exact h.tau t' x τ hx hτ'
  · have hw := h.winv
    cases ws with
    | zero G => trivial
    | done => trivial
    | scan G k v =>
      obtain ⟨v0, v1, vk, hv⟩ := hw
      refine ⟨v0, v1, vk, fun t' x τ hx hτ' hlt => ?_⟩
      rcases hget t' x hx with ⟨rfl, rfl⟩ | ⟨e, hx⟩
      · rcases (hτ τ hτ').2 with h3 | rfl
        · exact hv _ _ τ hts h3 hlt
        · exact v1
      · exact hv t' x τ hx hτ' hlt
theorem wmin_le (t x : Int) : wmin t x ≤ t := by
  unfold wmin
  split
  · omega
  · split <;> omega
theorem wmin_le_time {t x τ : Int} (h0 : 0 ≤ τ) (h : x = 1 ∨ x = τ + 1) : wmin t x ≤ τ := by
  unfold wmin
  rw [if_neg (by omega)]
  split <;> omega
theorem wmin_nonneg {t x : Int} (h0 : 0 ≤ t) (hx : 0 ≤ x) : 0 ≤ wmin t x := by
  unfold wmin
  split
  · exact h0
  · split <;> omega
theorem TS.cell_time {s : TS} {τ : Int} (h : s.time = some τ) : s.cell = 1 ∨ s.cell = τ + 1 := by
  cases s with
  | idle => cases h
  | one ob G => cases h
  | two ob G t => exact .inl rfl
  | held ob G t =>
    simp [TS.time] at h
    subst h
    exact .inr rfl
theorem TS.cell_bound {s : TS} {P : Int} (hP : 0 ≤ P) (h : ∀ τ, s.time = some τ → 0 ≤ τ ∧ τ ≤ P) : 0 ≤ s.cell ∧ s.cell ≤ P + 1 := by
  cases s with
  | idle => simp only [TS.cell]; omega
  | one ob G => simp only [TS.cell]; omega
  | two ob G t => simp only [TS.cell]; omega
  | held ob G t =>
    have := h t rfl
    simp only [TS.cell]
    omega
/-- Every cell of the table of snapshots is small. -/
theorem RP.cells {w : World} {B m c oa ha wm n : Nat} {ts : List TS} {ws : WS} {L : List C3} {q P : Int} (h : RP w B m c oa ha wm n ts ws L q P) (hP : 0 ≤ P) (k : Nat) (hk : k < 2 * n) : 0 ≤ (memAt L (8 + (k : Int))).N ∧ (memAt L (8 + (k : Int))).N ≤ P + 1 := by
  have hl := h.tl
  obtain ⟨s, hs⟩ : ∃ s, ts[k / 2]? = some s := ⟨ts[k / 2]'(by omega), List.getElem?_eq_getElem (by omega)⟩
  obtain ⟨h1, h2⟩ := h.cell _ s hs
  have h3 := TS.cell_bound hP (fun τ hτ => h.tau _ s τ hs hτ)
  rcases Nat.mod_two_eq_zero_or_one k with e | e
  · rw [show (8 : Int) + (k : Int) = 8 + 2 * ((k / 2 : Nat) : Int) by omega, h1]
    exact h3
  · rw [show (8 : Int) + (k : Int) = 8 + 2 * ((k / 2 : Nat) : Int) + 1 by omega, h2]
    omega
/-- The least time behind cell k. -/
theorem RP.scan {w : World} {B m c oa ha wm n : Nat} {ts : List TS} {G : List Nat} {k : Nat} {v : Int} {L : List C3} {q P : Int} (h : RP w B m c oa ha wm n ts (.scan G k v) L q P) (hP : 0 ≤ P) :
    0 ≤ wmin v (memAt L (8 + (k : Int))).N ∧ wmin v (memAt L (8 + (k : Int))).N ≤ P ∧ ∀ (t : Nat) (s : TS) (τ : Int), ts[t]? = some s → s.time = some τ → 2 * t < k + 1 → wmin v (memAt L (8 + (k : Int))).N ≤ τ := by
  obtain ⟨v0, v1, vk, hv⟩ := h.winv
  have h1 := h.cells hP k vk
  have h2 := wmin_le v (memAt L (8 + (k : Int))).N
  refine ⟨wmin_nonneg v0 h1.1, by omega, fun t s τ hs hτ hlt => ?_⟩
  by_cases e : 2 * t < k
  · have := hv t s τ hs hτ e
    omega
  · have hc := (h.cell t s hs).1
    rw [show (8 : Int) + 2 * (t : Int) = 8 + (k : Int) by omega] at hc
    rw [hc]
    exact wmin_le_time (h.tau t s τ hs hτ).1 (TS.cell_time hτ)
theorem RP.low4 {w : World} {B m c oa ha wm n : Nat} {ts : List TS} {ws : WS} {L : List C3} {q P : Int} (h : RP w B m c oa ha wm n ts ws L q P) {G : List Nat} (hG : ∀ b, b ∈ G → B ≤ b) : oa ∉ m :: c :: G ∧ ha ∉ m :: c :: G ∧ m ∉ G ∧ c ∉ G ∧ oa ∉ G ∧ ha ∉ G := by
  have hl := h.low
  have a1 : m ∉ G := fun hx => by have := hG _ hx; omega
  have a2 : c ∉ G := fun hx => by have := hG _ hx; omega
  have a3 : oa ∉ G := fun hx => by have := hG _ hx; omega
  have a4 : ha ∉ G := fun hx => by have := hG _ hx; omega
  simp only [List.mem_cons, not_or]
  exact ⟨⟨hl.2.1, hl.2.2.1, a3⟩, ⟨hl.2.2.2.1, hl.2.2.2.2.1, a4⟩, a1, a2, a3, a4⟩
/-- The Watermark makes a move, or is made anew. -/
theorem RP.water {w w' : World} {B m c oa ha wm wm' n : Nat} {ts : List TS} {ws ws' : WS} {L : List C3} {q q' P : Int} (h : RP w B m c oa ha wm n ts ws L q P) (hm : MemAt w' m c L q') (hk : Keeps (m :: c :: ws.foot) w w')
    (hok : ws'.ok w' wm' n) (hf : ∀ b, b ∈ ws'.foot → b ∈ ws.foot ∨ w.heap.size ≤ b ∧ b < w'.heap.size) (hinv : ws'.inv n P ts) : RP w' B m c oa ha wm' n ts ws' L q' P := by
  have hsz := hk.size
  have hl := h.low4 (fun b hb => (h.wfoot b hb).1)
  have hlow := h.low
  refine ⟨hm, h.len, h.tl, hk.blk h.oblk hl.1, hk.blk h.hblk hl.2.1, ?_, hok, ?_, ?_, h.dis, ?_, Nat.le_trans h.bs hsz, h.low, h.cell, h.pub, h.tau, hinv⟩
  · intro t s hs
    refine (h.mach t s hs).keeps hk ?_
    intro b hb hx
    have := h.foot t s hs b hb
    simp only [List.mem_cons] at hx
    rcases hx with rfl | rfl | hx
    · omega
    · omega
    · exact h.wdis t s hs b hb hx
  · intro t s hs b hb
    have := h.foot t s hs b hb
    omega
  · intro b hb
    have hb' := h.bs
    rcases hf b hb with hb | hb
    · have := h.wfoot b hb; omega
    · omega
  · intro t s hs b hb hx
    rcases hf b hx with hx | hx
    · exact h.wdis t s hs b hb hx
    · have := h.foot t s hs b hb; omega
/-- A batch is published. -/
theorem RP.publish {w w' : World} {B m c oa ha wm n : Nat} {ts : List TS} {ws : WS} {L : List C3} {q P : Int} (h : RP w B m c oa ha wm n ts ws L q P) (hm : MemAt w' m c (memSet L 2 ⟨P + 1, ⟨#[]⟩, 0⟩) q) (hk : Keeps [c] w w') : RP w' B m c oa ha wm n ts ws (memSet L 2 ⟨P + 1, ⟨#[]⟩, 0⟩) q (P + 1) := by
  have hsz := hk.size
  have hlow := h.low
  have hap : ∀ G : List Nat, (∀ b, b ∈ G → B ≤ b) → Apart G [c] := fun G hG b hb hx => by
    have := hG b hb
    simp at hx
    omega
  refine ⟨hm, by rw [memSet_length]; exact h.len, h.tl, hk.blk h.oblk (by simp; omega), hk.blk h.hblk (by simp; omega), ?_, ?_, ?_, ?_, h.dis, h.wdis, Nat.le_trans h.bs hsz, h.low, ?_, ?_, ?_, ?_⟩
  · intro t s hs
    exact (h.mach t s hs).keeps hk (hap _ (fun b hb => (h.foot t s hs b hb).1))
  · exact h.wok.keeps hk (hap _ (fun b hb => (h.wfoot b hb).1))
  · intro t s hs b hb
    have := h.foot t s hs b hb
    omega
  · intro b hb
    have := h.wfoot b hb
    omega
  · intro t s hs
    rw [memAt_set_other _ _ _ _ (by omega), memAt_set_other _ _ _ _ (by omega)]
    exact h.cell t s hs
  · rw [memAt_set_same _ _ _ (by omega) (by have := h.len; omega)]
  · intro t s τ hs hτ
    have := h.tau t s τ hs hτ
    omega
  · have hw := h.winv
    cases ws with
    | zero G => trivial
    | done => trivial
    | scan G k v =>
      obtain ⟨v0, v1, vk, hv⟩ := hw
      exact ⟨v0, by omega, vk, hv⟩
end Go.Proofs.Ytiodlmmbjjdojaa
