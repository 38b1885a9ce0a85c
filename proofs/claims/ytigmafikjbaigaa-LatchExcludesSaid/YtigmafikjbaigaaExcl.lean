/- The plain law of LatchExcludes: writers that lock, change and release a latch. No program, no world. -/
import Derived.Lib.Hide
namespace Go.Proofs.Ytigmafikjbaigaa
inductive Ph where
  | look
  | lock (d : Nat)
  | have_
  | done
structure Sys where
  ph : Nat → Ph
  d : Nat
  h : Bool
def upd (ph : Nat → Ph) (t : Nat) (p : Ph) : Nat → Ph := fun i => if i = t then p else ph i
def Sys.step (s : Sys) (t : Nat) : Sys :=
  match s.ph t with
  | .look => if s.h then s else { s with ph := upd s.ph t (.lock s.d) }
  | .lock e => if s.h = false ∧ e = s.d then { ph := upd s.ph t .have_, d := s.d, h := true } else { s with ph := upd s.ph t .look }
  | .have_ => { ph := upd s.ph t .done, d := s.d + 1, h := false }
  | .done => s
def Ph.isDone : Ph → Nat
  | .done => 1
  | _ => 0
def Ph.isHave : Ph → Nat
  | .have_ => 1
  | _ => 0
def cnt (f : Nat → Nat) : Nat → Nat
  | 0 => 0
  | n + 1 => cnt f n + f n
theorem cnt_congr {f g : Nat → Nat} : ∀ n, (∀ i, i < n → f i = g i) → cnt f n = cnt g n
  | 0, _ => rfl
  | n + 1, h => by rw [cnt, cnt, cnt_congr n (fun i hi => h i (by omega)), h n (by omega)]
theorem cnt_upd (f : Ph → Nat) (ph : Nat → Ph) (t : Nat) (p : Ph) : ∀ n, t < n → cnt (fun i => f (upd ph t p i)) n + f (ph t) = cnt (fun i => f (ph i)) n + f p
  | 0, h => by omega
  | n + 1, h => by
    by_cases e : t = n
    · subst e
      have h1 : cnt (fun i => f (upd ph t p i)) t = cnt (fun i => f (ph i)) t := cnt_congr t (fun i hi => by simp [upd, show i ≠ t by omega])
      have h2 : f (upd ph t p t) = f p := by simp [upd]
      show cnt (fun i => f (upd ph t p i)) t + f (upd ph t p t) + f (ph t) = cnt (fun i => f (ph i)) t + f (ph t) + f p
      rw [h1, h2]
      omega
    · have h2 := cnt_upd f ph t p n (by omega)
      have h3 : f (upd ph t p n) = f (ph n) := by simp [upd, show n ≠ t by omega]
      show cnt (fun i => f (upd ph t p i)) n + f (upd ph t p n) + f (ph t) = cnt (fun i => f (ph i)) n + f (ph n) + f p
      rw [h3]
      omega
theorem cnt_le (f : Nat → Nat) (h1 : ∀ i, f i ≤ 1) : ∀ n, cnt f n ≤ n
  | 0 => Nat.le_refl _
  | n + 1 => by have := cnt_le f h1 n; have := h1 n; simp only [cnt]; omega
theorem cnt_lt (f : Nat → Nat) (h1 : ∀ i, f i ≤ 1) (t : Nat) (ht : f t = 0) : ∀ n, t < n → cnt f n < n
  | 0, h => by omega
  | n + 1, h => by
    by_cases e : t = n
    · subst e; have := cnt_le f h1 t; simp only [cnt, ht]; omega
    · have := cnt_lt f h1 t ht n (by omega); have := h1 n; simp only [cnt]; omega
theorem cnt_pos (f : Nat → Nat) : ∀ n, 0 < cnt f n → ∃ t, t < n ∧ 0 < f t
  | 0, h => by simp [cnt] at h
  | n + 1, h => by
    by_cases e : 0 < f n
    · exact ⟨n, by omega, e⟩
    · obtain ⟨t, ht, hf⟩ := cnt_pos f n (by simp only [cnt] at h; omega)
      exact ⟨t, by omega, hf⟩
theorem cnt_ge (f : Nat → Nat) (t : Nat) : ∀ n, t < n → f t ≤ cnt f n
  | 0, h => by omega
  | n + 1, h => by
    by_cases e : t = n
    · subst e; simp only [cnt]; omega
    · have := cnt_ge f t n (by omega); simp only [cnt]; omega
theorem cnt_lt_exists (f : Nat → Nat) (h1 : ∀ i, f i ≤ 1) : ∀ n, cnt f n < n → ∃ t, t < n ∧ f t = 0
  | 0, h => by omega
  | n + 1, h => by
    by_cases e : f n = 0
    · exact ⟨n, by omega, e⟩
    · obtain ⟨t, ht, hf⟩ := cnt_lt_exists f h1 n (by have := h1 n; simp only [cnt] at h; omega)
      exact ⟨t, by omega, hf⟩
theorem isDone_le (p : Ph) : p.isDone ≤ 1 := by cases p <;> simp [Ph.isDone]
structure Sys.Inv (s : Sys) (n : Nat) : Prop where
  done : cnt (fun i => (s.ph i).isDone) n = s.d
  has : cnt (fun i => (s.ph i).isHave) n = if s.h then 1 else 0
  lock : ∀ t e, s.ph t = .lock e → e ≤ s.d
theorem Inv.step {s : Sys} {n : Nat} (h : s.Inv n) (t : Nat) (ht : t < n) : (s.step t).Inv n := by
  unfold Sys.step
  have u1 := fun p => cnt_upd Ph.isDone s.ph t p n ht
  have u2 := fun p => cnt_upd Ph.isHave s.ph t p n ht
  have hge := cnt_ge (fun i => (s.ph i).isHave) t n ht
  have hd := h.done
  have hh := h.has
  split
  · rename_i hp
    split
    · exact h
    · have a1 := u1 (.lock s.d)
      have a2 := u2 (.lock s.d)
      rw [hp] at a1 a2
      refine ⟨Nat.add_right_cancel (a1.trans (by rw [hd]; rfl)), Nat.add_right_cancel (a2.trans (by rw [hh]; rfl)), fun t' e he => ?_⟩
      simp only [upd] at he
      split at he
      · cases he; exact Nat.le_refl _
      · exact h.lock t' e he
  · rename_i e hp
    split
    · rename_i hc
      have a1 := u1 .have_
      have a2 := u2 .have_
      rw [hp] at a1 a2
      rw [hc.1] at hh
      refine ⟨Nat.add_right_cancel (a1.trans (by rw [hd]; rfl)), Nat.add_right_cancel (a2.trans (by rw [hh]; rfl)), fun t' e he => ?_⟩
      simp only [upd] at he
      split at he
      · cases he
      · exact h.lock t' e he
    · have a1 := u1 .look
      have a2 := u2 .look
      rw [hp] at a1 a2
      refine ⟨Nat.add_right_cancel (a1.trans (by rw [hd]; rfl)), Nat.add_right_cancel (a2.trans (by rw [hh]; rfl)), fun t' e he => ?_⟩
      simp only [upd] at he
      split at he
      · cases he
      · exact h.lock t' e he
  · rename_i hp
    have a1 := u1 .done
    have a2 := u2 .done
    rw [hp] at a1 a2
    have hg : 1 ≤ cnt (fun i => (s.ph i).isHave) n := by
      have e : (s.ph t).isHave = 1 := by rw [hp]; rfl
      rw [← e]; exact hge
    have h1 : cnt (fun i => (s.ph i).isHave) n = 1 := by
      rw [hh] at hg ⊢
      split at hg
      · rename_i e; rw [if_pos e]
      · omega
    refine ⟨Nat.add_right_cancel (m := 0) (a1.trans (by rw [hd]; rfl)), Nat.add_right_cancel (m := 1) (a2.trans (by rw [h1]; rfl)), fun t' e he => ?_⟩
    simp only [upd] at he
    split at he
    · cases he
    · have := h.lock t' e he; simp only; omega
  · exact h
open Classical in
noncomputable def Sys.stage (s : Sys) (n : Nat) : Nat :=
  if s.h = true then 3 else if ∃ t, t < n ∧ s.ph t = .lock s.d then 2 else if ∃ t, t < n ∧ s.ph t = .look then 1 else 0
noncomputable def Sys.mu (s : Sys) (n : Nat) : Nat := 4 * (n - s.d) - s.stage n
def Sys.Key (s : Sys) (n t : Nat) : Prop :=
  (s.h = true ∧ s.ph t = .have_) ∨ (s.h = false ∧ s.ph t = .lock s.d) ∨ (s.h = false ∧ (∀ u, u < n → s.ph u ≠ .lock s.d) ∧ s.ph t = .look) ∨
    (s.h = false ∧ (∀ u, u < n → s.ph u ≠ .lock s.d) ∧ (∀ u, u < n → s.ph u ≠ .look) ∧ ∃ e, s.ph t = .lock e)
theorem stage_le (s : Sys) (n : Nat) : s.stage n ≤ 3 := by unfold Sys.stage; split <;> (try split) <;> (try split) <;> omega
theorem stage_h {s : Sys} {n : Nat} (h : s.h = true) : s.stage n = 3 := by unfold Sys.stage; rw [if_pos h]
theorem stage_fresh {s : Sys} {n t : Nat} (h : s.h = false) (ht : t < n) (hp : s.ph t = .lock s.d) : s.stage n = 2 := by
  unfold Sys.stage; rw [if_neg (by simp [h]), if_pos ⟨t, ht, hp⟩]
theorem stage_look {s : Sys} {n t : Nat} (h : s.h = false) (hn : ∀ u, u < n → s.ph u ≠ .lock s.d) (ht : t < n) (hp : s.ph t = .look) : s.stage n = 1 := by
  unfold Sys.stage; rw [if_neg (by simp [h]), if_neg (fun ⟨u, hu, e⟩ => hn u hu e), if_pos ⟨t, ht, hp⟩]
theorem stage_stale {s : Sys} {n : Nat} (h : s.h = false) (hn : ∀ u, u < n → s.ph u ≠ .lock s.d) (hl : ∀ u, u < n → s.ph u ≠ .look) : s.stage n = 0 := by
  unfold Sys.stage; rw [if_neg (by simp [h]), if_neg (fun ⟨u, hu, e⟩ => hn u hu e), if_neg (fun ⟨u, hu, e⟩ => hl u hu e)]
/-- A pick does not raise the measure; if it does not lower it, a key stays one; and a key's own pick lowers it. -/
theorem step_mu {s : Sys} {n : Nat} (hi : s.Inv n) (t : Nat) (ht : t < n) (k : Nat) (hk : k < n) (key : s.Key n k) :
    (s.step t).mu n < s.mu n ∨ ((s.step t).mu n = s.mu n ∧ (s.step t).Key n k ∧ t ≠ k) := by
  have hdn : ∀ u, u < n → (s.ph u).isDone = 0 → s.d < n := fun u hu h0 => by
    have := cnt_lt (fun i => (s.ph i).isDone) (fun i => isDone_le _) u h0 n hu
    rw [hi.done] at this
    exact this
  have hkd : s.d < n := by
    refine hdn k hk ?_
    rcases key with ⟨_, h⟩ | ⟨_, h⟩ | ⟨_, _, h⟩ | ⟨_, _, _, e, h⟩ <;> rw [h] <;> rfl
  have hstep : s.step t = match s.ph t with
    | .look => if s.h then s else { s with ph := upd s.ph t (.lock s.d) }
    | .lock e => if s.h = false ∧ e = s.d then { ph := upd s.ph t .have_, d := s.d, h := true } else { s with ph := upd s.ph t .look }
    | .have_ => { ph := upd s.ph t .done, d := s.d + 1, h := false }
    | .done => s := rfl
  cases hp : s.ph t with
  | done =>
    have e : s.step t = s := by rw [hstep, hp]
    rw [e]
    refine .inr ⟨rfl, key, ?_⟩
    rintro rfl
    rcases key with ⟨_, h⟩ | ⟨_, h⟩ | ⟨_, _, h⟩ | ⟨_, _, _, e, h⟩ <;> rw [h] at hp <;> cases hp
  | have_ =>
    have e : s.step t = { ph := upd s.ph t .done, d := s.d + 1, h := false } := by rw [hstep, hp]
    left
    rw [e]
    have := stage_le s n
    unfold Sys.mu
    simp only
    omega
  | look =>
    by_cases hh : s.h = true
    · have e : s.step t = s := by rw [hstep, hp]; simp [hh]
      rw [e]
      refine .inr ⟨rfl, key, ?_⟩
      rintro rfl
      rcases key with ⟨_, h⟩ | ⟨h0, h⟩ | ⟨h0, _, h⟩ | ⟨h0, _, _, e, h⟩
      · rw [h] at hp; cases hp
      · rw [h0] at hh; cases hh
      · rw [h0] at hh; cases hh
      · rw [h0] at hh; cases hh
    · have hf : s.h = false := by simpa using hh
      have e : s.step t = { s with ph := upd s.ph t (.lock s.d) } := by rw [hstep, hp]; simp [hf]
      have st : (s.step t).stage n = 2 := by
        rw [e]; exact stage_fresh (t := t) hf ht (by simp [upd])
      have hd : (s.step t).d = s.d := by rw [e]
      rcases key with ⟨h0, _⟩ | ⟨_, h⟩ | ⟨_, hn, h⟩ | ⟨_, hn, hl, _⟩
      · rw [h0] at hh; exact absurd rfl hh
      · right
        have htk : t ≠ k := by rintro rfl; rw [h] at hp; cases hp
        have s2 := stage_fresh (t := k) hf hk h
        refine ⟨by unfold Sys.mu; rw [st, hd, s2], .inr (.inl ?_), htk⟩
        rw [e]
        exact ⟨hf, by simp [upd, Ne.symm htk, h]⟩
      · left
        have s1 := stage_look (t := t) hf hn ht hp
        unfold Sys.mu; rw [st, hd, s1]; omega
      · exact absurd hp (hl t ht)
  | lock e' =>
    by_cases hc : s.h = false ∧ e' = s.d
    · have e : s.step t = { ph := upd s.ph t .have_, d := s.d, h := true } := by rw [hstep, hp]; simp only; rw [if_pos hc]
      left
      have s2 := stage_fresh (t := t) hc.1 ht (by rw [hp, hc.2])
      have s3 : (s.step t).stage n = 3 := by rw [e]; exact stage_h rfl
      have hd : (s.step t).d = s.d := by rw [e]
      unfold Sys.mu; rw [s2, s3, hd]; omega
    · have e : s.step t = { s with ph := upd s.ph t .look } := by rw [hstep, hp]; simp only; rw [if_neg hc]
      have hd : (s.step t).d = s.d := by rw [e]
      have hph : ∀ u, u ≠ t → (s.step t).ph u = s.ph u := fun u hu => by rw [e]; simp [upd, hu]
      have hpt : (s.step t).ph t = .look := by rw [e]; simp [upd]
      have hhs : (s.step t).h = s.h := by rw [e]
      rcases key with ⟨h0, h⟩ | ⟨h0, h⟩ | ⟨h0, hn, h⟩ | ⟨h0, hn, hl, _⟩
      · right
        have htk : t ≠ k := by rintro rfl; rw [h] at hp; cases hp
        refine ⟨by unfold Sys.mu; rw [hd, stage_h (hhs.trans h0), stage_h h0], .inl ⟨hhs.trans h0, by rw [hph k (Ne.symm htk)]; exact h⟩, htk⟩
      · right
        have htk : t ≠ k := by
          rintro rfl
          rw [h] at hp
          cases hp
          exact hc ⟨h0, rfl⟩
        have hk' : (s.step t).ph k = .lock (s.step t).d := by rw [hph k (Ne.symm htk), hd]; exact h
        refine ⟨by unfold Sys.mu; rw [hd, stage_fresh (t := k) (hhs.trans h0) hk hk', stage_fresh (t := k) h0 hk h], .inr (.inl ⟨hhs.trans h0, hk'⟩), htk⟩
      · right
        have htk : t ≠ k := by rintro rfl; rw [h] at hp; cases hp
        have hn' : ∀ u, u < n → (s.step t).ph u ≠ .lock (s.step t).d := fun u hu => by
          by_cases hut : u = t
          · subst hut; rw [hpt]; exact fun x => by cases x
          · rw [hph u hut, hd]; exact hn u hu
        have hk' : (s.step t).ph k = .look := by rw [hph k (Ne.symm htk)]; exact h
        refine ⟨by unfold Sys.mu; rw [hd, stage_look (t := k) (hhs.trans h0) hn' hk hk', stage_look (t := k) h0 hn hk h], .inr (.inr (.inl ⟨hhs.trans h0, hn', hk'⟩)), htk⟩
      · left
        have hn' : ∀ u, u < n → (s.step t).ph u ≠ .lock (s.step t).d := fun u hu => by
          by_cases hut : u = t
          · subst hut; rw [hpt]; exact fun x => by cases x
          · rw [hph u hut, hd]; exact hn u hu
        have s1 := stage_look (t := t) (hhs.trans h0) hn' ht hpt
        have s0 := stage_stale h0 hn hl
        unfold Sys.mu; rw [hd, s1, s0]; omega
theorem key_exists {s : Sys} {n : Nat} (hi : s.Inv n) (h : s.d < n) : ∃ k, k < n ∧ s.Key n k := by
  by_cases hh : s.h = true
  · have := hi.has
    rw [hh] at this
    simp only [if_true] at this
    obtain ⟨t, ht, hp⟩ := cnt_pos _ n (by rw [this]; omega)
    refine ⟨t, ht, .inl ⟨hh, ?_⟩⟩
    cases hc : s.ph t <;> simp [hc, Ph.isHave] at hp
    rfl
  · have hf : s.h = false := by simpa using hh
    by_cases h1 : ∃ t, t < n ∧ s.ph t = .lock s.d
    · obtain ⟨t, ht, hp⟩ := h1; exact ⟨t, ht, .inr (.inl ⟨hf, hp⟩)⟩
    · have hn : ∀ u, u < n → s.ph u ≠ .lock s.d := fun u hu e => h1 ⟨u, hu, e⟩
      by_cases h2 : ∃ t, t < n ∧ s.ph t = .look
      · obtain ⟨t, ht, hp⟩ := h2; exact ⟨t, ht, .inr (.inr (.inl ⟨hf, hn, hp⟩))⟩
      · have hl : ∀ u, u < n → s.ph u ≠ .look := fun u hu e => h2 ⟨u, hu, e⟩
        obtain ⟨t, ht, hp⟩ := cnt_lt_exists _ (fun i => isDone_le (s.ph i)) n (by rw [hi.done]; exact h)
        refine ⟨t, ht, .inr (.inr (.inr ⟨hf, hn, hl, ?_⟩))⟩
        have h0 := hi.has
        rw [hf] at h0
        have hge := cnt_ge (fun i => (s.ph i).isHave) t n ht
        cases hc : s.ph t with
        | look => exact absurd hc (hl t ht)
        | lock e => exact ⟨e, rfl⟩
        | have_ => simp [hc, Ph.isHave] at hge h0; omega
        | done => simp [hc, Ph.isDone] at hp
/-- The run: pick number k is of thread tk k. -/
def Sys.run (tk : Nat → Nat) : Nat → Sys
  | 0 => ⟨fun _ => .look, 0, false⟩
  | k + 1 => (Sys.run tk k).step (tk k)
theorem cnt_zero (f : Nat → Nat) (h : ∀ i, f i = 0) : ∀ n, cnt f n = 0
  | 0 => rfl
  | n + 1 => by rw [cnt, cnt_zero f h n, h n]
theorem run_inv (tk : Nat → Nat) (n : Nat) (ht : ∀ k, tk k < n) : ∀ k, (Sys.run tk k).Inv n
  | 0 => ⟨cnt_zero _ (fun _ => rfl) n, cnt_zero _ (fun _ => rfl) n, fun t e he => by cases he⟩
  | k + 1 => Inv.step (run_inv tk n ht k) (tk k) (ht k)
theorem all_done {s : Sys} {n : Nat} (hi : s.Inv n) (hd : ¬ s.d < n) : s.d = n ∧ s.h = false ∧ ∀ t, t < n → s.ph t = .done := by
  have hle := cnt_le (fun i => (s.ph i).isDone) (fun i => isDone_le _) n
  rw [hi.done] at hle
  have hdone : ∀ t, t < n → s.ph t = .done := fun t ht => by
    by_cases h0 : (s.ph t).isDone = 0
    · have := cnt_lt (fun i => (s.ph i).isDone) (fun i => isDone_le _) t h0 n ht
      rw [hi.done] at this
      exact absurd this hd
    · cases hc : s.ph t <;> simp [hc, Ph.isDone] at h0
      rfl
  refine ⟨by omega, ?_, hdone⟩
  have h0 : cnt (fun i => (s.ph i).isHave) n = 0 := by
    rw [cnt_congr (g := fun _ => 0) n (fun i hi' => by rw [hdone i hi']; rfl)]
    exact cnt_zero _ (fun _ => rfl) n
  have := hi.has
  rw [h0] at this
  cases hc : s.h
  · rfl
  · rw [hc] at this; simp at this
theorem step_mono {s : Sys} {n : Nat} (hi : s.Inv n) (t : Nat) (ht : t < n) : (s.step t).mu n ≤ s.mu n := by
  by_cases hd : s.d < n
  · obtain ⟨k, hk, key⟩ := key_exists hi hd
    rcases step_mu hi t ht k hk key with h | ⟨h, _⟩
    · exact Nat.le_of_lt h
    · exact Nat.le_of_eq h
  · have e : s.step t = s := by unfold Sys.step; rw [(all_done hi hd).2.2 t ht]
    rw [e]; exact Nat.le_refl _
theorem run_mono (tk : Nat → Nat) (n : Nat) (ht : ∀ k, tk k < n) (a : Nat) : ∀ j, (Sys.run tk (a + j)).mu n ≤ (Sys.run tk a).mu n
  | 0 => Nat.le_refl _
  | j + 1 => Nat.le_trans (step_mono (run_inv tk n ht (a + j)) _ (ht (a + j))) (run_mono tk n ht a j)
/-- Among n picks in turn there is every thread: the measure falls. -/
theorem block_mu (tk : Nat → Nat) (n : Nat) (ht : ∀ k, tk k < n) (a : Nat) (hturn : ∀ j, a ≤ j → tk j = j % n) (hd : (Sys.run tk a).d < n) : (Sys.run tk (a + n)).mu n < (Sys.run tk a).mu n := by
  have hn : 0 < n := Nat.lt_of_le_of_lt (Nat.zero_le _) (ht 0)
  obtain ⟨k, hk, key⟩ := key_exists (run_inv tk n ht a) hd
  obtain ⟨p, hp, hpk⟩ : ∃ p, p < n ∧ (a + p) % n = k := by
    refine ⟨(k + n - a % n) % n, Nat.mod_lt _ hn, ?_⟩
    have h1 : a % n < n := Nat.mod_lt _ hn
    rw [← Nat.mod_add_mod, Nat.add_mod_mod]
    rw [show a % n + (k + n - a % n) = k + n by omega, Nat.add_mod_right, Nat.mod_eq_of_lt hk]
  have claim : ∀ j, j ≤ p → (Sys.run tk (a + j)).mu n < (Sys.run tk a).mu n ∨ ((Sys.run tk (a + j)).mu n = (Sys.run tk a).mu n ∧ (Sys.run tk (a + j)).Key n k) := by
    intro j
    induction j with
    | zero => intro _; exact .inr ⟨rfl, key⟩
    | succ j ih =>
      intro hj
      rcases ih (by omega) with h | ⟨h, hk'⟩
      · exact .inl (Nat.lt_of_le_of_lt (step_mono (run_inv tk n ht (a + j)) _ (ht (a + j))) h)
      · rcases step_mu (run_inv tk n ht (a + j)) (tk (a + j)) (ht (a + j)) k hk hk' with h2 | ⟨h2, h3, _⟩
        · exact .inl (Nat.lt_of_lt_of_eq h2 h)
        · exact .inr ⟨h2.trans h, h3⟩
  have hlast : (Sys.run tk (a + p + 1)).mu n < (Sys.run tk a).mu n := by
    rcases claim p (Nat.le_refl _) with h | ⟨h, hk'⟩
    · exact Nat.lt_of_le_of_lt (step_mono (run_inv tk n ht (a + p)) _ (ht (a + p))) h
    · rcases step_mu (run_inv tk n ht (a + p)) (tk (a + p)) (ht (a + p)) k hk hk' with h2 | ⟨_, _, h4⟩
      · exact Nat.lt_of_lt_of_eq h2 h
      · exact absurd ((hturn (a + p) (by omega)).trans hpk) h4
  have := run_mono tk n ht (a + p + 1) (n - p - 1)
  rw [show a + p + 1 + (n - p - 1) = a + n by omega] at this
  exact Nat.lt_of_le_of_lt this hlast
theorem run_stays (tk : Nat → Nat) (n : Nat) (ht : ∀ k, tk k < n) (a : Nat) (hd : ¬ (Sys.run tk a).d < n) : ∀ j, Sys.run tk (a + j) = Sys.run tk a
  | 0 => rfl
  | j + 1 => by
    have ih := run_stays tk n ht a hd j
    show (Sys.run tk (a + j)).step (tk (a + j)) = _
    rw [ih]
    unfold Sys.step
    rw [(all_done (run_inv tk n ht a) hd).2.2 _ (ht (a + j))]
theorem run_ends (tk : Nat → Nat) (n : Nat) (ht : ∀ k, tk k < n) (a : Nat) (hturn : ∀ j, a ≤ j → tk j = j % n) (hn : n ≤ 5) :
    (Sys.run tk (a + 40 * n)).d = n ∧ (Sys.run tk (a + 40 * n)).h = false ∧ ∀ t, t < n → (Sys.run tk (a + 40 * n)).ph t = .done := by
  refine all_done (run_inv tk n ht _) (fun hd => ?_)
  have hb : ∀ B, B ≤ 40 → (Sys.run tk (a + B * n)).d < n := fun B hB => by
    refine Decidable.byContradiction fun hc => ?_
    have := run_stays tk n ht (a + B * n) hc ((40 - B) * n)
    have e : a + B * n + (40 - B) * n = a + 40 * n := by rw [Nat.add_assoc, ← Nat.add_mul]; congr 2; omega
    rw [e] at this
    rw [this] at hd
    exact hc hd
  have hm : ∀ B, B ≤ 40 → (Sys.run tk (a + B * n)).mu n + B ≤ 4 * n := by
    intro B
    induction B with
    | zero => intro _; rw [Nat.zero_mul]; unfold Sys.mu; omega
    | succ B ih =>
      intro hB
      have h1 := ih (by omega)
      have h2 := block_mu tk n ht (a + B * n) (fun j hj => hturn j (by omega)) (hb B (by omega))
      rw [show a + B * n + n = a + (B + 1) * n by rw [Nat.add_mul]; omega] at h2
      omega
  have := hm 40 (Nat.le_refl _)
  omega
end Go.Proofs.Ytigmafikjbaigaa
