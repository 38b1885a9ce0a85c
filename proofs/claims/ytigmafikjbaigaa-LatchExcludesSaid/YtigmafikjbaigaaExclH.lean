/- How the state of LatchExcludes lies in the heap. Plain facts on worlds. -/
import Derived.Test.YtigmafikjbaigaaLatchM
import Derived.Test.YtigmafikjbaigaaExcl
namespace Go.Proofs.Ytigmafikjbaigaa
open Go.RowKit
def ptr (b : Nat) : Value := .pointer (some ⟨b, 0, none⟩)
def stV : Ph → Value
  | .look => .int .i64 0
  | .lock _ => .int .i64 0
  | .have_ => .int .i64 1
  | .done => .int .i64 2
def AcqPh (w : World) (ab : Nat) (p : Ph) (d : Nat) : Prop :=
  match p with
  | .look => ∃ x, Acq w ab .look 1 x
  | .lock e => Acq w ab .lock 1 (4 * (e : Int) + 1)
  | .have_ => Acq w ab .done 1 (4 * (d : Int) + 1)
  | .done => ∃ x, Acq w ab .done 1 x
theorem AcqPh.keeps {w w' : World} {ab d d' : Nat} {p : Ph} (h : AcqPh w ab p d) {S : List Nat} (k : Keeps S w w') (hn : ab ∉ S) (hd : p = .have_ → d' = d) : AcqPh w' ab p d' := by
  cases p with
  | look => obtain ⟨x, hx⟩ := h; exact ⟨x, k.blk hx hn⟩
  | lock e => exact k.blk h hn
  | have_ => rw [hd rfl]; exact k.blk h hn
  | done => obtain ⟨x, hx⟩ := h; exact ⟨x, k.blk hx hn⟩
def cur (s : Sys) : Int := 4 * (s.d : Int) + if s.h then 1 else 0
def mem2 (s : Sys) : List C3 := [C3.zero, ⟨cur s, ⟨#[]⟩, 0⟩]
def RelPh (w : World) (n B2 : Nat) (s : Sys) (rv : List Value) : Prop :=
  ∀ t, t < n → s.ph t = .have_ → ∃ rb ib wb, rv[t]? = some (ptr rb) ∧ Rel w rb ib wb 1 (4 * (s.d : Int) + 5) ∧ B2 ≤ rb ∧ B2 ≤ ib ∧ B2 ≤ wb
structure Lay (n m c al rl sl B2 : Nat) (abs : List Nat) : Prop where
  len : abs.length = n
  inj : ∀ (i j b : Nat), abs[i]? = some b → abs[j]? = some b → i = j
  old : ∀ b, b ∈ abs → b < B2 ∧ b ≠ m ∧ b ≠ c ∧ b ≠ al ∧ b ≠ rl ∧ b ≠ sl
  lt : m < B2 ∧ c < B2 ∧ al < B2 ∧ rl < B2 ∧ sl < B2
  ne : al ≠ m ∧ al ≠ c ∧ rl ≠ m ∧ rl ≠ c ∧ sl ≠ m ∧ sl ≠ c ∧ al ≠ rl ∧ al ≠ sl ∧ rl ≠ sl
structure Lies (w : World) (n m c al rl sl B2 : Nat) (abs : List Nat) (rest : List Value) (s : Sys) (acc : Nat) : Prop where
  mem : MemAt w m c (mem2 s) acc
  al : Blk w al (abs.map ptr ++ rest)
  rl : ∃ rv, rv.length = n ∧ Blk w rl rv ∧ RelPh w n B2 s rv
  sl : Blk w sl ((List.range n).map fun t => stV (s.ph t))
  acq : ∀ t ab, abs[t]? = some ab → AcqPh w ab (s.ph t) s.d
section
variable {w w' : World} {n m c al rl sl B2 acc acc' : Nat} {abs : List Nat} {rest : List Value} {s : Sys}
theorem Rel.keeps {w w' : World} {rb ib wb : Nat} {i x : Int} (h : Rel w rb ib wb i x) {S : List Nat} (k : Keeps S w w') (h1 : rb ∉ S) (h2 : ib ∉ S) (h3 : wb ∉ S) : Rel w' rb ib wb i x :=
  ⟨k.blk h.1 h1, k.blk h.2.1 h2, k.blk h.2.2 h3⟩
theorem RelPh.keeps {rv : List Value} {s' : Sys} (h : RelPh w n B2 s rv) {S : List Nat} (k : Keeps S w w') (hS : ∀ b, b ∈ S → b < B2) (hh : ∀ t, t < n → s'.ph t = .have_ → s.ph t = .have_ ∧ s'.d = s.d) : RelPh w' n B2 s' rv := by
  intro t ht hp
  obtain ⟨h1, h2⟩ := hh t ht hp
  obtain ⟨rb, ib, wb, e, hr, a, b, c⟩ := h t ht h1
  exact ⟨rb, ib, wb, e, by rw [h2]; exact hr.keeps k (fun x => by have := hS _ x; omega) (fun x => by have := hS _ x; omega) (fun x => by have := hS _ x; omega), a, b, c⟩
theorem Lies.keeps (h : Lies w n m c al rl sl B2 abs rest s acc) (k : Keeps [] w w') : Lies w' n m c al rl sl B2 abs rest s acc := by
  obtain ⟨rv, r1, r2, r3⟩ := h.rl
  exact ⟨h.mem.keeps k (by simp) (by simp), k.blk h.al (by simp), ⟨rv, r1, k.blk r2 (by simp), r3.keeps k (by simp) (fun t ht hp => ⟨hp, rfl⟩)⟩, k.blk h.sl (by simp), fun t ab hab => (h.acq t ab hab).keeps k (by simp) (fun _ => rfl)⟩
/-- A pick of thread t that changed the memory and that thread's machine alone. -/
theorem Lies.turn (h : Lies w n m c al rl sl B2 abs rest s acc) (hl : Lay n m c al rl sl B2 abs) {t ab : Nat} {p : Ph} {d' : Nat} {h' : Bool} (hab : abs[t]? = some ab) (k : Keeps [m, c, ab] w w')
    (hp : stV p = stV (s.ph t)) (hnh : p ≠ .have_) (hd : d' = s.d)
    (hm : MemAt w' m c (mem2 ⟨upd s.ph t p, d', h'⟩) acc') (ha : AcqPh w' ab p d') : Lies w' n m c al rl sl B2 abs rest ⟨upd s.ph t p, d', h'⟩ acc' := by
  subst hd
  obtain ⟨rv, r1, r2, r3⟩ := h.rl
  have hold := hl.old ab (List.mem_of_getElem? hab)
  have hlt := hl.lt
  have hne := hl.ne
  refine ⟨hm, k.blk h.al (by simp; omega), ⟨rv, r1, k.blk r2 (by simp; omega), r3.keeps k (by simp; omega) (fun u hu hp' => ?_)⟩, ?_, fun u b hb => ?_⟩
  · simp only [upd] at hp'
    split at hp'
    · exact absurd hp' hnh
    · exact ⟨hp', rfl⟩
  · have e : (List.range n).map (fun u => stV (upd s.ph t p u)) = (List.range n).map (fun u => stV (s.ph u)) := by
      refine List.map_congr_left fun u _ => ?_
      simp only [upd]
      split
      · rename_i e; rw [hp, e]
      · rfl
    rw [e]
    exact k.blk h.sl (by simp; omega)
  · by_cases e : u = t
    · subst e
      rw [hab] at hb
      cases hb
      simpa [upd] using ha
    · have hne2 : b ≠ ab := fun x => by
        subst x
        exact e (hl.inj u t _ hb hab)
      have hob := hl.old b (List.mem_of_getElem? hb)
      have := (h.acq u b hb).keeps k (d' := s.d) (by simp; omega) (fun _ => rfl)
      simpa [upd, e] using this
theorem range_set (n t : Nat) (ph : Nat → Ph) (p : Ph) (ht : t < n) : ((List.range n).map fun u => stV (ph u)).set t (stV p) = (List.range n).map fun u => stV (upd ph t p u) := by
  apply List.ext_getElem?
  intro i
  rw [List.getElem?_set]
  by_cases e : t = i
  · subst e; simp [ht, upd]
  · rw [if_neg e]
    simp only [List.getElem?_map]
    by_cases hi : i < n
    · simp [hi, upd, Ne.symm e]
    · simp [hi]
theorem no_have {s : Sys} {n : Nat} (hi : s.Inv n) (hh : s.h = false) : ∀ u, u < n → s.ph u ≠ .have_ := by
  intro u hu e
  have h0 := hi.has
  rw [hh] at h0
  have hge := cnt_ge (fun i => (s.ph i).isHave) u n hu
  rw [h0] at hge
  rw [e] at hge
  exact absurd hge (by simp [Ph.isHave])
theorem has_h {s : Sys} {n t : Nat} (hi : s.Inv n) (ht : t < n) (hp : s.ph t = .have_) : s.h = true := by
  cases hh : s.h
  · exact absurd hp (no_have hi hh t ht)
  · rfl
theorem only_have {s : Sys} {n t : Nat} (hi : s.Inv n) (ht : t < n) (hp : s.ph t = .have_) : ∀ u, u < n → u ≠ t → s.ph u ≠ .have_ := by
  intro u hu hut e
  have h1 := Inv.step hi t ht
  have e1 : s.step t = { ph := upd s.ph t .done, d := s.d + 1, h := false } := by unfold Sys.step; rw [hp]
  rw [e1] at h1
  exact no_have h1 rfl u hu (by simp [upd, hut, e])
theorem Lies.take (h : Lies w n m c al rl sl B2 abs rest s acc) (hl : Lay n m c al rl sl B2 abs) {t ab : Nat} (ht : t < n) (hab : abs[t]? = some ab) (huniq : ∀ u, u < n → s.ph u ≠ .have_) {rv : List Value} (r1 : rv.length = n) {rb ib wb : Nat}
    (k : Keeps [m, c, ab, sl, rl] w w') (hm : MemAt w' m c (mem2 ⟨upd s.ph t .have_, s.d, true⟩) acc') (ha : Acq w' ab .done 1 (4 * (s.d : Int) + 1))
    (hs : Blk w' sl (((List.range n).map fun u => stV (s.ph u)).set t (.int .i64 1))) (hr : Blk w' rl (rv.set t (ptr rb))) (hrel : Rel w' rb ib wb 1 (4 * (s.d : Int) + 5)) (h1 : B2 ≤ rb) (h2 : B2 ≤ ib) (h3 : B2 ≤ wb) :
    Lies w' n m c al rl sl B2 abs rest ⟨upd s.ph t .have_, s.d, true⟩ acc' := by
  have hold := hl.old ab (List.mem_of_getElem? hab)
  have hlt := hl.lt
  have hne := hl.ne
  refine ⟨hm, k.blk h.al (by simp; omega), ⟨rv.set t (ptr rb), by simp [r1], hr, fun u hu hp => ?_⟩, ?_, fun u b hb => ?_⟩
  · by_cases e : u = t
    · subst e
      exact ⟨rb, ib, wb, by rw [List.getElem?_set_self (by omega)], hrel, h1, h2, h3⟩
    · simp only [upd, e, if_false] at hp
      exact absurd hp (huniq u hu)
  · have := range_set n t s.ph .have_ ht
    rw [← this]
    exact hs
  · by_cases e : u = t
    · subst e
      rw [hab] at hb
      cases hb
      simpa [upd, AcqPh] using ha
    · have hne2 : b ≠ ab := fun x => by
        subst x
        exact e (hl.inj u t _ hb hab)
      have hob := hl.old b (List.mem_of_getElem? hb)
      have := (h.acq u b hb).keeps k (d' := s.d) (by simp; omega) (fun _ => rfl)
      simpa [upd, e] using this
theorem Lies.give (h : Lies w n m c al rl sl B2 abs rest s acc) (hl : Lay n m c al rl sl B2 abs) {t ab rb : Nat} (ht : t < n) (hab : abs[t]? = some ab) (hp : s.ph t = .have_) (huniq : ∀ u, u < n → u ≠ t → s.ph u ≠ .have_) (hrb : B2 ≤ rb)
    (k : Keeps [m, c, rb, sl] w w') (hm : MemAt w' m c (mem2 ⟨upd s.ph t .done, s.d + 1, false⟩) acc')
    (hs : Blk w' sl (((List.range n).map fun u => stV (s.ph u)).set t (.int .i64 2))) : Lies w' n m c al rl sl B2 abs rest ⟨upd s.ph t .done, s.d + 1, false⟩ acc' := by
  have hlt := hl.lt
  have hne := hl.ne
  obtain ⟨rv, r1, r2, r3⟩ := h.rl
  refine ⟨hm, k.blk h.al (by simp; omega), ⟨rv, r1, k.blk r2 (by simp; omega), fun u hu hp' => ?_⟩, ?_, fun u b hb => ?_⟩
  · simp only [upd] at hp'
    split at hp'
    · cases hp'
    · rename_i e; exact absurd hp' (huniq u hu e)
  · have := range_set n t s.ph .done ht
    rw [← this]
    exact hs
  · have hun : u < n := by rw [← hl.len]; exact (List.getElem?_eq_some_iff.1 hb).1
    have hob := hl.old b (List.mem_of_getElem? hb)
    by_cases e : u = t
    · subst e
      have h4 := h.acq u b hb
      rw [hp] at h4
      have : AcqPh w' b .done (s.d + 1) := ⟨_, k.blk h4 (by simp; omega)⟩
      simpa [upd] using this
    · have := (h.acq u b hb).keeps k (d' := s.d + 1) (by simp; omega) (fun x => absurd x (huniq u hun e))
      simpa [upd, e] using this
end
end Go.Proofs.Ytigmafikjbaigaa
