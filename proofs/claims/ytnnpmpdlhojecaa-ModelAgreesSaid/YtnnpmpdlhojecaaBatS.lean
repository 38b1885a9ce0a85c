/- The contracts of keys.Compare, of the closure that Apply hands over, and of slices.BinarySearchFunc on ascending entries. -/
import Derived.Test.YtnnpmpdlhojecaaBatL
import Derived.Test.YtnnpmpdlhojecaaChecked
import Derived.Deep.RegionHeld3
import Derived.Deep.QuietTactic
import Derived.BigQuiet
import Derived.Deep.CutBlock
namespace Go.Proofs.Ytnnpmpdlhojecaa
open Go.RowKit
def cmpS (a b : Str) : Int := if a < b then -1 else if b < a then 1 else 0
theorem cmpS_self (a : Str) : cmpS a a = 0 := by simp [cmpS, List.lt_irrefl]
theorem less_pos {a b : Str} (h : a < b) : Op.bytesLess a b = true := by rw [bytesLess_eq]; simpa using h
theorem less_neg {a b : Str} (h : ¬ a < b) : Op.bytesLess a b = false := by rw [bytesLess_eq]; simpa using h
theorem compare_any (a b : Str) (w : World) : Calls Try.prog 65 #[.string ⟨a.toArray⟩, .string ⟨b.toArray⟩] w fun e w' => e = .returned (.int .i64 (cmpS a b)) ∧ w' = w := by
  by_cases h1 : a < b
  · have h2 := less_pos h1
    go_enter Try.func65, Try.ntmps65
    go_wp2
    go_ret
    exact ⟨by simp [cmpS, h1], rfl⟩
  · have h2 := less_neg h1
    by_cases h3 : b < a
    · have h4 : (a == b) = false := by simpa using fun e : a = b => slt_ne h3 e.symm
      go_enter Try.func65, Try.ntmps65
      go_wp2
      go_ret
      exact ⟨by simp [cmpS, h1, h3], rfl⟩
    · obtain rfl := slt_tri h1 h3
      have h4 : (a == a) = true := by simp
      go_enter Try.func65, Try.ntmps65
      go_wp2
      go_ret
      exact ⟨by simp [cmpS, h1], rfl⟩
theorem clo_any (e : Ent) (k : Str) (w : World) : Calls Try.prog 64 #[.agg #[.string ⟨e.k.toArray⟩, .string ⟨e.v.toArray⟩], .string ⟨k.toArray⟩] w fun x w' => x = .returned (.int .i64 (cmpS e.k k)) ∧ Keeps [] w w' := by
  go_enter Try.func64, Try.ntmps64
  go_wp2_with (go_at_call 65; refine (compare_any _ _ _).mono ?_; rintro e w' ⟨rfl, rfl⟩)
  go_ret
  exact ⟨rfl, (Keeps.refl [] _).alloc _⟩
/-- Where the key belongs. -/
def pos (l : List Ent) (k : Str) : Nat := (l.takeWhile (fun e => decide (e.k < k))).length
def at_ (l : List Ent) (k : Str) : Bool := match l[pos l k]? with | some e => decide (e.k = k) | none => false
theorem pos_le (l : List Ent) (k : Str) : pos l k ≤ l.length := by
  unfold pos
  induction l with
  | nil => simp
  | cons x l ih => rw [List.takeWhile_cons]; split <;> simp; exact ih
theorem pos_lt {l : List Ent} {k : Str} {t : Nat} {e : Ent} (h : t < pos l k) (he : l[t]? = some e) : e.k < k := by
  induction l generalizing t with
  | nil => simp at he
  | cons x l ih =>
    unfold pos at h
    rw [List.takeWhile_cons] at h
    by_cases hx : x.k < k
    · cases t with
      | zero => simp at he; subst he; exact hx
      | succ t =>
        simp only [hx, decide_true, if_true, List.length_cons] at h
        exact ih (t := t) (by unfold pos; omega) (by simpa using he)
    · simp [hx] at h
theorem pos_ge {l : List Ent} {k : Str} {t : Nat} {e : Ent} (hl : Asc l) (h : pos l k ≤ t) (he : l[t]? = some e) : ¬ e.k < k := by
  induction l generalizing t with
  | nil => simp at he
  | cons x l ih =>
    have hl' := List.pairwise_cons.1 hl
    unfold pos at h
    rw [List.takeWhile_cons] at h
    by_cases hx : x.k < k
    · simp only [hx, decide_true, if_true, List.length_cons] at h
      cases t with
      | zero => omega
      | succ t => exact ih (t := t) hl'.2 (by unfold pos; omega) (by simpa using he)
    · cases t with
      | zero => simp at he; subst he; exact hx
      | succ t =>
        have := hl'.1 e (List.mem_of_getElem? (by simpa using he))
        exact fun h2 => hx (slt_trans this h2)
set_option maxHeartbeats 1000000 in
theorem search_any (l : List Ent) (k : Str) (hl : Asc l) (hn : l.length ≤ 4096) (g cap : Nat) (rest : List Value) (w : World) (hb : Blk w g (eCs l ++ rest)) :
    Calls Try.prog 50 #[.slice (some ⟨g, 0, none⟩) l.length cap, .string ⟨k.toArray⟩, .func (.func 64) #[] #[]] w fun x w' => x = .returned (.tuple #[.int .i64 (pos l k), .bool (at_ l k)]) ∧ Keeps [] w w' := by
  obtain ⟨n, hnn⟩ : ∃ n, l.length = n := ⟨_, rfl⟩
  obtain ⟨p, hp⟩ : ∃ p, pos l k = p := ⟨_, rfl⟩
  have hpn : p ≤ n := by rw [← hp, ← hnn]; exact pos_le l k
  rw [hnn] at hn ⊢
  rw [hp]
  have Hn := Lib.hid hnn
  have Hp := Lib.hid hp
  clear hnn hp
  go_enter Try.func50, Try.ntmps50
  go_wp2_with fail
  go_loopw [9, 10] (fun i j wr => ∃ a c : Nat, a ≤ p ∧ p ≤ c ∧ c ≤ n ∧ i = .int .i64 a ∧ j = .int .i64 c ∧ Keeps [] w wr) (fun i j _ => (intOf j).toNat - (intOf i).toNat)
  case atStart => exact ⟨0, n, by omega, hpn, by omega, rfl, rfl, Keeps.refl _ _⟩
  case round =>
    obtain ⟨a, c, ha, hc, hcn, rfl, rfl, hkp⟩ := hrel
    by_cases hlt : a < c
    · have hbr := hkp.blk hb (by simp)
      have hh : (a + c) / 2 < n := by omega
      obtain ⟨h, hhe⟩ : ∃ h, (a + c) / 2 = h := ⟨_, rfl⟩
      rw [hhe] at hh
      obtain ⟨e, he⟩ : ∃ e, l[h]? = some e := ⟨_, List.getElem?_eq_getElem (by rw [Hn.out]; exact hh)⟩
      have c0 := hbr.cell (h * 2)
      have c1 := hbr.cell (h * 2 + 1)
      have cl := hbr.lt
      obtain ⟨d0, d1⟩ := eCs_cells l h e he rest
      rw [d0] at c0
      rw [d1] at c1
      have He := Lib.hid he
      clear d0 d1 hbr he
      have hsum : ((a : Int) + (c : Int)) / 2 = (h : Int) := by omega
      have hsum2 : IntKind.i64.wrap ((a : Int) + (c : Int)) = (a : Int) + (c : Int) := by rw [IntKind.wrap_i64]; omega
      have hsum3 : IntKind.u64.wrap ((a : Int) + (c : Int)) = (a : Int) + (c : Int) := IntWalk.u64_in _ ⟨by omega, by omega⟩
      go_wp2_with fail
      refine (clo_any e k _).mono ?_
      rintro x w1 ⟨rfl, k1⟩
      have K1 := hkp.trans k1 (by simp)
      clear k1 c0 c1 cl hkp
      by_cases hek : e.k < k
      · have hlow : h < p := by
          rcases Nat.lt_or_ge h p with h1 | h1
          · exact h1
          · rw [← Hp.out] at h1; exact absurd hek (pos_ge hl h1 He.out)
        have hcm : cmpS e.k k = -1 := by simp [cmpS, hek]
        rw [hcm]
        go_wp2_with fail
        exact ⟨⟨h + 1, c, by omega, hc, hcn, by go_num, rfl, K1⟩, by simp [intOf]; omega⟩
      · have hhi : p ≤ h := by
          rcases Nat.lt_or_ge h p with h1 | h1
          · rw [← Hp.out] at h1; exact absurd (pos_lt h1 He.out) hek
          · exact h1
        have hcm : 0 ≤ cmpS e.k k := by unfold cmpS; rw [if_neg hek]; split <;> omega
        obtain ⟨z, hz⟩ : ∃ z, cmpS e.k k = z := ⟨_, rfl⟩
        rw [hz] at hcm ⊢
        go_wp2_with fail
        exact ⟨⟨a, h, ha, by omega, by omega, rfl, rfl, K1⟩, by simp [intOf]; omega⟩
    · obtain rfl : a = p := by omega
      obtain rfl : c = a := by omega
      by_cases hc2 : c < n
      · have hbr := hkp.blk hb (by simp)
        obtain ⟨e, he⟩ : ∃ e, l[c]? = some e := ⟨_, List.getElem?_eq_getElem (by rw [Hn.out]; exact hc2)⟩
        have c0 := hbr.cell (c * 2)
        have c1 := hbr.cell (c * 2 + 1)
        have cl := hbr.lt
        obtain ⟨d0, d1⟩ := eCs_cells l c e he rest
        rw [d0] at c0
        rw [d1] at c1
        have hat : at_ l k = decide (e.k = k) := by unfold at_; rw [Hp.out, he]
        have Hat := Lib.hid hat
        have hge := Lib.hid (pos_ge hl (by rw [Hp.out]; exact Nat.le_refl c) he)
        clear d0 d1 hbr he hat
        go_wp2_with fail
        refine (clo_any e k _).mono ?_
        rintro x w1 ⟨rfl, k1⟩
        have K1 := hkp.trans k1 (by simp)
        clear k1 c0 c1 cl hkp
        by_cases hek : e.k = k
        · have hcm : cmpS e.k k = 0 := by rw [hek]; exact cmpS_self k
          rw [hcm]
          go_wp2_with fail
          go_ret2
          exact ⟨by rw [Hat.out]; simp [hek], K1⟩
        · have hcm : cmpS e.k k = 1 := by unfold cmpS; rw [if_neg hge.out, if_pos (slt_of hge.out hek)]
          rw [hcm]
          go_wp2_with fail
          go_ret2
          exact ⟨by rw [Hat.out]; simp [hek], K1⟩
      · have hat : at_ l k = false := by unfold at_; rw [Hp.out, List.getElem?_eq_none (by rw [Hn.out]; omega)]
        obtain rfl : c = n := by omega
        have Hat := Lib.hid hat
        clear hat
        go_wp2_with fail
        go_ret2
        exact ⟨by rw [Hat.out]; rfl, hkp⟩
end Go.Proofs.Ytnnpmpdlhojecaa
