/- The model: strings.Compare, the closure of Get, and the search by it. -/
import Derived.Test.YtnnpmpdlhojecaaBatV
import Derived.Lib.Bytealg
namespace Go.Proofs.Ytnnpmpdlhojecaa
open Go.RowKit
theorem cmp_bytes : ∀ a b : Str, Lib.compareBytes a b = cmpS a b
  | [], [] => by simp [Lib.compareBytes, cmpS]
  | [], _ :: _ => by simp [Lib.compareBytes, cmpS]
  | _ :: _, [] => by simp [Lib.compareBytes, cmpS]
  | a :: xs, b :: ys => by
    rw [Lib.compareBytes, cmp_bytes xs ys]
    unfold cmpS
    by_cases h1 : a < b
    · simp [h1, List.cons_lt_cons_iff]
    · by_cases h2 : b < a
      · have h3 : ¬ a = b := fun e => by subst e; exact h1 h2
        have h4 : ¬ b = a := fun e => h3 e.symm
        simp [h1, h2, h3, List.cons_lt_cons_iff]
      · have h3 : a = b := UInt8.le_antisymm (UInt8.not_lt.1 h2) (UInt8.not_lt.1 h1)
        subst h3
        simp [List.cons_lt_cons_iff]
theorem sCompare_any (a b : Str) (w : World) : Calls Try.prog 52 #[.string ⟨a.toArray⟩, .string ⟨b.toArray⟩] w fun e w' => e = .returned (.int .i64 (cmpS a b)) ∧ w' = w := by
  have e70 : ∀ w, (callFunc 78 #[.string ⟨a.toArray⟩, .string ⟨b.toArray⟩]).run Try.prog w = .ok (.value (.int .i64 (cmpS a b))) w := fun w => by
    rw [run_callFunc_extern Try.func78 (by kernel_rfl) (by kernel_rfl) (by kernel_rfl) (e := Extern.BytealgCompare.compare) (by kernel_rfl), Lib.run_compareString, cmp_bytes]
    rfl
  have hc : ∀ w, Calls Try.prog 70 #[.string ⟨a.toArray⟩, .string ⟨b.toArray⟩] w fun e w' => e = .returned (.int .i64 (cmpS a b)) ∧ w' = w := fun w => by
    go_enter Try.func70, Try.ntmps70
    go_wp2_with (simp only [e70])
    go_ret
    exact ⟨rfl, rfl⟩
  go_enter Try.func52, Try.ntmps52
  go_wp2_with (go_at_call 70; refine (hc _).mono ?_; rintro e w' ⟨rfl, rfl⟩)
  go_ret
  exact ⟨rfl, rfl⟩
theorem cloM_any (e : Ent) (k : Str) (w : World) : Calls Try.prog 51 #[.agg #[.string ⟨e.k.toArray⟩, .string ⟨e.v.toArray⟩], .string ⟨k.toArray⟩] w fun x w' => x = .returned (.int .i64 (cmpS e.k k)) ∧ Keeps [] w w' := by
  go_enter Try.func51, Try.ntmps51
  go_wp2_with (go_at_call 52; refine (sCompare_any _ _ _).mono ?_; rintro e w' ⟨rfl, rfl⟩)
  go_ret
  exact ⟨rfl, (Keeps.refl [] _).alloc _⟩
set_option maxHeartbeats 1000000 in
theorem searchM_any (l : List Ent) (k : Str) (hl : Asc l) (hn : l.length ≤ 4096) (g cap : Nat) (rest : List Value) (w : World) (hb : Blk w g (eCs l ++ rest)) :
    Calls Try.prog 50 #[.slice (some ⟨g, 0, none⟩) l.length cap, .string ⟨k.toArray⟩, .func (.func 51) #[] #[]] w fun x w' => x = .returned (.tuple #[.int .i64 (pos l k), .bool (at_ l k)]) ∧ Keeps [] w w' := by
  obtain ⟨n, hnn⟩ : ∃ n, l.length = n := ⟨_, rfl⟩
  obtain ⟨p, hp⟩ : ∃ p, pos l k = p := ⟨_, rfl⟩
  have hpn : p ≤ n := by rw [← hp, ← hnn]; exact pos_le l k
  rw [hnn] at hn ⊢
  rw [hp]
  have Hn := Lib.hid hnn
  have Hp := Lib.hid hp
  clear hnn hp
  go_enter Try.func50, Try.ntmps50
  go_wp2_with fail
  go_loopw [9, 10] (fun i j wr => ∃ a c : Nat, a ≤ p ∧ p ≤ c ∧ c ≤ n ∧ i = .int .i64 a ∧ j = .int .i64 c ∧ Keeps [] w wr) (fun i j _ => (intOf j).toNat - (intOf i).toNat)
  case atStart => exact ⟨0, n, by omega, hpn, by omega, rfl, rfl, Keeps.refl _ _⟩
  case round =>
    obtain ⟨a, c, ha, hc, hcn, rfl, rfl, hkp⟩ := hrel
    by_cases hlt : a < c
    · have hbr := hkp.blk hb (by simp)
      have hh : (a + c) / 2 < n := by omega
      obtain ⟨h, hhe⟩ : ∃ h, (a + c) / 2 = h := ⟨_, rfl⟩
      rw [hhe] at hh
      obtain ⟨e, he⟩ : ∃ e, l[h]? = some e := ⟨_, List.getElem?_eq_getElem (by rw [Hn.out]; exact hh)⟩
      have c0 := hbr.cell (h * 2)
      have c1 := hbr.cell (h * 2 + 1)
      have cl := hbr.lt
      obtain ⟨d0, d1⟩ := eCs_cells l h e he rest
      rw [d0] at c0
      rw [d1] at c1
      have He := Lib.hid he
      clear d0 d1 hbr he
      have hsum : ((a : Int) + (c : Int)) / 2 = (h : Int) := by omega
      have hsum2 : IntKind.i64.wrap ((a : Int) + (c : Int)) = (a : Int) + (c : Int) := by rw [IntKind.wrap_i64]; omega
      have hsum3 : IntKind.u64.wrap ((a : Int) + (c : Int)) = (a : Int) + (c : Int) := IntWalk.u64_in _ ⟨by omega, by omega⟩
      go_wp2_with fail
      refine (cloM_any e k _).mono ?_
      rintro x w1 ⟨rfl, k1⟩
      have K1 := hkp.trans k1 (by simp)
      clear k1 c0 c1 cl hkp
      by_cases hek : e.k < k
      · have hlow : h < p := by
          rcases Nat.lt_or_ge h p with h1 | h1
          · exact h1
          · rw [← Hp.out] at h1; exact absurd hek (pos_ge hl h1 He.out)
        have hcm : cmpS e.k k = -1 := by simp [cmpS, hek]
        rw [hcm]
        go_wp2_with fail
        exact ⟨⟨h + 1, c, by omega, hc, hcn, by go_num, rfl, K1⟩, by simp [intOf]; omega⟩
      · have hhi : p ≤ h := by
          rcases Nat.lt_or_ge h p with h1 | h1
          · rw [← Hp.out] at h1; exact absurd (pos_lt h1 He.out) hek
          · exact h1
        have hcm : 0 ≤ cmpS e.k k := by unfold cmpS; rw [if_neg hek]; split <;> omega
        obtain ⟨z, hz⟩ : ∃ z, cmpS e.k k = z := ⟨_, rfl⟩
        rw [hz] at hcm ⊢
        go_wp2_with fail
        exact ⟨⟨a, h, ha, by omega, by omega, rfl, rfl, K1⟩, by simp [intOf]; omega⟩
    · obtain rfl : a = p := by omega
      obtain rfl : c = a := by omega
      by_cases hc2 : c < n
      · have hbr := hkp.blk hb (by simp)
        obtain ⟨e, he⟩ : ∃ e, l[c]? = some e := ⟨_, List.getElem?_eq_getElem (by rw [Hn.out]; exact hc2)⟩
        have c0 := hbr.cell (c * 2)
        have c1 := hbr.cell (c * 2 + 1)
        have cl := hbr.lt
        obtain ⟨d0, d1⟩ := eCs_cells l c e he rest
        rw [d0] at c0
        rw [d1] at c1
        have hat : at_ l k = decide (e.k = k) := by unfold at_; rw [Hp.out, he]
        have Hat := Lib.hid hat
        have hge := Lib.hid (pos_ge hl (by rw [Hp.out]; exact Nat.le_refl c) he)
        clear d0 d1 hbr he hat
        go_wp2_with fail
        refine (cloM_any e k _).mono ?_
        rintro x w1 ⟨rfl, k1⟩
        have K1 := hkp.trans k1 (by simp)
        clear k1 c0 c1 cl hkp
        by_cases hek : e.k = k
        · have hcm : cmpS e.k k = 0 := by rw [hek]; exact cmpS_self k
          rw [hcm]
          go_wp2_with fail
          go_ret2
          exact ⟨by rw [Hat.out]; simp [hek], K1⟩
        · have hcm : cmpS e.k k = 1 := by unfold cmpS; rw [if_neg hge.out, if_pos (slt_of hge.out hek)]
          rw [hcm]
          go_wp2_with fail
          go_ret2
          exact ⟨by rw [Hat.out]; simp [hek], K1⟩
      · have hat : at_ l k = false := by unfold at_; rw [Hp.out, List.getElem?_eq_none (by rw [Hn.out]; omega)]
        obtain rfl : c = n := by omega
        have Hat := Lib.hid hat
        clear hat
        go_wp2_with fail
        go_ret2
        exact ⟨by rw [Hat.out]; rfl, hkp⟩
end Go.Proofs.Ytnnpmpdlhojecaa
