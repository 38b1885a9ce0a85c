/- Lemmas on the way to LinearAcceptsSequential. No condition. -/
import Derived.Test.YtbcgpjfejpcgnaaGreatRAz
set_option linter.unusedSimpArgs false
set_option linter.unusedVariables false
set_option linter.unusedSectionVars false
section
namespace Go.Proofs.YtbcgpjfejpcgnaaGreat
open Go.RowKit
set_option maxRecDepth 100000
set_option linter.unusedVariables false
theorem cloT_any (e : Ent) (k : Str) (w : World) : Calls Tryz.prog 93 #[.agg #[.string ⟨e.k.toArray⟩, .string ⟨e.v.toArray⟩], .string ⟨k.toArray⟩] w fun x w' => x = .returned (.int .i64 (cmpS e.k k)) ∧ Keeps [] w w' := by
  go_enter Tryz.func93, Tryz.ntmps93
  go_wp2_with (go_at_call 86; refine (compare_any _ _ _).mono ?_; rintro e w' ⟨rfl, rfl⟩)
  go_ret
  exact ⟨rfl, (Keeps.refl [] _).alloc _⟩
set_option maxHeartbeats 1000000 in
theorem searchT_any (l : List Ent) (k : Str) (hl : Asc l) (hn : l.length ≤ 4096) (g cap : Nat) (rest : List Value) (w : World) (hb : Blk w g (eCs l ++ rest)) :
    Calls Tryz.prog 84 #[.slice (some ⟨g, 0, none⟩) l.length cap, .string ⟨k.toArray⟩, .func (.func 93) #[] #[]] w fun x w' => x = .returned (.tuple #[.int .i64 (pos l k), .bool (at_ l k)]) ∧ Keeps [] w w' := by
  obtain ⟨n, hnn⟩ : ∃ n, l.length = n := ⟨_, rfl⟩
  obtain ⟨p, hp⟩ : ∃ p, pos l k = p := ⟨_, rfl⟩
  have hpn : p ≤ n := by rw [← hp, ← hnn]; exact pos_le l k
  rw [hnn] at hn ⊢
  rw [hp]
  have Hn := Lib.hid hnn
  have Hp := Lib.hid hp
  clear hnn hp
  go_enter Tryz.func84, Tryz.ntmps84
  go_wp2_with fail
  go_loopw [9, 10] (fun i j wr => ∃ a c : Nat, a ≤ p ∧ p ≤ c ∧ c ≤ n ∧ i = .int .i64 a ∧ j = .int .i64 c ∧ Keeps [] w wr) (fun i j _ => (intOf j).toNat - (intOf i).toNat)
  case atStart => exact ⟨0, n, by omega, hpn, by omega, rfl, rfl, Keeps.refl _ _⟩
  case round =>
    obtain ⟨a, c, ha, hc, hcn, rfl, rfl, hkp⟩ := hrel
    by_cases hlt : a < c
    · have hbr := hkp.blk hb (by simp)
      have hh : (a + c) / 2 < n := by omega
      obtain ⟨h, hhe⟩ : ∃ h, (a + c) / 2 = h := ⟨_, rfl⟩
      rw [hhe] at hh
      obtain ⟨e, he⟩ : ∃ e, l[h]? = some e := ⟨_, List.getElem?_eq_getElem (by rw [Hn.out]; exact hh)⟩
      have c0 := hbr.cell (h * 2)
      have c1 := hbr.cell (h * 2 + 1)
      have cl := hbr.lt
      obtain ⟨d0, d1⟩ := eCs_cells l h e he rest
      rw [d0] at c0
      rw [d1] at c1
      have He := Lib.hid he
      clear d0 d1 hbr he
      have hsum : ((a : Int) + (c : Int)) / 2 = (h : Int) := by omega
      have hsum2 : IntKind.i64.wrap ((a : Int) + (c : Int)) = (a : Int) + (c : Int) := by rw [IntKind.wrap_i64]; omega
      have hsum3 : IntKind.u64.wrap ((a : Int) + (c : Int)) = (a : Int) + (c : Int) := IntWalk.u64_in _ ⟨by omega, by omega⟩
      go_wp2_with fail
      refine (cloT_any e k _).mono ?_
      rintro x w1 ⟨rfl, k1⟩
      have K1 := hkp.trans k1 (by simp)
      clear k1 c0 c1 cl hkp
      by_cases hek : e.k < k
      · have hlow : h < p := by
          rcases Nat.lt_or_ge h p with h1 | h1
          · exact h1
          · rw [← Hp.out] at h1; exact absurd hek (pos_ge hl h1 He.out)
        have hcm : cmpS e.k k = -1 := by simp [cmpS, hek]
        rw [hcm]
        go_wp2_with fail
        exact ⟨⟨h + 1, c, by omega, hc, hcn, by go_num, rfl, K1⟩, by simp [intOf]; omega⟩
      · have hhi : p ≤ h := by
          rcases Nat.lt_or_ge h p with h1 | h1
          · rw [← Hp.out] at h1; exact absurd (pos_lt h1 He.out) hek
          · exact h1
        have hcm : 0 ≤ cmpS e.k k := by unfold cmpS; rw [if_neg hek]; split <;> omega
        obtain ⟨z, hz⟩ : ∃ z, cmpS e.k k = z := ⟨_, rfl⟩
        rw [hz] at hcm ⊢
        go_wp2_with fail
        exact ⟨⟨a, h, ha, by omega, by omega, rfl, rfl, K1⟩, by simp [intOf]; omega⟩
    · obtain rfl : a = p := by omega
      obtain rfl : c = a := by omega
      by_cases hc2 : c < n
      · have hbr := hkp.blk hb (by simp)
        obtain ⟨e, he⟩ : ∃ e, l[c]? = some e := ⟨_, List.getElem?_eq_getElem (by rw [Hn.out]; exact hc2)⟩
        have c0 := hbr.cell (c * 2)
        have c1 := hbr.cell (c * 2 + 1)
        have cl := hbr.lt
        obtain ⟨d0, d1⟩ := eCs_cells l c e he rest
        rw [d0] at c0
        rw [d1] at c1
        have hat : at_ l k = decide (e.k = k) := by unfold at_; rw [Hp.out, he]
        have Hat := Lib.hid hat
        have hge := Lib.hid (pos_ge hl (by rw [Hp.out]; exact Nat.le_refl c) he)
        clear d0 d1 hbr he hat
        go_wp2_with fail
        refine (cloT_any e k _).mono ?_
        rintro x w1 ⟨rfl, k1⟩
        have K1 := hkp.trans k1 (by simp)
        clear k1 c0 c1 cl hkp
        by_cases hek : e.k = k
        · have hcm : cmpS e.k k = 0 := by rw [hek]; exact cmpS_self k
          rw [hcm]
          go_wp2_with fail
          go_ret2
          exact ⟨by rw [Hat.out]; simp [hek], K1⟩
        · have hcm : cmpS e.k k = 1 := by unfold cmpS; rw [if_neg hge.out, if_pos (slt_of hge.out hek)]
          rw [hcm]
          go_wp2_with fail
          go_ret2
          exact ⟨by rw [Hat.out]; simp [hek], K1⟩
      · have hat : at_ l k = false := by unfold at_; rw [Hp.out, List.getElem?_eq_none (by rw [Hn.out]; omega)]
        obtain rfl : c = n := by omega
        have Hat := Lib.hid hat
        clear hat
        go_wp2_with fail
        go_ret2
        exact ⟨by rw [Hat.out]; rfl, hkp⟩
theorem searchT_nil (k : Str) (w : World) :
    Calls Tryz.prog 84 #[.slice none 0 0, .string ⟨k.toArray⟩, .func (.func 93) #[] #[]] w fun x w' => x = .returned (.tuple #[.int .i64 0, .bool false]) ∧ Keeps [] w w' := by
  go_enter Tryz.func84, Tryz.ntmps84
  go_wp2_with fail
  go_loopw [9, 10] (fun i j wr => i = .int .i64 0 ∧ j = .int .i64 0 ∧ wr = w) (fun _ _ _ => 0)
  case atStart => exact ⟨rfl, rfl, rfl⟩
  case round =>
    obtain ⟨rfl, rfl, rfl⟩ := hrel
    go_wp2_with fail
    go_ret2
    exact ⟨rfl, Keeps.refl _ _⟩
theorem searchT_own (l : List Ent) (k : Str) (hl : Asc l) (hn : l.length ≤ 4096) (base : Nat) (v : Value) (w : World) (ho : Own w base v l) :
    Calls Tryz.prog 84 #[v, .string ⟨k.toArray⟩, .func (.func 93) #[] #[]] w fun x w' => x = .returned (.tuple #[.int .i64 (pos l k), .bool (at_ l k)]) ∧ Keeps [] w w' := by
  rcases ho with ⟨rfl, rfl⟩ | ⟨g, cap, rest, rfl, hb, _⟩
  · exact searchT_nil k w
  · exact searchT_any l k hl hn g cap rest w hb
theorem pos_less {l : List Ent} (hl : Asc l) (k : Str) : pos l k = less l k := by
  unfold pos less
  congr 1
  induction l with
  | nil => rfl
  | cons e l ih =>
    obtain ⟨h1, h2⟩ := List.pairwise_cons.1 hl
    by_cases he : e.k < k
    · rw [List.takeWhile_cons_of_pos (by simpa using he), List.filter_cons_of_pos (by simpa using he), ih h2]
    · rw [List.takeWhile_cons_of_neg (by simpa using he), List.filter_cons_of_neg (by simpa using he)]
      symm
      rw [List.filter_eq_nil_iff]
      intro x hx
      have := h1 x hx
      simp only [decide_eq_true_eq]
      intro hk
      exact he (List.lt_trans this hk)
theorem tgt1_any (l : List Ent) (k : Str) (hl : Asc l) (hn : l.length ≤ 4096) (base g : Nat) (v : Value) (w : World) (hb : Blk w g [v]) (ho : Own w base v l) :
    Calls Tryz.prog 92 #[.string ⟨k.toArray⟩, .pointer (some ⟨g, 0, none⟩)] w fun x w' => x = .returned (.tuple #[.int .i64 (less l k : Int), .bool (at_ l k)]) ∧ Keeps [] w w' := by
  obtain ⟨d0, df, dl⟩ := hb.o1
  have hs := searchT_own l k hl hn base v w ho
  rw [pos_less hl] at hs
  clear hb ho
  go_enter Tryz.func92, Tryz.ntmps92
  go_wp2_with fail
  refine hs.mono ?_
  rintro x w1 ⟨rfl, k1⟩
  go_wp2_with fail
  go_ret2
  exact ⟨rfl, k1⟩
set_option maxHeartbeats 4000000 in
theorem target_any (l : List Ent) (hl : Asc l) (hn : l.length ≤ 4000) (base : Nat) (v : Value) (w : World) (ho : Own w base v l) (pl : Nat) (hpl : pl ≤ 2) (at_' : Str) (mv : Nat) (hmv : mv ≤ 4) (key : Str) :
    Calls Tryz.prog 80 #[v, .agg #[.int .i64 (pl : Int), .string ⟨at_'.toArray⟩], .int .i64 (mv : Int), .string ⟨key.toArray⟩] w fun x w' => x = .returned (.int .i64 ((spot l pl at_' mv key : Nat) - 1 : Int)) ∧ Keeps [] w w' := by
  have K := ((Keeps.refl [] w).alloc (.cells #[v] 84)).alloc (.cells #[.int .i64 (pl : Int), .string ⟨at_'.toArray⟩] 121)
  have b4 := (Blk.new w [v] 84).alloc (.cells #[.int .i64 (pl : Int), .string ⟨at_'.toArray⟩] 121)
  obtain ⟨W, hW⟩ : ∃ W, W = (w.alloc (.cells #[v] 84)).alloc (.cells #[.int .i64 (pl : Int), .string ⟨at_'.toArray⟩] 121) := ⟨_, rfl⟩
  rw [← hW] at K b4
  have ho' := ho.keeps K (by simp)
  have hf := fun (k : Str) (u : World) (ku : Keeps [] W u) => tgt1_any l k hl (by omega) base w.heap.size v u (ku.blk b4 (by simp)) (ho'.keeps ku (by simp))
  obtain ⟨A, cap, rfl, _⟩ := id ho.len
  obtain ⟨n, hnn⟩ : ∃ n, l.length = n := ⟨_, rfl⟩
  have hsp : spot l pl at_' mv key = if mv = 0 then less l key + 1 else if mv = 1 then 1 else if mv = 2 then n else if mv = 3 then min (now l pl at_' + 1) (n + 1) else now l pl at_' - 1 := by unfold spot; rw [hnn]
  have hnow : now l pl at_' = if pl = 1 then less l at_' + 1 else if pl = 2 then n + 1 else 0 := by unfold now; rw [hnn]
  have hle1 := less_le l key
  have hle2 := less_le l at_'
  rw [hnn] at hn hle1 hle2
  rw [hnn] at hW
  have HW := Lib.hid hW
  have hfa := hf at_' W (Keeps.refl [] W)
  obtain ⟨q, hq⟩ : ∃ q, less l at_' = q := ⟨_, rfl⟩
  obtain ⟨r, hr⟩ : ∃ r, less l key = r := ⟨_, rfl⟩
  obtain ⟨R, hR⟩ : ∃ R : Int, ((spot l pl at_' mv key : Nat) : Int) - 1 = R := ⟨_, rfl⟩
  rw [hq] at hfa hle2 hnow
  have hfk := fun u ku => hf key u ku
  rw [hr] at hfk hsp hle1
  have Hb4 := Lib.hid b4
  obtain ⟨c0, cf, cl⟩ := b4.o1
  rw [hnn] at c0
  rw [hR, hnn]
  rw [hnn] at Hb4
  clear hf
  rcases (show pl = 0 ∨ pl = 1 ∨ pl = 2 by omega) with hpl | hpl | hpl
  · rcases (show mv = 0 ∨ mv = 1 ∨ mv = 2 ∨ mv = 3 ∨ mv = 4 by omega) with hmv | hmv | hmv | hmv | hmv
    · have e1 : ((pl : Int) == 1) = false := by rw [beq_eq_false_iff_ne]; omega
      have e2 : ((pl : Int) == 2) = false := by rw [beq_eq_false_iff_ne]; omega
      have m0 : ((mv : Int) == 0) = true := by rw [beq_iff_eq]; omega
      have m1 : ((mv : Int) == 1) = false := by rw [beq_eq_false_iff_ne]; omega
      have m2 : ((mv : Int) == 2) = false := by rw [beq_eq_false_iff_ne]; omega
      have m3 : ((mv : Int) == 3) = false := by rw [beq_eq_false_iff_ne]; omega
      have hfin : R = (r : Int) := by
        subst hpl hmv
        simp at hnow hsp
        omega
      have HR := Lib.hid hfin
      have hw1 : IntKind.i64.wrap ((n : Int) - 1) = (n : Int) - 1 := IntWalk.i64_in _ ⟨by omega, by omega⟩
      clear hsp hnow hR hfin hpl hmv hnn hq hr hW b4 ho ho' hle1 hle2
      go_enter Tryz.func80, Tryz.ntmps80
      go_wp2_with fail
      rw [← HW.out]
      refine (hfk _ (by first | exact k1 | exact Keeps.refl [] W)).mono ?_
      rintro x w2 ⟨rfl, k2⟩
      go_wp2_with fail
      go_ret
      rw [HR.out]
      exact ⟨rfl, K.trans k2 (by simp)⟩
    · have e1 : ((pl : Int) == 1) = false := by rw [beq_eq_false_iff_ne]; omega
      have e2 : ((pl : Int) == 2) = false := by rw [beq_eq_false_iff_ne]; omega
      have m0 : ((mv : Int) == 0) = false := by rw [beq_eq_false_iff_ne]; omega
      have m1 : ((mv : Int) == 1) = true := by rw [beq_iff_eq]; omega
      have m2 : ((mv : Int) == 2) = false := by rw [beq_eq_false_iff_ne]; omega
      have m3 : ((mv : Int) == 3) = false := by rw [beq_eq_false_iff_ne]; omega
      have hfin : R = 0 := by
        subst hpl hmv
        simp at hnow hsp
        omega
      have HR := Lib.hid hfin
      have hw1 : IntKind.i64.wrap ((n : Int) - 1) = (n : Int) - 1 := IntWalk.i64_in _ ⟨by omega, by omega⟩
      clear hsp hnow hR hfin hpl hmv hnn hq hr hW b4 ho ho' hle1 hle2
      go_enter Tryz.func80, Tryz.ntmps80
      go_wp2_with fail
      go_ret
      rw [HR.out, ← HW.out]
      exact ⟨rfl, K⟩
    · have e1 : ((pl : Int) == 1) = false := by rw [beq_eq_false_iff_ne]; omega
      have e2 : ((pl : Int) == 2) = false := by rw [beq_eq_false_iff_ne]; omega
      have m0 : ((mv : Int) == 0) = false := by rw [beq_eq_false_iff_ne]; omega
      have m1 : ((mv : Int) == 1) = false := by rw [beq_eq_false_iff_ne]; omega
      have m2 : ((mv : Int) == 2) = true := by rw [beq_iff_eq]; omega
      have m3 : ((mv : Int) == 3) = false := by rw [beq_eq_false_iff_ne]; omega
      have hfin : R = (n : Int) - 1 := by
        subst hpl hmv
        simp at hnow hsp
        omega
      have HR := Lib.hid hfin
      have hw1 : IntKind.i64.wrap ((n : Int) - 1) = (n : Int) - 1 := IntWalk.i64_in _ ⟨by omega, by omega⟩
      clear hsp hnow hR hfin hpl hmv hnn hq hr hW b4 ho ho' hle1 hle2
      go_enter Tryz.func80, Tryz.ntmps80
      go_wp2_with fail
      go_ret
      rw [HR.out, ← HW.out]
      exact ⟨rfl, K⟩
    · have e1 : ((pl : Int) == 1) = false := by rw [beq_eq_false_iff_ne]; omega
      have e2 : ((pl : Int) == 2) = false := by rw [beq_eq_false_iff_ne]; omega
      have m0 : ((mv : Int) == 0) = false := by rw [beq_eq_false_iff_ne]; omega
      have m1 : ((mv : Int) == 1) = false := by rw [beq_eq_false_iff_ne]; omega
      have m2 : ((mv : Int) == 2) = false := by rw [beq_eq_false_iff_ne]; omega
      have m3 : ((mv : Int) == 3) = true := by rw [beq_iff_eq]; omega
      have hfin : R = min ((-1 : Int) + 1) (n : Int) := by
        subst hpl hmv
        simp at hnow hsp
        omega
      have HR := Lib.hid hfin
      have hw1 : IntKind.i64.wrap ((n : Int) - 1) = (n : Int) - 1 := IntWalk.i64_in _ ⟨by omega, by omega⟩
      clear hsp hnow hR hfin hpl hmv hnn hq hr hW b4 ho ho' hle1 hle2
      go_enter Tryz.func80, Tryz.ntmps80
      go_wp2_with fail
      go_ret
      rw [HR.out, ← HW.out]
      exact ⟨by first | rfl | simp, K⟩
    · have e1 : ((pl : Int) == 1) = false := by rw [beq_eq_false_iff_ne]; omega
      have e2 : ((pl : Int) == 2) = false := by rw [beq_eq_false_iff_ne]; omega
      have m0 : ((mv : Int) == 0) = false := by rw [beq_eq_false_iff_ne]; omega
      have m1 : ((mv : Int) == 1) = false := by rw [beq_eq_false_iff_ne]; omega
      have m2 : ((mv : Int) == 2) = false := by rw [beq_eq_false_iff_ne]; omega
      have m3 : ((mv : Int) == 3) = false := by rw [beq_eq_false_iff_ne]; omega
      have hfin : R = max ((-1 : Int) - 1) (-1) := by
        subst hpl hmv
        simp at hnow hsp
        omega
      have HR := Lib.hid hfin
      have hw1 : IntKind.i64.wrap ((n : Int) - 1) = (n : Int) - 1 := IntWalk.i64_in _ ⟨by omega, by omega⟩
      clear hsp hnow hR hfin hpl hmv hnn hq hr hW b4 ho ho' hle1 hle2
      go_enter Tryz.func80, Tryz.ntmps80
      go_wp2_with fail
      go_ret
      rw [HR.out, ← HW.out]
      exact ⟨by first | rfl | simp, K⟩
  · rcases (show mv = 0 ∨ mv = 1 ∨ mv = 2 ∨ mv = 3 ∨ mv = 4 by omega) with hmv | hmv | hmv | hmv | hmv
    · have e1 : ((pl : Int) == 1) = true := by rw [beq_iff_eq]; omega
      have e2 : ((pl : Int) == 2) = false := by rw [beq_eq_false_iff_ne]; omega
      have m0 : ((mv : Int) == 0) = true := by rw [beq_iff_eq]; omega
      have m1 : ((mv : Int) == 1) = false := by rw [beq_eq_false_iff_ne]; omega
      have m2 : ((mv : Int) == 2) = false := by rw [beq_eq_false_iff_ne]; omega
      have m3 : ((mv : Int) == 3) = false := by rw [beq_eq_false_iff_ne]; omega
      have hfin : R = (r : Int) := by
        subst hpl hmv
        simp at hnow hsp
        omega
      have HR := Lib.hid hfin
      have hw1 : IntKind.i64.wrap ((n : Int) - 1) = (n : Int) - 1 := IntWalk.i64_in _ ⟨by omega, by omega⟩
      have hw2 : IntKind.i64.wrap ((q : Int) + 1) = (q : Int) + 1 := IntWalk.i64_in _ ⟨by omega, by omega⟩
      have hw3 : IntKind.i64.wrap ((q : Int) - 1) = (q : Int) - 1 := IntWalk.i64_in _ ⟨by omega, by omega⟩
      clear hsp hnow hR hfin hpl hmv hnn hq hr hW b4 ho ho' hle1 hle2
      go_enter Tryz.func80, Tryz.ntmps80
      go_wp2_with fail
      rw [← HW.out]
      refine hfa.mono ?_
      rintro x w1 ⟨rfl, k1⟩
      obtain ⟨f0, ff, fl⟩ := (k1.blk Hb4.out (by simp)).o1
      have K1 := K.trans k1 (by simp)
      go_wp2_with fail
      refine (hfk _ (by first | exact k1 | exact Keeps.refl [] W)).mono ?_
      rintro x w2 ⟨rfl, k2⟩
      go_wp2_with fail
      go_ret
      rw [HR.out]
      exact ⟨rfl, K1.trans k2 (by simp)⟩
    · have e1 : ((pl : Int) == 1) = true := by rw [beq_iff_eq]; omega
      have e2 : ((pl : Int) == 2) = false := by rw [beq_eq_false_iff_ne]; omega
      have m0 : ((mv : Int) == 0) = false := by rw [beq_eq_false_iff_ne]; omega
      have m1 : ((mv : Int) == 1) = true := by rw [beq_iff_eq]; omega
      have m2 : ((mv : Int) == 2) = false := by rw [beq_eq_false_iff_ne]; omega
      have m3 : ((mv : Int) == 3) = false := by rw [beq_eq_false_iff_ne]; omega
      have hfin : R = 0 := by
        subst hpl hmv
        simp at hnow hsp
        omega
      have HR := Lib.hid hfin
      have hw1 : IntKind.i64.wrap ((n : Int) - 1) = (n : Int) - 1 := IntWalk.i64_in _ ⟨by omega, by omega⟩
      have hw2 : IntKind.i64.wrap ((q : Int) + 1) = (q : Int) + 1 := IntWalk.i64_in _ ⟨by omega, by omega⟩
      have hw3 : IntKind.i64.wrap ((q : Int) - 1) = (q : Int) - 1 := IntWalk.i64_in _ ⟨by omega, by omega⟩
      clear hsp hnow hR hfin hpl hmv hnn hq hr hW b4 ho ho' hle1 hle2
      go_enter Tryz.func80, Tryz.ntmps80
      go_wp2_with fail
      rw [← HW.out]
      refine hfa.mono ?_
      rintro x w1 ⟨rfl, k1⟩
      obtain ⟨f0, ff, fl⟩ := (k1.blk Hb4.out (by simp)).o1
      have K1 := K.trans k1 (by simp)
      go_wp2_with fail
      go_ret
      rw [HR.out]
      exact ⟨rfl, K1⟩
    · have e1 : ((pl : Int) == 1) = true := by rw [beq_iff_eq]; omega
      have e2 : ((pl : Int) == 2) = false := by rw [beq_eq_false_iff_ne]; omega
      have m0 : ((mv : Int) == 0) = false := by rw [beq_eq_false_iff_ne]; omega
      have m1 : ((mv : Int) == 1) = false := by rw [beq_eq_false_iff_ne]; omega
      have m2 : ((mv : Int) == 2) = true := by rw [beq_iff_eq]; omega
      have m3 : ((mv : Int) == 3) = false := by rw [beq_eq_false_iff_ne]; omega
      have hfin : R = (n : Int) - 1 := by
        subst hpl hmv
        simp at hnow hsp
        omega
      have HR := Lib.hid hfin
      have hw1 : IntKind.i64.wrap ((n : Int) - 1) = (n : Int) - 1 := IntWalk.i64_in _ ⟨by omega, by omega⟩
      have hw2 : IntKind.i64.wrap ((q : Int) + 1) = (q : Int) + 1 := IntWalk.i64_in _ ⟨by omega, by omega⟩
      have hw3 : IntKind.i64.wrap ((q : Int) - 1) = (q : Int) - 1 := IntWalk.i64_in _ ⟨by omega, by omega⟩
      clear hsp hnow hR hfin hpl hmv hnn hq hr hW b4 ho ho' hle1 hle2
      go_enter Tryz.func80, Tryz.ntmps80
      go_wp2_with fail
      rw [← HW.out]
      refine hfa.mono ?_
      rintro x w1 ⟨rfl, k1⟩
      obtain ⟨f0, ff, fl⟩ := (k1.blk Hb4.out (by simp)).o1
      have K1 := K.trans k1 (by simp)
      go_wp2_with fail
      go_ret
      rw [HR.out]
      exact ⟨rfl, K1⟩
    · have e1 : ((pl : Int) == 1) = true := by rw [beq_iff_eq]; omega
      have e2 : ((pl : Int) == 2) = false := by rw [beq_eq_false_iff_ne]; omega
      have m0 : ((mv : Int) == 0) = false := by rw [beq_eq_false_iff_ne]; omega
      have m1 : ((mv : Int) == 1) = false := by rw [beq_eq_false_iff_ne]; omega
      have m2 : ((mv : Int) == 2) = false := by rw [beq_eq_false_iff_ne]; omega
      have m3 : ((mv : Int) == 3) = true := by rw [beq_iff_eq]; omega
      have hfin : R = min ((q : Int) + 1) (n : Int) := by
        subst hpl hmv
        simp at hnow hsp
        omega
      have HR := Lib.hid hfin
      have hw1 : IntKind.i64.wrap ((n : Int) - 1) = (n : Int) - 1 := IntWalk.i64_in _ ⟨by omega, by omega⟩
      have hw2 : IntKind.i64.wrap ((q : Int) + 1) = (q : Int) + 1 := IntWalk.i64_in _ ⟨by omega, by omega⟩
      have hw3 : IntKind.i64.wrap ((q : Int) - 1) = (q : Int) - 1 := IntWalk.i64_in _ ⟨by omega, by omega⟩
      clear hsp hnow hR hfin hpl hmv hnn hq hr hW b4 ho ho' hle1 hle2
      go_enter Tryz.func80, Tryz.ntmps80
      go_wp2_with fail
      rw [← HW.out]
      refine hfa.mono ?_
      rintro x w1 ⟨rfl, k1⟩
      obtain ⟨f0, ff, fl⟩ := (k1.blk Hb4.out (by simp)).o1
      have K1 := K.trans k1 (by simp)
      go_wp2_with fail
      go_ret
      rw [HR.out]
      exact ⟨by first | rfl | simp, K1⟩
    · have e1 : ((pl : Int) == 1) = true := by rw [beq_iff_eq]; omega
      have e2 : ((pl : Int) == 2) = false := by rw [beq_eq_false_iff_ne]; omega
      have m0 : ((mv : Int) == 0) = false := by rw [beq_eq_false_iff_ne]; omega
      have m1 : ((mv : Int) == 1) = false := by rw [beq_eq_false_iff_ne]; omega
      have m2 : ((mv : Int) == 2) = false := by rw [beq_eq_false_iff_ne]; omega
      have m3 : ((mv : Int) == 3) = false := by rw [beq_eq_false_iff_ne]; omega
      have hfin : R = max ((q : Int) - 1) (-1) := by
        subst hpl hmv
        simp at hnow hsp
        omega
      have HR := Lib.hid hfin
      have hw1 : IntKind.i64.wrap ((n : Int) - 1) = (n : Int) - 1 := IntWalk.i64_in _ ⟨by omega, by omega⟩
      have hw2 : IntKind.i64.wrap ((q : Int) + 1) = (q : Int) + 1 := IntWalk.i64_in _ ⟨by omega, by omega⟩
      have hw3 : IntKind.i64.wrap ((q : Int) - 1) = (q : Int) - 1 := IntWalk.i64_in _ ⟨by omega, by omega⟩
      clear hsp hnow hR hfin hpl hmv hnn hq hr hW b4 ho ho' hle1 hle2
      go_enter Tryz.func80, Tryz.ntmps80
      go_wp2_with fail
      rw [← HW.out]
      refine hfa.mono ?_
      rintro x w1 ⟨rfl, k1⟩
      obtain ⟨f0, ff, fl⟩ := (k1.blk Hb4.out (by simp)).o1
      have K1 := K.trans k1 (by simp)
      go_wp2_with fail
      go_ret
      rw [HR.out]
      exact ⟨by first | rfl | simp, K1⟩
  · rcases (show mv = 0 ∨ mv = 1 ∨ mv = 2 ∨ mv = 3 ∨ mv = 4 by omega) with hmv | hmv | hmv | hmv | hmv
    · have e1 : ((pl : Int) == 1) = false := by rw [beq_eq_false_iff_ne]; omega
      have e2 : ((pl : Int) == 2) = true := by rw [beq_iff_eq]; omega
      have m0 : ((mv : Int) == 0) = true := by rw [beq_iff_eq]; omega
      have m1 : ((mv : Int) == 1) = false := by rw [beq_eq_false_iff_ne]; omega
      have m2 : ((mv : Int) == 2) = false := by rw [beq_eq_false_iff_ne]; omega
      have m3 : ((mv : Int) == 3) = false := by rw [beq_eq_false_iff_ne]; omega
      have hfin : R = (r : Int) := by
        subst hpl hmv
        simp at hnow hsp
        omega
      have HR := Lib.hid hfin
      have hw1 : IntKind.i64.wrap ((n : Int) - 1) = (n : Int) - 1 := IntWalk.i64_in _ ⟨by omega, by omega⟩
      have hw2 : IntKind.i64.wrap ((n : Int) + 1) = (n : Int) + 1 := IntWalk.i64_in _ ⟨by omega, by omega⟩
      clear hsp hnow hR hfin hpl hmv hnn hq hr hW b4 ho ho' hle1 hle2
      go_enter Tryz.func80, Tryz.ntmps80
      go_wp2_with fail
      rw [← HW.out]
      refine (hfk _ (by first | exact k1 | exact Keeps.refl [] W)).mono ?_
      rintro x w2 ⟨rfl, k2⟩
      go_wp2_with fail
      go_ret
      rw [HR.out]
      exact ⟨rfl, K.trans k2 (by simp)⟩
    · have e1 : ((pl : Int) == 1) = false := by rw [beq_eq_false_iff_ne]; omega
      have e2 : ((pl : Int) == 2) = true := by rw [beq_iff_eq]; omega
      have m0 : ((mv : Int) == 0) = false := by rw [beq_eq_false_iff_ne]; omega
      have m1 : ((mv : Int) == 1) = true := by rw [beq_iff_eq]; omega
      have m2 : ((mv : Int) == 2) = false := by rw [beq_eq_false_iff_ne]; omega
      have m3 : ((mv : Int) == 3) = false := by rw [beq_eq_false_iff_ne]; omega
      have hfin : R = 0 := by
        subst hpl hmv
        simp at hnow hsp
        omega
      have HR := Lib.hid hfin
      have hw1 : IntKind.i64.wrap ((n : Int) - 1) = (n : Int) - 1 := IntWalk.i64_in _ ⟨by omega, by omega⟩
      have hw2 : IntKind.i64.wrap ((n : Int) + 1) = (n : Int) + 1 := IntWalk.i64_in _ ⟨by omega, by omega⟩
      clear hsp hnow hR hfin hpl hmv hnn hq hr hW b4 ho ho' hle1 hle2
      go_enter Tryz.func80, Tryz.ntmps80
      go_wp2_with fail
      go_ret
      rw [HR.out, ← HW.out]
      exact ⟨rfl, K⟩
    · have e1 : ((pl : Int) == 1) = false := by rw [beq_eq_false_iff_ne]; omega
      have e2 : ((pl : Int) == 2) = true := by rw [beq_iff_eq]; omega
      have m0 : ((mv : Int) == 0) = false := by rw [beq_eq_false_iff_ne]; omega
      have m1 : ((mv : Int) == 1) = false := by rw [beq_eq_false_iff_ne]; omega
      have m2 : ((mv : Int) == 2) = true := by rw [beq_iff_eq]; omega
      have m3 : ((mv : Int) == 3) = false := by rw [beq_eq_false_iff_ne]; omega
      have hfin : R = (n : Int) - 1 := by
        subst hpl hmv
        simp at hnow hsp
        omega
      have HR := Lib.hid hfin
      have hw1 : IntKind.i64.wrap ((n : Int) - 1) = (n : Int) - 1 := IntWalk.i64_in _ ⟨by omega, by omega⟩
      have hw2 : IntKind.i64.wrap ((n : Int) + 1) = (n : Int) + 1 := IntWalk.i64_in _ ⟨by omega, by omega⟩
      clear hsp hnow hR hfin hpl hmv hnn hq hr hW b4 ho ho' hle1 hle2
      go_enter Tryz.func80, Tryz.ntmps80
      go_wp2_with fail
      go_ret
      rw [HR.out, ← HW.out]
      exact ⟨rfl, K⟩
    · have e1 : ((pl : Int) == 1) = false := by rw [beq_eq_false_iff_ne]; omega
      have e2 : ((pl : Int) == 2) = true := by rw [beq_iff_eq]; omega
      have m0 : ((mv : Int) == 0) = false := by rw [beq_eq_false_iff_ne]; omega
      have m1 : ((mv : Int) == 1) = false := by rw [beq_eq_false_iff_ne]; omega
      have m2 : ((mv : Int) == 2) = false := by rw [beq_eq_false_iff_ne]; omega
      have m3 : ((mv : Int) == 3) = true := by rw [beq_iff_eq]; omega
      have hfin : R = min ((n : Int) + 1) (n : Int) := by
        subst hpl hmv
        simp at hnow hsp
        omega
      have HR := Lib.hid hfin
      have hw1 : IntKind.i64.wrap ((n : Int) - 1) = (n : Int) - 1 := IntWalk.i64_in _ ⟨by omega, by omega⟩
      have hw2 : IntKind.i64.wrap ((n : Int) + 1) = (n : Int) + 1 := IntWalk.i64_in _ ⟨by omega, by omega⟩
      clear hsp hnow hR hfin hpl hmv hnn hq hr hW b4 ho ho' hle1 hle2
      go_enter Tryz.func80, Tryz.ntmps80
      go_wp2_with fail
      go_ret
      rw [HR.out, ← HW.out]
      exact ⟨by first | rfl | simp, K⟩
    · have e1 : ((pl : Int) == 1) = false := by rw [beq_eq_false_iff_ne]; omega
      have e2 : ((pl : Int) == 2) = true := by rw [beq_iff_eq]; omega
      have m0 : ((mv : Int) == 0) = false := by rw [beq_eq_false_iff_ne]; omega
      have m1 : ((mv : Int) == 1) = false := by rw [beq_eq_false_iff_ne]; omega
      have m2 : ((mv : Int) == 2) = false := by rw [beq_eq_false_iff_ne]; omega
      have m3 : ((mv : Int) == 3) = false := by rw [beq_eq_false_iff_ne]; omega
      have hfin : R = max ((n : Int) - 1) (-1) := by
        subst hpl hmv
        simp at hnow hsp
        omega
      have HR := Lib.hid hfin
      have hw1 : IntKind.i64.wrap ((n : Int) - 1) = (n : Int) - 1 := IntWalk.i64_in _ ⟨by omega, by omega⟩
      have hw2 : IntKind.i64.wrap ((n : Int) + 1) = (n : Int) + 1 := IntWalk.i64_in _ ⟨by omega, by omega⟩
      clear hsp hnow hR hfin hpl hmv hnn hq hr hW b4 ho ho' hle1 hle2
      go_enter Tryz.func80, Tryz.ntmps80
      go_wp2_with fail
      go_ret
      rw [HR.out, ← HW.out]
      exact ⟨by first | rfl | simp, K⟩
end Go.Proofs.YtbcgpjfejpcgnaaGreat
end
