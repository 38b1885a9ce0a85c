/- The contract of engine.Valid. -/
import Derived.Test.YtkgmgnfcmnhhaaaEng
namespace Go.Proofs.Ytkgmgnfcmnhhaaa
open Go.RowKit
set_option linter.unusedSectionVars false
set_option linter.unusedVariables false
set_option linter.unusedSimpArgs false
set_option maxRecDepth 20000
set_option maxHeartbeats 4000000
def accB (th : Int) (l : List Int) : Bool := decide (l.length ≤ 1048576) && l.all fun p => decide (0 ≤ p) && decide (p < th)
theorem acc_any (w : World) (y : SV) (hk : Lst w (.slice y.kA y.pk.length y.kc) y.pk.length (y.pk.map vI)) (hn : y.pk.length ≤ 1073741824) :
    Calls Try.prog 32 #[.agg #[.int .i64 y.th, .int .i64 y.sn, .int .i64 y.no, .int .i64 y.ch, .int .i64 y.re, .int .i64 y.fa, .int .u64 (y.cl : Int), .slice y.pA y.ps.length y.pc, .slice y.kA y.pk.length y.kc]] w fun q w' => q = .returned (.bool (accB y.th y.pk)) ∧ Keeps [] w w' := by
  have kb := (Keeps.refl [] w).alloc (.cells #[.int .i64 y.th, .int .i64 y.sn, .int .i64 y.no, .int .i64 y.ch, .int .i64 y.re, .int .i64 y.fa, .int .u64 (y.cl : Int), .slice y.pA y.ps.length y.pc, .slice y.kA y.pk.length y.kc] 30)
  have bb := Blk.new w [.int .i64 y.th, .int .i64 y.sn, .int .i64 y.no, .int .i64 y.ch, .int .i64 y.re, .int .i64 y.fa, .int .u64 (y.cl : Int), .slice y.pA y.ps.length y.pc, .slice y.kA y.pk.length y.kc] 30
  change Blk (w.alloc (.cells #[.int .i64 y.th, .int .i64 y.sn, .int .i64 y.no, .int .i64 y.ch, .int .i64 y.re, .int .i64 y.fa, .int .u64 (y.cl : Int), .slice y.pA y.ps.length y.pc, .slice y.kA y.pk.length y.kc] 30)) _ _ at bb
  have hk1 := hk.keeps kb
  obtain ⟨wb, hwb⟩ : ∃ wb, w.alloc (.cells #[.int .i64 y.th, .int .i64 y.sn, .int .i64 y.no, .int .i64 y.ch, .int .i64 y.re, .int .i64 y.fa, .int .u64 (y.cl : Int), .slice y.pA y.ps.length y.pc, .slice y.kA y.pk.length y.kc] 30) = wb := ⟨_, rfl⟩
  obtain ⟨gb, hgb⟩ : ∃ gb, w.heap.size = gb := ⟨_, rfl⟩
  rw [hwb, hgb] at bb
  rw [hwb] at kb hk1
  obtain ⟨d0, d1, d2, d3, d4, d5, d6, d7, d8, df, dl⟩ := bb.o9
  obtain ⟨n, hnn⟩ : ∃ n, y.pk.length = n := ⟨_, rfl⟩
  have Hn := Lib.hid hnn
  rw [hnn] at d8 hk1 hn hwb ⊢
  clear hk hnn
  go_enter Try.func32, Try.ntmps32
  by_cases hlen : n ≤ 1048576
  · have hlen' : ¬ (1048576 : Int) < (n : Int) := by omega
    go_wp2_with fail
    go_loopw [12] (fun i wr => ∃ k : Nat, i = .int .i64 (k : Int) ∧ k ≤ n ∧ wr = wb ∧ Hid (∀ p ∈ y.pk.take k, 0 ≤ p ∧ p < y.th)) (fun i _ => n - (intOf i).toNat)
    case atStart => exact ⟨0, rfl, by omega, by first | rfl | exact hwb, Lib.hid (by simp)⟩
    case round =>
      obtain ⟨k, rfl, hkn, rfl, hall⟩ := hrel
      by_cases hlt : k < n
      · have hkx : k < y.pk.length := by rw [Hn.out]; exact hlt
        obtain ⟨p, hp⟩ : ∃ p, y.pk[k]? = some p := ⟨_, List.getElem?_eq_getElem hkx⟩
        have hpm := List.mem_of_getElem? hp
        obtain ⟨A, cap, b, o, hv1, hA, har⟩ := hk1
        injection hv1 with hA2 hN2 hC2
        have hAA : y.kA = some ⟨b, o, none⟩ := by rw [hA2]; exact hA (by omega)
        have hcell : wr.cell? ⟨b, o + k, none⟩ = some (.int .i64 p) := by
          rw [har.cells k (by rw [List.length_map]; exact hkx), List.getElem?_map, hp]
          rfl
        have htake : y.pk.take (k + 1) = y.pk.take k ++ [p] := by rw [List.take_add_one, hp]; rfl
        have Ht := Lib.hid htake
        rw [hAA]
        clear htake hp har hA hA2 hN2 hC2
        by_cases hok : 0 ≤ p ∧ p < y.th
        · obtain ⟨h1, h2⟩ := hok
          have h2' : ¬ y.th ≤ p := by omega
          have hall2 : Hid (∀ q ∈ y.pk.take (k + 1), 0 ≤ q ∧ q < y.th) := Lib.hid (by
            rw [Ht.out]
            intro q hq
            rcases List.mem_append.1 hq with hq | hq
            · exact hall.out q hq
            · simp at hq; subst hq; exact ⟨h1, h2⟩)
          clear hAA
          go_wp2_with fail
          exact ⟨⟨k + 1, by go_num, by omega, by first | rfl | trivial, hall2⟩, by simp [intOf] <;> omega⟩
        · have hfalse : accB y.th y.pk = false := by
            cases hh : accB y.th y.pk with
            | false => rfl
            | true =>
              simp only [accB, Bool.and_eq_true, List.all_eq_true, decide_eq_true_eq] at hh
              exact absurd (hh.2 p hpm) hok
          clear hAA
          by_cases h1 : 0 ≤ p
          · have h2 : y.th ≤ p := by omega
            go_wp2_with fail
            go_ret
            exact ⟨by first | rfl | (rw [hfalse]; rfl), kb⟩
          · go_wp2_with fail
            go_ret
            exact ⟨by first | rfl | (rw [hfalse]; rfl), kb⟩
      · obtain rfl : k = n := by omega
        have htrue : accB y.th y.pk = true := by
          simp only [accB, Bool.and_eq_true, List.all_eq_true, decide_eq_true_eq]
          refine ⟨by rw [Hn.out]; exact hlen, fun p hp => ?_⟩
          have := hall.out p
          rw [← Hn.out, List.take_length] at this
          exact this hp
        go_wp2_with fail
        go_ret
        exact ⟨by first | rfl | (rw [htrue]; rfl), kb⟩
  · have hlen' : (1048576 : Int) < (n : Int) := by omega
    have hfalse : accB y.th y.pk = false := by
      unfold accB
      rw [Hn.out]
      simp [hlen]
    go_wp2_with fail
    go_ret
    exact ⟨by first | rfl | (rw [hfalse]; rfl), kb⟩
theorem vld_iff (x : Scr) : vld x = true ↔ ((1 ≤ x.th ∧ x.th ≤ 64) ∧ (1 ≤ x.sn ∧ x.sn ≤ 8) ∧ (1 ≤ x.no ∧ x.no ≤ 4096) ∧ (1 ≤ x.ch ∧ x.ch ≤ 16384) ∧ (1 ≤ x.re ∧ x.re ≤ 65536) ∧ (4 ≤ x.fa ∧ x.fa ≤ 32) ∧ (1 ≤ x.cl ∧ x.cl ≤ 1099511627776)) ∧ x.ps.length = x.th ∧ (∀ p ∈ x.ps, vProg x.sn p = true) ∧ x.pk.length ≤ 1048576 ∧ ∀ q ∈ x.pk, 0 ≤ q ∧ q < (x.th : Int) := by
  simp only [vld, vCfg, vPicks, Bool.and_eq_true, List.all_eq_true, decide_eq_true_eq]
  constructor
  · rintro ⟨⟨⟨h1, h2⟩, h3⟩, h4, h5⟩
    exact ⟨h1, h2, h3, h4, h5⟩
  · rintro ⟨h1, h2, h3, h4, h5⟩
    exact ⟨⟨⟨h1, h2⟩, h3⟩, h4, h5⟩
theorem eng_iff (T S N C R F K : Int) (ps : List (Value × List OV)) : engOk T S N C R F K ps = true ↔ ((1 ≤ T ∧ T ≤ 64) ∧ (1 ≤ S ∧ S ≤ 8) ∧ (1 ≤ N ∧ N ≤ 4096) ∧ (1 ≤ C ∧ C ≤ 16384) ∧ (1 ≤ R ∧ R ≤ 65536) ∧ (4 ≤ F ∧ F ≤ 32) ∧ (1 ≤ K ∧ K ≤ 1099511627776)) ∧ (ps.length : Int) = T ∧ ∀ p ∈ ps, vProg S (p.2.map OV.op) = true := by
  simp only [engOk, cfgB, Bool.and_eq_true, List.all_eq_true, decide_eq_true_eq]
theorem acc_iff (th : Int) (l : List Int) : accB th l = true ↔ l.length ≤ 1048576 ∧ ∀ p ∈ l, 0 ≤ p ∧ p < th := by
  simp only [accB, Bool.and_eq_true, List.all_eq_true, decide_eq_true_eq]
theorem vld_eq (y : SV) : (engOk y.th y.sn y.no y.ch y.re y.fa (y.cl : Int) y.ps && accB y.th y.pk) = vld y.scr := by
  apply Bool.eq_iff_iff.2
  rw [Bool.and_eq_true, eng_iff, acc_iff, vld_iff]
  have e1 : y.scr.th = y.th.toNat := rfl
  have e2 : y.scr.ps.length = y.ps.length := List.length_map _
  have e3 : y.scr.sn = y.sn ∧ y.scr.no = y.no ∧ y.scr.ch = y.ch ∧ y.scr.re = y.re ∧ y.scr.fa = y.fa ∧ y.scr.cl = y.cl ∧ y.scr.pk = y.pk := ⟨rfl, rfl, rfl, rfl, rfl, rfl, rfl⟩
  have e4 : (∀ p ∈ y.scr.ps, vProg y.scr.sn p = true) ↔ ∀ p ∈ y.ps, vProg y.sn (p.2.map OV.op) = true :=
    ⟨fun h p hp => h _ (List.mem_map.2 ⟨p, hp, rfl⟩), fun h l hl => by obtain ⟨p, hp, rfl⟩ := List.mem_map.1 hl; exact h p hp⟩
  obtain ⟨f1, f2, f3, f4, f5, f6, f7⟩ := e3
  rw [e1, e2, e4, f1, f2, f3, f4, f5, f6, f7]
  constructor
  · rintro ⟨⟨⟨a1, a2, a3, a4, a5, a6, a7⟩, h2, h3⟩, h4, h5⟩
    exact ⟨⟨by omega, a2, a3, a4, a5, a6, by omega⟩, by omega, h3, h4, fun p hp => by have := h5 p hp; omega⟩
  · rintro ⟨⟨a1, a2, a3, a4, a5, a6, a7⟩, h2, h3, h4, h5⟩
    exact ⟨⟨⟨by omega, a2, a3, a4, a5, a6, by omega⟩, by omega, h3⟩, h4, fun p hp => by have := h5 p hp; omega⟩
theorem valid_any : ValidG := by
  intro w y hy hz
  have kb := (Keeps.refl [] w).alloc (.cells #[.int .i64 y.th, .int .i64 y.sn, .int .i64 y.no, .int .i64 y.ch, .int .i64 y.re, .int .i64 y.fa, .int .u64 (y.cl : Int), .slice y.pA y.ps.length y.pc, .slice y.kA y.pk.length y.kc] 30)
  have bb := Blk.new w [.int .i64 y.th, .int .i64 y.sn, .int .i64 y.no, .int .i64 y.ch, .int .i64 y.re, .int .i64 y.fa, .int .u64 (y.cl : Int), .slice y.pA y.ps.length y.pc, .slice y.kA y.pk.length y.kc] 30
  change Blk (w.alloc (.cells #[.int .i64 y.th, .int .i64 y.sn, .int .i64 y.no, .int .i64 y.ch, .int .i64 y.re, .int .i64 y.fa, .int .u64 (y.cl : Int), .slice y.pA y.ps.length y.pc, .slice y.kA y.pk.length y.kc] 30)) _ _ at bb
  have hq := enew_any y.th y.sn y.no y.ch y.re y.fa (y.cl : Int) y.ps hz.1 hz.2.1 y.pA y.pc _ (hy.1.keeps kb) (fun p hp => ⟨(hy.2.1 p hp).1.keeps kb, fun z hz => ((hy.2.1 p hp).2 z hz).keeps kb⟩)
  have hve := vld_eq y
  obtain ⟨wb, hwb⟩ : ∃ wb, w.alloc (.cells #[.int .i64 y.th, .int .i64 y.sn, .int .i64 y.no, .int .i64 y.ch, .int .i64 y.re, .int .i64 y.fa, .int .u64 (y.cl : Int), .slice y.pA y.ps.length y.pc, .slice y.kA y.pk.length y.kc] 30) = wb := ⟨_, rfl⟩
  obtain ⟨gb, hgb⟩ : ∃ gb, w.heap.size = gb := ⟨_, rfl⟩
  rw [hwb, hgb] at bb
  rw [hwb] at kb hq
  obtain ⟨d0, d1, d2, d3, d4, d5, d6, d7, d8, df, dl⟩ := bb.o9
  go_enter Try.func16, Try.ntmps16
  go_wp2_with fail
  refine hq.mono ?_
  rintro q w2 ⟨k2, ev, rfl⟩
  have K2 := kb.trans k2 (by simp)
  replace bb := k2.blk bb (by simp)
  clear d0 d1 d2 d3 d4 d5 d6 d7 d8 df dl hq
  obtain ⟨d0, d1, d2, d3, d4, d5, d6, d7, d8, df, dl⟩ := bb.o9
  have hq := acc_any w2 y (hy.2.2.keeps K2) hz.2.2
  cases hok : engOk y.th y.sn y.no y.ch y.re y.fa (y.cl : Int) y.ps with
  | false =>
    rw [hok, Bool.false_and] at hve
    have HV := Lib.hid hve
    clear hve
    go_wp2_with fail
    go_ret
    exact ⟨by rw [← HV.out]; rfl, K2⟩
  | true =>
    rw [hok, Bool.true_and] at hve
    have HV := Lib.hid hve
    clear hve
    go_wp2_with fail
    refine hq.mono ?_
    rintro q w3 ⟨rfl, k3⟩
    go_wp2_with fail
    go_ret
    exact ⟨by rw [← HV.out]; rfl, K2.trans k3 (by simp)⟩
end Go.Proofs.Ytkgmgnfcmnhhaaa
