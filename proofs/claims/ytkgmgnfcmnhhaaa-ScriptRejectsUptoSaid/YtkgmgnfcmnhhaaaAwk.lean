/- The contract of the statements' own function awake. -/
import Derived.Test.YtkgmgnfcmnhhaaaGs
import Derived.Test.YtkgmgnfcmnhhaaaScrT
import Derived.BigQuiet
namespace Go.Proofs.Ytkgmgnfcmnhhaaa
open Go.RowKit
set_option linter.unusedSectionVars false
set_option linter.unusedVariables false
set_option linter.unusedSimpArgs false
set_option maxRecDepth 20000
set_option maxHeartbeats 4000000
def aw0 (g0 g1 g2 : Nat) : SV := ⟨1, 1, 1, 1, 1, 4, 300, some ⟨g1, 0, none⟩, 1, [(.slice (some ⟨g0, 0, none⟩) 1 1, [⟨9, [], 0, none, 0, [], 0, 0, 0⟩])], some ⟨g2, 0, none⟩, 1, [0]⟩
theorem aw_bytes (g0 g1 g2 : Nat) : eScr (aw0 g0 g1 g2).scr = [1, 1, 1, 1, 1, 4, 172, 2, 1, 9, 1, 0] := by
  show eScr ⟨1, 1, 1, 1, 1, 4, 300, [[⟨9, [], 0, [], 0, 0, 0⟩]], [0]⟩ = _
  have v1 : ∀ n : Nat, n < 128 → vi n = [UInt8.ofNat n] := fun n h => by unfold vi; rw [if_pos h]
  have v3 : vi 300 = [172, 2] := by unfold vi; rw [if_neg (by omega), v1 _ (by omega)]; rfl
  simp only [eScr, eInt, eProg, ePicks, eOp, eBody, ofI, List.flatMap_cons, List.flatMap_nil, List.length_cons, List.length_nil]
  have o1 : ((1 : Int) % 2 ^ 64).toNat = 1 := by decide
  have o4 : ((4 : Int) % 2 ^ 64).toNat = 4 := by decide
  have o0 : ((0 : Int) % 2 ^ 64).toNat = 0 := by decide
  rw [o1, o4, o0, v3, v1 1 (by omega), v1 4 (by omega), v1 0 (by omega)]
  rfl
theorem aw_vld (g0 g1 g2 : Nat) : vld (aw0 g0 g1 g2).scr = true := by
  show vld ⟨1, 1, 1, 1, 1, 4, 300, [[⟨9, [], 0, [], 0, 0, 0⟩]], [0]⟩ = true
  decide
theorem aw_ok (g0 g1 g2 : Nat) (w : World) (h0 : Blk w g0 [.int .i64 9, .string ⟨#[]⟩, .int .u64 0, .slice none 0 0, .int .i64 0, .int .i64 0, .int .i64 0]) (h1 : Blk w g1 [.slice (some ⟨g0, 0, none⟩) 1 1]) (h2 : Blk w g2 [.int .i64 0]) : OkS w (aw0 g0 g1 g2) := by
  refine ⟨Lst.blk (rest := []) h1, fun p hp => ?_, Lst.blk (rest := []) h2⟩
  simp [aw0] at hp
  subst hp
  refine ⟨Lst.blk (rest := []) h0, fun y hy => ?_⟩
  simp at hy
  subst hy
  exact Lst.nil w
theorem aw_sz (g0 g1 g2 : Nat) : SzV (aw0 g0 g1 g2) := ⟨by simp [aw0], fun p hp => by
  simp [aw0] at hp
  subst hp
  exact ⟨by simp, fun z hz => by simp at hz; subst hz; simp⟩, by simp [aw0]⟩
theorem aw_scr (g0 g1 g2 : Nat) : ScrOk (aw0 g0 g1 g2).scr := vld_ok (aw_vld g0 g1 g2) (fun p hp z hz => by
  simp [aw0, SV.scr] at hp
  subst hp
  simp [OV.op] at hz
  subst hz
  exact ⟨by simp, by simp, by simp, by simp⟩)
theorem dec_nil : dec vld [] = .error 11 := by
  refine dec_pre (x := (aw0 0 0 0).scr) (aw_scr 0 0 0) (p := []) (q := eScr (aw0 0 0 0).scr) rfl ?_
  rw [aw_bytes]
  simp
theorem awk_any (w : World) : Calls Try.prog 8 #[] w fun q w' => q = .returned (.bool true) ∧ Keeps [] w w' := by
  have key : ∃ (W : World) (g0 g1 g2 g3 : Nat), W = (((w.alloc (.cells #[.int .i64 9, .string ⟨#[]⟩, .int .u64 0, .slice none 0 0, .int .i64 0, .int .i64 0, .int .i64 0] 45)).alloc (.cells #[.slice (some ⟨w.heap.size, 0, none⟩) 1 1] 22)).alloc (.cells #[.int .i64 0] 3)).alloc (.cells #[.int .i64 1, .int .i64 1, .int .i64 1, .int .i64 1, .int .i64 1, .int .i64 4, .int .u64 300, .slice (some ⟨w.heap.size + 1, 0, none⟩) 1 1, .slice (some ⟨w.heap.size + 1 + 1, 0, none⟩) 1 1] 30) ∧
      w.heap.size = g0 ∧ w.heap.size + 1 = g1 ∧ w.heap.size + 1 + 1 = g2 ∧ w.heap.size + 1 + 1 + 1 = g3 ∧ Keeps [] w W ∧ Blk W g0 [.int .i64 9, .string ⟨#[]⟩, .int .u64 0, .slice none 0 0, .int .i64 0, .int .i64 0, .int .i64 0] ∧ Blk W g1 [.slice (some ⟨g0, 0, none⟩) 1 1] ∧ Blk W g2 [.int .i64 0] ∧ Blk W g3 [.int .i64 1, .int .i64 1, .int .i64 1, .int .i64 1, .int .i64 1, .int .i64 4, .int .u64 300, .slice (some ⟨g1, 0, none⟩) 1 1, .slice (some ⟨g2, 0, none⟩) 1 1] := by
    refine ⟨_, _, _, _, _, rfl, rfl, rfl, rfl, rfl, ((((Keeps.refl [] w).alloc _).alloc _).alloc _).alloc _, ((((Blk.new w [.int .i64 9, .string ⟨#[]⟩, .int .u64 0, .slice none 0 0, .int .i64 0, .int .i64 0, .int .i64 0] 45)).alloc _).alloc _).alloc _, ((Blk.new_at _ _ [.slice (some ⟨w.heap.size, 0, none⟩) 1 1] 22 ?_).alloc _).alloc _, (Blk.new_at _ _ [.int .i64 0] 3 ?_).alloc _, Blk.new_at _ _ [.int .i64 1, .int .i64 1, .int .i64 1, .int .i64 1, .int .i64 1, .int .i64 4, .int .u64 300, .slice (some ⟨w.heap.size + 1, 0, none⟩) 1 1, .slice (some ⟨w.heap.size + 1 + 1, 0, none⟩) 1 1] 30 ?_⟩
    all_goals simp
  have key := Lib.hid key
  go_enter Try.func8, Try.ntmps8
  go_upto_region 2 with fail
  obtain ⟨W, g0, g1, g2, g3, hW, hg0, hg1, hg2, hg3, kW, b0, b1, b2, b3⟩ := key.out
  rw [← hW, hg3, hg2, hg1, hg0]
  clear hW hg0 hg1 hg2 hg3
  have hlen : (eScr (aw0 g0 g1 g2).scr).length ≤ 1073741824 := by rw [aw_bytes]; simp
  have hok := aw_ok g0 g1 g2 W b0 b1 b2
  have hq1 := enc_any valid_any W (aw0 g0 g1 g2) hok (aw_sz g0 g1 g2) (fun p hp z hz => by
    simp [aw0] at hp
    subst hp
    simp at hz
    subst hz
    simp) hlen
  obtain ⟨d0, d1, d2, d3, d4, d5, d6, d7, d8, df, dl⟩ := b3.o9
  go_wp2_with fail
  refine hq1.mono ?_
  rintro q w2 ⟨k2, hq2⟩
  rw [if_pos (aw_vld g0 g1 g2), aw_bytes] at hq2
  obtain ⟨v, rfl, hv, hown⟩ := hq2
  have hin := hv.inB
  obtain ⟨A, cap, hveq⟩ := hv.len
  have hdq := dec_any vld valid_c w2 [1, 1, 1, 1, 1, 4, 172, 2, 1, 9, 1, 0] v hin (by simp)
  unfold DecQ at hdq
  rw [← aw_bytes g0 g1 g2, dec_enc (aw_scr g0 g1 g2) (aw_vld g0 g1 g2)] at hdq
  have hok2 := hok.keeps k2
  have b32 := k2.blk b3 (by simp)
  have kW2 := kW.trans k2 (by simp)
  have HIN := Lib.hid hin
  have HOK := Lib.hid hok2
  clear hq1 d0 d1 d2 d3 d4 d5 d6 d7 d8 df dl hok b0 b1 b2 b3 k2 hlen hv hown hin hok2
  subst hveq
  go_wp2_with fail
  refine hdq.mono ?_
  rintro q w3 ⟨k3, y, hys, hyt, hyo, rfl⟩
  have b33 := (k3.blk b32 (by simp)).alloc (.cells #[.int .i64 y.th, .int .i64 y.sn, .int .i64 y.no, .int .i64 y.ch, .int .i64 y.re, .int .i64 y.fa, .int .u64 (y.cl : Int), .slice y.pA y.ps.length y.pc, .slice y.kA y.pk.length y.kc] 30)
  have b43 := Blk.new w3 [.int .i64 y.th, .int .i64 y.sn, .int .i64 y.no, .int .i64 y.ch, .int .i64 y.re, .int .i64 y.fa, .int .u64 (y.cl : Int), .slice y.pA y.ps.length y.pc, .slice y.kA y.pk.length y.kc] 30
  change Blk (w3.alloc (.cells #[.int .i64 y.th, .int .i64 y.sn, .int .i64 y.no, .int .i64 y.ch, .int .i64 y.re, .int .i64 y.fa, .int .u64 (y.cl : Int), .slice y.pA y.ps.length y.pc, .slice y.kA y.pk.length y.kc] 30)) _ _ at b33 b43
  have ka := (Keeps.refl [] w3).alloc (.cells #[.int .i64 y.th, .int .i64 y.sn, .int .i64 y.no, .int .i64 y.ch, .int .i64 y.re, .int .i64 y.fa, .int .u64 (y.cl : Int), .slice y.pA y.ps.length y.pc, .slice y.kA y.pk.length y.kc] 30)
  have k34 := k3.trans ka (by simp)
  have kW3 := kW2.trans k34 (by simp)
  have hdn := dec_any vld valid_c (w3.alloc (.cells #[.int .i64 y.th, .int .i64 y.sn, .int .i64 y.no, .int .i64 y.ch, .int .i64 y.re, .int .i64 y.fa, .int .u64 (y.cl : Int), .slice y.pA y.ps.length y.pc, .slice y.kA y.pk.length y.kc] 30)) [] (.slice none 0 0) (InB.nil _) (by simp)
  unfold DecQ at hdn
  rw [dec_nil] at hdn
  have HYS := Lib.hid hys
  have HYT := Lib.hid hyt
  have HYO := Lib.hid (hyo.keeps ka)
  have HIN3 := Lib.hid (HIN.out.keeps k34)
  have HOK3 := Lib.hid (HOK.out.keeps k34)
  clear hys hyt hyo hdq b32 kW2 k3 k34 ka HIN HOK
  obtain ⟨g4, hg4⟩ : ∃ g4, w3.heap.size = g4 := ⟨_, rfl⟩
  rw [hg4] at b43
  go_upto_region 4 with fail
  obtain ⟨w4, hw4⟩ : ∃ w4, w3.alloc (.cells #[.int .i64 y.th, .int .i64 y.sn, .int .i64 y.no, .int .i64 y.ch, .int .i64 y.re, .int .i64 y.fa, .int .u64 (y.cl : Int), .slice y.pA y.ps.length y.pc, .slice y.kA y.pk.length y.kc] 30) = w4 := ⟨_, rfl⟩
  rw [hw4] at b33 b43 kW3 hdn HYO HIN3 HOK3 ⊢
  clear hw4 hg4
  go_wp2_with fail
  refine hdn.mono ?_
  rintro q w5 ⟨k5, rfl⟩
  have b35 := (k5.blk b33 (by simp)).alloc (.cells #[.int .i64 0, .int .i64 0, .int .i64 0, .int .i64 0, .int .i64 0, .int .i64 0, .int .u64 0, .slice none 0 0, .slice none 0 0] 30)
  have b45 := (k5.blk b43 (by simp)).alloc (.cells #[.int .i64 0, .int .i64 0, .int .i64 0, .int .i64 0, .int .i64 0, .int .i64 0, .int .u64 0, .slice none 0 0, .slice none 0 0] 30)
  have k56 := k5.trans ((Keeps.refl [] w5).alloc (.cells #[.int .i64 0, .int .i64 0, .int .i64 0, .int .i64 0, .int .i64 0, .int .i64 0, .int .u64 0, .slice none 0 0, .slice none 0 0] 30)) (by simp)
  have kW5 := kW3.trans k56 (by simp)
  have HYO5 := Lib.hid (HYO.out.keeps k56)
  have HIN5 := Lib.hid (HIN3.out.keeps k56)
  have HOK5 := Lib.hid (HOK3.out.keeps k56)
  clear hdn b33 b43 kW3 k5 k56 HYO HIN3 HOK3
  go_upto_region 5 with fail
  obtain ⟨w6, hw6⟩ : ∃ w6, w5.alloc (.cells #[.int .i64 0, .int .i64 0, .int .i64 0, .int .i64 0, .int .i64 0, .int .i64 0, .int .u64 0, .slice none 0 0, .slice none 0 0] 30) = w6 := ⟨_, rfl⟩
  change Blk (w5.alloc (.cells #[.int .i64 0, .int .i64 0, .int .i64 0, .int .i64 0, .int .i64 0, .int .i64 0, .int .u64 0, .slice none 0 0, .slice none 0 0] 30)) _ _ at b35 b45
  rw [hw6] at b35 b45 kW5 HYO5 HIN5 HOK5 ⊢
  clear hw6
  go_wp2_with fail
  have ka := (Keeps.refl [] w6).alloc (.cells #[.int .u8 1, .int .u8 1, .int .u8 1, .int .u8 1, .int .u8 1, .int .u8 4, .int .u8 172, .int .u8 2, .int .u8 1, .int .u8 9, .int .u8 1, .int .u8 0] 5)
  have bl := Blk.new w6 [.int .u8 1, .int .u8 1, .int .u8 1, .int .u8 1, .int .u8 1, .int .u8 4, .int .u8 172, .int .u8 2, .int .u8 1, .int .u8 9, .int .u8 1, .int .u8 0] 5
  change Blk (w6.alloc (.cells #[.int .u8 1, .int .u8 1, .int .u8 1, .int .u8 1, .int .u8 1, .int .u8 4, .int .u8 172, .int .u8 2, .int .u8 1, .int .u8 9, .int .u8 1, .int .u8 0] 5)) _ _ at bl
  have hsq := samb_any (w6.alloc (.cells #[.int .u8 1, .int .u8 1, .int .u8 1, .int .u8 1, .int .u8 1, .int .u8 4, .int .u8 172, .int .u8 2, .int .u8 1, .int .u8 9, .int .u8 1, .int .u8 0] 5)) [1, 1, 1, 1, 1, 4, 172, 2, 1, 9, 1, 0] (by simp) (.slice A 12 cap) (.slice (some ⟨w6.heap.size, 0, none⟩) 12 12) (HIN5.out.keeps ka).lst (Lst.blk (rest := []) (cs := ([1, 1, 1, 1, 1, 4, 172, 2, 1, 9, 1, 0] : Str).map vB) bl)
  refine hsq.mono ?_
  rintro q w7 ⟨rfl, k7⟩
  have k67 := ka.trans k7 (by simp)
  have b37 := k67.blk b35 (by simp)
  have b47 := k67.blk b45 (by simp)
  have hq := ssc_same (aw0 g0 g1 g2) y w7 (HOK5.out.keeps k67) (HYO5.out.keeps k67) HYS.out.symm (by show (0 : Int) ≤ 1; omega) HYT.out.1 (aw_vld g0 g1 g2) (aw_sz g0 g1 g2)
  have kW7 := kW5.trans k67 (by simp)
  clear hsq bl ka k7 k67 b35 b45 kW5 HOK5 HYO5 HIN5
  obtain ⟨d0, d1, d2, d3, d4, d5, d6, d7, d8, df, dl⟩ := b37.o9
  obtain ⟨e0, e1, e2, e3, e4, e5, e6, e7, e8, ef, el⟩ := b47.o9
  go_wp2_with fail
  refine hq.mono ?_
  rintro q w8 ⟨rfl, k8⟩
  go_wp2_with fail
  go_ret
  exact ⟨rfl, kW7.trans k8 (by simp)⟩
end Go.Proofs.Ytkgmgnfcmnhhaaa
