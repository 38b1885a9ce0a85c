/- The contract of Encode, given that of engine.Valid. -/
import Derived.Test.YtkgmgnfcmnhhaaaScrO
import Derived.Test.YtkgmgnfcmnhhaaaScrV
namespace Go.Proofs.Ytkgmgnfcmnhhaaa
open Go.RowKit
set_option linter.unusedSectionVars false
set_option linter.unusedVariables false
set_option linter.unusedSimpArgs false
set_option maxRecDepth 20000
set_option maxHeartbeats 4000000
/-- Lengths that fit. -/
def SzV (y : SV) : Prop := y.ps.length ≤ 1073741824 ∧ (∀ p ∈ y.ps, p.2.length ≤ 1073741824 ∧ ∀ z ∈ p.2, z.b.length ≤ 1073741824) ∧ y.pk.length ≤ 1073741824
def ValidG : Prop := ∀ (w : World) (y : SV), OkS w y → SzV y → Calls Try.prog 16 #[.agg #[.int .i64 y.th, .int .i64 y.sn, .int .i64 y.no, .int .i64 y.ch, .int .i64 y.re, .int .i64 y.fa, .int .u64 (y.cl : Int), .slice y.pA y.ps.length y.pc, .slice y.kA y.pk.length y.kc]] w fun q w' => q = .returned (.bool (vld y.scr)) ∧ Keeps [] w w'
def EncQ (w : World) (y : SV) (q : Ending) (w' : World) : Prop :=
  Keeps [] w w' ∧ if vld y.scr = true then ∃ v, q = .returned (.tuple #[v, .int .i64 0]) ∧ Bw w' v (eScr y.scr) ∧ ∀ b, v.ownBlock = some b → w.heap.size ≤ b else q = .returned (.tuple #[.slice none 0 0, .int .i64 1])
theorem enc_any (hval : ValidG) (w : World) (y : SV) (hy : OkS w y) (hz : SzV y) (ht : ∀ p ∈ y.ps, ∀ z ∈ p.2, z.t < 2 ^ 64) (hl : (eScr y.scr).length ≤ 1073741824) :
    Calls Try.prog 7 #[.agg #[.int .i64 y.th, .int .i64 y.sn, .int .i64 y.no, .int .i64 y.ch, .int .i64 y.re, .int .i64 y.fa, .int .u64 (y.cl : Int), .slice y.pA y.ps.length y.pc, .slice y.kA y.pk.length y.kc]] w (EncQ w y) := by
  have kb := (Keeps.refl [] w).alloc (.cells #[.int .i64 y.th, .int .i64 y.sn, .int .i64 y.no, .int .i64 y.ch, .int .i64 y.re, .int .i64 y.fa, .int .u64 (y.cl : Int), .slice y.pA y.ps.length y.pc, .slice y.kA y.pk.length y.kc] 30)
  have b1 := Blk.new w [.int .i64 y.th, .int .i64 y.sn, .int .i64 y.no, .int .i64 y.ch, .int .i64 y.re, .int .i64 y.fa, .int .u64 (y.cl : Int), .slice y.pA y.ps.length y.pc, .slice y.kA y.pk.length y.kc] 30
  change Blk (w.alloc (.cells #[.int .i64 y.th, .int .i64 y.sn, .int .i64 y.no, .int .i64 y.ch, .int .i64 y.re, .int .i64 y.fa, .int .u64 (y.cl : Int), .slice y.pA y.ps.length y.pc, .slice y.kA y.pk.length y.kc] 30)) _ _ at b1
  have hvq := hval _ y (hy.keeps kb) hz
  obtain ⟨w1, hw1⟩ : ∃ w1, w.alloc (.cells #[.int .i64 y.th, .int .i64 y.sn, .int .i64 y.no, .int .i64 y.ch, .int .i64 y.re, .int .i64 y.fa, .int .u64 (y.cl : Int), .slice y.pA y.ps.length y.pc, .slice y.kA y.pk.length y.kc] 30) = w1 := ⟨_, rfl⟩
  obtain ⟨gb, hgb⟩ : ∃ gb, w.heap.size = gb := ⟨_, rfl⟩
  rw [hw1, hgb] at b1
  rw [hw1] at kb hvq
  obtain ⟨c0, c1, c2, c3, c4, c5, c6, c7, c8, cf, cl⟩ := b1.o9
  go_enter Try.func7, Try.ntmps7
  go_wp2_with fail
  refine hvq.mono ?_
  rintro q w2 ⟨rfl, K2⟩
  have KK := kb.trans K2 (by simp)
  replace b1 := K2.blk b1 (by simp)
  clear hvq K2 c0 c1 c2 c3 c4 c5 c6 c7 c8 cf cl kb hw1
  obtain ⟨c0, c1, c2, c3, c4, c5, c6, c7, c8, cf, cl⟩ := b1.o9
  unfold EncQ
  cases hv : vld y.scr with
  | false =>
    go_wp2_with fail
    go_ret2
    exact ⟨KK, by simp [hv]⟩
  | true =>
    have hcfg := vld_cfg hv
    go_upto_region 6 with fail
    obtain ⟨g, hg⟩ : ∃ g, w2.heap.size = g := ⟨_, rfl⟩
    have kS : Keeps [] w2 (((w2.alloc (.cells #[.slice none 0 0] 56)).alloc (.cells #[.int .i64 y.th, .int .i64 y.sn, .int .i64 y.no, .int .i64 y.ch, .int .i64 y.re, .int .i64 y.fa, .int .u64 (y.cl : Int)] 26)).alloc (.cells #[.int .i64 y.th, .int .i64 y.sn, .int .i64 y.no, .int .i64 y.ch, .int .i64 y.re, .int .i64 y.fa] 3)) := (((Keeps.refl [] w2).alloc _).alloc _).alloc _
    have bg := ((Blk.new w2 [.slice none 0 0] 56).alloc (.cells #[.int .i64 y.th, .int .i64 y.sn, .int .i64 y.no, .int .i64 y.ch, .int .i64 y.re, .int .i64 y.fa, .int .u64 (y.cl : Int)] 26)).alloc (.cells #[.int .i64 y.th, .int .i64 y.sn, .int .i64 y.no, .int .i64 y.ch, .int .i64 y.re, .int .i64 y.fa] 3)
    change Blk (((w2.alloc (.cells #[.slice none 0 0] 56)).alloc (.cells #[.int .i64 y.th, .int .i64 y.sn, .int .i64 y.no, .int .i64 y.ch, .int .i64 y.re, .int .i64 y.fa, .int .u64 (y.cl : Int)] 26)).alloc (.cells #[.int .i64 y.th, .int .i64 y.sn, .int .i64 y.no, .int .i64 y.ch, .int .i64 y.re, .int .i64 y.fa] 3)) _ _ at bg
    have bc := (Blk.new (w2.alloc (.cells #[.slice none 0 0] 56)) [.int .i64 y.th, .int .i64 y.sn, .int .i64 y.no, .int .i64 y.ch, .int .i64 y.re, .int .i64 y.fa, .int .u64 (y.cl : Int)] 26).alloc (.cells #[.int .i64 y.th, .int .i64 y.sn, .int .i64 y.no, .int .i64 y.ch, .int .i64 y.re, .int .i64 y.fa] 3)
    change Blk (((w2.alloc (.cells #[.slice none 0 0] 56)).alloc (.cells #[.int .i64 y.th, .int .i64 y.sn, .int .i64 y.no, .int .i64 y.ch, .int .i64 y.re, .int .i64 y.fa, .int .u64 (y.cl : Int)] 26)).alloc (.cells #[.int .i64 y.th, .int .i64 y.sn, .int .i64 y.no, .int .i64 y.ch, .int .i64 y.re, .int .i64 y.fa] 3)) _ _ at bc
    have bp := Blk.new ((w2.alloc (.cells #[.slice none 0 0] 56)).alloc (.cells #[.int .i64 y.th, .int .i64 y.sn, .int .i64 y.no, .int .i64 y.ch, .int .i64 y.re, .int .i64 y.fa, .int .u64 (y.cl : Int)] 26)) ([y.th, y.sn, y.no, y.ch, y.re, y.fa].map (fun n => Value.int .i64 n)) 3
    change Blk (((w2.alloc (.cells #[.slice none 0 0] 56)).alloc (.cells #[.int .i64 y.th, .int .i64 y.sn, .int .i64 y.no, .int .i64 y.ch, .int .i64 y.re, .int .i64 y.fa, .int .u64 (y.cl : Int)] 26)).alloc (.cells #[.int .i64 y.th, .int .i64 y.sn, .int .i64 y.no, .int .i64 y.ch, .int .i64 y.re, .int .i64 y.fa] 3)) _ _ at bp
    rw [show (w2.alloc (.cells #[.slice none 0 0] 56)).heap.size = g + 1 by simp [hg]] at bc
    rw [show ((w2.alloc (.cells #[.slice none 0 0] 56)).alloc (.cells #[.int .i64 y.th, .int .i64 y.sn, .int .i64 y.no, .int .i64 y.ch, .int .i64 y.re, .int .i64 y.fa, .int .u64 (y.cl : Int)] 26)).heap.size = g + 1 + 1 by simp [hg]] at bp
    rw [hg] at bg
    obtain ⟨wS, hwS⟩ : ∃ wS, ((w2.alloc (.cells #[.slice none 0 0] 56)).alloc (.cells #[.int .i64 y.th, .int .i64 y.sn, .int .i64 y.no, .int .i64 y.ch, .int .i64 y.re, .int .i64 y.fa, .int .u64 (y.cl : Int)] 26)).alloc (.cells #[.int .i64 y.th, .int .i64 y.sn, .int .i64 y.no, .int .i64 y.ch, .int .i64 y.re, .int .i64 y.fa] 3) = wS := ⟨_, rfl⟩
    rw [hwS] at kS bg bc bp ⊢
    rw [hg]
    have hgl : g ≤ w2.heap.size := by omega
    have hgbg : gb < g := by omega
    have Kw := KK.trans kS (by simp)
    have hgw : w.heap.size ≤ g := by have := KK.size; omega
    have W0 : Wr wS g (.slice none 0 0) [] := ⟨bg, Row.nil _ _, by simp [Value.ownBlock]⟩
    have s1 : Sv wS gb g (.slice none 0 0) [.int .i64 y.th, .int .i64 y.sn, .int .i64 y.no, .int .i64 y.ch, .int .i64 y.re, .int .i64 y.fa, .int .u64 (y.cl : Int), .slice y.pA y.ps.length y.pc, .slice y.kA y.pk.length y.kc] := ⟨kS.blk b1 (by simp), by omega, by simp [Value.ownBlock]⟩
    have sc : Sv wS (g + 1) g (.slice none 0 0) _ := ⟨bc, by omega, by simp [Value.ownBlock]⟩
    have sp : Sv wS (g + 1 + 1) g (.slice none 0 0) _ := ⟨bp, by omega, by simp [Value.ownBlock]⟩
    have hKr : ∀ wr v' L, WQ wS g (.slice none 0 0) wr v' L → Keeps [] w wr := fun wr v' L Q => Kw.trans Q.keeps (fun b hb => .inr (by
      rcases List.mem_cons.1 hb with rfl | hb
      · exact hgw
      · simp [Value.ownBlock] at hb))
    have hvw : ∀ wr v' L, WQ wS g (.slice none 0 0) wr v' L → ∀ b, v'.ownBlock = some b → w.heap.size ≤ b := fun wr v' L Q b hb => by
      rcases Q.own b hb with h1 | h1
      · simp [Value.ownBlock] at h1
      · have := Kw.size; omega
    have HKr := Lib.hid hKr
    have Hvw := Lib.hid hvw
    obtain ⟨E, hE⟩ : ∃ E, eScr y.scr = E := ⟨_, rfl⟩
    have hE0 : [] ++ (([y.th, y.sn, y.no, y.ch, y.re, y.fa].flatMap eInt) ++ (vi y.cl ++ ((y.ps.map fun p => p.2.map OV.op).flatMap eProg ++ ePicks y.pk))) = E := by
      rw [← hE]
      have h1 : eInt y.th = vi y.scr.th := by
        have h2 : y.th = ((y.scr.th : Nat) : Int) := by simp only [SV.scr] at hcfg ⊢; omega
        rw [h2]
        unfold eInt
        rw [ofI_nat _ (Nat.lt_of_le_of_lt hcfg.1.2 (by decide))]
      simp only [eScr, List.flatMap_cons, List.flatMap_nil, List.nil_append, List.append_assoc, h1, List.append_nil]
      rfl
    rw [hE] at hl
    have HEe := Lib.hid hE
    have HE0 := Lib.hid hE0
    have HL := Lib.hid hl
    have HCF := Lib.hid hcfg
    clear hE0 hE hcfg kS bg bc bp b1 c0 c1 c2 c3 c4 c5 c6 c7 c8 cf cl hKr hvw hl
    clear hwS
    have Q0 := WQ.refl W0
    go_loopw [35] (fun i wr => ∃ (k : Nat) (v' : Value) (L' : Str), i = .int .i64 (k : Int) ∧ k ≤ 6 ∧ WQ wS g (.slice none 0 0) wr v' L' ∧ Hid (L' ++ ((([y.th, y.sn, y.no, y.ch, y.re, y.fa].drop k).flatMap eInt) ++ (vi y.cl ++ ((y.ps.map fun p => p.2.map OV.op).flatMap eProg ++ ePicks y.pk))) = E)) (fun i _ => 6 - (intOf i).toNat)
    case atStart => exact ⟨0, _, [], rfl, by omega, Q0, HE0⟩
    case round =>
      clear Q0
      obtain ⟨k, v', L', rfl, hk, Q, HR⟩ := hrel
      by_cases hk6 : k < 6
      · have sp' := (sp.step Q).blk
        have sp0 := sp'.frozen 0
        have spl := sp'.lt
        obtain ⟨n, hn⟩ : ∃ n, [y.th, y.sn, y.no, y.ch, y.re, y.fa][k]? = some n := ⟨_, List.getElem?_eq_getElem (by simpa using hk6)⟩
        have spk : wr.cell? ⟨g + 1 + 1, k, none⟩ = some (.int .i64 n) := by rw [sp'.cell, List.getElem?_map, hn]; rfl
        have hdr : [y.th, y.sn, y.no, y.ch, y.re, y.fa].drop k = n :: [y.th, y.sn, y.no, y.ch, y.re, y.fa].drop (k + 1) := by
          rw [List.drop_eq_getElem_cons (by simpa using hk6)]
          congr 1
          rw [List.getElem?_eq_getElem (by simpa using hk6)] at hn
          exact Option.some.inj hn
        have hr := HR.out
        rw [hdr, List.flatMap_cons] at hr
        have hsz := congrArg List.length hr
        simp only [List.length_append] at hsz
        have hq := intW _ g _ _ Q.wr n (by have := HL.out; omega)
        have HR2 : Hid ((L' ++ eInt n) ++ ((([y.th, y.sn, y.no, y.ch, y.re, y.fa].drop (k + 1)).flatMap eInt) ++ (vi y.cl ++ ((y.ps.map fun p => p.2.map OV.op).flatMap eProg ++ ePicks y.pk))) = E) := Lib.hid (by rw [← hr]; simp only [List.append_assoc])
        clear hr hdr hn HR hsz sp'
        go_wp2_with fail
        refine hq.mono ?_
        rintro q w5 ⟨rfl, v5, W5⟩
        have Q5 := Q.trans W5
        clear hq W5 Q
        go_wp2_with fail
        exact ⟨⟨k + 1, v5, _, by go_num, by omega, Q5, HR2⟩, by simp [intOf] <;> omega⟩
      · obtain rfl : k = 6 := by omega
        have hr := HR.out
        simp only [List.drop_succ_cons, List.drop_zero, List.flatMap_nil, List.nil_append] at hr
        have hsz := congrArg List.length hr
        simp only [List.length_append] at hsz
        have hq := varW _ g _ _ Q.wr y.cl (Nat.lt_of_le_of_lt HCF.out.2.2.2.2.2.2.2 (by decide)) (by have := HL.out; omega)
        have s1' := s1.step Q
        have sc' := sc.step Q
        obtain ⟨d0, d1, d2, d3, d4, d5, d6, d7, d8, df, dl⟩ := s1'.blk.o9
        have e6 := sc'.blk.cell 6
        simp only [List.getElem?_cons_succ, List.getElem?_cons_zero] at e6
        have HR2 : Hid ((L' ++ vi y.cl) ++ ((y.ps.map fun p => p.2.map OV.op).flatMap eProg ++ ePicks y.pk) = E) := Lib.hid (by rw [← hr]; simp only [List.append_assoc])
        clear hr HR hsz
        go_wp2_with fail
        refine hq.mono ?_
        rintro q w5 ⟨rfl, v5, W5⟩
        have Q5 := Q.trans W5
        clear hq W5 Q d0 d1 d2 d3 d4 d5 d6 d7 d8 df dl e6 s1' sc'
        obtain ⟨d0, d1, d2, d3, d4, d5, d6, d7, d8, df, dl⟩ := (s1.step Q5).blk.o9
        go_upto_region 12 with fail
        obtain ⟨n, hn⟩ : ∃ n, y.ps.length = n := ⟨_, rfl⟩
        have Hn := Lib.hid hn
        have hn30 : n ≤ 1073741824 := by rw [← hn]; exact hz.1
        have HR3 : Hid ((L' ++ vi y.cl) ++ (((y.ps.drop 0).map fun p => p.2.map OV.op).flatMap eProg ++ ePicks y.pk) = E) := HR2
        obtain ⟨L5, hL5⟩ : ∃ L5, L' ++ vi y.cl = L5 := ⟨_, rfl⟩
        rw [hL5] at HR3 Q5
        have Hps := Lib.hid hy.1
        have Hpr := Lib.hid hy.2.1
        have Hpk := Lib.hid hy.2.2
        rw [hn]
        clear hL5 HR2 d0 d1 d2 d3 d4 d5 d6 d7 d8 df dl HE0 hn
        go_loopw [50] (fun i wr => ∃ (k : Nat) (v' : Value) (L' : Str), i = .int .i64 (k : Int) ∧ k ≤ n ∧ WQ wS g (.slice none 0 0) wr v' L' ∧ Hid (L' ++ (((y.ps.drop k).map fun p => p.2.map OV.op).flatMap eProg ++ ePicks y.pk) = E)) (fun i _ => n - (intOf i).toNat)
        case atStart => exact ⟨0, _, L5, rfl, by omega, Q5, HR3⟩
        case round =>
          clear Q5 HR3
          obtain ⟨k, v', L', rfl, hk, Q, HR⟩ := hrel
          by_cases hkn : k < n
          · have hkx : k < y.ps.length := by rw [Hn.out]; exact hkn
            obtain ⟨p, hp⟩ : ∃ p, y.ps[k]? = some p := ⟨_, List.getElem?_eq_getElem hkx⟩
            have hpm := List.mem_of_getElem? hp
            obtain ⟨A, cap, b, o, hv1, hA, har⟩ := Hps.out
            injection hv1 with hA2 hN2 hC2
            have hAA : y.pA = some ⟨b, o, none⟩ := by rw [hA2]; exact hA (by omega)
            have hcell : wr.cell? ⟨b, o + k, none⟩ = some p.1 := by
              rw [(har.keeps (HKr.out _ _ _ Q) (by simp)).cells k (by rw [List.length_map]; exact hkx), List.getElem?_map, hp]
              rfl
            obtain ⟨hpl, hpo⟩ := Hpr.out p hpm
            have hdr : y.ps.drop k = p :: y.ps.drop (k + 1) := by
              rw [List.drop_eq_getElem_cons hkx]
              congr 1
              rw [List.getElem?_eq_getElem hkx] at hp
              exact Option.some.inj hp
            have hr := HR.out
            rw [hdr, List.map_cons, List.flatMap_cons] at hr
            have hsz := congrArg List.length hr
            simp only [eProg, List.length_append, List.length_map] at hsz
            obtain ⟨Ap, Cp, bp, op, hpv, hpA, hpar⟩ := id hpl
            obtain ⟨m, hm⟩ : ∃ m, p.2.length = m := ⟨_, rfl⟩
            have Hm := Lib.hid hm
            have hm30 : m ≤ 1073741824 := by rw [← hm]; exact (hz.2.1 p hpm).1
            have hei : eInt (m : Int) = vi m := by unfold eInt; rw [ofI_nat _ (Nat.lt_of_le_of_lt hm30 (by decide))]
            have hq := intW _ g _ _ Q.wr (m : Int) (by rw [hei]; have := HL.out; rw [hm] at hsz; omega)
            rw [hei] at hq
            rw [hm] at hpv
            rw [hpv] at hcell
            obtain ⟨R, hR⟩ : ∃ R, ((y.ps.drop (k + 1)).map fun p => p.2.map OV.op).flatMap eProg ++ ePicks y.pk = R := ⟨_, rfl⟩
            have HRr := Lib.hid hR
            have HR2 : Hid ((L' ++ vi m) ++ (((p.2.drop 0).map OV.op).flatMap eOp ++ R) = E) := Lib.hid (by rw [← hr, ← hR, ← hm]; simp only [eProg, List.length_map, List.append_assoc, List.drop_zero])
            have hplv := Lib.hid (show Lst w (.slice Ap m Cp) m (oCs p.2) by rw [← hpv, ← hm]; exact hpl)
            have Hpo := Lib.hid hpo
            have Hpm := Lib.hid hpm
            rw [hAA]
            clear hr hdr hsz hp hA2 hN2 hC2 har hA hpl hpo hpar hpA hpv hm hR HR hei hpm
            go_wp2_with fail
            refine hq.mono ?_
            rintro q w5 ⟨rfl, v5, W5⟩
            have Q5 := Q.trans W5
            clear hq W5 Q hcell
            go_wp2_with fail
            go_loopw [60] (fun i wr => ∃ (j : Nat) (v' : Value) (L' : Str), i = .int .i64 (j : Int) ∧ j ≤ m ∧ WQ wS g (.slice none 0 0) wr v' L' ∧ Hid (L' ++ (((p.2.drop j).map OV.op).flatMap eOp ++ R) = E)) (fun i _ => m - (intOf i).toNat)
            case atStart => exact ⟨0, _, _, rfl, by omega, Q5, HR2⟩
            case round =>
              clear Q5 HR2
              obtain ⟨j, v', L', rfl, hj, Q, HR⟩ := hrel
              by_cases hjm : j < m
              · have hjx : j < p.2.length := by rw [Hm.out]; exact hjm
                obtain ⟨x, hx⟩ : ∃ x, p.2[j]? = some x := ⟨_, List.getElem?_eq_getElem hjx⟩
                have hxm := List.mem_of_getElem? hx
                have K0 := HKr.out _ _ _ Q
                obtain ⟨gx, ox, hApx, hc, hgx⟩ := (hplv.out.keeps K0).atS Hm.out hx
                have hdr : p.2.drop j = x :: p.2.drop (j + 1) := by
                  rw [List.drop_eq_getElem_cons hjx]
                  congr 1
                  rw [List.getElem?_eq_getElem hjx] at hx
                  exact Option.some.inj hx
                have hr := HR.out
                rw [hdr, List.map_cons, List.flatMap_cons] at hr
                have hsz := congrArg List.length hr
                simp only [List.length_append] at hsz
                have hop := vOp_code (vld_op hv (List.mem_map.2 ⟨p, Hpm.out, rfl⟩) (List.mem_map.2 ⟨x, hxm, rfl⟩))
                have hcx : 1 ≤ x.c ∧ x.c ≤ 9 := by simp only [OV.op] at hop; omega
                have kb2 : Keeps [] wr (wr.alloc (.cells #[.int .i64 x.c, .string ⟨x.k.toArray⟩, .int .u64 (x.t : Int), .slice x.bA x.b.length x.bc, .int .i64 x.h, .int .i64 x.u, .int .i64 x.m] 45)) := (Keeps.refl [] wr).alloc _
                have Q6 := Q.keepsN kb2 (by simp) (by simp) (by simp)
                have hq := opW w _ (K0.trans kb2 (by simp)) g _ _ Q6.wr hgw (Hvw.out _ _ _ Q) x (Hpo.out x hxm) hcx (ht p Hpm.out x hxm) (by have := HL.out; omega)
                have hl0 := hc.load
                have hst := store_new wr x
                have hl1 := (new_op wr x).load
                have HR2 : Hid ((L' ++ eOp x.op) ++ (((p.2.drop (j + 1)).map OV.op).flatMap eOp ++ R) = E) := Lib.hid (by rw [← hr]; simp only [List.append_assoc])
                rw [hApx]
                clear hr hdr hsz hx HR hop hcx hc K0 Q kb2
                go_wp2_with (first
                  | (refine list_load_eq rfl 45 _ rfl _ rfl _ hl0 ?_)
                  | (refine list_store_eq rfl 45 _ _ rfl _ rfl _ rfl (hst _ rfl) ?_)
                  | (refine list_load_eq rfl 45 _ rfl _ rfl _ hl1 ?_))
                refine hq.mono ?_
                rintro q w6 ⟨rfl, v6, W6⟩
                have Q7 := Q6.trans W6
                clear hq W6 Q6 hl0 hst hl1
                go_wp2_with fail
                exact ⟨⟨j + 1, v6, _, by go_num, by omega, Q7, HR2⟩, by simp [intOf] <;> omega⟩
              · obtain rfl : j = m := by omega
                have hr := HR.out
                rw [← Hm.out, List.drop_length, List.map_nil, List.flatMap_nil, List.nil_append] at hr
                have HR2 := Lib.hid hr
                clear hr HR
                go_wp2_with fail
                exact ⟨⟨k + 1, v', L', by go_num, by omega, Q, by rw [HRr.out]; exact HR2⟩, by simp [intOf] <;> omega⟩
          · obtain rfl : k = n := by omega
            have hr := HR.out
            rw [← Hn.out, List.drop_length, List.map_nil, List.flatMap_nil, List.nil_append] at hr
            unfold ePicks at hr
            have hsz := congrArg List.length hr
            simp only [List.length_append] at hsz
            obtain ⟨m, hm⟩ : ∃ m, y.pk.length = m := ⟨_, rfl⟩
            have Hm := Lib.hid hm
            have hm30 : m ≤ 1073741824 := by rw [← hm]; exact hz.2.2
            have hei : eInt (m : Int) = vi m := by unfold eInt; rw [ofI_nat _ (Nat.lt_of_le_of_lt hm30 (by decide))]
            have hq := intW _ g _ _ Q.wr (m : Int) (by rw [hei]; have := HL.out; rw [hm] at hsz; omega)
            rw [hei] at hq
            have HR2 : Hid ((L' ++ vi m) ++ ((y.pk.drop 0).flatMap eInt) = E) := Lib.hid (by rw [← hr, ← hm]; simp only [List.append_assoc, List.drop_zero])
            obtain ⟨d0, d1, d2, d3, d4, d5, d6, d7, d8, df, dl⟩ := (s1.step Q).blk.o9
            rw [hm] at d8
            clear hr hsz HR hei hm
            go_wp2_with fail
            refine hq.mono ?_
            rintro q w5 ⟨rfl, v5, W5⟩
            have Q5 := Q.trans W5
            clear hq W5 Q d0 d1 d2 d3 d4 d5 d6 d7 d8 df dl
            obtain ⟨d0, d1, d2, d3, d4, d5, d6, d7, d8, df, dl⟩ := (s1.step Q5).blk.o9
            rw [Hm.out] at d8
            go_wp2_with fail
            clear d0 d1 d2 d3 d4 d5 d6 d7 d8 df dl
            go_loopw [77] (fun i wr => ∃ (j : Nat) (v' : Value) (L' : Str), i = .int .i64 (j : Int) ∧ j ≤ m ∧ WQ wS g (.slice none 0 0) wr v' L' ∧ Hid (L' ++ (y.pk.drop j).flatMap eInt = E)) (fun i _ => m - (intOf i).toNat)
            case atStart => exact ⟨0, _, _, rfl, by omega, Q5, HR2⟩
            case round =>
              clear Q5 HR2
              obtain ⟨j, v', L', rfl, hj, Q, HR⟩ := hrel
              by_cases hjm : j < m
              · have hjx : j < y.pk.length := by rw [Hm.out]; exact hjm
                obtain ⟨x, hx⟩ : ∃ x, y.pk[j]? = some x := ⟨_, List.getElem?_eq_getElem hjx⟩
                obtain ⟨A, cap, b, o, hv1, hA, har⟩ := Hpk.out
                injection hv1 with hA2 hN2 hC2
                have hAA : y.kA = some ⟨b, o, none⟩ := by rw [hA2]; exact hA (by omega)
                have hcell : wr.cell? ⟨b, o + j, none⟩ = some (.int .i64 x) := by
                  rw [(har.keeps (HKr.out _ _ _ Q) (by simp)).cells j (by rw [List.length_map]; exact hjx), List.getElem?_map, hx]
                  rfl
                have hdr : y.pk.drop j = x :: y.pk.drop (j + 1) := by
                  rw [List.drop_eq_getElem_cons hjx]
                  congr 1
                  rw [List.getElem?_eq_getElem hjx] at hx
                  exact Option.some.inj hx
                have hr := HR.out
                rw [hdr, List.flatMap_cons] at hr
                have hsz := congrArg List.length hr
                simp only [List.length_append] at hsz
                have hq := intW _ g _ _ Q.wr x (by have := HL.out; omega)
                have HR2 : Hid ((L' ++ eInt x) ++ (y.pk.drop (j + 1)).flatMap eInt = E) := Lib.hid (by rw [← hr]; simp only [List.append_assoc])
                rw [hAA]
                clear hr hdr hsz hx HR har hA hA2 hN2 hC2
                go_wp2_with fail
                refine hq.mono ?_
                rintro q w6 ⟨rfl, v6, W6⟩
                have Q7 := Q.trans W6
                clear hq W6 Q hcell
                go_wp2_with fail
                exact ⟨⟨j + 1, v6, _, by go_num, by omega, Q7, HR2⟩, by simp [intOf] <;> omega⟩
              · obtain rfl : j = m := by omega
                have hr := HR.out
                rw [← Hm.out, List.drop_length, List.flatMap_nil, List.append_nil] at hr
                obtain ⟨k0, kf, kg⟩ := Q.wr.cell
                have HQ := Lib.hid Q
                have HRR := Lib.hid hr
                clear hr HR Q
                go_wp2_with fail
                go_ret2
                refine ⟨HKr.out _ _ _ HQ.out, ?_⟩
                rw [if_pos hv]
                refine ⟨v', rfl, ?_, Hvw.out _ _ _ HQ.out⟩
                rw [HEe.out, ← HRR.out]
                exact HQ.out.wr.row
end Go.Proofs.Ytkgmgnfcmnhhaaa
