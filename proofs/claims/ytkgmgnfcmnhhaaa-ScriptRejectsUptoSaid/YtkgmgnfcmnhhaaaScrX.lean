/- The contract of the reference's Encode on valid scripts. -/
import Derived.Test.YtkgmgnfcmnhhaaaScrW
import Derived.Test.YtkgmgnfcmnhhaaaScrT
namespace Go.Proofs.Ytkgmgnfcmnhhaaa
open Go.RowKit
set_option linter.unusedSectionVars false
set_option linter.unusedVariables false
set_option linter.unusedSimpArgs false
set_option maxRecDepth 20000
set_option maxHeartbeats 4000000
def REncQ (w : World) (y : SV) (q : Ending) (w' : World) : Prop :=
  Keeps [] w w' ∧ ∃ v, q = .returned v ∧ Bw w' v (eScr y.scr) ∧ ∀ b, v.ownBlock = some b → w.heap.size ≤ b
theorem renc_any (w : World) (y : SV) (hy : OkS w y) (hz : SzV y) (ht : ∀ p ∈ y.ps, ∀ z ∈ p.2, z.t < 2 ^ 64) (hl : (eScr y.scr).length ≤ 1073741824) (hv : vld y.scr = true) :
    Calls Try.prog 10 #[.agg #[.int .i64 y.th, .int .i64 y.sn, .int .i64 y.no, .int .i64 y.ch, .int .i64 y.re, .int .i64 y.fa, .int .u64 (y.cl : Int), .slice y.pA y.ps.length y.pc, .slice y.kA y.pk.length y.kc]] w (REncQ w y) := by
  have hcfg := vld_cfg hv
  have kS : Keeps [] w ((w.alloc (.cells #[.int .i64 y.th, .int .i64 y.sn, .int .i64 y.no, .int .i64 y.ch, .int .i64 y.re, .int .i64 y.fa, .int .u64 (y.cl : Int), .slice y.pA y.ps.length y.pc, .slice y.kA y.pk.length y.kc] 30)).alloc (.cells #[.int .i64 y.th, .int .i64 y.sn, .int .i64 y.no, .int .i64 y.ch, .int .i64 y.re, .int .i64 y.fa, .int .u64 (y.cl : Int)] 26)) := ((Keeps.refl [] w).alloc _).alloc _
  have b1 := (Blk.new w [.int .i64 y.th, .int .i64 y.sn, .int .i64 y.no, .int .i64 y.ch, .int .i64 y.re, .int .i64 y.fa, .int .u64 (y.cl : Int), .slice y.pA y.ps.length y.pc, .slice y.kA y.pk.length y.kc] 30).alloc (.cells #[.int .i64 y.th, .int .i64 y.sn, .int .i64 y.no, .int .i64 y.ch, .int .i64 y.re, .int .i64 y.fa, .int .u64 (y.cl : Int)] 26)
  change Blk ((w.alloc (.cells #[.int .i64 y.th, .int .i64 y.sn, .int .i64 y.no, .int .i64 y.ch, .int .i64 y.re, .int .i64 y.fa, .int .u64 (y.cl : Int), .slice y.pA y.ps.length y.pc, .slice y.kA y.pk.length y.kc] 30)).alloc (.cells #[.int .i64 y.th, .int .i64 y.sn, .int .i64 y.no, .int .i64 y.ch, .int .i64 y.re, .int .i64 y.fa, .int .u64 (y.cl : Int)] 26)) _ _ at b1
  have bc := Blk.new (w.alloc (.cells #[.int .i64 y.th, .int .i64 y.sn, .int .i64 y.no, .int .i64 y.ch, .int .i64 y.re, .int .i64 y.fa, .int .u64 (y.cl : Int), .slice y.pA y.ps.length y.pc, .slice y.kA y.pk.length y.kc] 30)) [.int .i64 y.th, .int .i64 y.sn, .int .i64 y.no, .int .i64 y.ch, .int .i64 y.re, .int .i64 y.fa, .int .u64 (y.cl : Int)] 26
  change Blk ((w.alloc (.cells #[.int .i64 y.th, .int .i64 y.sn, .int .i64 y.no, .int .i64 y.ch, .int .i64 y.re, .int .i64 y.fa, .int .u64 (y.cl : Int), .slice y.pA y.ps.length y.pc, .slice y.kA y.pk.length y.kc] 30)).alloc (.cells #[.int .i64 y.th, .int .i64 y.sn, .int .i64 y.no, .int .i64 y.ch, .int .i64 y.re, .int .i64 y.fa, .int .u64 (y.cl : Int)] 26)) _ _ at bc
  obtain ⟨gb, hgb⟩ : ∃ gb, w.heap.size = gb := ⟨_, rfl⟩
  rw [show (w.alloc (.cells #[.int .i64 y.th, .int .i64 y.sn, .int .i64 y.no, .int .i64 y.ch, .int .i64 y.re, .int .i64 y.fa, .int .u64 (y.cl : Int), .slice y.pA y.ps.length y.pc, .slice y.kA y.pk.length y.kc] 30)).heap.size = gb + 1 by simp [hgb]] at bc
  rw [hgb] at b1
  go_enter Try.func10, Try.ntmps10
  go_upto_region 2 with fail
  obtain ⟨wS, hwS⟩ : ∃ wS, (w.alloc (.cells #[.int .i64 y.th, .int .i64 y.sn, .int .i64 y.no, .int .i64 y.ch, .int .i64 y.re, .int .i64 y.fa, .int .u64 (y.cl : Int), .slice y.pA y.ps.length y.pc, .slice y.kA y.pk.length y.kc] 30)).alloc (.cells #[.int .i64 y.th, .int .i64 y.sn, .int .i64 y.no, .int .i64 y.ch, .int .i64 y.re, .int .i64 y.fa, .int .u64 (y.cl : Int)] 26) = wS := ⟨_, rfl⟩
  rw [hwS] at kS b1 bc ⊢
  clear hwS
  have W0 : Bw wS (.slice none 0 0) [] := Row.nil _ _
  have s1 : Bs wS gb (.slice none 0 0) [.int .i64 y.th, .int .i64 y.sn, .int .i64 y.no, .int .i64 y.ch, .int .i64 y.re, .int .i64 y.fa, .int .u64 (y.cl : Int), .slice y.pA y.ps.length y.pc, .slice y.kA y.pk.length y.kc] := ⟨b1, by simp [Value.ownBlock]⟩
  have sc : Bs wS (gb + 1) (.slice none 0 0) [.int .i64 y.th, .int .i64 y.sn, .int .i64 y.no, .int .i64 y.ch, .int .i64 y.re, .int .i64 y.fa, .int .u64 (y.cl : Int)] := ⟨bc, by simp [Value.ownBlock]⟩
  have hKr : ∀ wr v' L, BQ wS (.slice none 0 0) wr v' L → Keeps [] w wr := fun wr v' L Q => kS.trans Q.keeps (fun b hb => by simp [Value.ownBlock] at hb)
  have hvw : ∀ wr v' L, BQ wS (.slice none 0 0) wr v' L → ∀ b, v'.ownBlock = some b → w.heap.size ≤ b := fun wr v' L Q b hb => by
    rcases Q.own b hb with h1 | h1
    · simp [Value.ownBlock] at h1
    · have := kS.size; omega
  have HKr := Lib.hid hKr
  have Hvw := Lib.hid hvw
  obtain ⟨E, hE⟩ : ∃ E, eScr y.scr = E := ⟨_, rfl⟩
  have hE0 : ([] ++ vi (ofI y.th) ++ vi (ofI y.sn) ++ vi (ofI y.no)) ++ (vi (ofI y.ch) ++ (vi (ofI y.re) ++ (vi (ofI y.fa) ++ (vi y.cl ++ ((y.ps.map fun p => p.2.map OV.op).flatMap eProg ++ ePicks y.pk))))) = E := by
    rw [← hE]
    have h1 : ofI y.th = y.scr.th := by
      have h2 : y.th = ((y.scr.th : Nat) : Int) := by simp only [SV.scr] at hcfg ⊢; omega
      rw [h2]
      rw [ofI_nat _ (Nat.lt_of_le_of_lt hcfg.1.2 (by decide))]
    rw [h1]
    simp only [eScr, eInt, List.nil_append, List.append_assoc]
    rfl
  rw [hE] at hl
  have HEe := Lib.hid hE
  have HE0 := Lib.hid hE0
  have HL := Lib.hid hl
  have HCF := Lib.hid hcfg
  have hsz := congrArg List.length hE0
  simp only [List.length_append, List.length_nil] at hsz
  clear hE0 hE hKr hvw b1 bc
  have hw1 := ofI_wrap y.th
  have hw2 := ofI_wrap y.sn
  have hw3 := ofI_wrap y.no
  have hw4 := ofI_wrap y.ch
  have hw5 := ofI_wrap y.re
  have hw6 := ofI_wrap y.fa
  have hcl : y.cl < 2 ^ 64 := Nat.lt_of_le_of_lt hcfg.2.2.2.2.2.2.2 (by decide)
  clear hcfg
  have Q0 : BQ wS (.slice none 0 0) wS.drew (.slice none 0 0) [] := (BQ.refl W0).drew
  have hz2 : ([] : Str).length + (vi (ofI y.th)).length ≤ 1073741824 := by simp only [List.length_append, List.length_nil]; omega
  have hz3 : ([] ++ vi (ofI y.th)).length + (vi (ofI y.sn)).length ≤ 1073741824 := by simp only [List.length_append, List.length_nil]; omega
  have hz4 : ([] ++ vi (ofI y.th) ++ vi (ofI y.sn)).length + (vi (ofI y.no)).length ≤ 1073741824 := by simp only [List.length_append, List.length_nil]; omega
  have scn : Bs wS.drew (gb + 1) (.slice none 0 0) [.int .i64 y.th, .int .i64 y.sn, .int .i64 y.no, .int .i64 y.ch, .int .i64 y.re, .int .i64 y.fa, .int .u64 (y.cl : Int)] := ⟨sc.blk.drew, sc.own⟩
  have q0 := sc.blk.cell 0
  have q1 := sc.blk.cell 1
  have q2 := sc.blk.cell 2
  simp only [List.getElem?_cons_succ, List.getElem?_cons_zero] at q0 q1 q2
  have scl := sc.blk.lt
  go_region_held3 (fun w' => w'.cell? ⟨gb + 1, 0, none⟩ = some (.int .i64 y.th) ∧ w'.cell? ⟨gb + 1, 1, none⟩ = some (.int .i64 y.sn) ∧ w'.cell? ⟨gb + 1, 2, none⟩ = some (.int .i64 y.no))
    (first
      | exact ⟨S4.blk.cell 0, S4.blk.cell 1, S4.blk.cell 2⟩
      | exact ⟨S3.blk.cell 0, S3.blk.cell 1, S3.blk.cell 2⟩
      | exact ⟨S2.blk.cell 0, S2.blk.cell 1, S2.blk.cell 2⟩
      | go_keep)
    ((first
      | (go_at_call 22; refine (ruR _ _ _ B3.row (ofI y.no) (ofI_lt _) hz4).mono ?_; rintro q w4 ⟨v4, rfl, B4⟩; have S4 := S3.step B4)
      | (go_at_call 22; refine (ruR _ _ _ B2.row (ofI y.sn) (ofI_lt _) hz3).mono ?_; rintro q w3 ⟨v3, rfl, B3⟩; have S3 := S2.step B3)
      | (go_at_call 22; refine (ruR _ _ _ Q0.row (ofI y.th) (ofI_lt _) hz2).mono ?_; rintro q w2 ⟨v2, rfl, B2⟩; have S2 := scn.step B2)))
  have Q1 := Q0.trans (B2.trans (B3.trans B4))
  obtain ⟨L4, hL4⟩ : ∃ L4, [] ++ vi (ofI y.th) ++ vi (ofI y.sn) ++ vi (ofI y.no) = L4 := ⟨_, rfl⟩
  rw [hL4] at Q1
  have HE1 := HE0.out
  rw [hL4] at HE1
  have hsz1 := congrArg List.length HE1
  simp only [List.length_append] at hsz1
  clear hL4 B2 B3 B4 S2 S3 S4 Q0 hz2 hz3 hz4 hw1 hw2 hw3 hsz scn W0 HE0 q0 q1 q2
  have sc1 := sc.step Q1
  have QD := Q1.drew
  have scn : Bs w4.drew (gb + 1) v4 [.int .i64 y.th, .int .i64 y.sn, .int .i64 y.no, .int .i64 y.ch, .int .i64 y.re, .int .i64 y.fa, .int .u64 (y.cl : Int)] := ⟨sc1.blk.drew, sc1.own⟩
  have q3 := sc1.blk.cell 3
  have q4 := sc1.blk.cell 4
  have q5 := sc1.blk.cell 5
  have q6 := sc1.blk.cell 6
  simp only [List.getElem?_cons_succ, List.getElem?_cons_zero] at q3 q4 q5 q6
  have scl := sc1.blk.lt
  have hz2 : L4.length + (vi (ofI y.ch)).length ≤ 1073741824 := by omega
  have hz3 : (L4 ++ vi (ofI y.ch)).length + (vi (ofI y.re)).length ≤ 1073741824 := by simp only [List.length_append]; omega
  have hz4 : (L4 ++ vi (ofI y.ch) ++ vi (ofI y.re)).length + (vi (ofI y.fa)).length ≤ 1073741824 := by simp only [List.length_append]; omega
  have hz5 : (L4 ++ vi (ofI y.ch) ++ vi (ofI y.re) ++ vi (ofI y.fa)).length + (vi y.cl).length ≤ 1073741824 := by simp only [List.length_append]; omega
  go_upto_region 3 with fail
  go_region_held3 (fun w' => w'.cell? ⟨gb + 1, 3, none⟩ = some (.int .i64 y.ch) ∧ w'.cell? ⟨gb + 1, 4, none⟩ = some (.int .i64 y.re) ∧ w'.cell? ⟨gb + 1, 5, none⟩ = some (.int .i64 y.fa) ∧ w'.cell? ⟨gb + 1, 6, none⟩ = some (.int .u64 (y.cl : Int)))
    (first
      | exact ⟨S5.blk.cell 3, S5.blk.cell 4, S5.blk.cell 5, S5.blk.cell 6⟩
      | exact ⟨S4.blk.cell 3, S4.blk.cell 4, S4.blk.cell 5, S4.blk.cell 6⟩
      | exact ⟨S3.blk.cell 3, S3.blk.cell 4, S3.blk.cell 5, S3.blk.cell 6⟩
      | exact ⟨S2.blk.cell 3, S2.blk.cell 4, S2.blk.cell 5, S2.blk.cell 6⟩
      | go_keep)
    ((first
      | (go_at_call 22; refine (ruR _ _ _ B4.row y.cl hcl hz5).mono ?_; rintro q w8 ⟨v8, rfl, B5⟩; have S5 := S4.step B5)
      | (go_at_call 22; refine (ruR _ _ _ B3.row (ofI y.fa) (ofI_lt _) hz4).mono ?_; rintro q w7 ⟨v7, rfl, B4⟩; have S4 := S3.step B4)
      | (go_at_call 22; refine (ruR _ _ _ B2.row (ofI y.re) (ofI_lt _) hz3).mono ?_; rintro q w6 ⟨v6, rfl, B3⟩; have S3 := S2.step B3)
      | (go_at_call 22; refine (ruR _ _ _ QD.row (ofI y.ch) (ofI_lt _) hz2).mono ?_; rintro q w5 ⟨v5, rfl, B2⟩; have S2 := scn.step B2)))
  have Q2 := QD.trans (B2.trans (B3.trans (B4.trans B5)))
  obtain ⟨L5, hL5⟩ : ∃ L5, L4 ++ vi (ofI y.ch) ++ vi (ofI y.re) ++ vi (ofI y.fa) ++ vi y.cl = L5 := ⟨_, rfl⟩
  rw [hL5] at Q2
  have HR3 : Hid (L5 ++ (((y.ps.drop 0).map fun p => p.2.map OV.op).flatMap eProg ++ ePicks y.pk) = E) := Lib.hid (by rw [← HE1, ← hL5]; simp only [List.append_assoc, List.drop_zero])
  obtain ⟨n, hn⟩ : ∃ n, y.ps.length = n := ⟨_, rfl⟩
  have Hn := Lib.hid hn
  have hn30 : n ≤ 1073741824 := by rw [← hn]; exact hz.1
  have Hps := Lib.hid hy.1
  have Hpr := Lib.hid hy.2.1
  have Hpk := Lib.hid hy.2.2
  clear hL5 B2 B3 B4 B5 S2 S3 S4 S5 QD Q1 hz2 hz3 hz4 hz5 hw4 hw5 hw6 scn q3 q4 q5 q6 scl sc1 sc hl hsz1 HE1 hn hcl
  go_wp2_with fail
  go_loopw [4, 5] (fun v' i wr => ∃ (k : Nat) (L' : Str), i = .int .i64 (k : Int) ∧ k ≤ n ∧ BQ wS (.slice none 0 0) wr v' L' ∧ Hid (L' ++ (((y.ps.drop k).map fun p => p.2.map OV.op).flatMap eProg ++ ePicks y.pk) = E)) (fun _ i _ => n - (intOf i).toNat)
  case atStart => exact ⟨0, L5, rfl, by omega, Q2, HR3⟩
  case round =>
    clear Q2 HR3
    obtain ⟨k, L', rfl, hk, Q, HR⟩ := hrel
    obtain ⟨d0, d1, d2, d3, d4, d5, d6, d7, d8, df, dl⟩ := (s1.step Q).blk.o9
    rw [Hn.out] at d7
    by_cases hkn : k < n
    · have hkx : k < y.ps.length := by rw [Hn.out]; exact hkn
      obtain ⟨p, hp⟩ : ∃ p, y.ps[k]? = some p := ⟨_, List.getElem?_eq_getElem hkx⟩
      have hpm := List.mem_of_getElem? hp
      obtain ⟨A, cap, b, o, hv1, hA, har⟩ := Hps.out
      injection hv1 with hA2 hN2 hC2
      have hAA : y.pA = some ⟨b, o, none⟩ := by rw [hA2]; exact hA (by omega)
      obtain ⟨hpl, hpo⟩ := Hpr.out p hpm
      obtain ⟨Ap, Cp, bp, op, hpv, hpA, hpar⟩ := id hpl
      obtain ⟨m, hm⟩ : ∃ m, p.2.length = m := ⟨_, rfl⟩
      have Hm := Lib.hid hm
      rw [hm] at hpv
      have hcellw : ∀ wr v' L, BQ wS (.slice none 0 0) wr v' L → wr.cell? ⟨b, o + k, none⟩ = some (.slice Ap m Cp) := fun wr v' L Q => by
        rw [(har.keeps (HKr.out _ _ _ Q) (by simp)).cells k (by rw [List.length_map]; exact hkx), List.getElem?_map, hp, Option.map_some, hpv]
      have Hcw := Lib.hid hcellw
      have hcell := hcellw _ _ _ Q
      have hdr : y.ps.drop k = p :: y.ps.drop (k + 1) := by
        rw [List.drop_eq_getElem_cons hkx]
        congr 1
        rw [List.getElem?_eq_getElem hkx] at hp
        exact Option.some.inj hp
      have hr := HR.out
      rw [hdr, List.map_cons, List.flatMap_cons] at hr
      have hsz := congrArg List.length hr
      simp only [eProg, List.length_append, List.length_map] at hsz
      have hm30 : m ≤ 1073741824 := by rw [← hm]; exact (hz.2.1 p hpm).1
      have hq := ruR _ _ _ Q.row m (Nat.lt_of_le_of_lt hm30 (by decide)) (by have := HL.out; rw [hm] at hsz; omega)
      have hwm : IntKind.u64.wrap (m : Int) = (m : Int) := by rw [IntKind.wrap_u64]; omega
      obtain ⟨R, hR⟩ : ∃ R, ((y.ps.drop (k + 1)).map fun p => p.2.map OV.op).flatMap eProg ++ ePicks y.pk = R := ⟨_, rfl⟩
      have HRr := Lib.hid hR
      have HR2 : Hid ((L' ++ vi m) ++ (((p.2.drop 0).map OV.op).flatMap eOp ++ R) = E) := Lib.hid (by rw [← hr, ← hR, ← hm]; simp only [eProg, List.length_map, List.append_assoc, List.drop_zero])
      have hplv := Lib.hid (show Lst w (.slice Ap m Cp) m (oCs p.2) by rw [← hpv, ← hm]; exact hpl)
      have Hpo := Lib.hid hpo
      have Hpm := Lib.hid hpm
      have HAA := Lib.hid hAA
      rw [hAA] at d7
      clear hr hdr hsz hp hA2 hN2 hC2 har hA hpl hpo hpar hpA hpv hm hR HR hpm hcellw hAA
      go_wp2_with fail
      refine hq.mono ?_
      rintro q w5 ⟨v5, rfl, B5⟩
      have Q5 := Q.trans B5
      clear hq B5 Q hcell d0 d1 d2 d3 d4 d5 d6 d7 d8 df dl hwm
      go_wp2_with fail
      go_loopw [4, 6] (fun v' i wr => ∃ (j : Nat) (L' : Str), i = .int .i64 (j : Int) ∧ j ≤ m ∧ BQ wS (.slice none 0 0) wr v' L' ∧ Hid (L' ++ (((p.2.drop j).map OV.op).flatMap eOp ++ R) = E)) (fun _ i _ => m - (intOf i).toNat)
      case atStart => exact ⟨0, _, rfl, by omega, Q5, HR2⟩
      case round =>
        clear Q5 HR2
        obtain ⟨j, L', rfl, hj, Q, HR⟩ := hrel
        obtain ⟨d0, d1, d2, d3, d4, d5, d6, d7, d8, df, dl⟩ := (s1.step Q).blk.o9
        rw [Hn.out, HAA.out] at d7
        have hcell := Hcw.out _ _ _ Q
        by_cases hjm : j < m
        · have hjx : j < p.2.length := by rw [Hm.out]; exact hjm
          obtain ⟨x, hx⟩ : ∃ x, p.2[j]? = some x := ⟨_, List.getElem?_eq_getElem hjx⟩
          have hxm := List.mem_of_getElem? hx
          have K0 := HKr.out _ _ _ Q
          obtain ⟨gx, ox, hApx, hc, hgx⟩ := (hplv.out.keeps K0).atS Hm.out hx
          have hdr : p.2.drop j = x :: p.2.drop (j + 1) := by
            rw [List.drop_eq_getElem_cons hjx]
            congr 1
            rw [List.getElem?_eq_getElem hjx] at hx
            exact Option.some.inj hx
          have hr := HR.out
          rw [hdr, List.map_cons, List.flatMap_cons] at hr
          have hsz := congrArg List.length hr
          simp only [List.length_append] at hsz
          have hop := vOp_code (vld_op hv (List.mem_map.2 ⟨p, Hpm.out, rfl⟩) (List.mem_map.2 ⟨x, hxm, rfl⟩))
          have hcx : 1 ≤ x.c ∧ x.c ≤ 9 := by simp only [OV.op] at hop; omega
          have hq := ropR w _ K0 _ _ Q.row (Hvw.out _ _ _ Q) x (Hpo.out x hxm) hcx (ht p Hpm.out x hxm) (by have := HL.out; omega)
          have hl0 := hc.load
          have HR2 : Hid ((L' ++ eOp x.op) ++ (((p.2.drop (j + 1)).map OV.op).flatMap eOp ++ R) = E) := Lib.hid (by rw [← hr]; simp only [List.append_assoc])
          rw [hApx] at hcell
          clear hr hdr hsz hx HR hop hcx hc K0 hApx
          go_wp2_with (refine list_load_eq rfl 45 _ rfl _ rfl _ hl0 ?_)
          refine hq.mono ?_
          rintro q w6 ⟨v6, rfl, B6⟩
          have Q7 := Q.trans B6
          clear hq B6 Q hl0 hcell d0 d1 d2 d3 d4 d5 d6 d7 d8 df dl
          go_wp2_with fail
          exact ⟨⟨j + 1, _, by go_num, by omega, Q7, HR2⟩, by simp [intOf] <;> omega⟩
        · obtain rfl : j = m := by omega
          have hr := HR.out
          rw [← Hm.out, List.drop_length, List.map_nil, List.flatMap_nil, List.nil_append] at hr
          have HR2 := Lib.hid hr
          clear hr HR
          go_wp2_with fail
          exact ⟨⟨k + 1, L', by go_num, by omega, Q, by rw [HRr.out]; exact HR2⟩, by simp [intOf] <;> omega⟩
    · obtain rfl : k = n := by omega
      have hr := HR.out
      rw [← Hn.out, List.drop_length, List.map_nil, List.flatMap_nil, List.nil_append] at hr
      unfold ePicks at hr
      have hsz := congrArg List.length hr
      simp only [List.length_append] at hsz
      obtain ⟨m, hm⟩ : ∃ m, y.pk.length = m := ⟨_, rfl⟩
      have Hm := Lib.hid hm
      have hm30 : m ≤ 1073741824 := by rw [← hm]; exact hz.2.2
      have hwm : IntKind.u64.wrap (m : Int) = (m : Int) := by rw [IntKind.wrap_u64]; omega
      have hq := ruR _ _ _ Q.row m (Nat.lt_of_le_of_lt hm30 (by decide)) (by have := HL.out; rw [hm] at hsz; omega)
      have HR2 : Hid ((L' ++ vi m) ++ ((y.pk.drop 0).flatMap eInt) = E) := Lib.hid (by rw [← hr, ← hm]; simp only [List.append_assoc, List.drop_zero])
      rw [hm] at d8
      clear hr hsz HR hm
      go_wp2_with fail
      refine hq.mono ?_
      rintro q w5 ⟨v5, rfl, B5⟩
      have Q5 := Q.trans B5
      clear hq B5 Q d0 d1 d2 d3 d4 d5 d6 d7 d8 df dl hwm
      go_wp2_with fail
      go_loopw [4, 7] (fun v' i wr => ∃ (j : Nat) (L' : Str), i = .int .i64 (j : Int) ∧ j ≤ m ∧ BQ wS (.slice none 0 0) wr v' L' ∧ Hid (L' ++ (y.pk.drop j).flatMap eInt = E)) (fun _ i _ => m - (intOf i).toNat)
      case atStart => exact ⟨0, _, rfl, by omega, Q5, HR2⟩
      case round =>
        clear Q5 HR2
        obtain ⟨j, L', rfl, hj, Q, HR⟩ := hrel
        obtain ⟨d0, d1, d2, d3, d4, d5, d6, d7, d8, df, dl⟩ := (s1.step Q).blk.o9
        rw [Hm.out] at d8
        by_cases hjm : j < m
        · have hjx : j < y.pk.length := by rw [Hm.out]; exact hjm
          obtain ⟨x, hx⟩ : ∃ x, y.pk[j]? = some x := ⟨_, List.getElem?_eq_getElem hjx⟩
          obtain ⟨A, cap, b, o, hv1, hA, har⟩ := Hpk.out
          injection hv1 with hA2 hN2 hC2
          have hAA : y.kA = some ⟨b, o, none⟩ := by rw [hA2]; exact hA (by omega)
          have hcell : wr.cell? ⟨b, o + j, none⟩ = some (.int .i64 x) := by
            rw [(har.keeps (HKr.out _ _ _ Q) (by simp)).cells j (by rw [List.length_map]; exact hjx), List.getElem?_map, hx]
            rfl
          have hdr : y.pk.drop j = x :: y.pk.drop (j + 1) := by
            rw [List.drop_eq_getElem_cons hjx]
            congr 1
            rw [List.getElem?_eq_getElem hjx] at hx
            exact Option.some.inj hx
          have hr := HR.out
          rw [hdr, List.flatMap_cons] at hr
          have hsz := congrArg List.length hr
          simp only [List.length_append] at hsz
          have hq := ruR _ _ _ Q.row (ofI x) (ofI_lt x) (by have := HL.out; unfold eInt at hsz; omega)
          have hwx := ofI_wrap x
          have HR2 : Hid ((L' ++ vi (ofI x)) ++ (y.pk.drop (j + 1)).flatMap eInt = E) := Lib.hid (by rw [← hr]; simp only [eInt, List.append_assoc])
          rw [hAA] at d8
          clear hr hdr hsz hx HR har hA hA2 hN2 hC2 hAA
          go_wp2_with fail
          refine hq.mono ?_
          rintro q w6 ⟨v6, rfl, B6⟩
          have Q7 := Q.trans B6
          clear hq B6 Q hcell d0 d1 d2 d3 d4 d5 d6 d7 d8 df dl hwx
          go_wp2_with fail
          exact ⟨⟨j + 1, _, by go_num, by omega, Q7, HR2⟩, by simp [intOf] <;> omega⟩
        · obtain rfl : j = m := by omega
          have hr := HR.out
          rw [← Hm.out, List.drop_length, List.flatMap_nil, List.append_nil] at hr
          have HQ := Lib.hid Q
          have HRR := Lib.hid hr
          clear hr HR Q
          go_wp2_with fail
          go_ret
          refine ⟨HKr.out _ _ _ HQ.out, _, rfl, ?_, Hvw.out _ _ _ HQ.out⟩
          rw [HEe.out, ← HRR.out]
          exact HQ.out.row
end Go.Proofs.Ytkgmgnfcmnhhaaa
