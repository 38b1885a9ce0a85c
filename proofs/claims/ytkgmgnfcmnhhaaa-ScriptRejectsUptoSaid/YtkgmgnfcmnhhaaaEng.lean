/- The contracts of engine.New, accepts and Valid. -/
import Derived.Test.YtkgmgnfcmnhhaaaCln
import Derived.Test.YtkgmgnfcmnhhaaaCfg
import Derived.Test.YtkgmgnfcmnhhaaaScrT
namespace Go.Proofs.Ytkgmgnfcmnhhaaa
open Go.RowKit
set_option linter.unusedSectionVars false
set_option linter.unusedVariables false
set_option linter.unusedSimpArgs false
set_option maxRecDepth 20000
set_option maxHeartbeats 4000000
theorem infoCl : (Try.prog.info? 94).map (fun i => (i.zero, i.size, i.bytes)) = some (some (.pointer none), 1, 8) := by kernel_rfl
theorem make_ints (k : Nat) (h : k ≤ 64) (w : World) : (Instr.makeSlice 28 (.int .i64 (k : Int)) (.int .i64 (k : Int))).run Try.prog w = .ok (.slice (some ⟨w.heap.size, 0, none⟩) k k) (w.alloc (.cells (madeCells (Value.int .i64 0).cells (k * 1)) 3)) := by
  obtain ⟨i, hi, hz0, hz1, hz2⟩ := info_parts info3
  have := run_make (P := Try.prog) w 28 3 i _ Try.underlying28 hi hz0 .i64 .i64 k k (by omega) (by omega) (by rw [hz2]; omega) (by omega)
  rw [hz1] at this
  rw [this]
  simp only [Int.toNat_natCast]
def ENewQ (w : World) (ok : Bool) (q : Ending) (w' : World) : Prop := Keeps [] w w' ∧ ∃ ev, q = .returned (.tuple #[ev, .int .i64 (if ok = true then 0 else 1)])
def cfgB (T S N C R F K : Int) : Bool := decide ((1 ≤ T ∧ T ≤ 64) ∧ (1 ≤ S ∧ S ≤ 8) ∧ (1 ≤ N ∧ N ≤ 4096) ∧ (1 ≤ C ∧ C ≤ 16384) ∧ (1 ≤ R ∧ R ≤ 65536) ∧ (4 ≤ F ∧ F ≤ 32) ∧ (1 ≤ K ∧ K ≤ 1099511627776))
theorem cfgB_yes {T S N C R F K : Int} (h : CfgOK T S N C R F K) : cfgB T S N C R F K = true := decide_eq_true ⟨⟨h.T0, h.T1⟩, ⟨h.S0, h.S1⟩, ⟨h.N0, h.N1⟩, ⟨h.C0, h.C1⟩, ⟨h.R0, h.R1⟩, ⟨h.F0, h.F1⟩, h.K0, h.K1⟩
theorem cfgB_no {T S N C R F K : Int} (h : ¬ CfgOK T S N C R F K) : cfgB T S N C R F K = false := decide_eq_false fun ⟨⟨a, b⟩, ⟨c, d⟩, ⟨e, f⟩, ⟨g, i⟩, ⟨j, k⟩, ⟨l, m⟩, n, o⟩ => h ⟨a, b, c, d, e, f, g, i, j, k, l, m, n, o⟩
def engOk (T S N C R F K : Int) (ps : List (Value × List OV)) : Bool := cfgB T S N C R F K && (decide ((ps.length : Int) = T) && ps.all fun p => vProg S (p.2.map OV.op))
theorem enew_any (T S N C R F K : Int) (ps : List (Value × List OV)) (hn : ps.length ≤ 1073741824) (hsz : ∀ p ∈ ps, p.2.length ≤ 1073741824 ∧ ∀ z ∈ p.2, z.b.length ≤ 1073741824) (A : Option Addr) (cap : Nat) (w : World)
    (hv : Lst w (.slice A ps.length cap) ps.length (ps.map (·.1))) (hps : ∀ p ∈ ps, Lst w p.1 p.2.length (oCs p.2) ∧ ∀ y ∈ p.2, OkB w y) :
    Calls Try.prog 31 #[.agg #[.int .i64 T, .int .i64 S, .int .i64 N, .int .i64 C, .int .i64 R, .int .i64 F, .int .u64 K], .slice A ps.length cap] w (ENewQ w (engOk T S N C R F K ps)) := by
  have kc := (Keeps.refl [] w).alloc (.cells #[.int .i64 T, .int .i64 S, .int .i64 N, .int .i64 C, .int .i64 R, .int .i64 F, .int .u64 K] 26)
  have bc := Blk.new w [.int .i64 T, .int .i64 S, .int .i64 N, .int .i64 C, .int .i64 R, .int .i64 F, .int .u64 K] 26
  change Blk (w.alloc (.cells #[.int .i64 T, .int .i64 S, .int .i64 N, .int .i64 C, .int .i64 R, .int .i64 F, .int .u64 K] 26)) _ _ at bc
  obtain ⟨n, hnn⟩ : ∃ n, ps.length = n := ⟨_, rfl⟩
  have Hn := Lib.hid hnn
  by_cases h : CfgOK T S N C R F K
  · have hst := start_yes T S N C R F K h (8 + T * S + N * (F + 4) + C + 3 * R).toNat (by
      have p1 := (prod_bounds (by have := h.T0; omega) h.T1 (by have := h.S0; omega) h.S1).1
      have p2 := (prod_bounds (a := N) (b := F + 4) (by have := h.N0; omega) h.N1 (by have := h.F0; omega) (show F + 4 ≤ 36 by have := h.F1; omega)).1
      have := h.C0
      have := h.R0
      omega) (w.alloc (.cells #[.int .i64 T, .int .i64 S, .int .i64 N, .int .i64 C, .int .i64 R, .int .i64 F, .int .u64 K] 26))
    rw [hnn] at hn hv ⊢
    clear hnn
    go_enter Try.func31, Try.ntmps31
    go_wp2_with fail
    refine hst.mono ?_
    rintro q w1 ⟨m, c, rfl, _, _, _, k1⟩
    have bc1 := k1.blk bc (by simp)
    have K1 := kc.trans k1 (by simp)
    have bc2 := bc1.alloc (.cells #[.int .i64 T, .int .i64 S, .int .i64 N, .int .i64 C, .int .i64 R, .int .i64 F, .int .u64 K] 86)
    have K2 := K1.alloc (.cells #[.int .i64 T, .int .i64 S, .int .i64 N, .int .i64 C, .int .i64 R, .int .i64 F, .int .u64 K] 86)
    have bl2 := Blk.new w1 [.int .i64 T, .int .i64 S, .int .i64 N, .int .i64 C, .int .i64 R, .int .i64 F, .int .u64 K] 86
    change Blk (w1.alloc (.cells #[.int .i64 T, .int .i64 S, .int .i64 N, .int .i64 C, .int .i64 R, .int .i64 F, .int .u64 K] 86)) _ _ at bl2
    clear hst bc kc
    have hT0 := h.T0
    have hT1 := h.T1
    by_cases hnT : (n : Int) = T
    · obtain rfl := hnT
      have hmk := make_ints n (by omega)
      have hfin : ∀ b : Bool, (ps.all fun p => vProg S (p.2.map OV.op)) = b → engOk (n : Int) S N C R F K ps = b := fun b hb => by
        unfold engOk
        rw [cfgB_yes h, hb, Hn.out]
        simp
      have Hfin := Lib.hid hfin
      clear hfin
      obtain ⟨gl, hgl⟩ : ∃ gl, w1.heap.size = gl := ⟨_, rfl⟩
      obtain ⟨gf, hgf⟩ : ∃ gf, w.heap.size = gf := ⟨_, rfl⟩
      rw [hgl] at bl2
      rw [hgf] at bc2 bc1
      have hlf : gf < gl := by have := bc1.lt; omega
      obtain ⟨d0, d1, d2, d3, d4, d5, d6, df, dl⟩ := bc1.o7
      go_upto_region 6 with fail
      obtain ⟨w2, hw2⟩ : ∃ w2, w1.alloc (.cells #[.int .i64 (n : Int), .int .i64 S, .int .i64 N, .int .i64 C, .int .i64 R, .int .i64 F, .int .u64 K] 86) = w2 := ⟨_, rfl⟩
      rw [hw2] at bc2 bl2 K2 ⊢
      clear hw2 d0 d1 d2 d3 d4 d5 d6 df dl bc1 k1 K1
      obtain ⟨d0, d1, d2, d3, d4, d5, d6, df, dl⟩ := bc2.o7
      obtain ⟨l0, l1, l2, l3, l4, l5, l6, lf, ll⟩ := bl2.o7
      clear hgf hgl
      go_cut [9] from 15 to 34 (fun s9 wx => ∃ (ge : Nat) (es : List Value), s9 = .pointer (some ⟨ge, 0, none⟩) ∧ w.heap.size ≤ ge ∧ Blk wx ge es ∧ es[8]? = some (.slice none 0 0) ∧ es[9]? = some (.slice none 0 0) ∧ 9 < es.length ∧ Blk wx gl [.int .i64 (n : Int), .int .i64 S, .int .i64 N, .int .i64 C, .int .i64 R, .int .i64 F, .int .u64 K] ∧ ge ≠ gl ∧ Keeps [] w wx)
      case first =>
        have hmd : ∀ w0 : World, (Instr.makeSlice 28 (.int .i64 (n : Int)) (.int .i64 (n : Int))).run Try.prog w0 = .ok (.slice (some ⟨w0.heap.size, 0, none⟩) n n) (w0.alloc (.cells (madeCells (Value.int .i64 0).cells (n * 1)) 3)) := hmk
        have hal : ∀ (o : Obj), (w2.alloc o).cell? ⟨gf, 0, none⟩ = some (.int .i64 (n : Int)) := fun o => Lib.cell?_alloc_some o d0
        have ha0 : ∀ (o : Obj), (w2.alloc o).cell? ⟨gl, 0, none⟩ = some (.int .i64 (n : Int)) := fun o => Lib.cell?_alloc_some o l0
        have ha1 : ∀ (o : Obj), (w2.alloc o).cell? ⟨gl, 1, none⟩ = some (.int .i64 S) := fun o => Lib.cell?_alloc_some o l1
        have ha2 : ∀ (o : Obj), (w2.alloc o).cell? ⟨gl, 2, none⟩ = some (.int .i64 N) := fun o => Lib.cell?_alloc_some o l2
        have ha3 : ∀ (o : Obj), (w2.alloc o).cell? ⟨gl, 3, none⟩ = some (.int .i64 C) := fun o => Lib.cell?_alloc_some o l3
        have ha4 : ∀ (o : Obj), (w2.alloc o).cell? ⟨gl, 4, none⟩ = some (.int .i64 R) := fun o => Lib.cell?_alloc_some o l4
        have ha5 : ∀ (o : Obj), (w2.alloc o).cell? ⟨gl, 5, none⟩ = some (.int .i64 F) := fun o => Lib.cell?_alloc_some o l5
        have ha6 : ∀ (o : Obj), (w2.alloc o).cell? ⟨gl, 6, none⟩ = some (.int .u64 K) := fun o => Lib.cell?_alloc_some o l6
        go_region
        all_goals
          go_wp2_with fail
          go_meet
          have hs2 := K2.size
          refine ⟨w2.heap.size + 1, _, rfl, by omega, (Blk.new_at _ (w2.heap.size + 1) _ _ (by simp)).drew, rfl, rfl, by simp, ((bl2.alloc _).alloc _).drew, by omega, ((K2.alloc _).alloc _).drew⟩
      case rest =>
      obtain ⟨ge, es, rfl, hgew, be, he8, he9, hel, bl, hne, K3⟩ := hcut
      clear d0 d1 d2 d3 d4 d5 d6 df dl l0 l1 l2 l3 l4 l5 l6 lf ll bl2 bc2 K2 hmk
      have hps' := Lib.hid hps
      have hcfg := Lib.hid h
      have hbe0 : Blk wc ge ((es.set 8 (.slice none 0 0)).set 9 (.slice none 0 0)) := by
        rw [set_self he8, set_self he9]
        exact be
      clear h be
      go_wp2_with fail
      go_loopw [37] (fun i wr => ∃ (k : Nat) (us vs : List Value) (A5 : Option Addr) (C5 : Nat) (A6 : Option Addr) (C6 : Nat), i = .int .i64 (k : Int) ∧ k ≤ n ∧ Row wr (.slice A5 k C5) k 1 us ∧ Row wr (.slice A6 k C6) k 1 vs ∧
        (∀ b, (Value.slice A5 k C5).ownBlock = some b → w.heap.size ≤ b ∧ b ≠ ge ∧ b ≠ gl ∧ (Value.slice A6 k C6).ownBlock ≠ some b) ∧ (∀ b, (Value.slice A6 k C6).ownBlock = some b → w.heap.size ≤ b ∧ b ≠ ge ∧ b ≠ gl) ∧
        Blk wr ge ((es.set 8 (.slice A5 k C5)).set 9 (.slice A6 k C6)) ∧ Blk wr gl [.int .i64 (n : Int), .int .i64 S, .int .i64 N, .int .i64 C, .int .i64 R, .int .i64 F, .int .u64 K] ∧ Keeps [] w wr ∧ Hid (∀ p ∈ ps.take k, vProg S (p.2.map OV.op) = true)) (fun i _ => n - (intOf i).toNat)
      case atStart => exact ⟨0, [], [], none, 0, none, 0, rfl, by omega, Row.nil _ _, Row.nil _ _, fun b hb => by simp [Value.ownBlock] at hb, fun b hb => by simp [Value.ownBlock] at hb, hbe0, bl, K3, Lib.hid (by simp)⟩
      case round =>
        clear hbe0 bl K3
        obtain ⟨k, us, vs, A5, C5, A6, C6, rfl, hk, r5, r6, own5, own6, be, bl, KK, hval⟩ := hrel
        by_cases hkn : k < n
        · have hkx : k < ps.length := by rw [Hn.out]; exact hkn
          obtain ⟨p, hp⟩ : ∃ p, ps[k]? = some p := ⟨_, List.getElem?_eq_getElem hkx⟩
          have hpm := List.mem_of_getElem? hp
          obtain ⟨A0, cap0, b, o, hveq, hA, har⟩ := id hv
          injection hveq with hA2 hN2 hC2
          have hAA : A = some ⟨b, o, none⟩ := by rw [hA2]; exact hA (by omega)
          have hcell : wr.cell? ⟨b, o + k, none⟩ = some p.1 := by
            rw [(har.keeps KK (by simp)).cells k (by rw [List.length_map]; exact hkx), List.getElem?_map, hp]
            rfl
          obtain ⟨hpl, hpo⟩ := hps'.out p hpm
          obtain ⟨Ap, Cp, bp, op, hpv, hpA, hpar⟩ := id hpl
          have htake : ps.take (k + 1) = ps.take k ++ [p] := by rw [List.take_add_one, hp]; rfl
          have Ht := Lib.hid htake
          rw [hpv] at hcell hpl
          have hcq := fun w' (kk : Keeps [] w w') => cnew_any (n : Int) S N C R F K hcfg.out (k : Int) ⟨by omega, by omega⟩ p.2 (hsz p hpm).1 (hsz p hpm).2 Ap Cp w' (hpl.keeps kk) (fun x hx => (hpo x hx).keeps kk)
          have hpq := fun w' (kk : Keeps [] w w') => cpo_any p.2 (hsz p hpm).1 (hsz p hpm).2 Ap Cp w' (hpl.keeps kk) (fun x hx => (hpo x hx).keeps kk)
          obtain ⟨mm, hmm⟩ : ∃ mm, p.2.length = mm := ⟨_, rfl⟩
          rw [hmm] at hcell hcq hpq
          obtain ⟨l0, l1, l2, l3, l4, l5, l6, lf, ll⟩ := bl.o7
          rw [hAA]
          clear htake hp hpv hpA hpar har hA hA2 hN2 hC2 hpl hpo hmm
          have hq := hcq _ KK
          go_wp2_with fail
          refine hq.mono ?_
          rintro q w5 ⟨k5, hq5⟩
          cases hvp : vProg S (p.2.map OV.op) with
          | false =>
            rw [hvp] at hq5
            simp only [Bool.false_eq_true, if_false] at hq5
            subst hq5
            have hfalse : engOk (n : Int) S N C R F K ps = false := by
              apply Hfin.out
              cases hh : ps.all (fun p => vProg S (p.2.map OV.op)) with
              | false => rfl
              | true =>
                have := List.all_eq_true.1 hh p hpm
                rw [hvp] at this
                exact absurd this (by simp)
            clear hq hcq hpq hAA
            go_wp2_with fail
            go_ret2
            refine ⟨KK.trans k5 (by simp), .pointer none, ?_⟩
            rw [hfalse]
            rfl
          | true =>
            rw [hvp] at hq5
            simp only [if_true] at hq5
            obtain ⟨gc, rfl⟩ := hq5
            have hval2 : Hid (∀ y ∈ ps.take (k + 1), vProg S (y.2.map OV.op) = true) := Lib.hid (by
              rw [Ht.out]
              intro y hy
              rcases List.mem_append.1 hy with hy | hy
              · exact hval.out y hy
              · simp at hy; subst hy; exact hvp)
            have be5 := k5.blk be (by simp)
            have bl5 := k5.blk bl (by simp)
            have r55 := r5.keeps k5 (by simp)
            have r65 := r6.keeps k5 (by simp)
            have K5 := KK.trans k5 (by simp)
            have hgl5 := bl5.lt
            have hge5 := be5.lt
            obtain ⟨i0, hi0, hz0, hz1, hz2⟩ := info_parts infoCl
            have kw := (Keeps.refl [] w5).alloc (.cells #[.pointer (some ⟨gc, 0, none⟩)] 94)
            have hbk := Blk.new w5 [.pointer (some ⟨gc, 0, none⟩)] 94
            change Blk (w5.alloc (.cells #[.pointer (some ⟨gc, 0, none⟩)] 94)) _ _ at hbk
            have hsrc : ∀ (j : Nat) (u : Value), [Value.pointer (some ⟨gc, 0, none⟩)][j]? = some u → (w5.alloc (.cells #[.pointer (some ⟨gc, 0, none⟩)] 94)).cell? ((⟨w5.heap.size, 0, none⟩ : Addr).add j) = some u := fun j u hj => by
              rw [Addr.add_lit, hbk.cell, Nat.zero_add]; exact hj
            obtain ⟨v7, w7, hr0, r7, k7, f7⟩ := row_append (r55.keeps kw (by simp)) 90 90 94 i0 _ 8 Try.underlying90 hi0 hz0 hz1 hz2 rfl (by decide) ⟨w5.heap.size, 0, none⟩ 1 1 [.pointer (some ⟨gc, 0, none⟩)] rfl hsrc (fun u hu => by simp at hu; subst hu; rfl) (by omega) (by decide)
            have hr : ∀ ty, (Builtin.append_ #[90, 90] ty #[.slice A5 k C5, .slice (some ⟨w5.heap.size, 0, none⟩) 1 1]).run Try.prog (w5.alloc (.cells #[.pointer (some ⟨gc, 0, none⟩)] 94)) = .ok v7 w7 := fun ty => by rw [← hr0]; rfl
            obtain ⟨A7, C7, rfl⟩ := r7.len
            have hszw : (w5.alloc (.cells #[.pointer (some ⟨gc, 0, none⟩)] 94)).heap.size = w5.heap.size + 1 := by simp
            have k57 : Keeps (Value.slice A5 k C5).ownBlock.toList w5 w7 := (kw.mono (by simp)).trans k7 (fun i hi => .inl hi)
            have be7 := k57.blk be5 (fun hm => (own5 ge (by simpa using hm)).2.1 rfl)
            have bl7 := k57.blk bl5 (fun hm => (own5 gl (by simpa using hm)).2.2.1 rfl)
            have r67 := r65.keeps k57 (fun b hb hm => (own5 b (by simpa using hm)).2.2.2 hb)
            have kS := (Keeps.refl [ge] w7).setCell ⟨ge, 8, none⟩ (.slice A7 (k + 1) C7) (.inl (by simp))
            have own7 : ∀ b, (Value.slice A7 (k + 1) C7).ownBlock = some b → w.heap.size ≤ b ∧ b ≠ ge ∧ b ≠ gl ∧ (Value.slice A6 k C6).ownBlock ≠ some b := fun b hb => by
              rcases f7 b hb with h1 | h1
              · exact own5 b h1
              · have h6 := r65.blk
                have hws := K5.size
                exact ⟨by omega, by omega, by omega, fun he => by have := h6 b he; omega⟩
            have be8 : Blk (w7.setCell ⟨ge, 8, none⟩ (.slice A7 (k + 1) C7)) ge ((es.set 8 (.slice A7 (k + 1) C7)).set 9 (.slice A6 k C6)) := by
              have := be7.set 8 (.slice A7 (k + 1) C7)
              rwa [List.set_comm _ _ (by decide), List.set_set] at this
            have bl8 := kS.blk bl7 (by simp; exact fun h => hne h.symm)
            have r78 := r7.keeps kS (fun b hb hm => by simp at hm; exact (own7 b hb).2.1 hm)
            have r68 := r67.keeps kS (fun b hb hm => by simp at hm; exact (own6 b hb).2.1 hm)
            have K8 : Keeps [] w (w7.setCell ⟨ge, 8, none⟩ (.slice A7 (k + 1) C7)) := (K5.trans k57 (fun b hb => .inr (own5 b (by simpa using hb)).1)).trans kS (by simp; omega)
            have c8 := be5.cell 8
            have c87 := be7.cell 8
            rw [List.getElem?_set_ne (by decide), List.getElem?_set_self (by omega)] at c8 c87
            have e5f := be5.frozen
            have e7f := be7.frozen
            have e7l := be7.lt
            obtain ⟨gw, hgw⟩ : ∃ gw, w5.heap.size = gw := ⟨_, rfl⟩
            rw [hgw] at hr
            clear hq hcq k5 r55 r65 kw hbk hsrc hr0 r7 k7 k57 be7 bl7 r67 be5 bl5 K5 r5 r6 KK be bl hcell l0 l1 l2 l3 l4 l5 l6 lf ll hvp hval Ht
            go_upto_region 14 with (at_builtin; refine list_append_eq rfl _ _ 90 90 rfl _ _ rfl rfl (hr _) ?_)
            obtain ⟨w8, hw8⟩ : ∃ w8, w7.setCell ⟨ge, 8, none⟩ (.slice A7 (k + 1) C7) = w8 := ⟨_, rfl⟩
            rw [hw8] at be8 bl8 r78 r68 K8 ⊢
            clear hw8 hr c8 c87 e5f e7f e7l kS
            have hpw := hpq _ K8.drew
            obtain ⟨i1, hi1, hy0, hy1, hy2⟩ := info_parts info27
            have be8d := be8.drew
            have bl8d := bl8.drew
            have r78d := r78.keeps ((Keeps.refl [] w8).drew) (by simp)
            have r68d := r68.keeps ((Keeps.refl [] w8).drew) (by simp)
            have K8d := K8.drew
            have c9 := be8.cell 9
            rw [List.getElem?_set_self (by rw [List.length_set]; exact hel)] at c9
            have cf8 := be8.frozen
            have cl8 := be8.lt
            have gl8 := bl8.lt
            have mixed : Try.prog.follows .mixedOrders = true := by kernel_rfl
            clear hAA f7 hpq
            go_region_law_o (first
              | (refine step_append_eq rfl _ _ 27 27 rfl (.slice A6 k C6) (.slice (some ⟨gw9, 0, none⟩) 1 1) (by simp [Act.eval, Act.put]) (by simp [Act.eval, Act.put]) (hr _) ?_)
              | (go_simp; go_at_call 40; refine hpw.mono ?_; rintro q w9 ⟨v9, l9, rfl, hl9, r9, k9⟩
                 obtain ⟨A9, C9, rfl⟩ := r9.len
                 have be9 := k9.blk be8d (by simp)
                 have bl9 := k9.blk bl8d (by simp)
                 have r79 := r78d.keeps k9 (by simp)
                 have r69 := r68d.keeps k9 (by simp)
                 have K9 := K8d.trans k9 (by simp)
                 have cc9 := be9.cell 9
                 rw [List.getElem?_set_self (by rw [List.length_set]; exact hel)] at cc9
                 have kw9 := (Keeps.refl [] w9).alloc (.cells #[.slice A9 mm C9] 22)
                 have hbk9 := Blk.new w9 [.slice A9 mm C9] 22
                 change Blk (w9.alloc (.cells #[.slice A9 mm C9] 22)) _ _ at hbk9
                 have hsrc9 : ∀ (j : Nat) (u : Value), [Value.slice A9 mm C9][j]? = some u → (w9.alloc (.cells #[.slice A9 mm C9] 22)).cell? ((⟨w9.heap.size, 0, none⟩ : Addr).add j) = some u := fun j u hj => by
                   rw [Addr.add_lit, hbk9.cell, Nat.zero_add]; exact hj
                 obtain ⟨v10, w10, hr0, r10, k10, f10⟩ := row_append (r69.keeps kw9 (by simp)) 27 27 22 i1 _ 24 Try.underlying27 hi1 hy0 hy1 hy2 rfl (by decide) ⟨w9.heap.size, 0, none⟩ 1 1 [.slice A9 mm C9] rfl hsrc9 (fun u hu => by simp at hu; subst hu; rfl) (by omega) (by decide)
                 have hr : ∀ ty, (Builtin.append_ #[27, 27] ty #[.slice A6 k C6, .slice (some ⟨w9.heap.size, 0, none⟩) 1 1]).run Try.prog (w9.alloc (.cells #[.slice A9 mm C9] 22)) = .ok v10 w10 := fun ty => by rw [← hr0]; rfl
                 obtain ⟨A10, C10, rfl⟩ := r10.len
                 have hszw9 : (w9.alloc (.cells #[.slice A9 mm C9] 22)).heap.size = w9.heap.size + 1 := by simp
                 have k910 : Keeps (Value.slice A6 k C6).ownBlock.toList w9 w10 := (kw9.mono (by simp)).trans k10 (fun i hi => .inl hi)
                 have be10 := k910.blk be9 (fun hm => (own6 ge (by simpa using hm)).2.1 rfl)
                 have bl10 := k910.blk bl9 (fun hm => (own6 gl (by simpa using hm)).2.2 rfl)
                 have r710 := r79.keeps k910 (fun b hb hm => (own7 b hb).2.2.2 (by simpa using hm))
                 have e10f := be10.frozen
                 have e10l := be10.lt
                 have c910 := be10.cell 9
                 rw [List.getElem?_set_self (by rw [List.length_set]; exact hel)] at c910
                 have cc9a := Lib.cell?_alloc_some (.cells #[.slice A9 mm C9] 22) cc9
                 have hge9 := be9.lt
                 have hgl9 := bl9.lt
                 have h7b := r79.blk
                 have K10 : Keeps [] w w10 := K9.trans k910 (fun b hb => .inr (own6 b (by simpa using hb)).1)
                 obtain ⟨gw9, hgw9⟩ : ∃ gw9, w9.heap.size = gw9 := ⟨_, rfl⟩
                 rw [hgw9] at hr))
            all_goals
              have kSS := (Keeps.refl [ge] w10).setCell ⟨ge, 9, none⟩ (.slice A10 (k + 1) C10) (.inl (by simp))
              have own10 : ∀ b, (Value.slice A10 (k + 1) C10).ownBlock = some b → w.heap.size ≤ b ∧ b ≠ ge ∧ b ≠ gl ∧ (Value.slice A7 (k + 1) C7).ownBlock ≠ some b := fun b hb => by
                rcases f10 b hb with h1 | h1
                · obtain ⟨q1, q2, q3⟩ := own6 b h1
                  exact ⟨q1, q2, q3, fun he => (own7 b he).2.2.2 h1⟩
                · have hws := K9.size
                  exact ⟨by omega, by omega, by omega, fun he => by have := h7b b he; omega⟩
              have beN : Blk (w10.setCell ⟨ge, 9, none⟩ (.slice A10 (k + 1) C10)) ge ((es.set 8 (.slice A7 (k + 1) C7)).set 9 (.slice A10 (k + 1) C10)) := by
                have := be10.set 9 (.slice A10 (k + 1) C10)
                rwa [List.set_set] at this
              have blN := kSS.blk bl10 (by simp; exact fun h => hne h.symm)
              have r7N := r710.keeps kSS (fun b hb hm => by simp at hm; exact (own7 b hb).2.1 hm)
              have r10N := r10.keeps kSS (fun b hb hm => by simp at hm; exact (own10 b hb).2.1 hm)
              have KN := K10.trans kSS (by simp; omega)
              have own7N : ∀ b, (Value.slice A7 (k + 1) C7).ownBlock = some b → w.heap.size ≤ b ∧ b ≠ ge ∧ b ≠ gl ∧ (Value.slice A10 (k + 1) C10).ownBlock ≠ some b := fun b hb =>
                ⟨(own7 b hb).1, (own7 b hb).2.1, (own7 b hb).2.2.1, fun he => (own10 b he).2.2.2 hb⟩
              have own10N : ∀ b, (Value.slice A10 (k + 1) C10).ownBlock = some b → w.heap.size ≤ b ∧ b ≠ ge ∧ b ≠ gl := fun b hb => ⟨(own10 b hb).1, (own10 b hb).2.1, (own10 b hb).2.2.1⟩
              clear hr hr0 cc9a cc9 c910 e10f e10l be10 bl10 be9 bl9 r79 r69 K9 k9 hpw be8d bl8d r78d r68d K8d c9 cf8
              go_wp2_with fail
              exact ⟨⟨k + 1, _, _, A7, C7, A10, C10, by go_num, by omega, r7N, r10N, own7N, own10N, beN, blN, KN, hval2⟩, by simp [intOf] <;> omega⟩
        · obtain rfl : k = n := by omega
          have htrue : engOk (k : Int) S N C R F K ps = true := by
            apply Hfin.out
            rw [List.all_eq_true]
            intro p hp
            have := hval.out p
            rw [← Hn.out, List.take_length] at this
            exact this hp
          go_wp2_with fail
          go_ret2
          refine ⟨KK, .pointer (some ⟨ge, 0, none⟩), ?_⟩
          rw [htrue]
          rfl
    · have hok : engOk T S N C R F K ps = false := by
        unfold engOk
        rw [Hn.out]
        simp [hnT]
      rw [hok]
      have hnT' : ¬ ((n : Int) = T) := hnT
      have bc2' := bc2
      obtain ⟨d0, d1, d2, d3, d4, d5, d6, df, dl⟩ := bc1.o7
      go_wp2_with fail
      go_ret2
      exact ⟨K2, .pointer none, by first | rfl | (rw [hok]; rfl) | simp [hok]⟩
  · have hno := start_no T S N C R F K h (w.alloc (.cells #[.int .i64 T, .int .i64 S, .int .i64 N, .int .i64 C, .int .i64 R, .int .i64 F, .int .u64 K] 26))
    have hok : engOk T S N C R F K ps = false := by unfold engOk; rw [cfgB_no h, Bool.false_and]
    rw [hok]
    rw [hnn] at hv ⊢
    clear hnn hps hsz
    go_enter Try.func31, Try.ntmps31
    go_wp2_with fail
    refine hno.mono ?_
    rintro q w1 ⟨rfl, k1⟩
    go_wp2_with fail
    go_ret2
    exact ⟨(kc.trans k1 (by simp)).alloc _, _, rfl⟩
end Go.Proofs.Ytkgmgnfcmnhhaaa
