/- ScriptRejects: the walk. -/
import Derived.Test.YtkgmgnfcmnhhaaaRjl
import Derived.Test.YtkgmgnfcmnhhaaaRv2
import Derived.Deep.RegionHeld3
namespace Go.Proofs.Ytkgmgnfcmnhhaaa
open Go.RowKit
set_option linter.unusedSectionVars false
set_option linter.unusedVariables false
set_option linter.unusedSimpArgs false
set_option maxRecDepth 20000
set_option maxHeartbeats 4000000
def RjM (w wx : World) (g : Nat) (s : Value) : Prop := ∃ (y : SV) (okb : Bool), s = .bool okb ∧ Blk wx g [.int .i64 y.th, .int .i64 y.sn, .int .i64 y.no, .int .i64 y.ch, .int .i64 y.re, .int .i64 y.fa, .int .u64 (y.cl : Int), .slice y.pA y.ps.length y.pc, .slice y.kA y.pk.length y.kc] ∧ Fit wx y ∧ vld y.scr = okb ∧ Keeps [] w wx
theorem vd_parts {w w1 : World} {X : List OV} {n gt : Nat} {f1 : Int} {rows : List (Value × List OV)} {kA : Option Addr} {kc : Nat} {pk : List Int} {N : Nat} (hN : N ≤ 1048576) (k : Keeps [] w w1) (h : Vd w w1 X n gt f1 rows kA kc pk) (hx : ∀ x ∈ X, OkB w x ∧ OpN x ∧ OpB N x) :
    (cfgB (n : Int) 2 100 100 200 f1 1000 = true ∧ (rows.all fun p => vProg 2 (p.2.map OV.op)) = true ∧ accB (n : Int) pk = true) ∧ ∀ p ∈ rows, p.2.length ≤ 20 ∧ ∀ y ∈ p.2, OpL w (125 + 9 * N) y := by
  have hg := (gs_of hN k h hx).vld
  rw [vld_parts] at hg
  simp only [Bool.and_eq_true] at hg
  exact ⟨⟨hg.1, hg.2.1.2, hg.2.2⟩, fun p hp => ⟨(h.made p hp).1, fun y hy => opl_made hN (made_fit hx ((h.made p hp).2 y hy))⟩⟩
theorem oks_of {w0 w : World} {b g n : Nat} {th sn no ch re fa : Int} {cl : Nat} {rows : List (Value × List OV)} {kA : Option Addr} {kc : Nat} {pk : List Int} (hl : rows.length = n) (hT : Tab w b g rows) (hb : ∀ p ∈ rows, ∀ z ∈ p.2, OkB w0 z) (k : Keeps [] w0 w) (hR : Row w (.slice kA pk.length kc) pk.length 1 (pk.map vI)) :
    OkS w ⟨th, sn, no, ch, re, fa, cl, some ⟨g, 0, none⟩, n, rows, kA, kc, pk⟩ := by
  refine ⟨?_, fun p hp => ⟨(hT.ok p hp).1.lst, fun z hz => (hb p hp z hz).keeps k⟩, hR.lst⟩
  have := Lst.blk (n := rows.length) (cap := n) (rest := []) (by rw [List.append_nil]; exact hT.blk)
  exact this
theorem rj_any (N : Nat) (hN : N ≤ 1048576) (th fa pick : Int) (hth : I64 th) (hfa : I64 fa) (hpi : I64 pick) (A : Option Addr) (cap : Nat) (X : List OV) (w : World) (hv : Lst w (.slice A X.length cap) X.length (oCs X)) (hl : X.length ≤ 9223372036854775807) (hx : ∀ x ∈ X, OkB w x ∧ OpN x ∧ OpB N x)
    (B : Option Addr) (capB : Nat) (Y : List Nat) (hu : Lst w (.slice B Y.length capB) Y.length (Y.map vU8)) (hY : ∀ y ∈ Y, y ≤ 255) (hYl : Y.length ≤ 9223372036854775807)
    (x : OV) (ho1 : OkB w x) (ho2 : OpN x) (ho3 : OpB N x) (cl : Nat) (hcl : cl < 2 ^ 64) (kd : Nat) (hkd : kd ≤ 255) :
    Calls Try.prog 4 #[.int .i64 th, .int .i64 fa, .slice A X.length cap, .slice B Y.length capB, .agg #[.int .i64 x.c, .string ⟨x.k.toArray⟩, .int .u64 (x.t : Int), .slice x.bA x.b.length x.bc, .int .i64 x.h, .int .i64 x.u, .int .i64 x.m], .int .i64 pick, .int .u64 (cl : Int), .int .u8 (kd : Int)] w fun q w' => q = .returned (.bool true) ∧ Keeps [] w w' := by
  have kO := (Keeps.refl [] w).alloc (.cells #[.int .i64 x.c, .string ⟨x.k.toArray⟩, .int .u64 (x.t : Int), .slice x.bA x.b.length x.bc, .int .i64 x.h, .int .i64 x.u, .int .i64 x.m] 45)
  have bO := Blk.new w [.int .i64 x.c, .string ⟨x.k.toArray⟩, .int .u64 (x.t : Int), .slice x.bA x.b.length x.bc, .int .i64 x.h, .int .i64 x.u, .int .i64 x.m] 45
  change Blk (w.alloc (.cells #[.int .i64 x.c, .string ⟨x.k.toArray⟩, .int .u64 (x.t : Int), .slice x.bA x.b.length x.bc, .int .i64 x.h, .int .i64 x.u, .int .i64 x.m] 45)) _ _ at bO
  obtain ⟨W, hW⟩ : ∃ W, w.alloc (.cells #[.int .i64 x.c, .string ⟨x.k.toArray⟩, .int .u64 (x.t : Int), .slice x.bA x.b.length x.bc, .int .i64 x.h, .int .i64 x.u, .int .i64 x.m] 45) = W := ⟨_, rfl⟩
  rw [hW] at kO bO
  have hx' : ∀ z ∈ X, OkB W z ∧ OpN z ∧ OpB N z := fun z hz => ⟨(hx z hz).1.keeps kO, (hx z hz).2⟩
  have hq1 := val_any th fa hth hfa A cap X W (hv.keeps kO) hl (fun z hz => ⟨(hx' z hz).1, (hx' z hz).2.1⟩) B capB Y (hu.keeps kO) hY hYl
  obtain ⟨gO, hgO⟩ : ∃ gO, w.heap.size = gO := ⟨_, rfl⟩
  rw [hgO] at bO
  have HKO := Lib.hid kO
  have HX := Lib.hid hx'
  have HO := Lib.hid (And.intro (ho1.keeps kO) (And.intro ho2 ho3))
  clear hv hl hx hx' hu hY hYl ho1 ho2 ho3 kO
  obtain ⟨p0, p1, p2, p3, p4, p5, p6, pf, pl⟩ := bO.o7
  by_cases hb : 30 < x.b.length
  · have hbI : (30 : Int) < (x.b.length : Int) := by omega
    have hqa := awk_any W
    go_enter Try.func4, Try.ntmps4
    go_wp2_with fail
    refine hqa.mono ?_
    rintro q w4 ⟨rfl, k4⟩
    go_wp2_with fail
    go_ret
    exact ⟨rfl, HKO.out.trans k4 (by simp)⟩
  have hbI : ¬ (30 : Int) < (x.b.length : Int) := by omega
  have hb30 : x.b.length ≤ 30 := by omega
  have HB30 := Lib.hid hb30
  go_enter Try.func4, Try.ntmps4
  clear hb hb30
  go_wp2_with fail
  refine hq1.mono ?_
  intro q w1 hq
  unfold VdQ at hq
  obtain ⟨k1, n, gt, f1, rows, kA, kc, pk, e1, e2, hvd, rfl⟩ := hq
  have HGO := Lib.hid (show gO < W.heap.size from bO.lt)
  clear e1 e2 hq1 hbI hW hgO
  have ka := (Keeps.refl [] w1).alloc (.cells #[.int .i64 (n : Int), .int .i64 2, .int .i64 100, .int .i64 100, .int .i64 200, .int .i64 f1, .int .u64 1000, .slice (some ⟨gt, 0, none⟩) n n, .slice kA pk.length kc] 30)
  have by1 := Blk.new w1 [.int .i64 (n : Int), .int .i64 2, .int .i64 100, .int .i64 100, .int .i64 200, .int .i64 f1, .int .u64 1000, .slice (some ⟨gt, 0, none⟩) n n, .slice kA pk.length kc] 30
  change Blk (w1.alloc (.cells #[.int .i64 (n : Int), .int .i64 2, .int .i64 100, .int .i64 100, .int .i64 200, .int .i64 f1, .int .u64 1000, .slice (some ⟨gt, 0, none⟩) n n, .slice kA pk.length kc] 30)) _ _ at by1
  have hT1 := hvd.tab.keeps ka
  have hR1 := hvd.row.keeps ka (by simp)
  have k2 := k1.trans ka (by simp)
  have bO2 := k2.blk bO (by simp)
  have HVD := Lib.hid hvd
  have HPA := Lib.hid (vd_parts hN k1 hvd HX.out)
  have hltg : ∀ b, b < w1.heap.size → b ≠ w1.heap.size := fun b h => by omega
  have hgtl : gt < w1.heap.size := hvd.tab.blk.lt
  have hrl : ∀ p ∈ rows, ∀ b, p.1.ownBlock = some b → b < w1.heap.size := fun p hp b hb => (hvd.tab.ok p hp).1.blk b hb
  have hpl : ∀ b, (Value.slice kA pk.length kc).ownBlock = some b → b < w1.heap.size := fun b hb => hvd.row.blk b hb
  obtain ⟨gy, hgy⟩ : ∃ gy, w1.heap.size = gy := ⟨_, rfl⟩
  rw [hgy] at by1 hgtl hrl hpl
  have hgOl : gO < gy := by rw [← hgy]; exact (k1.blk bO (by simp)).lt
  have HL := Lib.hid (And.intro hgtl (And.intro hrl (And.intro hpl hgOl)))
  clear hvd k1 ka bO p0 p1 p2 p3 p4 p5 p6 pf pl hltg hgtl hrl hpl hgOl
  obtain ⟨kr, hkr⟩ : ∃ kr, kd % 4 = kr := ⟨_, rfl⟩
  have hmod : (kd : Int).tmod 4 = (kr : Int) := by rw [← hkr]; exact (Int.ofNat_tmod kd 4).symm
  have hk4 : kr = 0 ∨ kr = 1 ∨ kr = 2 ∨ kr = 3 := by omega
  clear hkr
  go_upto_region 5 with fail
  obtain ⟨w2, hw2⟩ : ∃ w2, w1.alloc (.cells #[.int .i64 (n : Int), .int .i64 2, .int .i64 100, .int .i64 100, .int .i64 200, .int .i64 f1, .int .u64 1000, .slice (some ⟨gt, 0, none⟩) n n, .slice kA pk.length kc] 30) = w2 := ⟨_, rfl⟩
  rw [hw2] at by1 hT1 hR1 k2 bO2 ⊢
  clear hw2 hgy
  go_upto_block 0 with fail
  clear hmod
  go_cut [18] from 33 to 78 (fun s18 wx => RjM W wx gy s18)
  case first =>
    have HGW : Hid (W.heap.size ≤ gy) := Lib.hid (by have := HVD.out.ge; have := HL.out.1; omega)
    obtain rfl | rfl | rfl | rfl := hk4
    · have hrl := HVD.out.len
      have hn1 := HVD.out.n1
      obtain ⟨p, hp⟩ : ∃ p, rows[0]? = some p := ⟨_, List.getElem?_eq_getElem (by omega)⟩
      have hpm := List.mem_of_getElem? hp
      obtain ⟨hpr, hpo⟩ := hT1.ok p hpm
      have hm20 := (HPA.out.2 p hpm).1
      obtain ⟨A0, C0, hv0⟩ := hpr.len
      have f1c : w2.cell? ⟨gt, 0, none⟩ = some p.1 := by
        rw [hT1.blk.cell, List.getElem?_map, hp]; rfl
      obtain ⟨m, hm⟩ : ∃ m, p.2.length = m := ⟨_, rfl⟩
      rw [hm] at hv0
      obtain ⟨v4, w4, hr, r4, k4, g4⟩ := opr_append (w := w2.drew) (hpr.keeps ((Keeps.refl [] w2).drew) (by simp)) x (by omega) 1
      obtain ⟨A4, C4, hv4⟩ := r4.len
      rw [List.length_append, List.length_singleton, hm] at hv4
      have k24 : Keeps p.1.ownBlock.toList w2 w4 := ((Keeps.refl _ w2).drew).trans k4 (fun b hb => .inl hb)
      have g24 : ∀ b, v4.ownBlock = some b → p.1.ownBlock = some b ∨ w2.heap.size ≤ b := g4
      have hno : ∀ b, b ∈ p.1.ownBlock.toList → b ≠ gt ∧ b < gy ∧ W.heap.size ≤ b := fun b hb => by
        have h1 := hpo b (by simpa using hb)
        exact ⟨h1.2, HL.out.2.1 p hpm b (by simpa using hb), h1.1⟩
      have hOW : gO < W.heap.size := by
        have := HGO.out; omega
      have by4 := k24.blk by1 (fun hm => by have := hno _ hm; omega)
      have bO4 := k24.blk bO2 (fun hm => by have := hno _ hm; omega)
      have T5 := hT1.put hp k24 r4 g24 (by have := k2.size; omega)
      have R4 := hR1.keeps k24 (fun c hc hm => (HVD.out.own c hc).2.2 p hpm (by simpa using hm))
      have K4 := k2.trans k24 (fun b hb => .inr (hno b hb).2.2)
      have kS := (Keeps.refl [gt] w4).setCell ⟨gt, 0, none⟩ v4 (.inl (by simp))
      have by5 := kS.blk by4 (by have := HL.out.1; simp; omega)
      have bO5 := kS.blk bO4 (by have := HVD.out.ge; simp; omega)
      have R5 := R4.keeps kS (fun c hc hm => by simp at hm; exact (HVD.out.own c hc).2.1 hm)
      have K5 := K4.trans kS (by have := HVD.out.ge; simp; omega)
      have hvq := fun w' (kk : Keeps [] W w') => v22_any (n : Int) 2 100 100 200 f1 1000 x w' (HO.out.1.keeps kk) (by have := HB30.out; omega)
      have hfin : ∀ w6, Keeps [] (w4.setCell ⟨gt, 0, none⟩ v4) w6 → RjM W w6 gy (.bool (vOp 2 x.op)) := fun w6 k6 => by
        obtain ⟨⟨h1, h2, h3⟩, h4⟩ := HPA.out
        have hxl := opl_any hN HO.out.1 HO.out.2.1 HO.out.2.2 HB30.out
        have hsl : (rows.set 0 (v4, p.2 ++ [x])).length = n := by rw [List.length_set, hrl]
        have K6 := K5.trans k6 (by simp)
        refine ⟨⟨n, 2, 100, 100, 200, f1, 1000, some ⟨gt, 0, none⟩, n, rows.set 0 (v4, p.2 ++ [x]), kA, kc, pk⟩, _, rfl, ?_, fit_of (P := 4) (M := 10 + 20 * (125 + 9 * N) + (671 + 61 * N)) (oks_of hsl (T5.keeps k6) (fun q hq z hz => ?_) K6 (R5.keeps k6 (by simp))) ?_ ?_ ?_ ?_ ?_ ?_ ?_ ?_, ?_, K6⟩
        · show Blk w6 gy [_, _, _, _, _, _, _, .slice (some ⟨gt, 0, none⟩) (rows.set 0 (v4, p.2 ++ [x])).length n, _]
          rw [hsl]; exact k6.blk by5 (by simp)
        · rcases List.mem_or_eq_of_mem_set hq with h | rfl
          · exact ((h4 q h).2 z hz).ok
          · rcases List.mem_append.1 hz with h | h
            · exact ((h4 p hpm).2 z h).ok
            · simp at h; subst h; exact HO.out.1
        · show (rows.set 0 (v4, p.2 ++ [x])).length ≤ 4; omega
        · omega
        · show (n : Int).toNat < _; omega
        · show 1000 < _; omega
        · show pk.length ≤ 301; have := HVD.out.picks.1; omega
        · omega
        · intro q hq
          rcases List.mem_or_eq_of_mem_set hq with h | rfl
          · exact ⟨by have := (h4 q h).1; omega, fun z hz => ⟨((h4 q h).2 z hz).t, ((h4 q h).2 z hz).n⟩⟩
          · refine ⟨by show (p.2 ++ [x]).length ≤ 21; rw [List.length_append, List.length_singleton]; omega, fun z hz => ?_⟩
            rcases List.mem_append.1 hz with h | h
            · exact ⟨((h4 p hpm).2 z h).t, ((h4 p hpm).2 z h).n⟩
            · simp at h; subst h; exact ⟨hxl.t, hxl.n⟩
        · intro q hq
          rcases List.mem_or_eq_of_mem_set hq with h | rfl
          · have := progl (m := 20) (by omega) (h4 q h).1 (h4 q h).2
            omega
          · exact progl_more (by omega) (h4 p hpm).1 (h4 p hpm).2 hxl
        · rw [vld_parts]
          show (cfgB (n : Int) 2 100 100 200 f1 1000 && (decide (((rows.set 0 (v4, p.2 ++ [x])).length : Int) = (n : Int)) && ((rows.set 0 (v4, p.2 ++ [x])).all fun p => vProg 2 (p.2.map OV.op)) && accB (n : Int) pk)) = _
          have hv1 : vProg 2 (p.2.map OV.op) = true := List.all_eq_true.1 h2 p hpm
          rw [h1, h3, hsl, all_set0 _ _ _ (by omega) h2]
          show (true && (decide ((n : Int) = (n : Int)) && vProg 2 ((p.2 ++ [x]).map OV.op) && true)) = _
          rw [vProg_more 2 _ _ (h4 p hpm).1 hv1]
          simp
      have HF := Lib.hid hfin
      have HVQ := Lib.hid (hvq _ K5)
      rw [hv0] at f1c hno
      subst hv4
      obtain ⟨gw, hgw⟩ : ∃ gw, w2.heap.size = gw := ⟨_, rfl⟩
      have hgw2 : w2.drew.heap.size = gw := hgw
      rw [hv0, hgw2] at hr
      change ∀ ty, (Builtin.append_ #[22, 22] ty #[.slice A0 m C0, .slice (some ⟨gw, 0, none⟩) 1 1]).run Try.prog (w2.alloc (.cells #[.int .i64 x.c, .string ⟨x.k.toArray⟩, .int .u64 (x.t : Int), .slice x.bA x.b.length x.bc, .int .i64 x.h, .int .i64 x.u, .int .i64 x.m] 45)).drew = _ at hr
      have hra : ∀ o, (w2.alloc o).cell? ⟨gt, 0, none⟩ = some (.slice A0 m C0) := fun o => Lib.cell?_alloc_some o f1c
      have hnn : (0 : Int) < (n : Int) := by omega
      have hn0 : 0 < n := by omega
      have t4 := k24.blk hT1.blk (by rw [hv0]; exact fun hm => (hno _ hm).1 rfl)
      have t4f := t4.frozen
      have t4l := t4.lt
      have t4c := t4.cell 0
      rw [List.getElem?_map, hp, Option.map_some, hv0] at t4c
      obtain ⟨d0, d1, d2, d3, d4, d5, d6, d7, d8, df, dl⟩ := by1.o9
      obtain ⟨p0, p1, p2, p3, p4, p5, p6, pf, pl⟩ := bO2.o7
      have d7e := by4.cell 7
      simp only [List.getElem?_cons_succ, List.getElem?_cons_zero] at d7e
      obtain ⟨p0e, p1e, p2e, p3e, p4e, p5e, p6e, pfe, ple⟩ := bO4.o7
      have d7s := by5.cell 7
      simp only [List.getElem?_cons_succ, List.getElem?_cons_zero] at d7s
      obtain ⟨p0s, p1s, p2s, p3s, p4s, p5s, p6s, pfs, pls⟩ := bO5.o7
      have BY5 := Lib.hid by5
      have BO5 := Lib.hid bO5
      clear hfin hvq by5 bO5 R5 K5 T5 kS R4 K4 k24 k4 r4 g4 g24 by4 bO4 by1 hT1 hR1 k2 bO2 hrl hpr hpo hpm hm hv0 hno t4 d0 d1 d2 d3 d4 d5 d6 d8 df dl pf hgw2 hp hm20
      go_upto_region 9 with fail
      have ha7 : ∀ o, (w2.alloc o).cell? ⟨gy, 7, none⟩ = some (.slice (some ⟨gt, 0, none⟩) n n) := fun o => Lib.cell?_alloc_some o d7
      have mixed : Try.prog.follows .mixedOrders = true := by kernel_rfl
      go_region_law_o (first
          | (refine step_append_eq rfl _ _ 22 22 rfl (.slice A0 m C0) (.slice (some ⟨gw, 0, none⟩) 1 1) (by simp [Act.eval, Act.put]) (by simp [Act.eval, Act.put]) (hr _) ?_))
      all_goals
        go_upto_region 10 with fail
        obtain ⟨w5, hw5⟩ : ∃ w5, w4.setCell ⟨gt, 0, none⟩ (.slice A4 (m + 1) C4) = w5 := ⟨_, rfl⟩
        rw [hw5] at HF HVQ BY5 BO5 ⊢
        clear ha7 hw5 hr hra t4f t4l t4c d7 d7e p0 p1 p2 p3 p4 p5 p6 pl p0e p1e p2e p3e p4e p5e p6e pfe ple d7s p0s p1s p2s p3s p4s p5s p6s pfs pls
        obtain ⟨d0, d1, d2, d3, d4, d5, d6, d7, d8, df, dl⟩ := BY5.out.o9
        obtain ⟨p0, p1, p2, p3, p4, p5, p6, pf, pl⟩ := BO5.out.o7
        go_wp2_with fail
        refine HVQ.out.mono ?_
        rintro q w6 ⟨rfl, k6⟩
        have HF6 := Lib.hid (HF.out _ k6)
        clear d0 d1 d2 d3 d4 d5 d6 d7 d8 df dl p0 p1 p2 p3 p4 p5 p6 pf pl HF HVQ BY5 BO5 k6
        go_wp2_with fail
        go_meet
        exact HF6.out
    · obtain ⟨l, hlp⟩ : ∃ l, pk.length = l := ⟨_, rfl⟩
      have HLP := Lib.hid hlp
      have hl300 : l ≤ 300 := by have := HVD.out.picks.1; omega
      obtain ⟨v4, w4, hr, r4, k4, f4⟩ := int_append (w := w2) (base := 0) (v := .slice kA pk.length kc) (ys := pk) ⟨hR1, fun g hg => Nat.zero_le _⟩ pick (Nat.zero_le _) (by omega) 1
      obtain ⟨A4, C4, hv4⟩ := r4.row.len
      rw [List.length_append, List.length_singleton, hlp] at hv4
      rw [hlp] at hr by1
      subst hv4
      have hno : ∀ b, b ∈ (Value.slice kA pk.length kc).ownBlock.toList → b < gy ∧ b ≠ gt ∧ ∀ p ∈ rows, p.1.ownBlock ≠ some b := fun b hb => by
        have h := HVD.out.own b (by simpa using hb)
        exact ⟨HL.out.2.2.1 b (by simpa using hb), h.2⟩
      have hnew : ∀ b, b ∈ (Value.slice kA pk.length kc).ownBlock.toList → W.heap.size ≤ b := fun b hb => (HVD.out.own b (by simpa using hb)).1
      have by4 := k4.blk by1 (fun hm => by have := hno _ hm; omega)
      have T4 := hT1.keepsN k4 (fun hm => (hno _ hm).2.1 rfl) (fun p hp c hc hm => (hno _ hm).2.2 p hp hc)
      have K4 := k2.trans k4 (fun b hb => .inr (hnew b hb))
      have own4 : ∀ b, (Value.slice A4 (l + 1) C4).ownBlock = some b → b ≠ gy := fun b hb => by
        rcases f4 b hb with h1 | h1
        · have := hno b (by simpa using h1); omega
        · have := by1.lt; omega
      have kS := (Keeps.refl [gy] w4).setCell ⟨gy, 8, none⟩ (.slice A4 (l + 1) C4) (.inl (by simp))
      have b5 := by4.set 8 (.slice A4 (l + 1) C4)
      simp only [List.set_cons_zero, List.set_cons_succ] at b5
      have T5 := T4.keepsN kS (by have := HL.out.1; simp; omega) (fun p hp c hc hm => by have := HL.out.2.1 p hp c hc; simp at hm; omega)
      have R5 := r4.row.keeps kS (fun c hc hm => by simp at hm; exact own4 c hc hm)
      have K5 := K4.trans kS (by simp; exact HGW.out)
      obtain ⟨gw, hgw⟩ : ∃ gw, w2.heap.size = gw := ⟨_, rfl⟩
      rw [hgw] at hr
      obtain ⟨d0, d1, d2, d3, d4, d5, d6, d7, d8, df, dl⟩ := by1.o9
      obtain ⟨e0, e1, e2, e3, e4, e5, e6, e7, e8, ef, el⟩ := by4.o9
      have hgl := by1.lt
      clear hno hnew r4 f4 T4 k4 hlp
      go_upto_region 12 with fail
      go_upto_region 13 with (at_builtin; refine list_append_eq rfl _ _ 28 28 rfl (.slice kA l kc) (.slice (some ⟨gw, 0, none⟩) 1 1) rfl rfl (hr _) ?_)
      obtain ⟨w5, hw5⟩ : ∃ w5, w4.setCell ⟨gy, 8, none⟩ (.slice A4 (l + 1) C4) = w5 := ⟨_, rfl⟩
      rw [hw5] at b5 T5 R5 K5 ⊢
      clear hw5 kS by1 by4 hT1 hR1 k2 bO2 d0 d1 d2 d3 d4 d5 d6 d7 d8 df dl e0 e1 e2 e3 e4 e5 e6 e7 e8 ef el hr hgw
      obtain ⟨d0, d1, d2, d3, d4, d5, d6, d7, d8, df, dl⟩ := b5.o9
      have hfin : RjM W w5 gy (.bool (decide (0 ≤ pick) && decide (pick < (n : Int)))) := by
        obtain ⟨⟨h1, h2, h3⟩, h4⟩ := HPA.out
        have hrl := HVD.out.len
        have hpl : (pk ++ [pick]).length = l + 1 := by rw [List.length_append, HLP.out]; rfl
        rw [hpl] at R5
        refine ⟨⟨n, 2, 100, 100, 200, f1, 1000, some ⟨gt, 0, none⟩, n, rows, A4, C4, pk ++ [pick]⟩, _, rfl, ?_, fit_of (P := 4) (M := 10 + 20 * (125 + 9 * N)) (oks_of hrl T5 (fun p hp z hz => ((h4 p hp).2 z hz).ok) K5 (by rw [hpl]; exact R5)) ?_ ?_ ?_ ?_ ?_ ?_ ?_ ?_, ?_, K5⟩
        · show Blk w5 gy [_, _, _, _, _, _, _, .slice (some ⟨gt, 0, none⟩) rows.length n, .slice A4 (pk ++ [pick]).length C4]
          rw [hrl, hpl]; exact b5
        · show rows.length ≤ 4; have := HVD.out.n1; omega
        · omega
        · show (n : Int).toNat < _; have := HVD.out.n1; omega
        · show 1000 < _; omega
        · show (pk ++ [pick]).length ≤ 301; omega
        · omega
        · exact fun p hp => ⟨by have := (h4 p hp).1; omega, fun z hz => ⟨((h4 p hp).2 z hz).t, ((h4 p hp).2 z hz).n⟩⟩
        · exact fun p hp => progl (by omega) (h4 p hp).1 (h4 p hp).2
        · rw [vld_parts]
          show (cfgB (n : Int) 2 100 100 200 f1 1000 && (decide ((rows.length : Int) = (n : Int)) && (rows.all fun p => vProg 2 (p.2.map OV.op)) && accB (n : Int) (pk ++ [pick]))) = _
          rw [h1, h2, acc_more _ _ _ (by have := HLP.out; omega) h3, hrl]
          simp
      have HF := Lib.hid hfin
      clear hfin b5 T5 R5 K5
      by_cases q1 : 0 ≤ pick
      · by_cases q2 : pick < (n : Int)
        · go_wp2_with fail
          go_meet
          have := HF.out
          rwa [decide_eq_true q1, decide_eq_true q2] at this
        · go_wp2_with fail
          go_meet
          have := HF.out
          rwa [decide_eq_true q1, decide_eq_false (show ¬ pick < (n : Int) by omega)] at this
      · go_wp2_with fail
        go_meet
        have := HF.out
        rwa [decide_eq_false (show ¬ 0 ≤ pick by omega), Bool.false_and] at this
    · have kS := (Keeps.refl [gy] w2).setCell ⟨gy, 6, none⟩ (.int .u64 (cl : Int)) (.inl (by simp))
      have b5 := by1.set 6 (.int .u64 (cl : Int))
      simp only [List.set_cons_zero, List.set_cons_succ] at b5
      have T5 := hT1.keepsN kS (by have := HL.out.1; simp; omega) (fun p hp c hc hm => by have := HL.out.2.1 p hp c hc; simp at hm; omega)
      have R5 := hR1.keeps kS (fun c hc hm => by have := HL.out.2.2.1 c hc; simp at hm; omega)
      have K5 := k2.trans kS (by simp; exact HGW.out)
      have hcfg := fun w => v3_any (n : Int) 2 100 100 200 f1 (cl : Int) w
      obtain ⟨d0, d1, d2, d3, d4, d5, d6, d7, d8, df, dl⟩ := by1.o9
      go_upto_region 16 with fail
      clear d0 d1 d2 d3 d4 d5 d6 d7 d8 df dl
      obtain ⟨w5, hw5⟩ : ∃ w5, w2.setCell ⟨gy, 6, none⟩ (.int .u64 (cl : Int)) = w5 := ⟨_, rfl⟩
      rw [hw5] at b5 T5 R5 K5 ⊢
      clear hw5 kS by1 hT1 hR1 k2 bO2
      obtain ⟨d0, d1, d2, d3, d4, d5, d6, d7, d8, df, dl⟩ := b5.o9
      go_wp2_with fail
      refine (hcfg _).mono ?_
      rintro q w6 ⟨rfl, k6⟩
      clear d0 d1 d2 d3 d4 d5 d6 d7 d8 df dl hcfg
      have b6 := k6.blk b5 (by simp)
      have T6 := T5.keeps k6
      have R6 := R5.keeps k6 (by simp)
      have K6 := K5.trans k6 (by simp)
      have hfin : RjM W w6 gy (.bool (cfgB (n : Int) 2 100 100 200 f1 (cl : Int))) := by
        obtain ⟨⟨h1, h2, h3⟩, h4⟩ := HPA.out
        have hrl := HVD.out.len
        refine ⟨⟨n, 2, 100, 100, 200, f1, cl, some ⟨gt, 0, none⟩, n, rows, kA, kc, pk⟩, _, rfl, ?_, fit_of (P := 4) (M := 10 + 20 * (125 + 9 * N)) (oks_of hrl T6 (fun p hp z hz => ((h4 p hp).2 z hz).ok) K6 R6) ?_ ?_ ?_ ?_ ?_ ?_ ?_ ?_, ?_, K6⟩
        · show Blk w6 gy [_, _, _, _, _, _, _, .slice (some ⟨gt, 0, none⟩) rows.length n, _]
          rw [hrl]; exact b6
        · show rows.length ≤ 4; have := HVD.out.n1; omega
        · omega
        · show (n : Int).toNat < _; have := HVD.out.n1; omega
        · exact hcl
        · show pk.length ≤ 301; have := HVD.out.picks.1; omega
        · omega
        · exact fun p hp => ⟨by have := (h4 p hp).1; omega, fun z hz => ⟨((h4 p hp).2 z hz).t, ((h4 p hp).2 z hz).n⟩⟩
        · exact fun p hp => progl (by omega) (h4 p hp).1 (h4 p hp).2
        · rw [vld_parts]
          show (cfgB (n : Int) 2 100 100 200 f1 (cl : Int) && (decide ((rows.length : Int) = (n : Int)) && (rows.all fun p => vProg 2 (p.2.map OV.op)) && accB (n : Int) pk)) = _
          rw [h2, h3, hrl]
          simp
      have HF := Lib.hid hfin
      clear hfin b5 b6 T5 T6 R5 R6 K5 K6 k6
      go_wp2_with fail
      go_meet
      exact HF.out
    · obtain ⟨i0, hi0, hy0, hy1, hy2⟩ := info_parts info27
      have hrl := HVD.out.len
      have ka := (Keeps.refl [] w2).alloc (.cells #[.slice none 0 0] 22)
      have hbk := Blk.new w2 [.slice none 0 0] 22
      change Blk (w2.alloc (.cells #[.slice none 0 0] 22)) _ _ at hbk
      have hsrc : ∀ (j : Nat) (u : Value), [Value.slice none 0 0][j]? = some u → (w2.alloc (.cells #[.slice none 0 0] 22)).cell? ((⟨w2.heap.size, 0, none⟩ : Addr).add j) = some u := fun j u hj => by
        rw [Addr.add_lit, hbk.cell, Nat.zero_add]; exact hj
      have hTa := hT1.keeps ka
      have hrow : Row (w2.alloc (.cells #[.slice none 0 0] 22)) (.slice (some ⟨gt, 0, none⟩) n n) n 1 (rows.map (·.1)) :=
        ⟨by rw [List.length_map]; omega, .inr ⟨gt, n, [], rfl, by rw [List.append_nil]; exact hTa.blk, Nat.le_refl _, by have := HVD.out.n1; unfold maxLen; omega, by rw [List.append_nil, List.length_map]; omega⟩⟩
      obtain ⟨v4, w4, hr, r4, k4, f4⟩ := row_append hrow 27 27 22 i0 _ 24 Try.underlying27 hi0 hy0 hy1 hy2 rfl (by decide) ⟨w2.heap.size, 0, none⟩ 1 1 [.slice none 0 0] rfl hsrc (fun u hu => by simp at hu; subst hu; rfl) (by have := HVD.out.n1; omega) (by decide)
      obtain ⟨A4, C4, hv4⟩ := r4.len
      subst hv4
      have hsz : (w2.alloc (.cells #[.slice none 0 0] 22)).heap.size = w2.heap.size + 1 := by simp
      have k24 : Keeps [gt] w2 w4 := (ka.mono (by simp)).trans k4 (fun b hb => .inl (by simpa [Value.ownBlock, eq_comm] using hb))
      have by4 := k24.blk by1 (by have := HL.out.1; simp; omega)
      have R4 := hR1.keeps k24 (fun c hc hm => by simp at hm; exact (HVD.out.own c hc).2.1 hm)
      have rows4 : ∀ p ∈ rows, Row w4 p.1 p.2.length 7 (oCs p.2) := fun p hp => (hT1.ok p hp).1.keeps k24 (fun c hc hm => by simp at hm; exact ((hT1.ok p hp).2 c hc).2 hm)
      have K4 := k2.trans k24 (fun b hb => by simp at hb; have := HVD.out.ge; right; omega)
      have own4 : ∀ b, (Value.slice A4 (n + 1) C4).ownBlock = some b → b ≠ gy := fun b hb => by
        rcases f4 b hb with h1 | h1
        · have : gt = b := by simpa [Value.ownBlock] using h1
          have := HL.out.1; omega
        · have := by1.lt; omega
      have kS := (Keeps.refl [gy] w4).setCell ⟨gy, 7, none⟩ (.slice A4 (n + 1) C4) (.inl (by simp))
      have b5 := by4.set 7 (.slice A4 (n + 1) C4)
      simp only [List.set_cons_zero, List.set_cons_succ] at b5
      have P5 := r4.keeps kS (fun c hc hm => by simp at hm; exact own4 c hc hm)
      have R5 := R4.keeps kS (fun c hc hm => by have := HL.out.2.2.1 c hc; simp at hm; omega)
      have rows5 : ∀ p ∈ rows, Row (w4.setCell ⟨gy, 7, none⟩ (.slice A4 (n + 1) C4)) p.1 p.2.length 7 (oCs p.2) := fun p hp => (rows4 p hp).keeps kS (fun c hc hm => by have := HL.out.2.1 p hp c hc; simp at hm; omega)
      have K5 := K4.trans kS (by simp; exact HGW.out)
      have hfin : RjM W (w4.setCell ⟨gy, 7, none⟩ (.slice A4 (n + 1) C4)) gy (.bool false) := by
        obtain ⟨⟨h1, h2, h3⟩, h4⟩ := HPA.out
        have hpl : (rows ++ [(Value.slice none 0 0, ([] : List OV))]).length = n + 1 := by rw [List.length_append, hrl]; rfl
        have hmem : ∀ p ∈ rows ++ [(Value.slice none 0 0, ([] : List OV))], p ∈ rows ∨ p = (Value.slice none 0 0, []) := fun p hp => by
          rcases List.mem_append.1 hp with h | h
          · exact .inl h
          · exact .inr (by simpa using h)
        refine ⟨⟨n, 2, 100, 100, 200, f1, 1000, A4, C4, rows ++ [(.slice none 0 0, [])], kA, kc, pk⟩, _, rfl, ?_, fit_of (P := 5) (M := 10 + 20 * (125 + 9 * N)) ⟨?_, fun p hp => ?_, R5.lst⟩ ?_ ?_ ?_ ?_ ?_ ?_ ?_ ?_, ?_, K5⟩
        · show Blk _ gy [_, _, _, _, _, _, _, .slice A4 (rows ++ [(Value.slice none 0 0, ([] : List OV))]).length C4, _]
          rw [hpl]; exact b5
        · show Lst _ (.slice A4 (rows ++ [(Value.slice none 0 0, ([] : List OV))]).length C4) (rows ++ [(Value.slice none 0 0, ([] : List OV))]).length ((rows ++ [(Value.slice none 0 0, ([] : List OV))]).map (·.1))
          rw [hpl, List.map_append]
          exact P5.lst
        · rcases hmem p hp with h | rfl
          · exact ⟨(rows5 p h).lst, fun z hz => (((h4 p h).2 z hz).ok).keeps K5⟩
          · exact ⟨Lst.nil _, by simp⟩
        · show (rows ++ [(Value.slice none 0 0, ([] : List OV))]).length ≤ 5; have := HVD.out.n1; omega
        · omega
        · show (n : Int).toNat < _; have := HVD.out.n1; omega
        · show 1000 < _; omega
        · show pk.length ≤ 301; have := HVD.out.picks.1; omega
        · omega
        · intro p hp
          rcases hmem p hp with h | rfl
          · exact ⟨by have := (h4 p h).1; omega, fun z hz => ⟨((h4 p h).2 z hz).t, ((h4 p h).2 z hz).n⟩⟩
          · simp
        · intro p hp
          rcases hmem p hp with h | rfl
          · exact progl (by omega) (h4 p h).1 (h4 p h).2
          · exact progl (w := W) (l := []) (by omega) (by simp) (by simp)
        · rw [vld_parts]
          show (cfgB (n : Int) 2 100 100 200 f1 1000 && (decide (((rows ++ [(Value.slice none 0 0, ([] : List OV))]).length : Int) = (n : Int)) && _ && accB (n : Int) pk)) = false
          rw [hpl, decide_eq_false (by omega), Bool.false_and, Bool.false_and, Bool.and_false]
      have HF := Lib.hid hfin
      obtain ⟨gw, hgw⟩ : ∃ gw, w2.heap.size = gw := ⟨_, rfl⟩
      rw [hgw] at hr
      have hra : ∀ o, (w2.alloc o).cell? ⟨gy, 7, none⟩ = some (.slice (some ⟨gt, 0, none⟩) n n) := fun o => Lib.cell?_alloc_some o (by1.cell 7)
      obtain ⟨d0, d1, d2, d3, d4, d5, d6, d7, d8, df, dl⟩ := by1.o9
      obtain ⟨e0, e1, e2, e3, e4, e5, e6, e7, e8, ef, el⟩ := by4.o9
      clear hfin b5 P5 R5 rows5 K5 kS rows4 R4 K4 k24 k4 r4 f4 hrow hTa hsrc hbk ka hsz hi0 hy0 hy1 hy2 own4 by1 by4 hT1 hR1 k2 bO2 hrl
      go_upto_region 6 with fail
      go_wp2_with (at_builtin; refine list_append_eq rfl _ _ 27 27 rfl (.slice (some ⟨gt, 0, none⟩) n n) (.slice (some ⟨gw, 0, none⟩) 1 1) rfl rfl hr ?_)
      go_meet
      exact HF.out
  case rest =>
    obtain ⟨y, okb, rfl, hy, hfit, hvl, KK⟩ := hcut
    have hqe := enc_any valid_any wc y hfit.ok hfit.sz hfit.t hfit.len
    unfold EncQ at hqe
    have HKO2 := Lib.hid (HKO.out.trans KK (by simp))
    clear hT1 hR1 k2 bO2 by1 HVD HPA HL HO HX hk4 KK
    obtain ⟨d0, d1, d2, d3, d4, d5, d6, d7, d8, df, dl⟩ := hy.o9
    cases okb with
    | true =>
      go_wp2_with fail
      refine hqe.mono ?_
      rintro q w3 ⟨k3, hq3⟩
      rw [if_pos hvl] at hq3
      obtain ⟨v, rfl, hb, _⟩ := hq3
      obtain ⟨A3, C3, rfl⟩ := hb.len
      have hqa := awk_any w3
      have hy3 := k3.blk hy (by simp)
      have K3 := HKO2.out.trans k3 (by simp)
      have hf3 := hfit.keeps k3
      clear hqe d0 d1 d2 d3 d4 d5 d6 d7 d8 df dl k3 hy hfit
      go_wp2_with fail
      refine hqa.mono ?_
      rintro q w4 ⟨rfl, k4⟩
      have hy4 := k4.blk hy3 (by simp)
      have K4 := K3.trans k4 (by simp)
      have hqv := valid_any w4 y (hf3.keeps k4).ok hf3.sz
      rw [hvl] at hqv
      obtain ⟨d0, d1, d2, d3, d4, d5, d6, d7, d8, df, dl⟩ := hy4.o9
      have HVL := Lib.hid hvl
      clear hqa k4 hvl hy3
      go_wp2_with fail
      refine hqv.mono ?_
      rintro q w5 ⟨rfl, k5⟩
      go_wp2_with fail
      go_ret
      exact ⟨rfl, K4.trans k5 (by simp)⟩
    | false =>
      go_wp2_with fail
      refine hqe.mono ?_
      rintro q w3 ⟨k3, hq3⟩
      rw [if_neg (by rw [hvl]; simp)] at hq3
      subst hq3
      have hqa := awk_any w3
      have hy3 := k3.blk hy (by simp)
      have K3 := HKO2.out.trans k3 (by simp)
      have hf3 := hfit.keeps k3
      clear hqe d0 d1 d2 d3 d4 d5 d6 d7 d8 df dl k3 hy hfit
      go_wp2_with fail
      refine hqa.mono ?_
      rintro q w4 ⟨rfl, k4⟩
      have hy4 := k4.blk hy3 (by simp)
      have K4 := K3.trans k4 (by simp)
      have hqv := valid_any w4 y (hf3.keeps k4).ok hf3.sz
      rw [hvl] at hqv
      obtain ⟨d0, d1, d2, d3, d4, d5, d6, d7, d8, df, dl⟩ := hy4.o9
      have HVL := Lib.hid hvl
      clear hqa k4 hvl hy3
      go_wp2_with fail
      refine hqv.mono ?_
      rintro q w5 ⟨rfl, k5⟩
      go_wp2_with fail
      go_ret
      exact ⟨rfl, K4.trans k5 (by simp)⟩
end Go.Proofs.Ytkgmgnfcmnhhaaa
