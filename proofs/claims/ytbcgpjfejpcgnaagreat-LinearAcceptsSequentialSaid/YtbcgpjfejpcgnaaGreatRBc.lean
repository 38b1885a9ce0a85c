/- Lemmas on the way to LinearAcceptsSequential. No condition. -/
import Derived.Test.YtbcgpjfejpcgnaaGreatRBb
import Derived.Deep.RegionHeld3
import Derived.Deep.CutRange
set_option linter.unusedSimpArgs false
set_option linter.unusedVariables false
set_option linter.unusedSectionVars false
section
namespace Go.Proofs.YtbcgpjfejpcgnaaGreat
open Go.RowKit Go.Maps Go.MapKept Go.ChangeMaps
set_option maxRecDepth 100000
set_option linter.unusedSimpArgs false
set_option linter.unusedVariables false
set_option linter.unusedSectionVars false
variable {w w' : World} {base p m ns nc N : Nat} {Q : List Nat} {s : WS}
theorem Inv.cuT {n : Nat} (h : Inv n s) {t c : Nat} {k : CuE} (hk : cuF s.Cs t c = some k) : ∃ q, snF s.Ss t k.j = some q ∧ q.T = k.T ∧ k.j < 8 := by
  obtain ⟨h1, rfl, rfl⟩ := cuF_some hk
  obtain ⟨_, _, _, q, hq, e1, e2, e3⟩ := h.bC k h1
  obtain ⟨r, hr⟩ : ∃ r, snF s.Ss k.t k.j = r := ⟨_, rfl⟩
  cases r with
  | none => exact absurd ⟨e1, e2⟩ (snF_none hr q hq)
  | some q' =>
    obtain ⟨m1, m2, m3⟩ := snF_some hr
    obtain ⟨i, hi⟩ := List.mem_iff_getElem?.1 hq
    obtain ⟨j, hj⟩ := List.mem_iff_getElem?.1 m1
    have := pair_uniq h.dS (fun p q h => ⟨h.1.symm, h.2.symm⟩) hi hj ⟨e1.trans m2.symm, e2.trans m3.symm⟩
    subst this
    rw [hi] at hj
    have e4 := Option.some.inj hj
    subst e4
    exact ⟨q, hr, e3, by rw [← e2]; exact (h.bS q hq).2.1⟩
def scrW (s : WS) (x : RX) : An × WS := if x.code = 8 then ((cloW s x).1, (cloW s x).2.2) else ((movW s x).1, (movW s x).2.2)
set_option maxHeartbeats 8000000 in
theorem pscroll0 (h : PR w base p m ns nc Q N s) {n : Nat} (hi : Inv n s) (hn : n ≤ 99) (hN : N ≤ 10000) (x : RX) (hx : OkX x) (hcd : x.code = 7 ∨ x.code = 8) :
    Calls Tryz.prog 69 #[.pointer (some ⟨p, 0, none⟩), .int .i64 (x.t : Int), .agg #[.int .i64 (x.code : Int), .string ⟨x.key.toArray⟩, .int .u64 (x.time : Int), .slice x.bA x.b.length x.bc, .int .i64 (x.hd : Int), .int .i64 (x.cu : Int), .int .i64 (x.mo : Int)]] w (PoP w base p m ns nc (Q ++ [w.heap.size, w.heap.size + 1, w.heap.size + 1 + 1]) (N + 1) (scrW s x)) := by
  have K := (((Keeps.refl [] w).alloc (.cells #[.int .i64 (x.code : Int), .string ⟨x.key.toArray⟩, .int .u64 (x.time : Int), .slice x.bA x.b.length x.bc, .int .i64 (x.hd : Int), .int .i64 (x.cu : Int), .int .i64 (x.mo : Int)] 29)).alloc (.cells #[.int .i64 0, .int .u64 0, .string ⟨#[]⟩, .string ⟨#[]⟩] 32)).alloc (.cells #[.int .i64 (x.t : Int), .int .i64 (x.cu : Int)] 117)
  have bO := ((Blk.new w [.int .i64 (x.code : Int), .string ⟨x.key.toArray⟩, .int .u64 (x.time : Int), .slice x.bA x.b.length x.bc, .int .i64 (x.hd : Int), .int .i64 (x.cu : Int), .int .i64 (x.mo : Int)] 29).alloc (.cells #[.int .i64 0, .int .u64 0, .string ⟨#[]⟩, .string ⟨#[]⟩] 32)).alloc (.cells #[.int .i64 (x.t : Int), .int .i64 (x.cu : Int)] 117)
  have bA := (Blk.new_at (w.alloc (.cells #[.int .i64 (x.code : Int), .string ⟨x.key.toArray⟩, .int .u64 (x.time : Int), .slice x.bA x.b.length x.bc, .int .i64 (x.hd : Int), .int .i64 (x.cu : Int), .int .i64 (x.mo : Int)] 29)) (w.heap.size + 1) [.int .i64 0, .int .u64 0, .string ⟨#[]⟩, .string ⟨#[]⟩] 32 (by simp)).alloc (.cells #[.int .i64 (x.t : Int), .int .i64 (x.cu : Int)] 117)
  have bC := Blk.new_at ((w.alloc (.cells #[.int .i64 (x.code : Int), .string ⟨x.key.toArray⟩, .int .u64 (x.time : Int), .slice x.bA x.b.length x.bc, .int .i64 (x.hd : Int), .int .i64 (x.cu : Int), .int .i64 (x.mo : Int)] 29)).alloc (.cells #[.int .i64 0, .int .u64 0, .string ⟨#[]⟩, .string ⟨#[]⟩] 32)) (w.heap.size + 1 + 1) [.int .i64 (x.t : Int), .int .i64 (x.cu : Int)] 117 (by simp)
  obtain ⟨W, hW⟩ : ∃ W, W = ((w.alloc (.cells #[.int .i64 (x.code : Int), .string ⟨x.key.toArray⟩, .int .u64 (x.time : Int), .slice x.bA x.b.length x.bc, .int .i64 (x.hd : Int), .int .i64 (x.cu : Int), .int .i64 (x.mo : Int)] 29)).alloc (.cells #[.int .i64 0, .int .u64 0, .string ⟨#[]⟩, .string ⟨#[]⟩] 32)).alloc (.cells #[.int .i64 (x.t : Int), .int .i64 (x.cu : Int)] 117) := ⟨_, rfl⟩
  rw [← hW] at K bO bA bC
  have hsz := h.nel
  have hR := h.addQ K (L := [w.heap.size, w.heap.size + 1, w.heap.size + 1 + 1]) (by have := bC.lt; intro g hg; simp at hg; omega)
  have HW := Lib.hid hW
  obtain ⟨RR, hRR⟩ : ∃ RR, scrW s x = RR := ⟨_, rfl⟩
  rw [hRR]
  have HR := Lib.hid hRR
  obtain ⟨cu, hcu⟩ : ∃ cu, cuF s.Cs x.t x.cu = cu := ⟨_, rfl⟩
  have Hcu := Lib.hid hcu
  have Hcd := Lib.hid hcd
  have hlk := (hR.cu.keeps ((Keeps.refl [] W).drew) (by simp)).look hi.bdC hx.t hx.cu cu hcu
  have hlk2 := (hR.cu.keeps (((Keeps.refl [] W).alloc (.cells #[.int .i64 0, .int .i64 0, .string ⟨#[]⟩] 123)).drew) (by simp)).look hi.bdC hx.t hx.cu cu hcu
  obtain ⟨z0, z1, z2, zf, zl⟩ := hR.hp.o3
  obtain ⟨c0, c1, cf, cl⟩ := bC.o2
  have HZ := Lib.hid (And.intro K (And.intro bO (And.intro bA (And.intro bC hR))))
  clear hR h hRR hW K bO bA bC hcu hcd
  go_enter Tryz.func69, Tryz.ntmps69
  go_upto_region 2 with fail
  rw [← HW.out]
  go_cut [8, 9] from 10 to 27 (fun s8 s9 wx => ∃ g8 : Nat, s8 = .pointer (some ⟨g8, 0, none⟩) ∧ s9 = .bool cu.isSome ∧ Blk wx g8 [.int .i64 ((cu.getD cuZ).j : Int), .int .i64 ((cu.getD cuZ).pl : Int), .string ⟨(cu.getD cuZ).key.toArray⟩] ∧ W.heap.size ≤ g8 ∧ Keeps [] W wx)
  case first =>
    go_region
    all_goals
      go_wp2_with fail
      go_meet
      first
        | exact ⟨_, rfl, rfl, Blk.new_at W.drew W.heap.size [.int .i64 ((cu.getD cuZ).j : Int), .int .i64 ((cu.getD cuZ).pl : Int), .string ⟨(cu.getD cuZ).key.toArray⟩] 123 (by simp), Nat.le_refl _, ((Keeps.refl [] W).drew).alloc _⟩
        | exact ⟨_, rfl, rfl, (Blk.new W [.int .i64 ((cu.getD cuZ).j : Int), .int .i64 ((cu.getD cuZ).pl : Int), .string ⟨(cu.getD cuZ).key.toArray⟩] 123).drew, Nat.le_refl _, ((Keeps.refl [] W).alloc _).drew⟩
  case rest =>
  obtain ⟨g8, rfl, rfl, b8, hg8, kc⟩ := hcut
  obtain ⟨K0, bO0, bA0, bC0, hR0⟩ := HZ.out
  obtain ⟨w1, hw1⟩ : ∃ w1, w1 = wc := ⟨_, rfl⟩
  rw [← hw1] at b8 kc ⊢
  have J0 := Keeps.refl [] W
  have HR0 := Lib.hid hR0
  have K1 := K0.trans kc (by simp)
  have bO1 := kc.blk bO0 (by simp)
  have bA1 := kc.blk bA0 (by simp)
  have bC1 := kc.blk bC0 (by simp)
  have hR1 := hR0.keeps kc
  have J1 := J0.trans kc (by simp)
  have hcl := bC0.lt
  clear K0 bO0 bA0 bC0 hR0 z0 z1 z2 zf zl c0 c1 cf cl hlk hlk2 HW hw1
  cases cu with
  | none =>
    have hRv : RR = (errA 6, s) := by
      rw [← HR.out]; unfold scrW cloW movW; rw [Hcu.out]
      split <;> rfl
    have HRv := Lib.hid hRv
    obtain ⟨bS, kS⟩ := bA1.set4 (.int .i64 6) (.int .u64 0) (.string ⟨#[]⟩) (.string ⟨#[]⟩)
    obtain ⟨o0, o1, o2, o3, o4, o5⟩ := bA1.o4
    have HX := Lib.hid (And.intro (hR1.fresh0 hsz kS (by omega) o5) ((show Kq base (Q ++ [w.heap.size, w.heap.size + 1, w.heap.size + 1 + 1]) ns nc w _ from Kq.of K1).fresh kS (by omega)))
    have HbS := Lib.hid bS
    clear bS kS
    clear K1 bO1 bA1 bC1 hR1 HZ hRv kc b8
    go_wp2_with fail
    refine bodyPost_ret (O.results_blk rfl _ _ (w.heap.size + 1) [.int .i64 6, .int .u64 0, .string ⟨#[]⟩, .string ⟨#[]⟩] _ rfl HbS.out Tryz.underlying32 sizAn) rfl ?_
    exact ⟨by first | (rw [HRv.out]; rfl) | rw [HRv.out], by rw [HRv.out]; exact HX.out.1.mono (by omega), HX.out.2⟩
  | some k =>
    obtain ⟨q, hsn, hqT, hkj⟩ := hi.cuT Hcu.out
    have hb8 : Blk w1 g8 [.int .i64 (k.j : Int), .int .i64 (k.pl : Int), .string ⟨k.key.toArray⟩] := b8
    have hget := (hR1.sn.keeps ((Keeps.refl [] w1).drew) (by simp)).get hi.bdS hx.t hkj (some q) hsn
    have hgT : (snT (some q) : Int) = (k.T : Int) := by show (q.T : Int) = _; rw [hqT]
    rw [hgT] at hget
    obtain ⟨z0, z1, z2, zf, zl⟩ := hR1.hp.o3
    obtain ⟨e0, e1, e2, ef, el⟩ := hb8.o3
    have p0 : w1.cell? ⟨w.heap.size, 0, none⟩ = some (.int .i64 (x.code : Int)) := bO1.cell 0
    have p1 : w1.cell? ⟨w.heap.size, 1, none⟩ = some (.string ⟨x.key.toArray⟩) := bO1.cell 1
    have p6 : w1.cell? ⟨w.heap.size, 6, none⟩ = some (.int .i64 (x.mo : Int)) := bO1.cell 6
    have pl := bO1.lt
    clear b8 hgT
    go_upto_region 5 with fail
    go_cut [10] from 30 to 39 (fun s10 wx => s10 = .int .u64 (k.T : Int) ∧ Keeps [] w1 wx)
    case first =>
      go_region
      all_goals
        go_wp2_with fail
        go_meet
        exact ⟨rfl, (Keeps.refl [] w1).drew⟩
    case rest =>
    obtain ⟨rfl, kc2⟩ := hcut
    obtain ⟨w2, hw2⟩ : ∃ w2, w2 = wc := ⟨_, rfl⟩
    rw [← hw2] at kc2 ⊢
    have K2 := K1.trans kc2 (by simp)
    have bO2 := kc2.blk bO1 (by simp)
    have bA2 := kc2.blk bA1 (by simp)
    have bC2 := kc2.blk bC1 (by simp)
    have hR2 := hR1.keeps kc2
    have J2 := J1.trans kc2 (by simp)
    have b82 := kc2.blk hb8 (by simp)
    have hg82 : W.heap.size ≤ g8 := hg8
    have hWs : w.heap.size + 1 + 1 < W.heap.size := hcl
    clear K1 bO1 bA1 bC1 hR1 z0 z1 z2 zf zl e0 e1 e2 ef el p0 p1 p6 pl hget hb8 hw2 kc kc2 hg8 HZ
    have p0 : w2.cell? ⟨w.heap.size, 0, none⟩ = some (.int .i64 (x.code : Int)) := bO2.cell 0
    have pl := bO2.lt
    by_cases h8 : x.code = 8
    · have e8 : ((x.code : Int) == 8) = true := by rw [beq_iff_eq]; omega
      have hRv : RR = (okA k.T, ⟨s.Bs, s.F, s.Ss, s.Cs.filter (fun p => !isC x.t x.cu p)⟩) := by rw [← HR.out]; unfold scrW cloW; rw [if_pos h8, Hcu.out]
      have HRv := Lib.hid hRv
      obtain ⟨w5, hrun0, hC5, k5⟩ := (hR2.cu.keeps ((Keeps.refl [] w2).drew) (by simp)).del hi.bdC hx.t hx.cu 0
      have hrun : ∀ ty, (Builtin.delete_ #[78, 117] ty #[.map (some nc), .agg #[.int .i64 (x.t : Int), .int .i64 (x.cu : Int)]]).run Tryz.prog w2.drew = .ok (.tuple #[]) w5 := fun ty => hrun0
      obtain ⟨z0, z1, z2, zf, zl⟩ := hR2.hp.o3
      obtain ⟨c0, c1, cf, cl⟩ := bC2.o2
      have kd := (Keeps.refl [] w2).drew
      have hR5 : PR w5 base p m ns nc (Q ++ [w.heap.size, w.heap.size + 1, w.heap.size + 1 + 1]) (N + 1) ⟨s.Bs, s.F, s.Ss, s.Cs.filter (fun p => !isC x.t x.cu p)⟩ := by
        have hR3 := hR2.keeps kd
        have hpn := (hR3.nep hR3.hp).2
        exact ⟨k5.blk hR3.hp (by simpa using hpn), (hR3.mo.beside k5 (by intro i hi'; simp at hi'; subst hi'; exact hR3.q.2.2)).mono (by omega), (hR3.sn.keeps k5 (by simpa using hR3.ne)).mono (by omega), hC5.mono (by omega), hR3.q, hR3.ne, hR3.ge⟩
      have bA5 := k5.blk (kd.blk bA2 (by simp)) (by simp; omega)
      have kq5 : Kq base (Q ++ [w.heap.size, w.heap.size + 1, w.heap.size + 1 + 1]) ns nc w w5 := (Kq.of (K2.trans kd (by simp))).trans (Kq.ofc k5 hR2.ge.2)
      obtain ⟨bS, kS⟩ := bA5.set4 (.int .i64 0) (.int .u64 (k.T : Int)) (.string ⟨#[]⟩) (.string ⟨#[]⟩)
      obtain ⟨o0, o1, o2, o3, o4, o5⟩ := bA5.o4
      have HX := Lib.hid (And.intro (hR5.fresh0 hsz kS (by omega) o5) ((show Kq base (Q ++ [w.heap.size, w.heap.size + 1, w.heap.size + 1 + 1]) ns nc w _ from kq5).fresh kS (by omega)))
      have HbS := Lib.hid bS
      clear bS kS
      clear K2 bO2 bA2 bC2 hR2 hRv kd hR5 bA5 kq5 hC5 k5 hrun0 b82 h8 hqT hsn
      go_wp2_with fail
      go_region
      all_goals
        go_wp2_with fail
        refine bodyPost_ret (O.results_blk rfl _ _ (w.heap.size + 1) [.int .i64 0, .int .u64 (k.T : Int), .string ⟨#[]⟩, .string ⟨#[]⟩] _ rfl HbS.out Tryz.underlying32 sizAn) rfl ?_
        exact ⟨by first | (rw [HRv.out]; rfl) | rw [HRv.out], by rw [HRv.out]; exact HX.out.1, HX.out.2⟩
    · have e8 : ((x.code : Int) == 8) = false := by rw [beq_eq_false_iff_ne]; omega
      have hRm : RR = ((movW s x).1, (movW s x).2.2) := by rw [← HR.out]; unfold scrW; rw [if_neg h8]
      have p1 : w2.cell? ⟨w.heap.size, 1, none⟩ = some (.string ⟨x.key.toArray⟩) := bO2.cell 1
      go_wp2_with fail
      refine (kvalidK_any _ _).mono ?_
      rintro e w4 ⟨rfl, hw4⟩
      have hw4' := hw4.symm
      subst hw4'
      clear hw4
      by_cases hk : 32 < x.key.length
      · have hRv : RR = (errA 8, s) := by rw [hRm]; unfold movW; rw [Hcu.out]; simp only; rw [if_pos hk]
        have HRv := Lib.hid hRv
        have hk' : decide (x.key.length ≤ 32) = false := decide_eq_false (by omega)
        obtain ⟨bS, kS⟩ := bA2.set4 (.int .i64 8) (.int .u64 0) (.string ⟨#[]⟩) (.string ⟨#[]⟩)
        obtain ⟨o0, o1, o2, o3, o4, o5⟩ := bA2.o4
        have HX := Lib.hid (And.intro (hR2.fresh0 hsz kS (by omega) o5) ((show Kq base (Q ++ [w.heap.size, w.heap.size + 1, w.heap.size + 1 + 1]) ns nc w _ from Kq.of K2).fresh kS (by omega)))
        have HbS := Lib.hid bS
        clear bS kS
        clear K2 bO2 bA2 bC2 hR2 hRv hRm b82 h8 hqT hsn hk
        go_wp2_with fail
        refine bodyPost_ret (O.results_blk rfl _ _ (w.heap.size + 1) [.int .i64 8, .int .u64 0, .string ⟨#[]⟩, .string ⟨#[]⟩] _ rfl HbS.out Tryz.underlying32 sizAn) rfl ?_
        exact ⟨by first | (rw [HRv.out]; rfl) | rw [HRv.out], by rw [HRv.out]; exact HX.out.1.mono (by omega), HX.out.2⟩
      · have hk' : decide (x.key.length ≤ 32) = true := decide_eq_true (by omega)
        have hbk := hi.bC k (cuF_some Hcu.out).1
        have hlist := hR2.mo.list (by have := hi.nB; omega) hi.b16 k.T (by have := hi.nB; omega)
        have hll : (lstAt s.Bs k.T).length ≤ 4000 := by have := (lstAt_len hi.b16 k.T).1; have := hi.nB; omega
        have hla := lstAt_asc s.Bs k.T
        obtain ⟨l, hl⟩ : ∃ l, lstAt s.Bs k.T = l := ⟨_, rfl⟩
        have hmv : RR = ((moved l k.T (spot l k.pl k.key x.mo x.key)).1, ⟨s.Bs, s.F, s.Ss, putC s.Cs x.t x.cu (moved l k.T (spot l k.pl k.key x.mo x.key)).2.1 (moved l k.T (spot l k.pl k.key x.mo x.key)).2.2⟩) := by
          rw [hRm, ← hl]; unfold movW; rw [Hcu.out]; simp only; rw [if_neg hk]
        rw [hl] at hlist hll hla
        have Hmv := Lib.hid hmv
        obtain ⟨z0, z1, z2, zf, zl⟩ := hR2.hp.o3
        clear hRm hmv hl h8 hk hqT hsn
        go_wp2_with fail
        refine hlist.mono ?_
        rintro e w3 ⟨v, rfl, hov, k3⟩
        have K3 := K2.trans k3 (by simp)
        have bO3 := k3.blk bO2 (by simp)
        have bA3 := k3.blk bA2 (by simp)
        have bC3 := k3.blk bC2 (by simp)
        have hR3 := hR2.keeps k3
        have J3 := J2.trans k3 (by simp)
        have b83 := k3.blk b82 (by simp)
        have htg := target_any l hla hll w2.heap.size v w3 hov k.pl hbk.2.2.1 k.key x.mo hx.mo x.key
        obtain ⟨i, hi0⟩ : ∃ i, spot l k.pl k.key x.mo x.key = i := ⟨_, rfl⟩
        rw [hi0] at htg Hmv
        obtain ⟨z, hz⟩ : ∃ z : Int, (i : Int) - 1 = z := ⟨_, rfl⟩
        rw [hz] at htg
        obtain ⟨e0, e1, e2, ef, el⟩ := b83.o3
        have q1 : w3.cell? ⟨w.heap.size, 1, none⟩ = some (.string ⟨x.key.toArray⟩) := bO3.cell 1
        have q6 : w3.cell? ⟨w.heap.size, 6, none⟩ = some (.int .i64 (x.mo : Int)) := bO3.cell 6
        have ql := bO3.lt
        have HB3 := Lib.hid (And.intro K3 (And.intro bO3 (And.intro bA3 (And.intro bC3 (And.intro hR3 (And.intro b83 hov))))))
        clear K2 bO2 bA2 bC2 hR2 b82 z0 z1 z2 zf zl p0 p1 pl hlist K3 bO3 bA3 bC3 hR3 b83 hov k3 hi0 hla hbk
        go_wp2_with fail
        refine htg.mono ?_
        rintro e w4 ⟨rfl, k4⟩
        obtain ⟨K3, bO3, bA3, bC3, hR3, b83, hov⟩ := HB3.out
        have K4 := K3.trans k4 (by simp)
        have bO4 := k4.blk bO3 (by simp)
        have bA4 := k4.blk bA3 (by simp)
        have bC4 := k4.blk bC3 (by simp)
        have hR4 := hR3.keeps k4
        have J4 := J3.trans k4 (by simp)
        have b84 := k4.blk b83 (by simp)
        have hov4 := hov.keeps k4 (by simp)
        clear K3 bO3 bA3 bC3 hR3 b83 hov e0 e1 e2 ef el q1 q6 ql htg k4
        obtain ⟨vA, vc, rfl, _⟩ := id hov4.len
        obtain ⟨ln, hln⟩ : ∃ ln, l.length = ln := ⟨_, rfl⟩
        rw [hln] at hll
        rw [hln]
        have Hln := Lib.hid hln
        have b8l : g8 < w4.heap.size := b84.lt
        clear hln
        go_upto_region 13 with fail
        go_cut [13] from 68 to 70 (fun s13 wx => ∃ g13 : Nat, s13 = .pointer (some ⟨g13, 0, none⟩) ∧ w4.heap.size ≤ g13 ∧ Blk wx g13 [.int .i64 10, .int .u64 (k.T : Int), .string ⟨#[]⟩, .string ⟨#[]⟩] ∧ Keeps [] w4 wx)
        case first =>
          go_wp2_with fail
          go_meet
          exact ⟨_, rfl, Nat.le_refl _, Blk.new w4 [.int .i64 10, .int .u64 (k.T : Int), .string ⟨#[]⟩, .string ⟨#[]⟩] 32, (Keeps.refl [] w4).alloc _⟩
        case rest =>
        obtain ⟨g13, rfl, hg13, b13, kN⟩ := hcut
        obtain ⟨w5, hw5⟩ : ∃ w5, w5 = wc := ⟨_, rfl⟩
        rw [← hw5] at b13 kN ⊢
        clear hw5
        have K5 := K4.trans kN (by simp)
        have bO5 := kN.blk bO4 (by simp)
        have bA5 := kN.blk bA4 (by simp)
        have bC5 := kN.blk bC4 (by simp)
        have hR5 := hR4.keeps kN
        have J5 := J4.trans kN (by simp)
        have b85 := kN.blk b84 (by simp)
        have hov5 := hov4.keeps kN (by simp)
        have h13l := b13.lt
        clear K4 bO4 bA4 bC4 hR4 b84 hov4 kN
        rcases (show z = -1 ∨ ((ln : Int) ≤ z ∧ 0 ≤ z) ∨ (0 ≤ z ∧ z < (ln : Int)) by omega) with hzz | hzz | hzz
        · have hi1 : i = 0 := by omega
          have hRv : RR = (⟨10, k.T, [], []⟩, ⟨s.Bs, s.F, s.Ss, putC s.Cs x.t x.cu 0 []⟩) := by rw [Hmv.out, hi1]; rfl
          have HRv := Lib.hid hRv
          subst hzz
          obtain ⟨wP, hwP⟩ : ∃ wP, wP = (w5.setCell ⟨g8, 1, none⟩ (.int .i64 0)).setCell ⟨g8, 2, none⟩ (.string ⟨#[]⟩) := ⟨_, rfl⟩
          have HwP := Lib.hid hwP
          have kP : Keeps [g8] w5 wP := by rw [hwP]; exact ((Keeps.refl [g8] w5).setCell _ _ (.inl (by simp))).setCell _ _ (.inl (by simp))
          have b8P : Blk wP g8 [.int .i64 (k.j : Int), .int .i64 0, .string ⟨#[]⟩] := by rw [hwP]; exact (b85.set 1 _).set 2 _
          have hRP := HR0.out.fresh J5 kP hg82 b85.lt
          have bAP := kP.blk bA5 (by simp; omega)
          have bCP := kP.blk bC5 (by simp; omega)
          have b13P := kP.blk b13 (by simp; omega)
          have kqP : Kq base (Q ++ [w.heap.size, w.heap.size + 1, w.heap.size + 1 + 1]) ns nc w wP := (Kq.of K5).fresh kP (by omega)
          obtain ⟨e0, e1, e2, ef, el⟩ := b85.o3
          have HE := Lib.hid (And.intro e0 (And.intro e1 e2))
          clear hi1 hz hRv hwP kP
          obtain ⟨w6, hrun0, hC6, k6⟩ := (hRP.cu.keeps ((Keeps.refl [] wP).drew) (by simp)).put_old hi.bdC (by omega) hx.t hx.cu 0 [] Hcu.out
          have hrun : (Instr.mapUpdate 78 (.map (some nc)) (.agg #[.int .i64 (x.t : Int), .int .i64 (x.cu : Int)]) (.agg #[.int .i64 (k.j : Int), .int .i64 0, .string ⟨#[]⟩])).run Tryz.prog wP.drew = .ok () w6 := hrun0
          obtain ⟨z0, z1, z2, zf, zl⟩ := hRP.hp.o3
          obtain ⟨c0, c1, cf, cl⟩ := bCP.o2
          obtain ⟨e0, e1, e2, ef, el⟩ := b8P.o3
          have kd := (Keeps.refl [] wP).drew
          have nc13 := (hRP.nep b13P).2
          have hR6 : PR w6 base p m ns nc (Q ++ [w.heap.size, w.heap.size + 1, w.heap.size + 1 + 1]) (N + 1) ⟨s.Bs, s.F, s.Ss, putC s.Cs x.t x.cu 0 []⟩ := by
            have hR3 := hRP.keeps kd
            have hpn := (hR3.nep hR3.hp).2
            exact ⟨k6.blk hR3.hp (by simpa using hpn), (hR3.mo.beside k6 (by intro i hi'; simp at hi'; subst hi'; exact hR3.q.2.2)).mono (by omega), (hR3.sn.keeps k6 (by simpa using hR3.ne)).mono (by omega), hC6, hR3.q, hR3.ne, hR3.ge⟩
          have bA6 := k6.blk (kd.blk bAP (by simp)) (by simp; omega)
          have b136 := k6.blk (kd.blk b13P (by simp)) (by simpa using nc13)
          have kq6 : Kq base (Q ++ [w.heap.size, w.heap.size + 1, w.heap.size + 1 + 1]) ns nc w w6 := (kqP.trans (Kq.of kd)).trans (Kq.ofc k6 hRP.ge.2)
          obtain ⟨y0, y1, y2, y3, yf, yl⟩ := b136.o4
          obtain ⟨bS, kS⟩ := bA6.set4 (.int .i64 10) (.int .u64 (k.T : Int)) (.string ⟨#[]⟩) (.string ⟨#[]⟩)
          obtain ⟨o0, o1, o2, o3, o4, o5⟩ := bA6.o4
          have HX := Lib.hid (And.intro (hR6.fresh0 hsz kS (by omega) o5) ((show Kq base (Q ++ [w.heap.size, w.heap.size + 1, w.heap.size + 1 + 1]) ns nc w _ from kq6).fresh kS (by omega)))
          have HbS := Lib.hid bS
          clear bS kS
          clear hrun0 nc13 hR6 bA6 b136 kq6 hC6 k6 kd hRP bCP b8P bAP b13P kqP
          go_upto_region 20 with fail
          rw [← HwP.out]
          go_wp2_with fail
          go_region
          all_goals
            go_wp2_with fail
            refine bodyPost_ret (O.results_blk rfl _ _ (w.heap.size + 1) [.int .i64 10, .int .u64 (k.T : Int), .string ⟨#[]⟩, .string ⟨#[]⟩] _ rfl HbS.out Tryz.underlying32 sizAn) rfl ?_
            exact ⟨by first | (rw [HRv.out]; rfl) | rw [HRv.out], by rw [HRv.out]; exact HX.out.1, HX.out.2⟩
        · obtain ⟨hz1, hz2⟩ := hzz
          have hmd : moved l k.T i = (⟨10, k.T, [], []⟩, 2, []) := by
            unfold moved
            rw [if_neg (by omega), List.getElem?_eq_none (by rw [Hln.out]; omega)]
          have hRv : RR = (⟨10, k.T, [], []⟩, ⟨s.Bs, s.F, s.Ss, putC s.Cs x.t x.cu 2 []⟩) := by rw [Hmv.out, hmd]
          have HRv := Lib.hid hRv
          have hz3 : ¬ z < 0 := by omega
          obtain ⟨wP, hwP⟩ : ∃ wP, wP = (w5.setCell ⟨g8, 1, none⟩ (.int .i64 2)).setCell ⟨g8, 2, none⟩ (.string ⟨#[]⟩) := ⟨_, rfl⟩
          have HwP := Lib.hid hwP
          have kP : Keeps [g8] w5 wP := by rw [hwP]; exact ((Keeps.refl [g8] w5).setCell _ _ (.inl (by simp))).setCell _ _ (.inl (by simp))
          have b8P : Blk wP g8 [.int .i64 (k.j : Int), .int .i64 2, .string ⟨#[]⟩] := by rw [hwP]; exact (b85.set 1 _).set 2 _
          have hRP := HR0.out.fresh J5 kP hg82 b85.lt
          have bAP := kP.blk bA5 (by simp; omega)
          have bCP := kP.blk bC5 (by simp; omega)
          have b13P := kP.blk b13 (by simp; omega)
          have kqP : Kq base (Q ++ [w.heap.size, w.heap.size + 1, w.heap.size + 1 + 1]) ns nc w wP := (Kq.of K5).fresh kP (by omega)
          obtain ⟨e0, e1, e2, ef, el⟩ := b85.o3
          have HE := Lib.hid (And.intro e0 (And.intro e1 e2))
          clear hmd hz hRv hwP kP
          obtain ⟨w6, hrun0, hC6, k6⟩ := (hRP.cu.keeps ((Keeps.refl [] wP).drew) (by simp)).put_old hi.bdC (by omega) hx.t hx.cu 2 [] Hcu.out
          have hrun : (Instr.mapUpdate 78 (.map (some nc)) (.agg #[.int .i64 (x.t : Int), .int .i64 (x.cu : Int)]) (.agg #[.int .i64 (k.j : Int), .int .i64 2, .string ⟨#[]⟩])).run Tryz.prog wP.drew = .ok () w6 := hrun0
          obtain ⟨z0, z1, z2, zf, zl⟩ := hRP.hp.o3
          obtain ⟨c0, c1, cf, cl⟩ := bCP.o2
          obtain ⟨e0, e1, e2, ef, el⟩ := b8P.o3
          have kd := (Keeps.refl [] wP).drew
          have nc13 := (hRP.nep b13P).2
          have hR6 : PR w6 base p m ns nc (Q ++ [w.heap.size, w.heap.size + 1, w.heap.size + 1 + 1]) (N + 1) ⟨s.Bs, s.F, s.Ss, putC s.Cs x.t x.cu 2 []⟩ := by
            have hR3 := hRP.keeps kd
            have hpn := (hR3.nep hR3.hp).2
            exact ⟨k6.blk hR3.hp (by simpa using hpn), (hR3.mo.beside k6 (by intro i hi'; simp at hi'; subst hi'; exact hR3.q.2.2)).mono (by omega), (hR3.sn.keeps k6 (by simpa using hR3.ne)).mono (by omega), hC6, hR3.q, hR3.ne, hR3.ge⟩
          have bA6 := k6.blk (kd.blk bAP (by simp)) (by simp; omega)
          have b136 := k6.blk (kd.blk b13P (by simp)) (by simpa using nc13)
          have kq6 : Kq base (Q ++ [w.heap.size, w.heap.size + 1, w.heap.size + 1 + 1]) ns nc w w6 := (kqP.trans (Kq.of kd)).trans (Kq.ofc k6 hRP.ge.2)
          obtain ⟨y0, y1, y2, y3, yf, yl⟩ := b136.o4
          obtain ⟨bS, kS⟩ := bA6.set4 (.int .i64 10) (.int .u64 (k.T : Int)) (.string ⟨#[]⟩) (.string ⟨#[]⟩)
          obtain ⟨o0, o1, o2, o3, o4, o5⟩ := bA6.o4
          have HX := Lib.hid (And.intro (hR6.fresh0 hsz kS (by omega) o5) ((show Kq base (Q ++ [w.heap.size, w.heap.size + 1, w.heap.size + 1 + 1]) ns nc w _ from kq6).fresh kS (by omega)))
          have HbS := Lib.hid bS
          clear bS kS
          clear hrun0 nc13 hR6 bA6 b136 kq6 hC6 k6 kd hRP bCP b8P bAP b13P kqP
          go_upto_region 20 with fail
          rw [← HwP.out]
          go_wp2_with fail
          go_region
          all_goals
            go_wp2_with fail
            refine bodyPost_ret (O.results_blk rfl _ _ (w.heap.size + 1) [.int .i64 10, .int .u64 (k.T : Int), .string ⟨#[]⟩, .string ⟨#[]⟩] _ rfl HbS.out Tryz.underlying32 sizAn) rfl ?_
            exact ⟨by first | (rw [HRv.out]; rfl) | rw [HRv.out], by rw [HRv.out]; exact HX.out.1, HX.out.2⟩
        · obtain ⟨hz1, hz2⟩ := hzz
          obtain ⟨y, rfl⟩ : ∃ y : Nat, z = (y : Int) := ⟨z.toNat, by omega⟩
          obtain ⟨e, he⟩ : ∃ e, l[y]? = some e := ⟨_, List.getElem?_eq_getElem (by rw [Hln.out]; omega)⟩
          have hmd : moved l k.T i = (⟨0, k.T, e.k, e.v⟩, 1, e.k) := by
            unfold moved
            rw [if_neg (by omega), show i - 1 = y by omega, he]
          have hRv : RR = (⟨0, k.T, e.k, e.v⟩, ⟨s.Bs, s.F, s.Ss, putC s.Cs x.t x.cu 1 e.k⟩) := by rw [Hmv.out, hmd]
          have HRv := Lib.hid hRv
          have hz3 : ¬ (y : Int) < 0 := by omega
          have hz4 : ¬ (ln : Int) ≤ (y : Int) := by omega
          obtain ⟨_, hl0⟩ | ⟨gl, gc, rst, hvl, hbl, _⟩ := id hov5
          · rw [hl0] at he; simp at he
          have hge : vA = some ⟨gl, 0, none⟩ ∧ vc = gc := by injection hvl with a1 a2 a3; exact ⟨a1, a3⟩
          obtain ⟨rfl, rfl⟩ := hge
          obtain ⟨d0, d1⟩ := eCs_cells l y e he rst
          have f0 := hbl.cell (y * 2)
          have f1 := hbl.cell (y * 2 + 1)
          rw [d0] at f0
          rw [d1] at f1
          have fl := hbl.lt
          have hgl : gl ≠ g8 := by
            rintro rfl
            have := (b85.cell 0).symm.trans (hbl.cell 0)
            obtain ⟨d2, d3⟩ := eCs_cells l 0 (l[0]'(by rw [Hln.out]; omega)) (List.getElem?_eq_getElem _) rst
            simp at this d2
            rw [d2] at this
            simp at this
          obtain ⟨wP, hwP⟩ : ∃ wP, wP = (w5.setCell ⟨g8, 1, none⟩ (.int .i64 1)).setCell ⟨g8, 2, none⟩ (.string ⟨e.k.toArray⟩) := ⟨_, rfl⟩
          have HwP := Lib.hid hwP
          have kP : Keeps [g8] w5 wP := by rw [hwP]; exact ((Keeps.refl [g8] w5).setCell _ _ (.inl (by simp))).setCell _ _ (.inl (by simp))
          have b8P : Blk wP g8 [.int .i64 (k.j : Int), .int .i64 1, .string ⟨e.k.toArray⟩] := by rw [hwP]; exact (b85.set 1 _).set 2 _
          have hRP := HR0.out.fresh J5 kP hg82 b85.lt
          have bAP := kP.blk bA5 (by simp; omega)
          have bCP := kP.blk bC5 (by simp; omega)
          have b13P := kP.blk b13 (by simp; omega)
          have kqP : Kq base (Q ++ [w.heap.size, w.heap.size + 1, w.heap.size + 1 + 1]) ns nc w wP := (Kq.of K5).fresh kP (by omega)
          obtain ⟨e0, e1, e2, ef, el⟩ := b85.o3
          have HE := Lib.hid (And.intro e0 (And.intro e1 e2))
          have f0P : wP.cell? ⟨gl, y * 2, none⟩ = some (.string ⟨e.k.toArray⟩) := kP.cellEq f0 (by simpa using hgl)
          have f1P : wP.cell? ⟨gl, y * 2 + 1, none⟩ = some (.string ⟨e.v.toArray⟩) := kP.cellEq f1 (by simpa using hgl)
          have flP : gl < wP.heap.size := Nat.lt_of_lt_of_le fl kP.size
          have HkP := Lib.hid kP
          have b8l5 := b85.lt
          have hgW13 : W.heap.size ≤ g13 := by omega
          clear hmd hz hRv hwP kP hvl hbl d0 d1 he hov5
          go_upto_region 15 with fail
          rw [← HwP.out]
          obtain ⟨y0, y1, y2, y3, yf, yl⟩ := b13P.o4
          obtain ⟨wR, hwR⟩ : ∃ wR, wR = ((((wP.setCell ⟨g13, 0, none⟩ (.int .i64 0)).setCell ⟨g13, 1, none⟩ (.int .u64 (k.T : Int))).setCell ⟨g13, 2, none⟩ (.string ⟨e.k.toArray⟩)).setCell ⟨g13, 3, none⟩ (.string ⟨e.v.toArray⟩)).drew := ⟨_, rfl⟩
          obtain ⟨bS, kS⟩ := b13P.set4 (.int .i64 0) (.int .u64 (k.T : Int)) (.string ⟨e.k.toArray⟩) (.string ⟨e.v.toArray⟩)
          have b13R : Blk wR g13 [.int .i64 0, .int .u64 (k.T : Int), .string ⟨e.k.toArray⟩, .string ⟨e.v.toArray⟩] := by rw [hwR]; exact bS.drew
          have kR : Keeps [g13] wP wR := by rw [hwR]; exact kS.drew
          have HwR := Lib.hid hwR
          have hRR1 := hRP.addQ13 HR0.out J5 HkP.out kR hg82 b8l5 hgW13 h13l
          have bAR := kR.blk bAP (by simp; omega)
          have bCR := kR.blk bCP (by simp; omega)
          have b8R := kR.blk b8P (by simp; omega)
          have kqR : Kq base (Q ++ [w.heap.size, w.heap.size + 1, w.heap.size + 1 + 1]) ns nc w wR := kqP.fresh kR (by omega)
          have HH := Lib.hid (And.intro b13R (And.intro hRR1 (And.intro bAR (And.intro bCR (And.intro b8R kqR)))))
          clear bS kS b13R kR hRR1 bAR bCR b8R kqR hwR hRP bCP b8P bAP b13P kqP e0 e1 e2 ef el f0 f1 fl
          go_region
          all_goals
            go_upto_region 20 with fail
            rw [← HwR.out]
            obtain ⟨b13P, hRP, bAP, bCP, b8P, kqP⟩ := HH.out
            obtain ⟨w6, hrun0, hC6, k6⟩ := (hRP.cu.keeps ((Keeps.refl [] wR).drew) (by simp)).put_old hi.bdC (by omega) hx.t hx.cu 1 e.k Hcu.out
            have hrun : (Instr.mapUpdate 78 (.map (some nc)) (.agg #[.int .i64 (x.t : Int), .int .i64 (x.cu : Int)]) (.agg #[.int .i64 (k.j : Int), .int .i64 1, .string ⟨e.k.toArray⟩])).run Tryz.prog wR.drew = .ok () w6 := hrun0
            obtain ⟨z0, z1, z2, zf, zl⟩ := hRP.hp.o3
            obtain ⟨c0, c1, cf, cl⟩ := bCP.o2
            obtain ⟨e0, e1, e2, ef, el⟩ := b8P.o3
            have kd := (Keeps.refl [] wR).drew
            have nc13 := (hRP.nep b13P).2
            have hR6 : PR w6 base p m ns nc (Q ++ [w.heap.size, w.heap.size + 1, w.heap.size + 1 + 1]) (N + 1) ⟨s.Bs, s.F, s.Ss, putC s.Cs x.t x.cu 1 e.k⟩ := by
              have hR3 := hRP.keeps kd
              have hpn := (hR3.nep hR3.hp).2
              exact ⟨k6.blk hR3.hp (by simpa using hpn), (hR3.mo.beside k6 (by intro i hi'; simp at hi'; subst hi'; exact hR3.q.2.2)).mono (by omega), (hR3.sn.keeps k6 (by simpa using hR3.ne)).mono (by omega), hC6, hR3.q, hR3.ne, hR3.ge⟩
            have bA6 := k6.blk (kd.blk bAP (by simp)) (by simp; omega)
            have b136 := k6.blk (kd.blk b13P (by simp)) (by simpa using nc13)
            have kq6 : Kq base (Q ++ [w.heap.size, w.heap.size + 1, w.heap.size + 1 + 1]) ns nc w w6 := (kqP.trans (Kq.of kd)).trans (Kq.ofc k6 hRP.ge.2)
            obtain ⟨y0, y1, y2, y3, yf, yl⟩ := b136.o4
            obtain ⟨bS, kS⟩ := bA6.set4 (.int .i64 0) (.int .u64 (k.T : Int)) (.string ⟨e.k.toArray⟩) (.string ⟨e.v.toArray⟩)
            obtain ⟨o0, o1, o2, o3, o4, o5⟩ := bA6.o4
            have HX := Lib.hid (And.intro (hR6.fresh0 hsz kS (by omega) o5) ((show Kq base (Q ++ [w.heap.size, w.heap.size + 1, w.heap.size + 1 + 1]) ns nc w _ from kq6).fresh kS (by omega)))
            have HbS := Lib.hid bS
            clear bS kS
            clear hrun0 nc13 hR6 bA6 b136 kq6 hC6 k6 kd hRP bCP b8P bAP b13P kqP
            go_wp2_with fail
            go_region
            all_goals
              go_wp2_with fail
              refine bodyPost_ret (O.results_blk rfl _ _ (w.heap.size + 1) [.int .i64 0, .int .u64 (k.T : Int), .string ⟨e.k.toArray⟩, .string ⟨e.v.toArray⟩] _ rfl HbS.out Tryz.underlying32 sizAn) rfl ?_
              exact ⟨by first | (rw [HRv.out]; rfl) | rw [HRv.out], by rw [HRv.out]; exact HX.out.1, HX.out.2⟩
theorem pscroll_any (h : PR w base p m ns nc Q N s) {n : Nat} (hi : Inv n s) (hn : n ≤ 99) (hN : N ≤ 10000) (x : RX) (hx : OkX x) (hcd : x.code = 7 ∨ x.code = 8) :
    Calls Tryz.prog 69 #[.pointer (some ⟨p, 0, none⟩), .int .i64 (x.t : Int), .agg #[.int .i64 (x.code : Int), .string ⟨x.key.toArray⟩, .int .u64 (x.time : Int), .slice x.bA x.b.length x.bc, .int .i64 (x.hd : Int), .int .i64 (x.cu : Int), .int .i64 (x.mo : Int)]] w (PoP w base p m ns nc Q (N + 1) (scrW s x)) := by
  refine (pscroll0 h hi hn hN x hx hcd).mono ?_
  rintro e w' ⟨h1, h2, h3⟩
  exact ⟨h1, h2.subQ (fun q hq => List.mem_append_left _ hq) h.q, h3.subQ (fun q hq => List.mem_append_left _ hq)⟩
end Go.Proofs.YtbcgpjfejpcgnaaGreat
end
