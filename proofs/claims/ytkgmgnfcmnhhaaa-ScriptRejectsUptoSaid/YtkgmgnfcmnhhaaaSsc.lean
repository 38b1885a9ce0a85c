/- The contract of the reference's SameScript, where both sides are equal. -/
import Derived.Test.YtkgmgnfcmnhhaaaSop
import Derived.Deep.RegionHeld3
namespace Go.Proofs.Ytkgmgnfcmnhhaaa
open Go.RowKit
set_option linter.unusedSectionVars false
set_option linter.unusedVariables false
set_option linter.unusedSimpArgs false
set_option maxRecDepth 100000
set_option maxHeartbeats 4000000
/-- Operations that are equal. -/
def OVs (a b : OV) : Prop := a.b = b.b ∧ a.b.length ≤ 1073741824 ∧ sopB a b = true
theorem OVs.of {a b : OV} (h : a.op = b.op) (h1 : 0 ≤ a.c) (h2 : 0 ≤ b.c) (hn : a.b.length ≤ 1073741824) : OVs a b := by
  simp only [OV.op, Opn.mk.injEq] at h
  obtain ⟨e1, e2, e3, e4, e5, e6, e7⟩ := h
  have e0 : a.c = b.c := by omega
  refine ⟨e4, hn, ?_⟩
  unfold sopB
  simp [e0, e2, e3, e4, e5, e6, e7]
def PSs (ps ps' : List (Value × List OV)) : Prop := ps.length = ps'.length ∧ ∀ (i : Nat) (p q : Value × List OV), ps[i]? = some p → ps'[i]? = some q → p.2.length = q.2.length ∧ p.2.length ≤ 1073741824 ∧ ∀ (j : Nat) (a b : OV), p.2[j]? = some a → q.2[j]? = some b → OVs a b
theorem ssc_any (th sn no ch re fa : Int) (cl : Nat) (pA pA' kA kA' : Option Addr) (pc pc' kc kc' : Nat) (ps ps' : List (Value × List OV)) (pk : List Int) (w : World)
    (hx : OkS w ⟨th, sn, no, ch, re, fa, cl, pA, pc, ps, kA, kc, pk⟩) (hy : OkS w ⟨th, sn, no, ch, re, fa, cl, pA', pc', ps', kA', kc', pk⟩) (hs : PSs ps ps') (hn : ps.length ≤ 1073741824) (hk : pk.length ≤ 1073741824) :
    Calls Try.prog 13 #[.agg #[.int .i64 th, .int .i64 sn, .int .i64 no, .int .i64 ch, .int .i64 re, .int .i64 fa, .int .u64 (cl : Int), .slice pA ps.length pc, .slice kA pk.length kc], .agg #[.int .i64 th, .int .i64 sn, .int .i64 no, .int .i64 ch, .int .i64 re, .int .i64 fa, .int .u64 (cl : Int), .slice pA' ps'.length pc', .slice kA' pk.length kc']] w fun e w' => e = .returned (.bool true) ∧ Keeps [] w w' := by
  obtain ⟨hsl, hso⟩ := hs
  rw [← hsl]
  obtain ⟨n, hnn⟩ : ∃ n, ps.length = n := ⟨_, rfl⟩
  obtain ⟨m, hmm⟩ : ∃ m, pk.length = m := ⟨_, rfl⟩
  have Hn := Lib.hid hnn
  have Hm := Lib.hid hmm
  have HSL := Lib.hid hsl
  have HSO := Lib.hid hso
  have HX := Lib.hid hx
  have HY := Lib.hid hy
  rw [hnn, hmm]
  rw [hnn] at hn
  rw [hmm] at hk
  clear hx hy hsl hso hnn hmm
  have kb : Keeps [] w ((w.alloc (.cells #[.int .i64 th, .int .i64 sn, .int .i64 no, .int .i64 ch, .int .i64 re, .int .i64 fa, .int .u64 (cl : Int), .slice pA n pc, .slice kA m kc] 30)).alloc (.cells #[.int .i64 th, .int .i64 sn, .int .i64 no, .int .i64 ch, .int .i64 re, .int .i64 fa, .int .u64 (cl : Int), .slice pA' n pc', .slice kA' m kc'] 30)) := ((Keeps.refl [] w).alloc _).alloc _
  have hb1 := (Blk.new w [.int .i64 th, .int .i64 sn, .int .i64 no, .int .i64 ch, .int .i64 re, .int .i64 fa, .int .u64 (cl : Int), .slice pA n pc, .slice kA m kc] 30).alloc (.cells #[.int .i64 th, .int .i64 sn, .int .i64 no, .int .i64 ch, .int .i64 re, .int .i64 fa, .int .u64 (cl : Int), .slice pA' n pc', .slice kA' m kc'] 30)
  change Blk ((w.alloc (.cells #[.int .i64 th, .int .i64 sn, .int .i64 no, .int .i64 ch, .int .i64 re, .int .i64 fa, .int .u64 (cl : Int), .slice pA n pc, .slice kA m kc] 30)).alloc (.cells #[.int .i64 th, .int .i64 sn, .int .i64 no, .int .i64 ch, .int .i64 re, .int .i64 fa, .int .u64 (cl : Int), .slice pA' n pc', .slice kA' m kc'] 30)) _ _ at hb1
  have hb2 := Blk.new_at (w.alloc (.cells #[.int .i64 th, .int .i64 sn, .int .i64 no, .int .i64 ch, .int .i64 re, .int .i64 fa, .int .u64 (cl : Int), .slice pA n pc, .slice kA m kc] 30)) (w.heap.size + 1) [.int .i64 th, .int .i64 sn, .int .i64 no, .int .i64 ch, .int .i64 re, .int .i64 fa, .int .u64 (cl : Int), .slice pA' n pc', .slice kA' m kc'] 30 (by simp)
  change Blk ((w.alloc (.cells #[.int .i64 th, .int .i64 sn, .int .i64 no, .int .i64 ch, .int .i64 re, .int .i64 fa, .int .u64 (cl : Int), .slice pA n pc, .slice kA m kc] 30)).alloc (.cells #[.int .i64 th, .int .i64 sn, .int .i64 no, .int .i64 ch, .int .i64 re, .int .i64 fa, .int .u64 (cl : Int), .slice pA' n pc', .slice kA' m kc'] 30)) _ _ at hb2
  go_enter Try.func13, Try.ntmps13
  obtain ⟨W, hW⟩ : ∃ W, (w.alloc (.cells #[.int .i64 th, .int .i64 sn, .int .i64 no, .int .i64 ch, .int .i64 re, .int .i64 fa, .int .u64 (cl : Int), .slice pA n pc, .slice kA m kc] 30)).alloc (.cells #[.int .i64 th, .int .i64 sn, .int .i64 no, .int .i64 ch, .int .i64 re, .int .i64 fa, .int .u64 (cl : Int), .slice pA' n pc', .slice kA' m kc'] 30) = W := ⟨_, rfl⟩
  rw [hW] at hb1 hb2 kb
  obtain ⟨gx, hgx⟩ : ∃ gx, w.heap.size = gx := ⟨_, rfl⟩
  rw [hgx] at hb1 hb2
  obtain ⟨d0, d1, d2, d3, d4, d5, d6, d7, d8, df, dl⟩ := hb1.o9
  obtain ⟨g0, g1, g2, g3, g4, g5, g6, g7, g8, gf, gl⟩ := hb2.o9
  have hself : ((n : Int) != (n : Int)) = false := by simp
  have hself2 : ((m : Int) != (m : Int)) = false := by simp
  go_upto_region 3 with fail
  clear d0 d1 d2 d3 d4 d5 d6 d7 d8 df dl g0 g1 g2 g3 g4 g5 g6 g7 g8 gf gl hW
  have mixed : Try.prog.follows .mixedOrders = true := by kernel_rfl
  obtain ⟨hx1, hx2, hx3⟩ := HX.out
  obtain ⟨hy1, hy2, hy3⟩ := HY.out
  simp only at hx1 hx2 hx3 hy1 hy2 hy3
  rw [Hn.out] at hx1
  rw [← HSL.out, Hn.out] at hy1
  rw [Hm.out] at hx3 hy3
  have X1 := Lib.hid (hx1.keeps kb)
  have X2 := Lib.hid hx2
  have X3 := Lib.hid (hx3.keeps kb)
  have Y1 := Lib.hid (hy1.keeps kb)
  have Y2 := Lib.hid hy2
  have Y3 := Lib.hid (hy3.keeps kb)
  clear hx1 hx2 hx3 hy1 hy2 hy3 HX HY
  go_wp2_with fail
  go_loopw [5] (fun i wr => ∃ k : Nat, i = .int .i64 (k : Int) ∧ k ≤ n ∧ Keeps [] W wr) (fun i _ => n - (intOf i).toNat)
  case atStart => exact ⟨0, rfl, by omega, Keeps.refl _ _⟩
  case round =>
    obtain ⟨k, rfl, hkn, kk⟩ := hrel
    have c1 := kk.blk hb1 (by simp)
    have c2 := kk.blk hb2 (by simp)
    obtain ⟨d0, d1, d2, d3, d4, d5, d6, d7, d8, df, dl⟩ := c1.o9
    obtain ⟨g0, g1, g2, g3, g4, g5, g6, g7, g8, gf, gl⟩ := c2.o9
    by_cases hlt : k < n
    · have hkx : k < ps.length := by rw [Hn.out]; exact hlt
      have hky : k < ps'.length := by rw [← HSL.out]; exact hkx
      obtain ⟨p, hp⟩ : ∃ p, ps[k]? = some p := ⟨_, List.getElem?_eq_getElem hkx⟩
      obtain ⟨q, hq⟩ : ∃ q, ps'[k]? = some q := ⟨_, List.getElem?_eq_getElem hky⟩
      obtain ⟨hpq, hpn, hops⟩ := HSO.out k p q hp hq
      obtain ⟨A, cap, b, o, hv1, hA, har⟩ := X1.out
      injection hv1 with hA2 hN2 hC2
      obtain ⟨A', cap', b', o', hv1', hA', har'⟩ := Y1.out
      injection hv1' with hA2' hN2' hC2'
      have e1 : pA = some ⟨b, o, none⟩ := by rw [hA2]; exact hA (by omega)
      have e2 : pA' = some ⟨b', o', none⟩ := by rw [hA2']; exact hA' (by omega)
      have f1 : wr.cell? ⟨b, o + k, none⟩ = some p.1 := by
        rw [(har.keeps kk (by simp)).cells k (by rw [List.length_map]; exact hkx), List.getElem?_map, hp]
        rfl
      have f2 : wr.cell? ⟨b', o' + k, none⟩ = some q.1 := by
        rw [(har'.keeps kk (by simp)).cells k (by rw [List.length_map]; exact hky), List.getElem?_map, hq]
        rfl
      obtain ⟨hpl, hpo⟩ := X2.out p (List.mem_of_getElem? hp)
      obtain ⟨hql, hqo⟩ := Y2.out q (List.mem_of_getElem? hq)
      obtain ⟨Ap, Cp, bp, op, hpv, _, _⟩ := id hpl
      obtain ⟨Aq, Cq, bq, oq, hqv, _, _⟩ := id hql
      obtain ⟨l, hl⟩ : ∃ l, p.2.length = l := ⟨_, rfl⟩
      have hl' : q.2.length = l := by rw [← hpq, hl]
      have Hl := Lib.hid hl
      have Hl' := Lib.hid hl'
      rw [hl] at hpl hpv hpn
      rw [hl'] at hql hqv
      rw [hpv] at f1 hpl
      rw [hqv] at f2 hql
      have PL := Lib.hid (hpl.keeps kb)
      have QL := Lib.hid (hql.keeps kb)
      have PO := Lib.hid hpo
      have QO := Lib.hid hqo
      have HO := Lib.hid hops
      have hself3 : ((l : Int) != (l : Int)) = false := by simp
      rw [e1] at d7
      rw [e2] at g7
      have E1 := Lib.hid e1
      have E2 := Lib.hid e2
      have F1 : Hid (∀ w', Keeps [] W w' → w'.cell? ⟨b, o + k, none⟩ = some (.slice Ap l Cp)) := Lib.hid fun w' k' => by
        rw [(har.keeps k' (by simp)).cells k (by rw [List.length_map]; exact hkx), List.getElem?_map, hp, Option.map_some, hpv]
      have F2 : Hid (∀ w', Keeps [] W w' → w'.cell? ⟨b', o' + k, none⟩ = some (.slice Aq l Cq)) := Lib.hid fun w' k' => by
        rw [(har'.keeps k' (by simp)).cells k (by rw [List.length_map]; exact hky), List.getElem?_map, hq, Option.map_some, hqv]
      clear hp hq hpq hops hA hA2 hN2 hC2 har hA' hA2' hN2' hC2' har' e1 e2 hpl hpo hql hqo hpv hqv hl hl'
      go_wp2_with fail
      go_quiet (fail)
      go_wp2_with fail
      have kkD := kk.drewN nq
      go_loopw [6] (fun i wr => ∃ j : Nat, i = .int .i64 (j : Int) ∧ j ≤ l ∧ Keeps [] W wr) (fun i _ => l - (intOf i).toNat)
      case atStart => exact ⟨0, rfl, by omega, kkD⟩
      case round =>
        clear kk kkD c1 c2 d0 d1 d2 d3 d4 d5 d6 d7 d8 df dl g0 g1 g2 g3 g4 g5 g6 g7 g8 gf gl f1 f2
        obtain ⟨j, rfl, hjl, kk⟩ := hrel
        have c1 := kk.blk hb1 (by simp)
        have c2 := kk.blk hb2 (by simp)
        have d7 := c1.cell 7
        have g7 := c2.cell 7
        simp only [List.getElem?_cons_succ, List.getElem?_cons_zero] at d7 g7
        rw [E1.out] at d7
        rw [E2.out] at g7
        have f1 := F1.out _ kk
        have f2 := F2.out _ kk
        have xl := c1.lt
        have yl := c2.lt
        by_cases hjt : j < l
        · obtain ⟨x, hx⟩ : ∃ x, p.2[j]? = some x := ⟨_, List.getElem?_eq_getElem (by rw [Hl.out]; exact hjt)⟩
          obtain ⟨y, hy⟩ : ∃ y, q.2[j]? = some y := ⟨_, List.getElem?_eq_getElem (by rw [Hl'.out]; exact hjt)⟩
          obtain ⟨gX, oX, hAX, hcX, hgX⟩ := (PL.out.keeps kk).atS Hl.out hx
          obtain ⟨gY, oY, hAY, hcY, hgY⟩ := (QL.out.keeps kk).atS Hl'.out hy
          obtain ⟨s1, s2, s3⟩ := HO.out j x y hx hy
          have hcall : ∀ w', Keeps [] wr w' → Calls Try.prog 29 #[.agg #[.int .i64 x.c, .string ⟨x.k.toArray⟩, .int .u64 (x.t : Int), .slice x.bA x.b.length x.bc, .int .i64 x.h, .int .i64 x.u, .int .i64 x.m], .agg #[.int .i64 y.c, .string ⟨y.k.toArray⟩, .int .u64 (y.t : Int), .slice y.bA y.b.length y.bc, .int .i64 y.h, .int .i64 y.u, .int .i64 y.m]] w' fun e w'' => e = .returned (.bool (sopB x y)) ∧ Keeps [] w' w'' := fun w' k' =>
            sop_any x y (.inl s1) (Nat.le_trans s2 (by decide)) w' ((PO.out x (List.mem_of_getElem? hx)).keeps (kb.trans (kk.trans k' (by simp)) (by simp))) ((QO.out y (List.mem_of_getElem? hy)).keeps (kb.trans (kk.trans k' (by simp)) (by simp)))
          rw [s3] at hcall
          have HC := Lib.hid hcall
          rw [hAX] at f1
          rw [hAY] at f2
          have X0 : wr.cell? ⟨gX, oX + j * 7, none⟩ = some (.int .i64 x.c) ∧ wr.cell? ⟨gX, oX + j * 7 + 1, none⟩ = some (.string ⟨x.k.toArray⟩) ∧ wr.cell? ⟨gX, oX + j * 7 + 2, none⟩ = some (.int .u64 (x.t : Int)) ∧ wr.cell? ⟨gX, oX + j * 7 + 3, none⟩ = some (.slice x.bA x.b.length x.bc) ∧ wr.cell? ⟨gX, oX + j * 7 + 4, none⟩ = some (.int .i64 x.h) ∧ wr.cell? ⟨gX, oX + j * 7 + 5, none⟩ = some (.int .i64 x.u) ∧ wr.cell? ⟨gX, oX + j * 7 + 6, none⟩ = some (.int .i64 x.m) := ⟨hcX 0 _ rfl, hcX 1 _ rfl, hcX 2 _ rfl, hcX 3 _ rfl, hcX 4 _ rfl, hcX 5 _ rfl, hcX 6 _ rfl⟩
          have Y0 : wr.cell? ⟨gY, oY + j * 7, none⟩ = some (.int .i64 y.c) ∧ wr.cell? ⟨gY, oY + j * 7 + 1, none⟩ = some (.string ⟨y.k.toArray⟩) ∧ wr.cell? ⟨gY, oY + j * 7 + 2, none⟩ = some (.int .u64 (y.t : Int)) ∧ wr.cell? ⟨gY, oY + j * 7 + 3, none⟩ = some (.slice y.bA y.b.length y.bc) ∧ wr.cell? ⟨gY, oY + j * 7 + 4, none⟩ = some (.int .i64 y.h) ∧ wr.cell? ⟨gY, oY + j * 7 + 5, none⟩ = some (.int .i64 y.u) ∧ wr.cell? ⟨gY, oY + j * 7 + 6, none⟩ = some (.int .i64 y.m) := ⟨hcY 0 _ rfl, hcY 1 _ rfl, hcY 2 _ rfl, hcY 3 _ rfl, hcY 4 _ rfl, hcY 5 _ rfl, hcY 6 _ rfl⟩
          obtain ⟨x0, x1, x2, x3, x4, x5, x6⟩ := X0
          obtain ⟨y0, y1, y2, y3, y4, y5, y6⟩ := Y0
          clear hx hy s1 s2 s3 hcall hcX hcY hAX hAY
          go_upto_region 11 with fail
          have KD : Keeps [] wr wr.drew := (Keeps.refl [] wr).drew
          go_region_held3 (fun w' => w'.cell? ⟨gx, 7, none⟩ = some (.slice (some ⟨b, o, none⟩) n pc) ∧ w'.cell? ⟨gx + 1, 7, none⟩ = some (.slice (some ⟨b', o', none⟩) n pc') ∧ w'.cell? ⟨b, o + k, none⟩ = some (.slice (some ⟨gX, oX, none⟩) l Cp) ∧ w'.cell? ⟨b', o' + k, none⟩ = some (.slice (some ⟨gY, oY, none⟩) l Cq) ∧ w'.cell? ⟨gX, oX + j * 7, none⟩ = some (.int .i64 x.c) ∧ w'.cell? ⟨gX, oX + j * 7 + 1, none⟩ = some (.string ⟨x.k.toArray⟩) ∧ w'.cell? ⟨gX, oX + j * 7 + 2, none⟩ = some (.int .u64 (x.t : Int)) ∧ w'.cell? ⟨gX, oX + j * 7 + 3, none⟩ = some (.slice x.bA x.b.length x.bc) ∧ w'.cell? ⟨gX, oX + j * 7 + 4, none⟩ = some (.int .i64 x.h) ∧ w'.cell? ⟨gX, oX + j * 7 + 5, none⟩ = some (.int .i64 x.u) ∧ w'.cell? ⟨gX, oX + j * 7 + 6, none⟩ = some (.int .i64 x.m) ∧ w'.cell? ⟨gY, oY + j * 7, none⟩ = some (.int .i64 y.c) ∧ w'.cell? ⟨gY, oY + j * 7 + 1, none⟩ = some (.string ⟨y.k.toArray⟩) ∧ w'.cell? ⟨gY, oY + j * 7 + 2, none⟩ = some (.int .u64 (y.t : Int)) ∧ w'.cell? ⟨gY, oY + j * 7 + 3, none⟩ = some (.slice y.bA y.b.length y.bc) ∧ w'.cell? ⟨gY, oY + j * 7 + 4, none⟩ = some (.int .i64 y.h) ∧ w'.cell? ⟨gY, oY + j * 7 + 5, none⟩ = some (.int .i64 y.u) ∧ w'.cell? ⟨gY, oY + j * 7 + 6, none⟩ = some (.int .i64 y.m))
            (first
              | exact ⟨k9.cellEq d7 (by simp), k9.cellEq g7 (by simp), k9.cellEq f1 (by simp), k9.cellEq f2 (by simp), k9.cellEq x0 (by simp), k9.cellEq x1 (by simp), k9.cellEq x2 (by simp), k9.cellEq x3 (by simp), k9.cellEq x4 (by simp), k9.cellEq x5 (by simp), k9.cellEq x6 (by simp), k9.cellEq y0 (by simp), k9.cellEq y1 (by simp), k9.cellEq y2 (by simp), k9.cellEq y3 (by simp), k9.cellEq y4 (by simp), k9.cellEq y5 (by simp), k9.cellEq y6 (by simp)⟩
              | go_keep)
            ((go_at_call 29; refine (HC.out _ KD).mono ?_; rintro q w9 ⟨rfl, k9⟩))
          have k99 := kk.drew.trans k9 (by simp)
          clear KD c1 c2 d7 g7 f1 f2 x0 x1 x2 x3 x4 x5 x6 y0 y1 y2 y3 y4 y5 y6
          go_wp2_with fail
          exact ⟨⟨j + 1, by go_num, by omega, k99⟩, by simp [intOf] <;> omega⟩
        · obtain rfl : j = l := by omega
          go_wp2_with fail
          exact ⟨⟨k + 1, by go_num, by omega, kk⟩, by simp [intOf] <;> omega⟩
    · obtain rfl : k = n := by omega
      go_wp2_with fail
      go_loopw [7] (fun i wr => ∃ k : Nat, i = .int .i64 (k : Int) ∧ k ≤ m ∧ Keeps [] W wr) (fun i _ => m - (intOf i).toNat)
      case atStart => exact ⟨0, rfl, by omega, kk⟩
      case round =>
        clear kk c1 c2 d0 d1 d2 d3 d4 d5 d6 d7 d8 df dl g0 g1 g2 g3 g4 g5 g6 g7 g8 gf gl
        obtain ⟨j, rfl, hjm, kk⟩ := hrel
        have c1 := kk.blk hb1 (by simp)
        have c2 := kk.blk hb2 (by simp)
        have d8 := c1.cell 8
        have g8 := c2.cell 8
        simp only [List.getElem?_cons_succ, List.getElem?_cons_zero] at d8 g8
        have xl := c1.lt
        have yl := c2.lt
        by_cases hjt : j < m
        · have hjx : j < pk.length := by rw [Hm.out]; exact hjt
          obtain ⟨v, hv⟩ : ∃ v, pk[j]? = some v := ⟨_, List.getElem?_eq_getElem hjx⟩
          obtain ⟨A, cap, b, o, hv1, hA, har⟩ := X3.out
          injection hv1 with hA2 hN2 hC2
          obtain ⟨A', cap', b', o', hv1', hA', har'⟩ := Y3.out
          injection hv1' with hA2' hN2' hC2'
          have e1 : kA = some ⟨b, o, none⟩ := by rw [hA2]; exact hA (by omega)
          have e2 : kA' = some ⟨b', o', none⟩ := by rw [hA2']; exact hA' (by omega)
          have f1 : wr.cell? ⟨b, o + j, none⟩ = some (.int .i64 v) := by
            rw [(har.keeps kk (by simp)).cells j (by rw [List.length_map]; exact hjx), List.getElem?_map, hv]
            rfl
          have f2 : wr.cell? ⟨b', o' + j, none⟩ = some (.int .i64 v) := by
            rw [(har'.keeps kk (by simp)).cells j (by rw [List.length_map]; exact hjx), List.getElem?_map, hv]
            rfl
          have hself4 : ((v : Int) != (v : Int)) = false := by simp
          rw [e1] at d8
          rw [e2] at g8
          have kkd := kk
          clear hv hA hA2 hN2 hC2 har hA' hA2' hN2' hC2' har' e1 e2
          go_wp2_with fail
          go_quiet (fail)
          go_wp2_with fail
          exact ⟨⟨j + 1, by go_num, by omega, kkd.drewN _⟩, by simp [intOf] <;> omega⟩
        · obtain rfl : j = m := by omega
          go_wp2_with fail
          go_ret
          exact ⟨rfl, kb.trans kk (by simp)⟩
end Go.Proofs.Ytkgmgnfcmnhhaaa
