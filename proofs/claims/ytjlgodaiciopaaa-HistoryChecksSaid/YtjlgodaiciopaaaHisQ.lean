/- The walk of HistoryChecks. -/
import Derived.Test.YtjlgodaiciopaaaHisI
import Derived.Test.YtjlgodaiciopaaaHisRC
namespace Go.Proofs.Ytjlgodaiciopaaa
open Go.RowKit
set_option linter.unusedSectionVars false
set_option linter.unusedVariables false
set_option linter.unusedSimpArgs false
set_option maxRecDepth 100000
set_option maxHeartbeats 4000000
/-- The numbers of build's records are small. -/
def Bnd (r : Rec) : Prop := (-1 ≤ r.th ∧ r.th ≤ 3000) ∧ (-1 ≤ r.ix ∧ r.ix ≤ 3000) ∧ (-1 ≤ r.inv ∧ r.inv ≤ 3000) ∧ (-1 ≤ r.pt ∧ r.pt ≤ 3000) ∧ (-1 ≤ r.rs ∧ r.rs ≤ 3000)
theorem mk_bnd {t n k now : Nat} (r : Rn) (ht : t < n) (hn : n ≤ 6) (hk : k ≤ 8) (hw : now ≤ 16 * k) : Bnd (mk t n k now r) := by
  have na := Nat.mul_le_mul (show now + r.pause % 6 ≤ 200 by omega) hn
  have nb := Nat.mul_le_mul (show now + r.pause % 6 + r.at_ % 6 ≤ 200 by omega) hn
  have nc := Nat.mul_le_mul (show now + r.pause % 6 + r.at_ % 6 + r.rest % 6 ≤ 200 by omega) hn
  obtain ⟨a, ha⟩ : ∃ a, (now + r.pause % 6) * n = a := ⟨_, rfl⟩
  obtain ⟨b, hb⟩ : ∃ b, (now + r.pause % 6 + r.at_ % 6) * n = b := ⟨_, rfl⟩
  obtain ⟨c, hc⟩ : ∃ c, (now + r.pause % 6 + r.at_ % 6 + r.rest % 6) * n = c := ⟨_, rfl⟩
  have e : mk t n k now r = ⟨(t : Int), (k : Int), ((a + t : Nat) : Int), if r.op && r.late then -1 else ((b + t : Nat) : Int), if r.op then -1 else ((c + t : Nat) : Int)⟩ := by
    rw [← ha, ← hb, ← hc]; rfl
  rw [e]
  rw [ha] at na
  rw [hb] at nb
  rw [hc] at nc
  unfold Bnd
  refine ⟨⟨?_, ?_⟩, ⟨?_, ?_⟩, ⟨?_, ?_⟩, ⟨?_, ?_⟩, ⟨?_, ?_⟩⟩ <;> simp only <;> (try split) <;> omega
theorem recs_bnd {t n : Nat} (ht : t < n) (hn : n ≤ 6) : ∀ (j k now : Nat) (rs : List Rn), k + j ≤ 8 → now ≤ 16 * k → ∀ x ∈ recs t n k now j rs, Bnd x
  | 0, _, _, _, _, _, x, hx => by simp [recs] at hx
  | _ + 1, _, _, [], _, _, x, hx => by simp [recs] at hx
  | j + 1, k, now, r :: rs, hk, hw, x, hx => by
    unfold recs at hx
    rcases List.mem_cons.1 hx with rfl | hx
    · exact mk_bnd r ht hn (by omega) hw
    · by_cases ho : r.op = true
      · rw [if_pos ho] at hx; simp at hx
      · rw [if_neg ho] at hx
        exact recs_bnd ht hn j (k + 1) (after now r) rs (by omega) (by unfold after; omega) x hx
theorem bldOf_bnd (X : List (Value × List Rn)) : ∀ r ∈ bldOf X, Bnd r := fun r hr => by
  rcases Nat.eq_zero_or_pos (min X.length 6) with h | h
  · rw [bldOf_nil h] at hr; simp at hr
  · obtain ⟨t, h1, h2, h3⟩ := (bld_law _ h (runsOf X) _).2.2 r hr
    exact recs_bnd h1 (Nat.min_le_right _ _) 8 0 0 _ (by omega) (by omega) r h3
theorem set_rec {xs : List RV} {q : Nat} {x x' : RV} {rest : List Value} {f : Nat} {v : Value} (h : xs[q]? = some x) (hf : f < 16) (hx : rC x' = (rC x).set f v) : (rCs xs ++ rest).set (q * 16 + f) v = rCs (xs.set q x') ++ rest := by
  obtain ⟨h1, h2⟩ := List.getElem?_eq_some_iff.1 h
  have hsp : xs = xs.take q ++ x :: xs.drop (q + 1) := by
    conv => lhs; rw [← List.take_append_drop q xs, List.drop_eq_getElem_cons h1, h2]
  obtain ⟨Y, hY⟩ : ∃ Y, xs.take q = Y := ⟨_, rfl⟩
  obtain ⟨Z, hZ⟩ : ∃ Z, xs.drop (q + 1) = Z := ⟨_, rfl⟩
  rw [hY, hZ] at hsp
  have hYl : Y.length = q := by rw [← hY, List.length_take]; omega
  subst hYl
  rw [hsp, List.set_append_right _ _ (Nat.le_refl _), Nat.sub_self, List.set_cons_zero, rCs_append, rCs_append, rCs_cons, rCs_cons, List.append_assoc, List.append_assoc, List.append_assoc, List.append_assoc,
    List.set_append_right _ _ (by rw [rCs_len]; omega), rCs_len, Nat.add_sub_cancel_left, List.set_append_left _ _ (by rw [rC_len]; exact hf), hx]
theorem bnd_rng {r : Rec} (h : Bnd r) : RngA r := by
  obtain ⟨h1, h2, h3, h4, h5⟩ := h
  refine ⟨⟨?_, ?_⟩, ⟨?_, ?_⟩, ⟨?_, ?_⟩⟩ <;> omega
def Bnd2 (r : Rec) : Prop := (-10 ≤ r.th ∧ r.th ≤ 4000) ∧ (-10 ≤ r.ix ∧ r.ix ≤ 4000) ∧ (-10 ≤ r.pt ∧ r.pt ≤ 4000)
theorem bnd2_rng {r : Rec} (h : Bnd2 r) : RngA r := by
  obtain ⟨h1, h2, h4⟩ := h
  refine ⟨⟨?_, ?_⟩, ⟨?_, ?_⟩, ⟨?_, ?_⟩⟩ <;> omega
theorem bnd_2 {r : Rec} (h : Bnd r) : Bnd2 r := by
  obtain ⟨h1, h2, h3, h4, h5⟩ := h
  refine ⟨⟨?_, ?_⟩, ⟨?_, ?_⟩, ⟨?_, ?_⟩⟩ <;> omega
/-- Both Checks, on one list: the same answer. -/
theorem both_checks (xs : List RV) (hn : xs.length ≤ 1000) (hr : ∀ x ∈ xs, RngA x.n) (v : Value) (w : World) (hv : Lst w v xs.length (rCs xs)) : ∃ r : Bool, (r = true ↔ Good (xs.map (·.n))) ∧
    Calls Try.prog 10 #[v] w (fun e w' => e = .returned (.bool r) ∧ Keeps [] w w') ∧ ∀ w1, Keeps [] w w1 → Calls Try.prog 11 #[v] w1 (fun e w' => e = .returned (.bool r) ∧ Keeps [] w1 w') := by
  haveI := Classical.propDecidable (Good (xs.map (·.n)))
  refine ⟨decide (Good (xs.map (·.n))), decide_eq_true_iff, ?_, fun w1 k => ?_⟩
  · refine (check_any xs hn hr v w hv).mono ?_
    rintro e w' ⟨r, rfl, hr, k⟩
    refine ⟨?_, k⟩
    congr 2
    cases r with
    | true => exact (decide_eq_true (hr.1 rfl)).symm
    | false => exact (decide_eq_false (fun h => by have := hr.2 h; cases this)).symm
  · refine (rcheck_any xs hn v w1 (hv.keeps k)).mono ?_
    rintro e w' ⟨r, rfl, hr, k⟩
    refine ⟨?_, k⟩
    congr 2
    cases r with
    | true => exact (decide_eq_true (hr.1 rfl)).symm
    | false => exact (decide_eq_false (fun h => by have := hr.2 h; cases this)).symm
theorem historyChecks_any (xs : List RV) (X : List (Value × List Rn)) (at_ by_ : Int) (K : Nat) (v v2 : Value) (w : World) (hlen : xs.length ≤ 9223372036854775807) (hv : Lst w v xs.length (rCs xs)) (hr : ∀ x ∈ xs, RngA x.n) (hX : OkRuns w v2 X)
    (ha : -9223372036854775808 ≤ at_ ∧ at_ ≤ 9223372036854775807) (hb : -9223372036854775808 ≤ by_ ∧ by_ ≤ 9223372036854775807) (hK : K < 256) :
    Calls Try.prog 3 #[v, v2, .int .i64 at_, .int .i64 by_, .int .u8 K] w fun e w' => e = .returned (.bool true) ∧ Keeps [] w w' := by
  have hbld := build_any X v2 w hX
  have hawk := awake_any w
  have HR := Lib.hid hr
  have HV := Lib.hid hv
  obtain ⟨⟨A0, cap0, b0, o0, rfl, _, _⟩, _⟩ := hX
  obtain ⟨A, cap, b, o, rfl, _, _⟩ := hv
  obtain ⟨M, hM⟩ : ∃ M, xs.length = M := ⟨_, rfl⟩
  have HM := Lib.hid hM
  rw [hM] at hlen HV ⊢
  clear hM hr
  by_cases h40 : 40 < M
  · have hz : (40 : Int) < (M : Int) := by omega
    clear hbld
    go_enter Try.func3, Try.ntmps3
    go_wp2_with fail
    refine hawk.mono ?_
    rintro e w1 ⟨rfl, k1⟩
    go_wp2_with fail
    go_ret
    exact ⟨rfl, k1⟩
  · have hz : ¬ (40 : Int) < (M : Int) := by omega
    clear hawk
    go_enter Try.func3, Try.ntmps3
    go_wp2_with fail
    refine hbld.mono ?_
    rintro e w1 ⟨u, rfl, hp, k1⟩
    have hln := bldOf_len X
    have hgood := bldOf_good X
    have hbnd := bldOf_bnd X
    generalize bldOf X = L at hp hln hgood hbnd
    have hlst := hp.lst
    have hn : (L.map rvOf).length = L.length := by simp
    obtain ⟨N, hN⟩ : ∃ N, L.length = N := ⟨_, rfl⟩
    obtain ⟨hrw, _, hge⟩ := hp
    have hRw := Lib.hid hrw
    have hGe := Lib.hid hge
    obtain ⟨A1, c1, rfl⟩ := hrw.len
    rw [hn, hN] at hlst ⊢
    rw [hN] at hln
    have HN := Lib.hid hN
    have HG := Lib.hid hgood
    have HB := Lib.hid hbnd
    have HL := Lib.hid hlst
    clear hbld hrw hge hn hN hgood hbnd hlst
    go_wp2_with fail
    refine (awake_any w1).mono ?_
    rintro e w2 ⟨rfl, k2⟩
    have K2 := k1.trans k2 (by simp)
    obtain ⟨r, hr, hc1, hc2⟩ := both_checks xs (by rw [HM.out]; omega) HR.out _ w2 (by rw [HM.out]; exact HV.out.keeps K2)
    go_wp2_with fail
    refine hc1.mono ?_
    rintro e w3 ⟨rfl, k3⟩
    go_wp2_with fail
    refine (hc2 w3 k3).mono ?_
    rintro e w4 ⟨rfl, k4⟩
    have hself : (r != r) = false := by simp
    clear hc1 hc2 hr
    have K4 : Keeps [] w1 w4 := (k2.trans k3 (by simp)).trans k4 (by simp)
    obtain ⟨r2, hr2, hc3, _⟩ := both_checks (L.map rvOf) (by rw [List.length_map, HN.out]; omega) (fun x hx => by obtain ⟨y, hy, rfl⟩ := List.mem_map.1 hx; exact bnd_rng (HB.out y hy)) _ w4 (by rw [List.length_map, HN.out]; exact HL.out.keeps K4)
    rw [map_n] at hr2
    obtain rfl : r2 = true := hr2.2 HG.out
    clear hr2 k2 k3 k4 K2
    go_wp2_with fail
    refine hc3.mono ?_
    rintro e w5 ⟨rfl, k5⟩
    have K5 : Keeps [] w1 w5 := K4.trans k5 (by simp)
    have Kw5 : Keeps [] w w5 := k1.trans K5 (by simp)
    clear hc3 K4 k5 hself
    by_cases hN0 : N = 0
    · subst hN0
      go_wp2_with fail
      go_ret
      exact ⟨rfl, Kw5⟩
    · have hNb : ((N : Int) == 0) = false := by simp; exact hN0
      have hm1 := mod_any at_ (N : Int) ha.1 ha.2 (by omega) (by omega) w5
      have hq0 := Int.emod_nonneg at_ (show (N : Int) ≠ 0 by omega)
      have hq1 := Int.emod_lt_of_pos at_ (show (0 : Int) < (N : Int) by omega)
      obtain ⟨q, hq⟩ : ∃ q : Nat, at_ % (N : Int) = (q : Int) := ⟨(at_ % (N : Int)).toNat, by omega⟩
      rw [hq] at hm1 hq0 hq1
      have hm2 := mod_any by_ 15 hb.1 hb.2 (by omega) (by omega) w5
      have hd0 := Int.emod_nonneg by_ (show (15 : Int) ≠ 0 by omega)
      have hd1 := Int.emod_lt_of_pos by_ (show (0 : Int) < (15 : Int) by omega)
      obtain ⟨d, hd⟩ : ∃ d : Int, by_ % 15 - 7 = d := ⟨_, rfl⟩
      obtain ⟨d15, hd15⟩ : ∃ d15 : Int, by_ % 15 = d15 := ⟨_, rfl⟩
      rw [hd15] at hm2 hd0 hd1 hd
      clear hq hd15
      obtain ⟨rq, hrq⟩ : ∃ r, L[q]? = some r := ⟨_, List.getElem?_eq_getElem (by rw [HN.out]; omega)⟩
      have hxq : (L.map rvOf)[q]? = some (rvOf rq) := by rw [List.getElem?_map, hrq]; rfl
      have hbq := HB.out rq (List.mem_of_getElem? hrq)
      obtain ⟨_, ⟨_, h0⟩ | ⟨g, capg, rest, hu, hb1, _, _, _⟩⟩ := hRw.out
      · exact absurd h0 (by rw [List.length_map, HN.out]; exact hN0)
      injection hu with e1 _ e3
      subst e1; subst e3
      have hgg : w.heap.size ≤ g := hGe.out g rfl
      have hb5 := K5.blk hb1 (by simp)
      have hcell : ∀ j, j < 16 → w5.cell? ⟨g, q * 16 + j, none⟩ = (rC (rvOf rq))[j]? := fun j hj => by rw [hb5.cell, rCs_cells _ rest q _ hxq j hj]
      have hcell2 : w5.cell? ⟨g, q * 16, none⟩ = some (.int .i64 rq.th) ∧ w5.cell? ⟨g, q * 16 + 1, none⟩ = some (.int .i64 rq.ix) ∧ w5.cell? ⟨g, q * 16 + 2, none⟩ = some (.int .i64 rq.inv) ∧ w5.cell? ⟨g, q * 16 + 3, none⟩ = some (.int .i64 rq.pt) ∧ w5.cell? ⟨g, q * 16 + 4, none⟩ = some (.int .i64 rq.rs) :=
        ⟨by have := hcell 0 (by omega); rw [Nat.add_zero] at this; exact this, hcell 1 (by omega), hcell 2 (by omega), hcell 3 (by omega), hcell 4 (by omega)⟩
      have HCell := Lib.hid hcell2
      have Hxq := Lib.hid hxq
      have HBq := Lib.hid hbq
      clear hrq hxq hbq hb1 hcell hcell2 HL
      go_wp2_with fail
      refine hm1.mono ?_
      rintro e w6 ⟨rfl, rfl⟩
      go_wp2_with fail
      refine hm2.mono ?_
      rintro e w7 ⟨rfl, rfl⟩
      have hwd : IntKind.i64.wrap (d15 - 7) = d15 - 7 := by rw [IntKind.wrap_i64]; omega
      clear hm1 hm2
      have hk5 : (K : Int) % 5 = 0 ∨ (K : Int) % 5 = 1 ∨ (K : Int) % 5 = 2 ∨ (K : Int) % 5 = 3 ∨ (K : Int) % 5 = 4 := by omega
      rcases hk5 with hkc | hkc | hkc | hkc | hkc
      · have cf : w5.cell? ⟨g, q * 16, none⟩ = some (.int .i64 rq.th) := HCell.out.1
        have hw : IntKind.i64.wrap (rq.th + d) = rq.th + d := by rw [IntKind.wrap_i64]; obtain ⟨q1, q2, q3, q4, q5⟩ := HBq.out; omega
        have hset : Blk (w5.setCell ⟨g, q * 16, none⟩ (.int .i64 (rq.th + d))) g (rCs ((L.map rvOf).set q (rvOf ⟨rq.th + d, rq.ix, rq.inv, rq.pt, rq.rs⟩)) ++ rest) := by
          have := hb5.set (q * 16 + 0) (.int .i64 (rq.th + d))
          rw [set_rec (x' := rvOf ⟨rq.th + d, rq.ix, rq.inv, rq.pt, rq.rs⟩) Hxq.out (by omega) rfl] at this
          exact this
        have hl5 : ((L.map rvOf).set q (rvOf ⟨rq.th + d, rq.ix, rq.inv, rq.pt, rq.rs⟩)).length = N := by rw [List.length_set, List.length_map, HN.out]
        have Kst : Keeps [] w (w5.setCell ⟨g, q * 16, none⟩ (.int .i64 (rq.th + d))) := Kw5.setCell _ _ (.inr hgg)
        obtain ⟨rr, _, hc5, hc6⟩ := both_checks ((L.map rvOf).set q (rvOf ⟨rq.th + d, rq.ix, rq.inv, rq.pt, rq.rs⟩)) (by rw [hl5]; omega) (fun x hx => by
          rcases List.mem_or_eq_of_mem_set hx with hx | rfl
          · obtain ⟨y, hy, rfl⟩ := List.mem_map.1 hx; exact bnd_rng (HB.out y hy)
          · refine bnd2_rng ?_
            obtain ⟨q1, q2, q3, q4, q5⟩ := HBq.out
            refine ⟨⟨?_, ?_⟩, ⟨?_, ?_⟩, ⟨?_, ?_⟩⟩ <;> simp only [rvOf] <;> omega) (.slice (some ⟨g, 0, none⟩) N c1) _ (by rw [hl5]; have := Lst.blk (n := N) (cap := c1) hset; exact this)
        have hself : (rr == rr) = true := by simp
        have f5 := hb5.frozen
        have HC5 := Lib.hid hc5
        have HC6 := Lib.hid hc6
        clear hset hb5 hc5 hc6 hl5
        go_wp2_with fail
        refine HC5.out.mono ?_
        rintro e w8 ⟨rfl, k8⟩
        go_wp2_with fail
        refine (HC6.out w8 k8).mono ?_
        rintro e w9 ⟨rfl, k9⟩
        go_wp2_with fail
        go_ret
        exact ⟨rfl, (Kst.trans k8 (by simp)).trans k9 (by simp)⟩
      · have cf : w5.cell? ⟨g, q * 16 + 1, none⟩ = some (.int .i64 rq.ix) := HCell.out.2.1
        have hw : IntKind.i64.wrap (rq.ix + d) = rq.ix + d := by rw [IntKind.wrap_i64]; obtain ⟨q1, q2, q3, q4, q5⟩ := HBq.out; omega
        have hset : Blk (w5.setCell ⟨g, q * 16 + 1, none⟩ (.int .i64 (rq.ix + d))) g (rCs ((L.map rvOf).set q (rvOf ⟨rq.th, rq.ix + d, rq.inv, rq.pt, rq.rs⟩)) ++ rest) := by
          have := hb5.set (q * 16 + 1) (.int .i64 (rq.ix + d))
          rw [set_rec (x' := rvOf ⟨rq.th, rq.ix + d, rq.inv, rq.pt, rq.rs⟩) Hxq.out (by omega) rfl] at this
          exact this
        have hl5 : ((L.map rvOf).set q (rvOf ⟨rq.th, rq.ix + d, rq.inv, rq.pt, rq.rs⟩)).length = N := by rw [List.length_set, List.length_map, HN.out]
        have Kst : Keeps [] w (w5.setCell ⟨g, q * 16 + 1, none⟩ (.int .i64 (rq.ix + d))) := Kw5.setCell _ _ (.inr hgg)
        obtain ⟨rr, _, hc5, hc6⟩ := both_checks ((L.map rvOf).set q (rvOf ⟨rq.th, rq.ix + d, rq.inv, rq.pt, rq.rs⟩)) (by rw [hl5]; omega) (fun x hx => by
          rcases List.mem_or_eq_of_mem_set hx with hx | rfl
          · obtain ⟨y, hy, rfl⟩ := List.mem_map.1 hx; exact bnd_rng (HB.out y hy)
          · refine bnd2_rng ?_
            obtain ⟨q1, q2, q3, q4, q5⟩ := HBq.out
            refine ⟨⟨?_, ?_⟩, ⟨?_, ?_⟩, ⟨?_, ?_⟩⟩ <;> simp only [rvOf] <;> omega) (.slice (some ⟨g, 0, none⟩) N c1) _ (by rw [hl5]; have := Lst.blk (n := N) (cap := c1) hset; exact this)
        have hself : (rr == rr) = true := by simp
        have f5 := hb5.frozen
        have HC5 := Lib.hid hc5
        have HC6 := Lib.hid hc6
        clear hset hb5 hc5 hc6 hl5
        go_wp2_with fail
        refine HC5.out.mono ?_
        rintro e w8 ⟨rfl, k8⟩
        go_wp2_with fail
        refine (HC6.out w8 k8).mono ?_
        rintro e w9 ⟨rfl, k9⟩
        go_wp2_with fail
        go_ret
        exact ⟨rfl, (Kst.trans k8 (by simp)).trans k9 (by simp)⟩
      · have cf : w5.cell? ⟨g, q * 16 + 2, none⟩ = some (.int .i64 rq.inv) := HCell.out.2.2.1
        have hw : IntKind.i64.wrap (rq.inv + d) = rq.inv + d := by rw [IntKind.wrap_i64]; obtain ⟨q1, q2, q3, q4, q5⟩ := HBq.out; omega
        have hset : Blk (w5.setCell ⟨g, q * 16 + 2, none⟩ (.int .i64 (rq.inv + d))) g (rCs ((L.map rvOf).set q (rvOf ⟨rq.th, rq.ix, rq.inv + d, rq.pt, rq.rs⟩)) ++ rest) := by
          have := hb5.set (q * 16 + 2) (.int .i64 (rq.inv + d))
          rw [set_rec (x' := rvOf ⟨rq.th, rq.ix, rq.inv + d, rq.pt, rq.rs⟩) Hxq.out (by omega) rfl] at this
          exact this
        have hl5 : ((L.map rvOf).set q (rvOf ⟨rq.th, rq.ix, rq.inv + d, rq.pt, rq.rs⟩)).length = N := by rw [List.length_set, List.length_map, HN.out]
        have Kst : Keeps [] w (w5.setCell ⟨g, q * 16 + 2, none⟩ (.int .i64 (rq.inv + d))) := Kw5.setCell _ _ (.inr hgg)
        obtain ⟨rr, _, hc5, hc6⟩ := both_checks ((L.map rvOf).set q (rvOf ⟨rq.th, rq.ix, rq.inv + d, rq.pt, rq.rs⟩)) (by rw [hl5]; omega) (fun x hx => by
          rcases List.mem_or_eq_of_mem_set hx with hx | rfl
          · obtain ⟨y, hy, rfl⟩ := List.mem_map.1 hx; exact bnd_rng (HB.out y hy)
          · refine bnd2_rng ?_
            obtain ⟨q1, q2, q3, q4, q5⟩ := HBq.out
            refine ⟨⟨?_, ?_⟩, ⟨?_, ?_⟩, ⟨?_, ?_⟩⟩ <;> simp only [rvOf] <;> omega) (.slice (some ⟨g, 0, none⟩) N c1) _ (by rw [hl5]; have := Lst.blk (n := N) (cap := c1) hset; exact this)
        have hself : (rr == rr) = true := by simp
        have f5 := hb5.frozen
        have HC5 := Lib.hid hc5
        have HC6 := Lib.hid hc6
        clear hset hb5 hc5 hc6 hl5
        go_wp2_with fail
        refine HC5.out.mono ?_
        rintro e w8 ⟨rfl, k8⟩
        go_wp2_with fail
        refine (HC6.out w8 k8).mono ?_
        rintro e w9 ⟨rfl, k9⟩
        go_wp2_with fail
        go_ret
        exact ⟨rfl, (Kst.trans k8 (by simp)).trans k9 (by simp)⟩
      · have cf : w5.cell? ⟨g, q * 16 + 3, none⟩ = some (.int .i64 rq.pt) := HCell.out.2.2.2.1
        have hw : IntKind.i64.wrap (rq.pt + d) = rq.pt + d := by rw [IntKind.wrap_i64]; obtain ⟨q1, q2, q3, q4, q5⟩ := HBq.out; omega
        have hset : Blk (w5.setCell ⟨g, q * 16 + 3, none⟩ (.int .i64 (rq.pt + d))) g (rCs ((L.map rvOf).set q (rvOf ⟨rq.th, rq.ix, rq.inv, rq.pt + d, rq.rs⟩)) ++ rest) := by
          have := hb5.set (q * 16 + 3) (.int .i64 (rq.pt + d))
          rw [set_rec (x' := rvOf ⟨rq.th, rq.ix, rq.inv, rq.pt + d, rq.rs⟩) Hxq.out (by omega) rfl] at this
          exact this
        have hl5 : ((L.map rvOf).set q (rvOf ⟨rq.th, rq.ix, rq.inv, rq.pt + d, rq.rs⟩)).length = N := by rw [List.length_set, List.length_map, HN.out]
        have Kst : Keeps [] w (w5.setCell ⟨g, q * 16 + 3, none⟩ (.int .i64 (rq.pt + d))) := Kw5.setCell _ _ (.inr hgg)
        obtain ⟨rr, _, hc5, hc6⟩ := both_checks ((L.map rvOf).set q (rvOf ⟨rq.th, rq.ix, rq.inv, rq.pt + d, rq.rs⟩)) (by rw [hl5]; omega) (fun x hx => by
          rcases List.mem_or_eq_of_mem_set hx with hx | rfl
          · obtain ⟨y, hy, rfl⟩ := List.mem_map.1 hx; exact bnd_rng (HB.out y hy)
          · refine bnd2_rng ?_
            obtain ⟨q1, q2, q3, q4, q5⟩ := HBq.out
            refine ⟨⟨?_, ?_⟩, ⟨?_, ?_⟩, ⟨?_, ?_⟩⟩ <;> simp only [rvOf] <;> omega) (.slice (some ⟨g, 0, none⟩) N c1) _ (by rw [hl5]; have := Lst.blk (n := N) (cap := c1) hset; exact this)
        have hself : (rr == rr) = true := by simp
        have f5 := hb5.frozen
        have HC5 := Lib.hid hc5
        have HC6 := Lib.hid hc6
        clear hset hb5 hc5 hc6 hl5
        go_wp2_with fail
        refine HC5.out.mono ?_
        rintro e w8 ⟨rfl, k8⟩
        go_wp2_with fail
        refine (HC6.out w8 k8).mono ?_
        rintro e w9 ⟨rfl, k9⟩
        go_wp2_with fail
        go_ret
        exact ⟨rfl, (Kst.trans k8 (by simp)).trans k9 (by simp)⟩
      · have cf : w5.cell? ⟨g, q * 16 + 4, none⟩ = some (.int .i64 rq.rs) := HCell.out.2.2.2.2
        have hw : IntKind.i64.wrap (rq.rs + d) = rq.rs + d := by rw [IntKind.wrap_i64]; obtain ⟨q1, q2, q3, q4, q5⟩ := HBq.out; omega
        have hset : Blk (w5.setCell ⟨g, q * 16 + 4, none⟩ (.int .i64 (rq.rs + d))) g (rCs ((L.map rvOf).set q (rvOf ⟨rq.th, rq.ix, rq.inv, rq.pt, rq.rs + d⟩)) ++ rest) := by
          have := hb5.set (q * 16 + 4) (.int .i64 (rq.rs + d))
          rw [set_rec (x' := rvOf ⟨rq.th, rq.ix, rq.inv, rq.pt, rq.rs + d⟩) Hxq.out (by omega) rfl] at this
          exact this
        have hl5 : ((L.map rvOf).set q (rvOf ⟨rq.th, rq.ix, rq.inv, rq.pt, rq.rs + d⟩)).length = N := by rw [List.length_set, List.length_map, HN.out]
        have Kst : Keeps [] w (w5.setCell ⟨g, q * 16 + 4, none⟩ (.int .i64 (rq.rs + d))) := Kw5.setCell _ _ (.inr hgg)
        obtain ⟨rr, _, hc5, hc6⟩ := both_checks ((L.map rvOf).set q (rvOf ⟨rq.th, rq.ix, rq.inv, rq.pt, rq.rs + d⟩)) (by rw [hl5]; omega) (fun x hx => by
          rcases List.mem_or_eq_of_mem_set hx with hx | rfl
          · obtain ⟨y, hy, rfl⟩ := List.mem_map.1 hx; exact bnd_rng (HB.out y hy)
          · refine bnd2_rng ?_
            obtain ⟨q1, q2, q3, q4, q5⟩ := HBq.out
            refine ⟨⟨?_, ?_⟩, ⟨?_, ?_⟩, ⟨?_, ?_⟩⟩ <;> simp only [rvOf] <;> omega) (.slice (some ⟨g, 0, none⟩) N c1) _ (by rw [hl5]; have := Lst.blk (n := N) (cap := c1) hset; exact this)
        have hself : (rr == rr) = true := by simp
        have f5 := hb5.frozen
        have HC5 := Lib.hid hc5
        have HC6 := Lib.hid hc6
        clear hset hb5 hc5 hc6 hl5
        go_wp2_with fail
        refine HC5.out.mono ?_
        rintro e w8 ⟨rfl, k8⟩
        go_wp2_with fail
        refine (HC6.out w8 k8).mono ?_
        rintro e w9 ⟨rfl, k9⟩
        go_wp2_with fail
        go_ret
        exact ⟨rfl, (Kst.trans k8 (by simp)).trans k9 (by simp)⟩
end Go.Proofs.Ytjlgodaiciopaaa
