/- Lemmas on the way to LinearRejects. No condition. -/
import Derived.Test.YtbcgpjfejpcgnaaGreatQAo
import Derived.Test.YtbcgpjfejpcgnaaGreatQAu
import Derived.Test.YtbcgpjfejpcgnaaGreatQAv
import Derived.Test.YtbcgpjfejpcgnaaGreatQBi
set_option linter.unusedSimpArgs false
set_option linter.unusedVariables false
set_option linter.unusedSectionVars false
section
namespace Go.Proofs.YtbcgpjfejpcgnaaGreat
open Go.RowKit Go.ChangeShapes Go.WideShapes Go.ChangeAt
set_option maxRecDepth 100000
set_option linter.unusedVariables false
theorem read_opN {H : Type} {enc : TypeId × Value → H} {w : World} (fuel : Nat) (cs : List Value) (x : DataW H × List MemPlace)
    (h : DataW.trod enc Tryz.prog w 0 (fun _ => true) true fuel 29 cs = some x) : ∃ (c : Int) (k : ByteArray) (t : Int) (bv : Value) (b : List Wrt) (h u m : Int), cs = [.int .i64 c, .string k, .int .u64 t, bv, .int .i64 h, .int .i64 u, .int .i64 m] ∧ Lst w bv b.length (wCs b) ∧ (0 ≤ t ∧ t ≤ 18446744073709551615) := by
  obtain ⟨xs, n, _, _, hl, hxl, hf⟩ := DataW.trod_struct Tryz.underlying29 h
  rw [cellsO] at hl
  match cs, hl with
  | [a0, a1, a2, a3, a4, a5, a6], _ =>
    have g0 : DataW.trod enc Tryz.prog w 0 (fun _ => true) true n 3 (([a0, a1, a2, a3, a4, a5, a6].drop 0).take (Tryz.prog.cellsOf 3)) = xs[0]? := hf 0 _ rfl
    rw [cellsI] at g0
    have g1 : DataW.trod enc Tryz.prog w 0 (fun _ => true) true n 9 (([a0, a1, a2, a3, a4, a5, a6].drop 1).take (Tryz.prog.cellsOf 9)) = xs[1]? := hf 1 _ rfl
    rw [cellsS] at g1
    have g2 : DataW.trod enc Tryz.prog w 0 (fun _ => true) true n 22 (([a0, a1, a2, a3, a4, a5, a6].drop 2).take (Tryz.prog.cellsOf 22)) = xs[2]? := hf 2 _ rfl
    rw [cellsU] at g2
    have g3 : DataW.trod enc Tryz.prog w 0 (fun _ => true) true n 27 (([a0, a1, a2, a3, a4, a5, a6].drop 3).take (Tryz.prog.cellsOf 27)) = xs[3]? := hf 3 _ rfl
    rw [cellsWS] at g3
    have g4 : DataW.trod enc Tryz.prog w 0 (fun _ => true) true n 3 (([a0, a1, a2, a3, a4, a5, a6].drop 4).take (Tryz.prog.cellsOf 3)) = xs[4]? := hf 4 _ rfl
    rw [cellsI] at g4
    have g5 : DataW.trod enc Tryz.prog w 0 (fun _ => true) true n 3 (([a0, a1, a2, a3, a4, a5, a6].drop 5).take (Tryz.prog.cellsOf 3)) = xs[5]? := hf 5 _ rfl
    rw [cellsI] at g5
    have g6 : DataW.trod enc Tryz.prog w 0 (fun _ => true) true n 3 (([a0, a1, a2, a3, a4, a5, a6].drop 6).take (Tryz.prog.cellsOf 3)) = xs[6]? := hf 6 _ rfl
    rw [cellsI] at g6
    simp only [List.drop_zero, List.drop_succ_cons, List.take_succ_cons, List.take_zero] at g0 g1 g2 g3 g4 g5 g6
    have hx : xs.length = 7 := by rw [hxl]; rfl
    match xs, hx with
    | [y0, y1, y2, y3, y4, y5, y6], _ =>
      simp only [List.getElem?_cons_zero, List.getElem?_cons_succ] at g0 g1 g2 g3 g4 g5 g6
      obtain ⟨c, e0, _, w0⟩ := DataW.trod_int Tryz.underlying3 g0
      obtain ⟨k, e1, _, _⟩ := DataW.trod_string Tryz.underlying9 g1
      obtain ⟨t, e2, _, w2⟩ := DataW.trod_int Tryz.underlying22 g2
      obtain ⟨v, X, e3, hL, hXl⟩ := read_wrts n _ _ g3
      obtain ⟨h, e4, _, w4⟩ := DataW.trod_int Tryz.underlying3 g4
      obtain ⟨u, e5, _, w5⟩ := DataW.trod_int Tryz.underlying3 g5
      obtain ⟨m, e6, _, w6⟩ := DataW.trod_int Tryz.underlying3 g6
      simp only [List.cons.injEq, and_true] at e0 e1 e2 e3 e4 e5 e6
      subst e0 e1 e2 e3 e4 e5 e6
      have b2 := bounds_u64 w2
      exact ⟨_, _, _, _, X, _, _, _, rfl, hL, ⟨b2.1, by omega⟩⟩
theorem read_ansN {H : Type} {enc : TypeId × Value → H} {w : World} (fuel : Nat) (cs : List Value) (x : DataW H × List MemPlace)
    (h : DataW.trod enc Tryz.prog w 0 (fun _ => true) true fuel 32 cs = some x) : ∃ (c t : Int) (k v : ByteArray), cs = [.int .i64 c, .int .u64 t, .string k, .string v] ∧ 0 ≤ t := by
  obtain ⟨xs, n, _, _, hl, hxl, hf⟩ := DataW.trod_struct Tryz.underlying32 h
  rw [cellsA] at hl
  match cs, hl with
  | [a0, a1, a2, a3], _ =>
    have g0 : DataW.trod enc Tryz.prog w 0 (fun _ => true) true n 30 (([a0, a1, a2, a3].drop 0).take (Tryz.prog.cellsOf 30)) = xs[0]? := hf 0 _ rfl
    rw [cellsE] at g0
    have g1 : DataW.trod enc Tryz.prog w 0 (fun _ => true) true n 22 (([a0, a1, a2, a3].drop 1).take (Tryz.prog.cellsOf 22)) = xs[1]? := hf 1 _ rfl
    rw [cellsU] at g1
    have g2 : DataW.trod enc Tryz.prog w 0 (fun _ => true) true n 9 (([a0, a1, a2, a3].drop 2).take (Tryz.prog.cellsOf 9)) = xs[2]? := hf 2 _ rfl
    rw [cellsS] at g2
    have g3 : DataW.trod enc Tryz.prog w 0 (fun _ => true) true n 9 (([a0, a1, a2, a3].drop 3).take (Tryz.prog.cellsOf 9)) = xs[3]? := hf 3 _ rfl
    rw [cellsS] at g3
    simp only [List.drop_zero, List.drop_succ_cons, List.take_succ_cons, List.take_zero] at g0 g1 g2 g3
    have hx : xs.length = 4 := by rw [hxl]; rfl
    match xs, hx with
    | [y0, y1, y2, y3], _ =>
      simp only [List.getElem?_cons_zero, List.getElem?_cons_succ] at g0 g1 g2 g3
      obtain ⟨c, e0, _, w0⟩ := DataW.trod_int Tryz.underlying30 g0
      obtain ⟨t, e1, _, w1⟩ := DataW.trod_int Tryz.underlying22 g1
      obtain ⟨k, e2, _, _⟩ := DataW.trod_string Tryz.underlying9 g2
      obtain ⟨v, e3, _, _⟩ := DataW.trod_string Tryz.underlying9 g3
      simp only [List.cons.injEq, and_true] at e0 e1 e2 e3
      subst e0 e1 e2 e3
      exact ⟨_, _, _, _, rfl, (bounds_u64 w1).1⟩
theorem read_recN {H : Type} {enc : TypeId × Value → H} {w : World} (fuel : Nat) (cs : List Value) (x : DataW H × List MemPlace)
    (h : DataW.trod enc Tryz.prog w 0 (fun _ => true) true fuel 34 cs = some x) : ∃ c : RV, cs = rC c ∧ (OkB w c ∧ RngA c.n ∧ NatX c) := by
  obtain ⟨xs, n, _, _, hl, hxl, hf⟩ := DataW.trod_struct Tryz.underlying34 h
  rw [cellsR] at hl
  match cs, hl with
  | [a0, a1, a2, a3, a4, a5, a6, a7, a8, a9, a10, a11, a12, a13, a14, a15], _ =>
    have g0 : DataW.trod enc Tryz.prog w 0 (fun _ => true) true n 3 (([a0, a1, a2, a3, a4, a5, a6, a7, a8, a9, a10, a11, a12, a13, a14, a15].drop 0).take (Tryz.prog.cellsOf 3)) = xs[0]? := hf 0 _ rfl
    rw [cellsI] at g0
    have g1 : DataW.trod enc Tryz.prog w 0 (fun _ => true) true n 3 (([a0, a1, a2, a3, a4, a5, a6, a7, a8, a9, a10, a11, a12, a13, a14, a15].drop 1).take (Tryz.prog.cellsOf 3)) = xs[1]? := hf 1 _ rfl
    rw [cellsI] at g1
    have g2 : DataW.trod enc Tryz.prog w 0 (fun _ => true) true n 3 (([a0, a1, a2, a3, a4, a5, a6, a7, a8, a9, a10, a11, a12, a13, a14, a15].drop 2).take (Tryz.prog.cellsOf 3)) = xs[2]? := hf 2 _ rfl
    rw [cellsI] at g2
    have g3 : DataW.trod enc Tryz.prog w 0 (fun _ => true) true n 3 (([a0, a1, a2, a3, a4, a5, a6, a7, a8, a9, a10, a11, a12, a13, a14, a15].drop 3).take (Tryz.prog.cellsOf 3)) = xs[3]? := hf 3 _ rfl
    rw [cellsI] at g3
    have g4 : DataW.trod enc Tryz.prog w 0 (fun _ => true) true n 3 (([a0, a1, a2, a3, a4, a5, a6, a7, a8, a9, a10, a11, a12, a13, a14, a15].drop 4).take (Tryz.prog.cellsOf 3)) = xs[4]? := hf 4 _ rfl
    rw [cellsI] at g4
    have g5 : DataW.trod enc Tryz.prog w 0 (fun _ => true) true n 29 (([a0, a1, a2, a3, a4, a5, a6, a7, a8, a9, a10, a11, a12, a13, a14, a15].drop 5).take (Tryz.prog.cellsOf 29)) = xs[5]? := hf 5 _ rfl
    rw [cellsO] at g5
    have g6 : DataW.trod enc Tryz.prog w 0 (fun _ => true) true n 32 (([a0, a1, a2, a3, a4, a5, a6, a7, a8, a9, a10, a11, a12, a13, a14, a15].drop 12).take (Tryz.prog.cellsOf 32)) = xs[6]? := hf 6 _ rfl
    rw [cellsA] at g6
    simp only [List.drop_zero, List.drop_succ_cons, List.take_succ_cons, List.take_zero] at g0 g1 g2 g3 g4 g5 g6
    have hx : xs.length = 7 := by rw [hxl]; rfl
    match xs, hx with
    | [y0, y1, y2, y3, y4, y5, y6], _ =>
      simp only [List.getElem?_cons_zero, List.getElem?_cons_succ] at g0 g1 g2 g3 g4 g5 g6
      obtain ⟨q0, e0, _, w0⟩ := DataW.trod_int Tryz.underlying3 g0
      obtain ⟨q1, e1, _, w1⟩ := DataW.trod_int Tryz.underlying3 g1
      obtain ⟨q2, e2, _, w2⟩ := DataW.trod_int Tryz.underlying3 g2
      obtain ⟨q3, e3, _, w3⟩ := DataW.trod_int Tryz.underlying3 g3
      obtain ⟨q4, e4, _, w4⟩ := DataW.trod_int Tryz.underlying3 g4
      obtain ⟨c, k, t, bv, b, hd, u, m, e5, hL, hbt⟩ := read_opN n _ _ g5
      obtain ⟨er, at_, ak, av, e6, hba⟩ := read_ansN n _ _ g6
      simp only [List.cons.injEq, and_true] at e0 e1 e2 e3 e4 e5 e6
      subst e0 e1 e2 e3 e4
      obtain ⟨rfl, rfl, rfl, rfl, rfl, rfl, rfl⟩ := e5
      obtain ⟨rfl, rfl, rfl, rfl⟩ := e6
      obtain ⟨bA, bc, bb, bo, rfl, hA, har⟩ := hL
      have b0 := bounds_i64 w0
      have b1 := bounds_i64 w1
      have b3 := bounds_i64 w3
      exact ⟨⟨⟨q0, q1, q2, q3, q4⟩, c, k, t, bA, bc, b, hd, u, m, er, at_, ak, av⟩, rfl, ⟨bA, bc, bb, bo, rfl, hA, har⟩, ⟨⟨b0.1, by show q0 < _; omega⟩, ⟨b1.1, by show q1 < _; omega⟩, ⟨b3.1, by show q3 < _; omega⟩⟩, hbt, hba⟩
theorem open_recsN {H : Type} {enc : TypeId × Value → H} {w : World} {r : Reach} {b0 : Nat} {v : Value} {d : DataW H} {p : List MemPlace}
    (hv : Value.okWide Tryz.prog w r b0 25 v) (h : DataW.Trod enc Tryz.prog w 0 (fun _ => true) true 25 v d p) :
    ∃ X : List RV, Lst w v X.length (rCs X) ∧ X.length ≤ 9223372036854775807 ∧ ∀ x ∈ X, OkB w x ∧ RngA x.n ∧ NatX x := by
  obtain ⟨A, cap, b, o, rows, rfl, hA, hx, hl, hr⟩ := open_rows 16 (by omega) (fun cs => ∃ c : RV, cs = rC c ∧ (OkB w c ∧ RngA c.n ∧ NatX c)) Tryz.underlying25 cellsR (fun fuel cs x h => read_recN fuel cs x h) hv h
  obtain ⟨X, rfl, hX⟩ := rows_map rC (fun c => OkB w c ∧ RngA c.n ∧ NatX c) rows (fun x hx => (hr x hx).2)
  simp only [List.length_map] at *
  exact ⟨X, ⟨A, cap, b, o, rfl, hA, by rw [rCs, List.flatMap_def]; exact hx⟩, hl, hX⟩
end Go.Proofs.YtbcgpjfejpcgnaaGreat
end
section
namespace Go.Proofs.YtbcgpjfejpcgnaaGreat
open Go.RowKit
set_option maxRecDepth 100000
set_option linter.unusedVariables false
set_option linter.unusedSimpArgs false
set_option maxHeartbeats 4000000 in
theorem rejects_main (T S N C R F K : Int) (xs : List RV) (hn : xs.length ≤ 20) (hN : ∀ x ∈ xs, NatX x) (hr : ∀ x ∈ xs, RngA x.n) (hbl : ∀ x ∈ xs, x.b.length ≤ 1000) :
    (O.cfgB T S N C R F K = true ∨ exE T S N C R F K xs = 1) := by
  by_cases h : O.cfgB T S N C R F K = true
  · exact .inl h
  · exact .inr (exE_bad (fun hh => h hh.1))
set_option maxHeartbeats 4000000 in
theorem linRejects_any (T S N C R F K : Int) (xs : List RV) (v : Value) (w : World) (hv : Lst w v xs.length (rCs xs)) (hx : xs.length ≤ 9223372036854775807) (hN : ∀ x ∈ xs, OkB w x ∧ RngA x.n ∧ NatX x) :
    Calls Tryz.prog 3 #[.agg #[.int .i64 T, .int .i64 S, .int .i64 N, .int .i64 C, .int .i64 R, .int .i64 F, .int .u64 K], v] w fun e w' => e = .returned (.bool true) ∧ Keeps [] w w' := by
  have kB := (Keeps.refl [] w).alloc (.cells #[.int .i64 T, .int .i64 S, .int .i64 N, .int .i64 C, .int .i64 R, .int .i64 F, .int .u64 K] 24)
  have bc := Blk.new w [.int .i64 T, .int .i64 S, .int .i64 N, .int .i64 C, .int .i64 R, .int .i64 F, .int .u64 K] 24
  obtain ⟨W, hW⟩ : ∃ W, W = w.alloc (.cells #[.int .i64 T, .int .i64 S, .int .i64 N, .int .i64 C, .int .i64 R, .int .i64 F, .int .u64 K] 24) := ⟨_, rfl⟩
  have bc' : Blk W w.heap.size [.int .i64 T, .int .i64 S, .int .i64 N, .int .i64 C, .int .i64 R, .int .i64 F, .int .u64 K] := by rw [hW]; exact bc
  rw [← hW] at kB
  have HW := Lib.hid hW
  have HB := Lib.hid (And.intro kB bc')
  have HV := Lib.hid hv
  obtain ⟨n, hn'⟩ : ∃ n, xs.length = n := ⟨_, rfl⟩
  obtain ⟨A, cap, bv_, ov_, rfl, hA, _⟩ := hv
  rw [hn'] at HV hA hx ⊢
  have Hn := Lib.hid hn'
  clear hn' hW kB bc bc'
  by_cases h20 : 20 < n
  · have h20' : (20 : Int) < (n : Int) := by omega
    go_enter Tryz.func3, Tryz.ntmps3
    go_upto_region 1 with fail
    rw [← HW.out]
    go_wp2_with fail
    refine (awake25_any W).mono ?_
    rintro e w1 ⟨rfl, k1⟩
    go_wp2_with fail
    go_ret
    exact ⟨rfl, HB.out.1.trans k1 (by simp)⟩
  · have h20' : ¬ (20 : Int) < (n : Int) := by omega
    go_enter Tryz.func3, Tryz.ntmps3
    go_upto_region 1 with fail
    rw [← HW.out]
    go_wp2_with fail
    go_loopw [5] (fun i wr => ∃ k : Nat, k ≤ n ∧ i = .int .i64 k ∧ wr = W ∧ Hid (∀ j x, j < k → xs[j]? = some x → x.b.length ≤ 30)) (fun i _ => n - (intOf i).toNat)
    case atStart => exact ⟨0, by omega, rfl, rfl, Lib.hid (fun i r h => by omega)⟩
    case round =>
      obtain ⟨k, hk, rfl, hwr, HO⟩ := hrel
      have hwr' := hwr.symm
      subst hwr'
      clear hwr
      by_cases hlt : k < n
      · obtain ⟨x, hxk⟩ : ∃ x, xs[k]? = some x := ⟨_, List.getElem?_eq_getElem (by rw [Hn.out]; exact hlt)⟩
        obtain ⟨g, o, hgo, hc, hg⟩ := (HV.out.keeps HB.out.1).atS Hn.out hxk
        have hgo2 : A = some ⟨g, o, none⟩ := hgo
        have c8 := hc 8 _ rfl
        have hkn : (k : Int) < (n : Int) := by omega
        have Hx := Lib.hid hxk
        clear hc hxk hgo
        obtain ⟨bl, hbl⟩ : ∃ bl, x.b.length = bl := ⟨_, rfl⟩
        have Hbl := Lib.hid hbl
        have c8' : W.cell? ⟨g, o + k * 16 + 8, none⟩ = some (.slice x.bA bl x.bc) := by rw [← hbl]; exact c8
        clear hbl c8
        go_upto_region 6 with fail
        go_cut [28] from 21 to 29 (fun s28 wx => s28 = .bool (decide ((30 : Int) < (bl : Int))) ∧ wx = W)
        case first =>
          rw [hgo2]
          go_wp2_with fail
          rw [← hgo2]
          go_meet
          exact ⟨rfl, rfl⟩
        case rest =>
        obtain ⟨rfl, hwc⟩ := hcut
        have hwc' := hwc.symm
        subst hwc'
        clear hwc hgo2 c8' hg
        by_cases h30 : 30 < bl
        · have h30' : decide ((30 : Int) < (bl : Int)) = true := decide_eq_true (by omega)
          rw [h30']
          clear HO h30
          go_wp2_with fail
          refine (awake25_any W).mono ?_
          rintro e w1 ⟨rfl, k1⟩
          go_wp2_with fail
          go_ret
          exact ⟨rfl, HB.out.1.trans k1 (by simp)⟩
        · have h30' : decide ((30 : Int) < (bl : Int)) = false := decide_eq_false (by omega)
          rw [h30']
          have hO2 : Hid (∀ j y, j < k + 1 → xs[j]? = some y → y.b.length ≤ 30) := Lib.hid (fun j y hj hy => by
            by_cases hjk : j = k
            · subst hjk
              rw [Hx.out] at hy
              cases hy
              have := Hbl.out
              omega
            · exact HO.out j y (by omega) hy)
          clear HO h30
          go_wp2_with fail
          exact ⟨⟨k + 1, by omega, by go_num, by first | rfl | trivial, hO2⟩, by simp [intOf]; omega⟩
      · obtain rfl : k = n := by omega
        have hb : ∀ x ∈ xs, OkB w x ∧ x.b.length ≤ 1000 := fun x hx => by
          obtain ⟨j, hj⟩ := List.mem_iff_getElem?.1 hx
          have := HO.out j x (by have := (List.getElem?_eq_some_iff.1 hj).1; rw [Hn.out] at this; exact this) hj
          exact ⟨(hN x hx).1, by omega⟩
        have hNx : ∀ x ∈ xs, NatX x := fun x hx => (hN x hx).2.2
        have hrx : ∀ x ∈ xs, RngA x.n := fun x hx => (hN x hx).2.1
        have hl20 : xs.length ≤ 20 := by rw [Hn.out]; omega
        have hV' : ∀ u, Keeps [] w u → Lst u (.slice A k cap) xs.length (rCs xs) := fun u ku => by rw [Hn.out]; exact HV.out.keeps ku
        have hx1 := fun (T S N C R F K : Int) u (ku : Keeps [] w u) => xexplain_any T S N C R F K xs (by omega) _ u (hV' u ku) hNx (fun x hx => ⟨(hb x hx).1.keeps ku, (hb x hx).2⟩)
        have hx2 := fun (T S N C R F K : Int) u (ku : Keeps [] w u) => pexplain2_any T S N C R F K xs (by omega) _ u (hV' u ku) hNx hrx (fun x hx => ⟨(hb x hx).1.keeps ku, (hb x hx).2⟩)
        have Hm := Lib.hid (rejects_main T S N C R F K xs hl20 hNx hrx (fun x hx => (hb x hx).2))
        have hvc := fun u => O.v3_any T S N C R F K u
        obtain ⟨d0, d1, d2, d3, d4, d5, d6, df, dl⟩ := HB.out.2.o7
        clear HO hlt hk hb hNx hrx hl20 hV'
        go_wp2_with fail
        refine (hx1 T S N C R F K W HB.out.1).mono ?_
        rintro e w1 ⟨ww1, s1, rfl, _, _, k1⟩
        have K1 := HB.out.1.trans k1 (by simp)
        have bc1 := k1.blk HB.out.2 (by simp)
        clear k1 d0 d1 d2 d3 d4 d5 d6 df dl
        go_wp2_with fail
        refine (O.config_kit 3 0 (by omega) (by omega) w1).mono ?_
        rintro e w2 ⟨rfl, k2⟩
        have h4 : (4 : Int) + 0 % 3 = 4 := by decide
        rw [h4]
        clear h4
        have kA := (k2.alloc (.cells #[.int .i64 3, .int .i64 2, .int .i64 100, .int .i64 100, .int .i64 200, .int .i64 4, .int .u64 1000] 24))
        have bA := Blk.new w2 [.int .i64 3, .int .i64 2, .int .i64 100, .int .i64 100, .int .i64 200, .int .i64 4, .int .u64 1000] 24
        have bc2 := kA.blk bc1 (by simp)
        have K2 := K1.trans kA (by simp)
        clear bc1 K1 kA k2
        go_upto_region 10 with fail
        obtain ⟨w3, hw3⟩ : ∃ w3, w3 = w2.alloc (.cells #[.int .i64 3, .int .i64 2, .int .i64 100, .int .i64 100, .int .i64 200, .int .i64 4, .int .u64 1000] 24) := ⟨_, rfl⟩
        have bA3 : Blk w3 w2.heap.size [.int .i64 3, .int .i64 2, .int .i64 100, .int .i64 100, .int .i64 200, .int .i64 4, .int .u64 1000] := by rw [hw3]; exact bA
        rw [← hw3] at bc2 K2 ⊢
        clear hw3 bA
        obtain ⟨a0, a1, a2, a3, a4, a5, a6, af, al⟩ := bA3.o7
        have HB3 := Lib.hid (And.intro K2 (And.intro bc2 bA3))
        clear K2 bc2 bA3
        go_wp2_with fail
        refine (hx1 3 2 100 100 200 4 1000 w3 HB3.out.1).mono ?_
        rintro e w4 ⟨ww2, s2, rfl, _, _, k4⟩
        have K4 := HB3.out.1.trans k4 (by simp)
        have bc4 := k4.blk HB3.out.2.1 (by simp)
        have bA4 := k4.blk HB3.out.2.2 (by simp)
        clear k4 a0 a1 a2 a3 a4 a5 a6 af al
        go_wp2_with fail
        refine (awake25_any w4).mono ?_
        rintro e w5 ⟨rfl, k5⟩
        have K5 := K4.trans k5 (by simp)
        have bc5 := k5.blk bc4 (by simp)
        have bA5 := k5.blk bA4 (by simp)
        obtain ⟨d0, d1, d2, d3, d4, d5, d6, df, dl⟩ := bc5.o7
        clear k5 K4 bc4 bA4
        obtain ⟨E1, hE1⟩ : ∃ E1, exE T S N C R F K xs = E1 := ⟨_, rfl⟩
        obtain ⟨E2, hE2⟩ : ∃ E2, exE 3 2 100 100 200 4 1000 xs = E2 := ⟨_, rfl⟩
        have hp1 := hx2 T S N C R F K w5 K5
        have HE1 := Lib.hid hE1
        rw [hE1] at hp1 ⊢
        rw [hE2]
        have HB5 := Lib.hid (And.intro K5 (And.intro bc5 bA5))
        clear K5 bc5 bA5 hE1
        go_wp2_with fail
        refine hp1.mono ?_
        rintro e w6 ⟨rfl, k6⟩
        obtain ⟨K5, bc5, bA5⟩ := HB5.out
        have K6 := K5.trans k6 (by simp)
        have bc6 := k6.blk bc5 (by simp)
        have bA6 := k6.blk bA5 (by simp)
        have hp2 := hx2 3 2 100 100 200 4 1000 w6 K6
        rw [hE2] at hp2
        have hq1 : (E1 == E1) = true := by simp
        have hq2 : (E2 == E2) = true := by simp
        clear d0 d1 d2 d3 d4 d5 d6 df dl k6 K5 bc5 bA5 hE2 HB5
        obtain ⟨a0, a1, a2, a3, a4, a5, a6, af, al⟩ := bA6.o7
        have HB6 := Lib.hid (And.intro K6 (And.intro bc6 bA6))
        clear K6 bc6 bA6
        go_wp2_with fail
        refine hp2.mono ?_
        rintro e w7 ⟨rfl, k7⟩
        obtain ⟨K6, bc6, bA6⟩ := HB6.out
        have K7 := K6.trans k7 (by simp)
        have bc7 := k7.blk bc6 (by simp)
        clear a0 a1 a2 a3 a4 a5 a6 af al k7 K6 bc6 bA6 HB6
        obtain ⟨d0, d1, d2, d3, d4, d5, d6, df, dl⟩ := bc7.o7
        have HK := Lib.hid K7
        clear K7 bc7
        go_wp2_with fail
        refine (hvc w7).mono ?_
        rintro e w8 ⟨rfl, k8⟩
        obtain ⟨b, hb⟩ : ∃ b, O.cfgB T S N C R F K = b := ⟨_, rfl⟩
        rw [hb]
        have HK8 := Lib.hid (HK.out.trans k8 (by simp))
        have Hb := Lib.hid hb
        clear k8 hb d0 d1 d2 d3 d4 d5 d6 df dl
        cases b with
        | true =>
          go_wp2_with fail
          go_ret
          exact ⟨rfl, HK8.out⟩
        | false =>
          have hE : E1 = 1 := by
            rcases Hm.out with h | h
            · rw [Hb.out] at h; exact absurd h (by simp)
            · rw [← HE1.out]; exact h
          subst hE
          go_wp2_with fail
          go_ret
          exact ⟨rfl, HK8.out⟩
end Go.Proofs.YtbcgpjfejpcgnaaGreat
end
section
namespace Go.Proofs.YtbcgpjfejpcgnaaGreat
open Go.RowKit Go.ChangeShapes Go.WideShapes Go.ChangeAt
set_option maxRecDepth 100000
set_option linter.unusedVariables false
theorem cellsCfg : Tryz.prog.cellsOf 24 = 7 := by kernel_rfl
theorem read_cfg {H : Type} {enc : TypeId × Value → H} {w : World} (fuel : Nat) (cs : List Value) (x : DataW H × List MemPlace)
    (h : DataW.trod enc Tryz.prog w 0 (fun _ => true) true fuel 24 cs = some x) : ∃ T S N C R F K : Int, cs = [.int .i64 T, .int .i64 S, .int .i64 N, .int .i64 C, .int .i64 R, .int .i64 F, .int .u64 K] := by
  obtain ⟨xs, n, _, _, hl, hxl, hf⟩ := DataW.trod_struct Tryz.underlying24 h
  rw [cellsCfg] at hl
  match cs, hl with
  | [a0, a1, a2, a3, a4, a5, a6], _ =>
    have g0 : DataW.trod enc Tryz.prog w 0 (fun _ => true) true n 3 (([a0, a1, a2, a3, a4, a5, a6].drop 0).take (Tryz.prog.cellsOf 3)) = xs[0]? := hf 0 _ rfl
    rw [cellsI] at g0
    have g1 : DataW.trod enc Tryz.prog w 0 (fun _ => true) true n 3 (([a0, a1, a2, a3, a4, a5, a6].drop 1).take (Tryz.prog.cellsOf 3)) = xs[1]? := hf 1 _ rfl
    rw [cellsI] at g1
    have g2 : DataW.trod enc Tryz.prog w 0 (fun _ => true) true n 3 (([a0, a1, a2, a3, a4, a5, a6].drop 2).take (Tryz.prog.cellsOf 3)) = xs[2]? := hf 2 _ rfl
    rw [cellsI] at g2
    have g3 : DataW.trod enc Tryz.prog w 0 (fun _ => true) true n 3 (([a0, a1, a2, a3, a4, a5, a6].drop 3).take (Tryz.prog.cellsOf 3)) = xs[3]? := hf 3 _ rfl
    rw [cellsI] at g3
    have g4 : DataW.trod enc Tryz.prog w 0 (fun _ => true) true n 3 (([a0, a1, a2, a3, a4, a5, a6].drop 4).take (Tryz.prog.cellsOf 3)) = xs[4]? := hf 4 _ rfl
    rw [cellsI] at g4
    have g5 : DataW.trod enc Tryz.prog w 0 (fun _ => true) true n 3 (([a0, a1, a2, a3, a4, a5, a6].drop 5).take (Tryz.prog.cellsOf 3)) = xs[5]? := hf 5 _ rfl
    rw [cellsI] at g5
    have g6 : DataW.trod enc Tryz.prog w 0 (fun _ => true) true n 22 (([a0, a1, a2, a3, a4, a5, a6].drop 6).take (Tryz.prog.cellsOf 22)) = xs[6]? := hf 6 _ rfl
    rw [cellsU] at g6
    simp only [List.drop_zero, List.drop_succ_cons, List.take_succ_cons, List.take_zero] at g0 g1 g2 g3 g4 g5 g6
    have hx : xs.length = 7 := by rw [hxl]; rfl
    match xs, hx with
    | [y0, y1, y2, y3, y4, y5, y6], _ =>
      simp only [List.getElem?_cons_zero, List.getElem?_cons_succ] at g0 g1 g2 g3 g4 g5 g6
      obtain ⟨q0, e0, _, w0⟩ := DataW.trod_int Tryz.underlying3 g0
      obtain ⟨q1, e1, _, w1⟩ := DataW.trod_int Tryz.underlying3 g1
      obtain ⟨q2, e2, _, w2⟩ := DataW.trod_int Tryz.underlying3 g2
      obtain ⟨q3, e3, _, w3⟩ := DataW.trod_int Tryz.underlying3 g3
      obtain ⟨q4, e4, _, w4⟩ := DataW.trod_int Tryz.underlying3 g4
      obtain ⟨q5, e5, _, w5⟩ := DataW.trod_int Tryz.underlying3 g5
      obtain ⟨q6, e6, _, w6⟩ := DataW.trod_int Tryz.underlying22 g6
      simp only [List.cons.injEq, and_true] at e0 e1 e2 e3 e4 e5 e6
      subst e0 e1 e2 e3 e4 e5 e6
      exact ⟨_, _, _, _, _, _, _, rfl⟩
theorem open_cfg {H : Type} {enc : TypeId × Value → H} {w : World} {r : Reach} {b0 : Nat} {v : Value} {d : DataW H} {p : List MemPlace}
    (hv : Value.okWide Tryz.prog w r b0 24 v) (h : DataW.Trod enc Tryz.prog w 0 (fun _ => true) true 24 v d p) :
    ∃ T S N C R F K : Int, v = .agg #[.int .i64 T, .int .i64 S, .int .i64 N, .int .i64 C, .int .i64 R, .int .i64 F, .int .u64 K] := by
  obtain ⟨cs, rfl, hsz⟩ := okWide_struct Tryz.underlying24 hv
  obtain ⟨fuel, hf⟩ := h
  obtain ⟨T, S, N, C, R, F, K, hc⟩ := read_cfg _ _ _ hf
  refine ⟨T, S, N, C, R, F, K, ?_⟩
  obtain ⟨l⟩ := cs
  simp only [Value.cells] at hc
  rw [hc]
end Go.Proofs.YtbcgpjfejpcgnaaGreat
end
