/- Lemmas on the way to LinearRejects. No condition. -/
import Derived.Test.YtbcgpjfejpcgnaaGreatQAn
import Derived.Test.YtbcgpjfejpcgnaaGreatQAs
import Derived.BigQuiet
import Derived.Deep.CutBlock
set_option linter.unusedSimpArgs false
set_option linter.unusedVariables false
set_option linter.unusedSectionVars false
section
namespace Go.Proofs.YtbcgpjfejpcgnaaGreat
open Go.RowKit Go.Shelf Go.Lib Go.Sort
set_option linter.unusedSectionVars false
set_option linter.unusedVariables false
set_option maxRecDepth 100000
set_option linter.unusedSimpArgs false
set_option maxHeartbeats 2000000
theorem rec_at {w : World} {g : Nat} {T : List RV} {rest : List Value} (h : Blk w g (rCs T ++ rest)) {i : Nat} {y : RV} (hy : T[i]? = some y) : Cel w g (i * 16) y := fun j u hj => by
  have hj16 : j < 16 := by have := (List.getElem?_eq_some_iff.1 hj).1; rwa [rC_len] at this
  rw [h.cell, rCs_cells T rest i y hy j hj16, hj]
def RoPost (xs : List RV) (w : World) (e : Ending) (w' : World) : Prop := ∃ u, e = .returned u ∧ Row w' u (ordL xs).length 16 (rCs (ordL xs)) ∧ Keeps [] w w'
theorem rorder_any (xs : List RV) (hn : xs.length ≤ 100) (v : Value) (w : World) (hv : Lst w v xs.length (rCs xs)) : Calls Tryz.prog 15 #[v] w (RoPost xs w) := by
  have mixed : Tryz.prog.follows .mixedOrders = true := by kernel_rfl
  have HV := Lib.hid hv
  obtain ⟨n, hn'⟩ : ∃ n, xs.length = n := ⟨_, rfl⟩
  obtain ⟨A, cap, b, o, rfl, _, _⟩ := hv
  rw [hn'] at hn HV ⊢
  have Hn := Lib.hid hn'
  clear hn'
  go_enter Tryz.func15, Tryz.ntmps15
  go_wp2_with fail
  go_loopw [3, 4] (fun l i wr => ∃ k : Nat, k ≤ n ∧ i = .int .i64 k ∧ Row wr l (rordL xs k).length 16 (rCs (rordL xs k)) ∧ (∀ g, l.ownBlock = some g → w.heap.size ≤ g) ∧ Keeps [] w wr ∧ (rordL xs k).length ≤ k) (fun _ i _ => n - (intOf i).toNat)
  case atStart => exact ⟨0, by omega, rfl, Row.nil _ _, fun g hg => by simp [Value.ownBlock] at hg, Keeps.refl _ _, Nat.le_refl _⟩
  case round =>
    obtain ⟨k, hk, rfl, hrow, hge, kk, hlk⟩ := hrel
    by_cases hlt : k < n
    · obtain ⟨x, hx⟩ : ∃ x, xs[k]? = some x := ⟨_, List.getElem?_eq_getElem (by rw [Hn.out]; exact hlt)⟩
      obtain ⟨g, o', rfl, hc, hg⟩ := HV.out.atS Hn.out hx
      have hkn : (k : Int) < (n : Int) := by omega
      have hcr := hc.keeps kk (by simp)
      have x3 := hcr.num.2.2.2.1
      by_cases hp : x.n.pt = -1
      · have hpb : (x.n.pt == -1) = true := by simpa using hp
        have hs := rordL_skip hx hp
        have HSk := Lib.hid hs
        clear hs hx hp hc hcr
        go_wp2_with fail
        exact ⟨⟨k + 1, by omega, by go_num, by rw [HSk.out]; exact hrow, hge, kk, by rw [HSk.out]; omega⟩, by simp [intOf]; omega⟩
      · have hpb : (x.n.pt == -1) = false := by simpa using hp
        obtain ⟨L, hL⟩ : ∃ L, rordL xs k = L := ⟨_, rfl⟩
        have hput := rordL_put hx hp
        rw [hL] at hrow hlk hput
        obtain ⟨m, hm⟩ : ∃ m, L.length = m := ⟨_, rfl⟩
        rw [hm] at hrow hlk hput
        have HPut := Lib.hid hput
        have Hm := Lib.hid hm
        have HCw := Lib.hid hc
        have hl1 := hcr.load
        have kal : Keeps [] wr (wr.alloc (.cells #[.int .i64 x.n.th, .int .i64 x.n.ix, .int .i64 x.n.inv, .int .i64 x.n.pt, .int .i64 x.n.rs, .int .i64 x.code, .string x.key, .int .u64 x.time, .slice x.bA x.b.length x.bc, .int .i64 x.hd, .int .i64 x.cu, .int .i64 x.mo, .int .i64 x.er, .int .u64 x.at_, .string x.ak, .string x.av] 34)) := (Keeps.refl [] wr).alloc _
        obtain ⟨i0, hi0, hz0, hz1, hz2⟩ := info_parts infoR
        obtain ⟨u2, w2, hap, hrow2, k2, hf2⟩ := row_append (hrow.keeps kal (by simp)) 25 25 34 i0 _ 168 Tryz.underlying25 hi0 hz0 hz1 hz2 rfl (by decide) ⟨wr.heap.size, 0, none⟩ 1 1 (rC x) rfl (fun j u hj => by rw [Addr.add_lit]; exact (Blk.new_at wr wr.heap.size [.int .i64 x.n.th, .int .i64 x.n.ix, .int .i64 x.n.inv, .int .i64 x.n.pt, .int .i64 x.n.rs, .int .i64 x.code, .string x.key, .int .u64 x.time, .slice x.bA x.b.length x.bc, .int .i64 x.hd, .int .i64 x.cu, .int .i64 x.mo, .int .i64 x.er, .int .u64 x.at_, .string x.ak, .string x.av] 34 (by simp)).cel j u hj) (rC_one x) (by omega) (by decide)
        obtain ⟨A3, c3, h3⟩ := hrow.len
        subst h3
        obtain ⟨h1, ⟨_, h0⟩ | ⟨g3, cap3, rest, hu2, hb3, hc1, hc2, hc3⟩⟩ := hrow2
        · exact absurd h0 (by omega)
        subst hu2
        have hge3 : w.heap.size ≤ g3 := by
          rcases hf2 g3 rfl with h | h
          · exact hge g3 h
          · have := kk.size; have := kal.size; omega
        have K2 : Keeps [] w w2 := (kk.trans kal (by simp)).trans k2 (fun i hi => .inr (hge i (by simpa using hi)))
        have hhole : rCs L ++ rC x = rCs (holeL L x m) := by rw [← hm]; simp [holeL, rCs_append, rCs_one]
        rw [hhole] at hb3 h1 hc3
        have HB3 := Lib.hid hb3
        have HRes := Lib.hid (And.intro h1 (And.intro hc1 (And.intro hc2 hc3)))
        have HK2 := Lib.hid K2
        clear hx hL hput hm hc hcr hrow k2 hf2 hhole hb3 h1 hc1 hc2 hc3 kal hge K2 hi0 hz0 hz1 hz2 hp
        go_upto_block 2 with (first
          | (refine list_load_eq rfl 34 _ rfl _ rfl _ hl1 ?_)
          | (at_builtin; refine list_append_eq rfl _ _ 25 25 rfl _ _ rfl rfl hap ?_))
        go_cut [5] from 6 to 59 (fun s wx => ∃ (j : Nat) (z : RV), s = .int .i64 j ∧ j ≤ m ∧ Blk wx g3 (rCs (holeL L z j) ++ rest) ∧ Keeps [g3] w2 wx ∧ Hid (rordL xs (k + 1) = holeL L x j))
        case first =>
          go_wp2_with fail
          go_loopw [5] (fun s wx => ∃ (j : Nat) (z : RV), s = .int .i64 j ∧ j ≤ m ∧ Hid (Blk wx g3 (rCs (holeL L z j) ++ rest)) ∧ Keeps [g3] w2 wx ∧ Hid (∀ y ∈ L.drop j, keyP x < keyP y)) (fun s _ => (intOf s).toNat)
          case atStart => exact ⟨m, x, rfl, Nat.le_refl _, HB3, Keeps.refl _ _, Lib.hid (by rw [← Hm.out]; simp)⟩
          case round =>
            obtain ⟨j, z, rfl, hj, HB, k4, HI⟩ := hrel
            have K4 : Keeps [] w wr := HK2.out.trans k4 (fun i hi => .inr (by simp at hi; omega))
            have x3 := (HCw.out.keeps K4 (by simp)).num.2.2.2.1
            rcases Nat.eq_zero_or_pos j with h0 | h0
            · subst h0
              have hs := HPut.out 0 HI.out (fun y h => absurd h (Nat.lt_irrefl 0)) (Nat.zero_le _)
              have HSk := Lib.hid hs
              clear hs x3
              go_wp2_with fail
              go_quiet (fail)
              go_wp2_with fail
              go_meet
              case rel => exact ⟨0, z, rfl, Nat.zero_le _, HB.out, k4.drewN _, HSk⟩
            · obtain ⟨i, rfl⟩ : ∃ i, j = i + 1 := ⟨j - 1, by omega⟩
              obtain ⟨y, hy⟩ : ∃ y, L[i]? = some y := ⟨_, List.getElem?_eq_getElem (by rw [Hm.out]; omega)⟩
              have hcy := rec_at HB.out (holeL_at (z := z) hy)
              have y3 := hcy.num.2.2.2.1
              have jz : (i : Int) + 1 < (m : Int) + 1 := by omega
              have jz1 : (i : Int) < (m : Int) + 1 := by omega
              have jz0 : (0 : Int) < (i : Int) + 1 := by omega
              have jzp : (0 : Int) ≤ (i : Int) + 1 := by omega
              have hwj : IntKind.i64.wrap (i : Int) = (i : Int) := by rw [IntKind.wrap_i64]; omega
              have e1 : ((i : Int) + 1).toNat = i + 1 := by omega
              by_cases hgt : x.n.pt < y.n.pt
              · have hd : decide (x.n.pt < y.n.pt) = true := decide_eq_true hgt
                have hI2 : ∀ y' ∈ L.drop i, keyP x < keyP y' := fun y' hy' => by
                  obtain ⟨q1, q2⟩ := List.getElem?_eq_some_iff.1 hy
                  rw [List.drop_eq_getElem_cons q1, q2] at hy'
                  rcases List.mem_cons.1 hy' with rfl | hy'
                  · exact hgt
                  · exact HI.out y' hy'
                have HI2 := Lib.hid hI2
                have HY := Lib.hid hy
                have HCy := Lib.hid hcy
                clear hI2 hy hcy
                go_wp2_with fail
                go_quiet (fail)
                have HBq : Hid (Blk (wr.drewN nq) g3 (rCs (holeL L z (i + 1)) ++ rest)) := HB.out.drewN nq
                have k4q : Keeps [g3] w2 (wr.drewN nq) := k4.drewN nq
                have HCq : Hid (Cel (wr.drewN nq) g3 (i * 16) y) := HCy.out
                generalize wr.drewN nq = wq at HBq k4q HCq ⊢
                clear x3 y3 HB k4 K4 HCy
                have ldy := HCq.out.load
                obtain ⟨w5, st5, hb5, k5⟩ := store_rec HBq.out y (i + 1) (by rw [List.length_take, Hm.out]; omega)
                rw [holeL_step HY.out] at hb5
                have HB5 := Lib.hid hb5
                have K5 : Keeps [g3] w2 w5 := k4q.trans k5 (fun i hi => .inl hi)
                clear hb5 k5 k4q HCq HBq
                go_wp2_with (first
                  | (refine list_load_eq rfl 34 _ rfl _ rfl _ ldy ?_)
                  | (refine list_store_eq rfl 34 _ _ rfl _ rfl _ rfl st5 ?_))
                exact ⟨⟨i, y, by first | rfl | go_num, by omega, HB5, K5, HI2⟩, by simp [intOf] <;> omega⟩
              · have hd : decide (x.n.pt < y.n.pt) = false := decide_eq_false hgt
                have hs := HPut.out (i + 1) HI.out (fun y' _ h => by rw [Nat.add_sub_cancel, hy] at h; obtain rfl := Option.some.inj h; unfold keyP; omega) hj
                have HSk := Lib.hid hs
                clear hs hy hcy
                go_wp2_with fail
                go_quiet (fail)
                go_wp2_with fail
                go_meet
                case rel => exact ⟨i + 1, z, rfl, hj, HB.out, k4.drewN _, HSk⟩
        case rest =>
        obtain ⟨j, z, rfl, hj, hb5, k5, HSk⟩ := hcut
        have K5 : Keeps [] w wc := HK2.out.trans k5 (fun i hi => .inr (by simp at hi; omega))
        have hcx := HCw.out.keeps K5 (by simp)
        have ldx := hcx.load
        obtain ⟨w6, st6, hb6, k6⟩ := store_rec hb5 x j (by rw [List.length_take, Hm.out]; omega)
        have K6 : Keeps [] w w6 := K5.trans k6 (fun i hi => .inr (by simp at hi; omega))
        have hrowf : Row w6 (.slice (some ⟨g3, 0, none⟩) (m + 1) cap3) (rordL xs (k + 1)).length 16 (rCs (rordL xs (k + 1))) := by
          rw [HSk.out, holeL_len, Hm.out]
          refine ⟨by rw [rCs_len, holeL_len, Hm.out], .inr ⟨g3, cap3, rest, rfl, hb6, HRes.out.2.1, HRes.out.2.2.1, ?_⟩⟩
          rw [← HRes.out.2.2.2, List.length_append, List.length_append, rCs_len, rCs_len, holeL_len, holeL_len]
        have hlen : (rordL xs (k + 1)).length ≤ k + 1 := by rw [HSk.out, holeL_len, Hm.out]; omega
        have HRF := Lib.hid hrowf
        have HLen := Lib.hid hlen
        have jz : (j : Int) < (m : Int) + 1 := by omega
        clear hrowf hlen hb5 hb6 hcx k5 k6 hl1 hap x3 K5
        go_wp2_with (first
          | (refine list_load_eq rfl 34 _ rfl _ rfl _ ldx ?_)
          | (refine list_store_eq rfl 34 _ _ rfl _ rfl _ rfl st6 ?_))
        exact ⟨⟨k + 1, by omega, by go_num, HRF.out, fun g hg => by simp [Value.ownBlock] at hg; omega, K6, HLen.out⟩, by simp [intOf]; omega⟩
    · obtain rfl : k = n := by omega
      go_wp2_with fail
      go_ret
      refine ⟨_, rfl, ?_, kk⟩
      rw [← rordL_full, Hn.out]; exact hrow
end Go.Proofs.YtbcgpjfejpcgnaaGreat
end
section
namespace Go.Proofs.YtbcgpjfejpcgnaaGreat
open Go.RowKit
set_option linter.unusedSectionVars false
set_option linter.unusedVariables false
set_option maxRecDepth 100000
set_option linter.unusedSimpArgs false
set_option maxHeartbeats 2000000
def sndR (r : Rec) : Bool := decide (r.th < 0) || decide (r.ix < 0) || decide (r.inv < 0) || decide (r.pt < -1) || (decide (0 ≤ r.pt) && decide (r.pt < r.inv)) || decide (r.rs < -1) || (decide (0 ≤ r.rs) && (decide (r.pt < 0) || decide (r.rs < r.pt)))
theorem sndR_iff (r : Rec) : sndR r = false ↔ SoundR r := by
  unfold sndR SoundR
  simp only [Bool.or_eq_false_iff, Bool.and_eq_false_iff, decide_eq_false_iff_not]
  omega
def InnOk (i : Nat) (r : Rec) (k : Nat) (z : Rec) : Prop := (k ≠ i → 0 ≤ r.pt → z.pt ≠ r.pt) ∧ (k < i → z.th = r.th → 0 ≤ z.rs ∧ z.rs < r.inv)
def innN (l : List Rec) (i : Nat) (r : Rec) (k : Nat) : Nat := ((l.take (min k i)).filter (fun y => y.th == r.th)).length
theorem innN_step {l : List Rec} {i k : Nat} {r z : Rec} (hz : l[k]? = some z) : innN l i r (k + 1) = innN l i r k + (if k < i ∧ z.th = r.th then 1 else 0) := by
  unfold innN
  by_cases h : k < i
  · rw [show min (k + 1) i = k + 1 by omega, show min k i = k by omega, List.take_add_one, hz, List.filter_append, List.length_append]
    by_cases ht : z.th = r.th
    · simp [h, ht]
    · simp [h, ht]
  · rw [show min (k + 1) i = i by omega, show min k i = i by omega]
    simp [h]
theorem innN_le (l : List Rec) (i : Nat) (r : Rec) (k : Nat) : innN l i r k ≤ k := by
  unfold innN
  have := List.length_filter_le (fun y : Rec => y.th == r.th) (l.take (min k i))
  rw [List.length_take] at this
  omega
theorem refOk_of {l : List Rec} {i : Nat} {r : Rec} (hi : i < l.length) (h1 : sndR r = false) (h2 : ∀ y, 0 < i → l[i - 1]? = some y → y.inv < r.inv) (h3 : ∀ (k : Nat) (z : Rec), l[k]? = some z → InnOk i r k z) (h4 : r.ix = (innN l i r l.length : Nat)) : RefOk l i r := by
  refine ⟨(sndR_iff r).1 h1, h2, fun k z hz => ⟨(h3 k z hz).1, (h3 k z hz).2⟩, ?_⟩
  rw [h4]
  unfold innN
  rw [show min l.length i = i by omega]
theorem ref_not {l : List Rec} {i : Nat} {r : Rec} (hr : l[i]? = some r) (h : ¬ RefOk l i r) : ¬ Good l := fun g => h ((chkR_iff l).2 g i r hr)
def RckPost (l : List Rec) (w : World) (e : Ending) (w' : World) : Prop := ∃ r : Bool, e = .returned (.bool r) ∧ (r = true ↔ Good l) ∧ Keeps [] w w'
theorem rcheck_any (xs : List RV) (hn : xs.length ≤ 1000) (v : Value) (w : World) (hv : Lst w v xs.length (rCs xs)) : Calls Tryz.prog 13 #[v] w (RckPost (xs.map (·.n)) w) := by
  have mixed : Tryz.prog.follows .mixedOrders = true := by kernel_rfl
  have HV := Lib.hid hv
  obtain ⟨n, hn'⟩ : ∃ n, xs.length = n := ⟨_, rfl⟩
  obtain ⟨A, cap, b, o, rfl, _, _⟩ := hv
  rw [hn'] at hn HV ⊢
  have Hn := Lib.hid hn'
  have HN : Hid ((xs.map (·.n)).length = n) := by show _ = _; rw [List.length_map, Hn.out]
  clear hn'
  go_enter Tryz.func13, Tryz.ntmps13
  go_wp2_with fail
  go_loopw [3] (fun i wr => ∃ k : Nat, k ≤ n ∧ i = .int .i64 k ∧ Keeps [] w wr ∧ Hid (∀ i r, i < k → (xs.map (·.n))[i]? = some r → RefOk (xs.map (·.n)) i r)) (fun i _ => n - (intOf i).toNat)
  case atStart => exact ⟨0, by omega, rfl, Keeps.refl _ _, Lib.hid (fun i r h => by omega)⟩
  case round =>
    obtain ⟨k, hk, rfl, kk, HB⟩ := hrel
    by_cases hlt : k < n
    · obtain ⟨x, hx⟩ : ∃ x, xs[k]? = some x := ⟨_, List.getElem?_eq_getElem (by rw [Hn.out]; exact hlt)⟩
      obtain ⟨g, o', rfl, hc, hg⟩ := (HV.out.keeps kk).atS Hn.out hx
      have hl0 := hc.load
      have hst := store_new wr x
      have Hbk := Lib.hid (new_rec wr x)
      have hkn : (k : Int) < (n : Int) := by omega
      have Hx := Lib.hid (recs_at hx)
      have HNot := Lib.hid (fun h => ref_not (l := xs.map (·.n)) (recs_at hx) h)
      clear hx hc
      go_upto_region 4 with fail
      go_cut [4] from 7 to 140 (fun s4 wx => ∃ g4, s4 = .pointer (some ⟨g4, 0, none⟩) ∧ Blk wx g4 [.int .i64 x.n.th, .int .i64 x.n.ix, .int .i64 x.n.inv, .int .i64 x.n.pt, .int .i64 x.n.rs, .int .i64 x.code, .string x.key, .int .u64 x.time, .slice x.bA x.b.length x.bc, .int .i64 x.hd, .int .i64 x.cu, .int .i64 x.mo, .int .i64 x.er, .int .u64 x.at_, .string x.ak, .string x.av] ∧ Keeps [] w wx)
      case first =>
        go_wp2_with (first
          | (refine list_load_eq rfl 34 _ rfl _ rfl _ hl0 ?_)
          | (refine list_store_eq rfl 34 _ _ rfl _ rfl _ rfl (hst _ rfl) ?_))
        go_meet
        case rel => exact ⟨_, rfl, Hbk.out, kk.alloc _⟩
      case rest =>
      obtain ⟨g4, rfl, hbk, k4⟩ := hcut
      clear hl0 hst Hbk kk
      obtain ⟨c0, c1, c2, c3, c4⟩ := hbk.cel.num
      simp only [Nat.zero_add] at c1 c2 c3 c4
      have g4l := hbk.lt
      go_upto_region 5 with fail
      go_cut [68] from 7 to 140 (fun s wx => s = .bool (sndR x.n) ∧ wx = wc)
      case first =>
        by_cases qq1 : x.n.th < 0
        · have qq1d : decide (x.n.th < 0) = true := decide_eq_true qq1
          first
            | (exfalso; omega)
            | (have hv : sndR x.n = true := by unfold sndR; simp; omega
               have Hv := Lib.hid hv
               clear hv
               go_wp2_with fail
               go_meet
               case rel => exact ⟨by rw [Hv.out], rfl⟩)
        · have qq1d : decide (x.n.th < 0) = false := decide_eq_false qq1
          by_cases qq2 : x.n.ix < 0
          · have qq2d : decide (x.n.ix < 0) = true := decide_eq_true qq2
            first
              | (exfalso; omega)
              | (have hv : sndR x.n = true := by unfold sndR; simp; omega
                 have Hv := Lib.hid hv
                 clear hv
                 go_wp2_with fail
                 go_meet
                 case rel => exact ⟨by rw [Hv.out], rfl⟩)
          · have qq2d : decide (x.n.ix < 0) = false := decide_eq_false qq2
            by_cases qq3 : x.n.inv < 0
            · have qq3d : decide (x.n.inv < 0) = true := decide_eq_true qq3
              first
                | (exfalso; omega)
                | (have hv : sndR x.n = true := by unfold sndR; simp; omega
                   have Hv := Lib.hid hv
                   clear hv
                   go_wp2_with fail
                   go_meet
                   case rel => exact ⟨by rw [Hv.out], rfl⟩)
            · have qq3d : decide (x.n.inv < 0) = false := decide_eq_false qq3
              by_cases qq4 : x.n.pt < -1
              · have qq4d : decide (x.n.pt < -1) = true := decide_eq_true qq4
                first
                  | (exfalso; omega)
                  | (have hv : sndR x.n = true := by unfold sndR; simp; omega
                     have Hv := Lib.hid hv
                     clear hv
                     go_wp2_with fail
                     go_meet
                     case rel => exact ⟨by rw [Hv.out], rfl⟩)
              · have qq4d : decide (x.n.pt < -1) = false := decide_eq_false qq4
                by_cases qq5 : 0 ≤ x.n.pt
                · have qq5d : decide (0 ≤ x.n.pt) = true := decide_eq_true qq5
                  by_cases qq6 : x.n.pt < x.n.inv
                  · have qq6d : decide (x.n.pt < x.n.inv) = true := decide_eq_true qq6
                    first
                      | (exfalso; omega)
                      | (have hv : sndR x.n = true := by unfold sndR; simp; omega
                         have Hv := Lib.hid hv
                         clear hv
                         go_wp2_with fail
                         go_meet
                         case rel => exact ⟨by rw [Hv.out], rfl⟩)
                  · have qq6d : decide (x.n.pt < x.n.inv) = false := decide_eq_false qq6
                    by_cases qq7 : x.n.rs < -1
                    · have qq7d : decide (x.n.rs < -1) = true := decide_eq_true qq7
                      first
                        | (exfalso; omega)
                        | (have hv : sndR x.n = true := by unfold sndR; simp; omega
                           have Hv := Lib.hid hv
                           clear hv
                           go_wp2_with fail
                           go_meet
                           case rel => exact ⟨by rw [Hv.out], rfl⟩)
                    · have qq7d : decide (x.n.rs < -1) = false := decide_eq_false qq7
                      by_cases qq8 : 0 ≤ x.n.rs
                      · have qq8d : decide (0 ≤ x.n.rs) = true := decide_eq_true qq8
                        by_cases qq9 : x.n.pt < 0
                        · have qq9d : decide (x.n.pt < 0) = true := decide_eq_true qq9
                          first
                            | (exfalso; omega)
                            | (have hv : sndR x.n = true := by unfold sndR; simp; omega
                               have Hv := Lib.hid hv
                               clear hv
                               go_wp2_with fail
                               go_meet
                               case rel => exact ⟨by rw [Hv.out], rfl⟩)
                        · have qq9d : decide (x.n.pt < 0) = false := decide_eq_false qq9
                          by_cases qq10 : x.n.rs < x.n.pt
                          · have qq10d : decide (x.n.rs < x.n.pt) = true := decide_eq_true qq10
                            first
                              | (exfalso; omega)
                              | (have hv : sndR x.n = true := by unfold sndR; simp; omega
                                 have Hv := Lib.hid hv
                                 clear hv
                                 go_wp2_with fail
                                 go_meet
                                 case rel => exact ⟨by rw [Hv.out], rfl⟩)
                          · have qq10d : decide (x.n.rs < x.n.pt) = false := decide_eq_false qq10
                            first
                              | (exfalso; omega)
                              | (have hv : sndR x.n = false := by unfold sndR; simp; omega
                                 have Hv := Lib.hid hv
                                 clear hv
                                 go_wp2_with fail
                                 go_meet
                                 case rel => exact ⟨by rw [Hv.out], rfl⟩)
                      · have qq8d : decide (0 ≤ x.n.rs) = false := decide_eq_false qq8
                        first
                          | (exfalso; omega)
                          | (have hv : sndR x.n = false := by unfold sndR; simp; omega
                             have Hv := Lib.hid hv
                             clear hv
                             go_wp2_with fail
                             go_meet
                             case rel => exact ⟨by rw [Hv.out], rfl⟩)
                · have qq5d : decide (0 ≤ x.n.pt) = false := decide_eq_false qq5
                  by_cases qq11 : x.n.rs < -1
                  · have qq11d : decide (x.n.rs < -1) = true := decide_eq_true qq11
                    first
                      | (exfalso; omega)
                      | (have hv : sndR x.n = true := by unfold sndR; simp; omega
                         have Hv := Lib.hid hv
                         clear hv
                         go_wp2_with fail
                         go_meet
                         case rel => exact ⟨by rw [Hv.out], rfl⟩)
                  · have qq11d : decide (x.n.rs < -1) = false := decide_eq_false qq11
                    by_cases qq12 : 0 ≤ x.n.rs
                    · have qq12d : decide (0 ≤ x.n.rs) = true := decide_eq_true qq12
                      by_cases qq13 : x.n.pt < 0
                      · have qq13d : decide (x.n.pt < 0) = true := decide_eq_true qq13
                        first
                          | (exfalso; omega)
                          | (have hv : sndR x.n = true := by unfold sndR; simp; omega
                             have Hv := Lib.hid hv
                             clear hv
                             go_wp2_with fail
                             go_meet
                             case rel => exact ⟨by rw [Hv.out], rfl⟩)
                      · have qq13d : decide (x.n.pt < 0) = false := decide_eq_false qq13
                        by_cases qq14 : x.n.rs < x.n.pt
                        · have qq14d : decide (x.n.rs < x.n.pt) = true := decide_eq_true qq14
                          first
                            | (exfalso; omega)
                            | (have hv : sndR x.n = true := by unfold sndR; simp; omega
                               have Hv := Lib.hid hv
                               clear hv
                               go_wp2_with fail
                               go_meet
                               case rel => exact ⟨by rw [Hv.out], rfl⟩)
                        · have qq14d : decide (x.n.rs < x.n.pt) = false := decide_eq_false qq14
                          first
                            | (exfalso; omega)
                            | (have hv : sndR x.n = false := by unfold sndR; simp; omega
                               have Hv := Lib.hid hv
                               clear hv
                               go_wp2_with fail
                               go_meet
                               case rel => exact ⟨by rw [Hv.out], rfl⟩)
                    · have qq12d : decide (0 ≤ x.n.rs) = false := decide_eq_false qq12
                      first
                        | (exfalso; omega)
                        | (have hv : sndR x.n = false := by unfold sndR; simp; omega
                           have Hv := Lib.hid hv
                           clear hv
                           go_wp2_with fail
                           go_meet
                           case rel => exact ⟨by rw [Hv.out], rfl⟩)
      case rest =>
      obtain ⟨rfl, rfl⟩ := hcut
      obtain ⟨bd, hbd⟩ : ∃ bd, sndR x.n = bd := ⟨_, rfl⟩
      rw [hbd]
      have Hbd := Lib.hid hbd
      clear hbd
      cases bd with
      | true =>
        have Hng := Lib.hid (HNot.out (fun h => by have := (sndR_iff x.n).2 h.1; rw [Hbd.out] at this; cases this))
        go_wp2_with fail
        go_ret
        exact ⟨false, rfl, by simpa using Hng.out, k4⟩
      | false =>
      go_upto_region 7 with fail
      obtain ⟨bp, hbp⟩ : ∃ bp : Bool, (bp = true ↔ ∃ y, 0 < k ∧ (xs.map (·.n))[k - 1]? = some y ∧ x.n.inv ≤ y.inv) := by
        haveI := Classical.propDecidable (∃ y, 0 < k ∧ (xs.map (·.n))[k - 1]? = some y ∧ x.n.inv ≤ y.inv)
        exact ⟨decide (∃ y, 0 < k ∧ (xs.map (·.n))[k - 1]? = some y ∧ x.n.inv ≤ y.inv), decide_eq_true_iff⟩
      have Hbp := Lib.hid hbp
      clear hbp
      go_cut [81] from 7 to 140 (fun s wx => s = .bool bp ∧ ∃ z, wx = wc.drewN z)
      case first =>
        rcases Nat.eq_zero_or_pos k with hk0 | hk0
        · subst hk0
          have hv : bp = false := by
            cases bp with
            | false => rfl
            | true => obtain ⟨y, h, _⟩ := Hbp.out.1 rfl; exact absurd h (Nat.lt_irrefl 0)
          have Hv := Lib.hid hv
          clear hv
          go_quiet (fail)
          go_wp2_with fail
          go_meet
          case rel => exact ⟨by rw [Hv.out], _, rfl⟩
        · obtain ⟨kp, rfl⟩ : ∃ kp, k = kp + 1 := ⟨k - 1, by omega⟩
          obtain ⟨y, hy⟩ : ∃ y, xs[kp]? = some y := ⟨_, List.getElem?_eq_getElem (by rw [Hn.out]; omega)⟩
          obtain ⟨g2, o2, e2, hc2, hg2⟩ := (HV.out.keeps k4).atS Hn.out hy
          injection e2 with e2
          injection e2 with e2 e3
          subst e2; subst e3
          have y2 := hc2.num.2.2.1
          have Hy := Lib.hid (recs_at hy)
          have hkz : (kp : Int) < (n : Int) := by omega
          have hwk : IntKind.i64.wrap (kp : Int) = (kp : Int) := by rw [IntKind.wrap_i64]; omega
          have hk1 : (0 : Int) < (kp : Int) + 1 := by omega
          clear hc2 hy
          by_cases hle : x.n.inv ≤ y.n.inv
          · have hd : decide (x.n.inv ≤ y.n.inv) = true := decide_eq_true hle
            have hv : bp = true := Hbp.out.2 ⟨y.n, by omega, Hy.out, hle⟩
            have Hv := Lib.hid hv
            clear hv
            go_quiet (fail)
            go_wp2_with fail
            go_meet
            case rel => exact ⟨by rw [Hv.out], _, rfl⟩
          · have hd : decide (x.n.inv ≤ y.n.inv) = false := decide_eq_false hle
            have hv : bp = false := by
              cases bp with
              | false => rfl
              | true =>
                obtain ⟨y', _, h2, h3⟩ := Hbp.out.1 rfl
                rw [Nat.add_sub_cancel, Hy.out] at h2
                obtain rfl := Option.some.inj h2
                exact absurd h3 hle
            have Hv := Lib.hid hv
            clear hv
            go_quiet (fail)
            go_wp2_with fail
            go_meet
            case rel => exact ⟨by rw [Hv.out], _, rfl⟩
      case rest =>
      obtain ⟨rfl, zz, rfl⟩ := hcut
      have hbk5 : Blk (wc.drewN zz) g4 [.int .i64 x.n.th, .int .i64 x.n.ix, .int .i64 x.n.inv, .int .i64 x.n.pt, .int .i64 x.n.rs, .int .i64 x.code, .string x.key, .int .u64 x.time, .slice x.bA x.b.length x.bc, .int .i64 x.hd, .int .i64 x.cu, .int .i64 x.mo, .int .i64 x.er, .int .u64 x.at_, .string x.ak, .string x.av] := hbk.drewN zz
      have k5 : Keeps [] w (wc.drewN zz) := k4.drewN zz
      generalize wc.drewN zz = wd at hbk5 k5 ⊢
      clear hbk k4 c0 c1 c2 c3 c4 g4l
      cases bp with
      | true =>
        have Hng := Lib.hid (HNot.out (fun h => by
          obtain ⟨y, h1, h2, h3⟩ := Hbp.out.1 rfl
          have := h.2.1 y h1 h2
          omega))
        go_wp2_with fail
        go_ret
        exact ⟨false, rfl, by simpa using Hng.out, k5⟩
      | false =>
      have HP : Hid (∀ y, 0 < k → (xs.map (·.n))[k - 1]? = some y → y.inv < x.n.inv) := fun y h1 h2 => by
        by_cases h : x.n.inv ≤ y.inv
        · have := Hbp.out.2 ⟨y, h1, h2, h⟩; cases this
        · omega
      have HS := Lib.hid (fun (j : Nat) (z : Rec) (hz : (xs.map (·.n))[j]? = some z) => innN_step (l := xs.map (·.n)) (i := k) (r := x.n) hz)
      have HZ := Lib.hid (innN_le (xs.map (·.n)) k x.n)
      go_wp2_with fail
      go_loopw [5, 6] (fun c j wx => ∃ q : Nat, q ≤ n ∧ j = .int .i64 q ∧ c = .int .i64 (innN (xs.map (·.n)) k x.n q : Nat) ∧ (∃ z, wx = wd.drewN z) ∧ Hid (∀ t z, t < q → (xs.map (·.n))[t]? = some z → InnOk k x.n t z)) (fun _ j _ => n - (intOf j).toNat)
      case atStart => exact ⟨0, by omega, rfl, rfl, ⟨0, rfl⟩, Lib.hid (fun t z h => by omega)⟩
      case round =>
        obtain ⟨q, hq, rfl, rfl, ⟨zq, rfl⟩, HI⟩ := hrel
        have hbk6 : Blk (wd.drewN zq) g4 [.int .i64 x.n.th, .int .i64 x.n.ix, .int .i64 x.n.inv, .int .i64 x.n.pt, .int .i64 x.n.rs, .int .i64 x.code, .string x.key, .int .u64 x.time, .slice x.bA x.b.length x.bc, .int .i64 x.hd, .int .i64 x.cu, .int .i64 x.mo, .int .i64 x.er, .int .u64 x.at_, .string x.ak, .string x.av] := hbk5.drewN zq
        have k6 : Keeps [] w (wd.drewN zq) := k5.drewN zq
        obtain ⟨c, hcc⟩ : ∃ c, innN (xs.map (·.n)) k x.n q = c := ⟨_, rfl⟩
        have hcq : c ≤ q := by have := HZ.out q; omega
        rw [hcc]
        have HC := Lib.hid hcc
        clear hcc
        by_cases hlt2 : q < n
        · obtain ⟨z, hz⟩ : ∃ z, xs[q]? = some z := ⟨_, List.getElem?_eq_getElem (by rw [Hn.out]; exact hlt2)⟩
          obtain ⟨g2, o2, e2, hc2, hg2⟩ := (HV.out.keeps k5).atS Hn.out hz
          injection e2 with e2
          injection e2 with e2 e3
          subst e2; subst e3
          obtain ⟨z0, z1, z2, z3, z4⟩ := hc2.num
          obtain ⟨c0, c1, c2, c3, c4⟩ := hbk5.cel.num
          simp only [Nat.zero_add] at c1 c2 c3 c4
          have g4l := hbk5.lt
          have hqn : (q : Int) < (n : Int) := by omega
          have hw1 : IntKind.i64.wrap ((c : Int) + 1) = (c : Int) + 1 := by rw [IntKind.wrap_i64]; omega
          have Hz := Lib.hid (recs_at hz)
          clear hc2 hz hbk6
          go_upto_region 13 with fail
          go_cut [105] from 82 to 136 (fun s wx => s = .bool (decide (q ≠ k) && (decide (0 ≤ x.n.pt) && decide (z.n.pt = x.n.pt))) ∧ ∃ t, wx = wd.drewN t)
          case first =>
            by_cases h1 : q = k
            · have hb1 : ((q : Int) != (k : Int)) = false := by simp [h1]
              have hv : (decide (q ≠ k) && (decide (0 ≤ x.n.pt) && decide (z.n.pt = x.n.pt))) = false := by simp [h1]
              have Hv := Lib.hid hv
              clear hv h1
              go_quiet (fail)
              go_wp2_with fail
              go_meet
              case rel => exact ⟨by rw [Hv.out], _, rfl⟩
            · have hb1 : ((q : Int) != (k : Int)) = true := by simp; omega
              by_cases h2 : 0 ≤ x.n.pt
              · have hb2 : decide (0 ≤ x.n.pt) = true := decide_eq_true h2
                by_cases h3 : z.n.pt = x.n.pt
                · have hb3 : (z.n.pt == x.n.pt) = true := by simp [h3]
                  have hv : (decide (q ≠ k) && (decide (0 ≤ x.n.pt) && decide (z.n.pt = x.n.pt))) = true := by simp [h1, h2, h3]
                  have Hv := Lib.hid hv
                  clear hv h3
                  go_quiet (fail)
                  go_wp2_with fail
                  go_meet
                  case rel => exact ⟨by rw [Hv.out], _, rfl⟩
                · have hb3 : (z.n.pt == x.n.pt) = false := by simp [h3]
                  have hv : (decide (q ≠ k) && (decide (0 ≤ x.n.pt) && decide (z.n.pt = x.n.pt))) = false := by simp [h3]
                  have Hv := Lib.hid hv
                  clear hv h3
                  go_quiet (fail)
                  go_wp2_with fail
                  go_meet
                  case rel => exact ⟨by rw [Hv.out], _, rfl⟩
              · have hb2 : decide (0 ≤ x.n.pt) = false := decide_eq_false h2
                have hv : (decide (q ≠ k) && (decide (0 ≤ x.n.pt) && decide (z.n.pt = x.n.pt))) = false := by rw [hb2]; simp
                have Hv := Lib.hid hv
                clear hv
                go_quiet (fail)
                go_wp2_with fail
                go_meet
                case rel => exact ⟨by rw [Hv.out], _, rfl⟩
          case rest =>
          obtain ⟨rfl, zt, rfl⟩ := hcut
          obtain ⟨b13, hb13⟩ : ∃ b13, (decide (q ≠ k) && (decide (0 ≤ x.n.pt) && decide (z.n.pt = x.n.pt))) = b13 := ⟨_, rfl⟩
          rw [hb13]
          have HB13 := Lib.hid hb13
          clear hb13 k6
          have k6 : Keeps [] w (wd.drewN zt) := k5.drewN zt
          cases b13 with
          | true =>
            have Hng := Lib.hid (HNot.out (fun h => by
              have hb := HB13.out
              simp only [Bool.and_eq_true, decide_eq_true_eq] at hb
              exact (h.2.2.1 q z.n Hz.out).1 hb.1 hb.2.1 hb.2.2))
            go_wp2_with fail
            go_ret
            exact ⟨false, rfl, by simpa using Hng.out, k6⟩
          | false =>
          have HIn : Hid (q ≠ k → 0 ≤ x.n.pt → z.n.pt ≠ x.n.pt) := fun h1 h2 h3 => by
            have hb := HB13.out
            simp [h1, h2, h3] at hb
          go_upto_region 15 with fail
          go_cut [118] from 82 to 136 (fun s wx => s = .bool (decide (q < k ∧ z.n.th = x.n.th)) ∧ ∃ t, wx = wd.drewN t)
          case first =>
            by_cases h1 : q < k
            · have hb1 : decide ((q : Int) < (k : Int)) = true := by simp; exact h1
              by_cases h3 : z.n.th = x.n.th
              · have hb3 : (z.n.th == x.n.th) = true := by simp [h3]
                have hv : decide (q < k ∧ z.n.th = x.n.th) = true := decide_eq_true ⟨h1, h3⟩
                have Hv := Lib.hid hv
                clear hv h3
                go_quiet (fail)
                go_wp2_with fail
                go_meet
                case rel => exact ⟨by rw [Hv.out], _, rfl⟩
              · have hb3 : (z.n.th == x.n.th) = false := by simp [h3]
                have hv : decide (q < k ∧ z.n.th = x.n.th) = false := decide_eq_false (fun h => h3 h.2)
                have Hv := Lib.hid hv
                clear hv h3
                go_quiet (fail)
                go_wp2_with fail
                go_meet
                case rel => exact ⟨by rw [Hv.out], _, rfl⟩
            · have hb1 : decide ((q : Int) < (k : Int)) = false := by simp; omega
              have hv : decide (q < k ∧ z.n.th = x.n.th) = false := decide_eq_false (fun h => h1 h.1)
              have Hv := Lib.hid hv
              clear hv
              go_quiet (fail)
              go_wp2_with fail
              go_meet
              case rel => exact ⟨by rw [Hv.out], _, rfl⟩
          case rest =>
          obtain ⟨rfl, zu, rfl⟩ := hcut
          clear k6
          have k6 : Keeps [] w (wd.drewN zu) := k5.drewN zu
          by_cases h15 : q < k ∧ z.n.th = x.n.th
          · have hb15 : decide (q < k ∧ z.n.th = x.n.th) = true := decide_eq_true h15
            rw [hb15]
            have H15 := Lib.hid h15
            clear hb15 h15
            go_upto_region 17 with fail
            go_cut [136] from 82 to 136 (fun s wx => s = .bool (decide (z.n.rs < 0) || decide (x.n.inv ≤ z.n.rs)) ∧ ∃ t, wx = wd.drewN t)
            case first =>
              by_cases h1 : z.n.rs < 0
              · have hb1 : decide (z.n.rs < 0) = true := decide_eq_true h1
                have hv : (decide (z.n.rs < 0) || decide (x.n.inv ≤ z.n.rs)) = true := by rw [hb1]; rfl
                have Hv := Lib.hid hv
                clear hv
                go_quiet (fail)
                go_wp2_with fail
                go_meet
                case rel => exact ⟨by rw [Hv.out], _, rfl⟩
              · have hb1 : decide (z.n.rs < 0) = false := decide_eq_false h1
                by_cases h2 : x.n.inv ≤ z.n.rs
                · have hb2 : decide (x.n.inv ≤ z.n.rs) = true := decide_eq_true h2
                  have hv : (decide (z.n.rs < 0) || decide (x.n.inv ≤ z.n.rs)) = true := by rw [hb1, hb2]; rfl
                  have Hv := Lib.hid hv
                  clear hv
                  go_quiet (fail)
                  go_wp2_with fail
                  go_meet
                  case rel => exact ⟨by rw [Hv.out], _, rfl⟩
                · have hb2 : decide (x.n.inv ≤ z.n.rs) = false := decide_eq_false h2
                  have hv : (decide (z.n.rs < 0) || decide (x.n.inv ≤ z.n.rs)) = false := by rw [hb1, hb2]; rfl
                  have Hv := Lib.hid hv
                  clear hv
                  go_quiet (fail)
                  go_wp2_with fail
                  go_meet
                  case rel => exact ⟨by rw [Hv.out], _, rfl⟩
            case rest =>
            obtain ⟨rfl, zv, rfl⟩ := hcut
            clear k6
            have k6 : Keeps [] w (wd.drewN zv) := k5.drewN zv
            obtain ⟨b17, hb17⟩ : ∃ b17, (decide (z.n.rs < 0) || decide (x.n.inv ≤ z.n.rs)) = b17 := ⟨_, rfl⟩
            rw [hb17]
            have HB17 := Lib.hid hb17
            clear hb17
            cases b17 with
            | true =>
              have Hng := Lib.hid (HNot.out (fun h => by
                have hb := HB17.out
                simp only [Bool.or_eq_true, decide_eq_true_eq] at hb
                have := (h.2.2.1 q z.n Hz.out).2 H15.out.1 H15.out.2
                omega))
              go_wp2_with fail
              go_ret
              exact ⟨false, rfl, by simpa using Hng.out, k6⟩
            | false =>
              have hst : innN (xs.map (·.n)) k x.n (q + 1) = c + 1 := by rw [HS.out q z.n Hz.out, HC.out, if_pos H15.out]
              have HSt := Lib.hid hst
              have HRs : Hid (0 ≤ z.n.rs ∧ z.n.rs < x.n.inv) := by
                have hb := HB17.out
                simp only [Bool.or_eq_false_iff, decide_eq_false_iff_not] at hb
                exact ⟨by omega, by omega⟩
              clear hst
              go_wp2_with fail
              refine ⟨⟨q + 1, by omega, by go_num, by rw [HSt.out]; go_num, ⟨_, rfl⟩, Lib.hid fun t z' ht hz' => ?_⟩, by simp [intOf]; omega⟩
              rcases Nat.lt_or_ge t q with h | h
              · exact HI.out t z' h hz'
              · obtain rfl : t = q := by omega
                rw [Hz.out] at hz'
                obtain rfl := Option.some.inj hz'
                exact ⟨HIn.out, fun _ _ => HRs.out⟩
          · have hb15 : decide (q < k ∧ z.n.th = x.n.th) = false := decide_eq_false h15
            rw [hb15]
            have hst : innN (xs.map (·.n)) k x.n (q + 1) = c := by rw [HS.out q z.n Hz.out, HC.out, if_neg h15, Nat.add_zero]
            have HSt := Lib.hid hst
            have H15 := Lib.hid h15
            clear hb15 h15 hst
            go_wp2_with fail
            refine ⟨⟨q + 1, by omega, by go_num, by rw [HSt.out], ⟨_, rfl⟩, Lib.hid fun t z' ht hz' => ?_⟩, by simp [intOf]; omega⟩
            rcases Nat.lt_or_ge t q with h | h
            · exact HI.out t z' h hz'
            · obtain rfl : t = q := by omega
              rw [Hz.out] at hz'
              obtain rfl := Option.some.inj hz'
              exact ⟨HIn.out, fun h1 h2 => absurd ⟨h1, h2⟩ H15.out⟩
        · obtain rfl : q = n := by omega
          have hix : innN (xs.map (·.n)) k x.n (xs.map (·.n)).length = c := by rw [HN.out]; exact HC.out
          have c1 := hbk6.cell 1
          simp only [List.getElem?_cons_succ, List.getElem?_cons_zero] at c1
          have g4l := hbk6.lt
          by_cases hxi : x.n.ix = (c : Int)
          · have hb : (x.n.ix != (c : Int)) = false := by simp [hxi]
            have hok : RefOk (xs.map (·.n)) k x.n := refOk_of (by rw [HN.out]; exact hlt) Hbd.out HP.out (fun t z hz => HI.out t z (by have := (List.getElem?_eq_some_iff.1 hz).1; rw [HN.out] at this; exact this) hz) (by rw [hix]; exact hxi)
            have HOk := Lib.hid hok
            clear hok hxi hix
            go_wp2_with fail
            refine ⟨⟨k + 1, by omega, by go_num, k6, Lib.hid fun i r hi hr => ?_⟩, by simp [intOf]; omega⟩
            rcases Nat.lt_or_ge i k with h | h
            · exact HB.out i r h hr
            · obtain rfl : i = k := by omega
              rw [Hx.out] at hr
              obtain rfl := Option.some.inj hr
              exact HOk.out
          · have hb : (x.n.ix != (c : Int)) = true := by simp [hxi]
            have Hng := Lib.hid (HNot.out (fun h => by
              have h4 := h.2.2.2
              apply hxi
              rw [h4, ← hix]
              unfold innN
              rw [show min (xs.map (·.n)).length k = k by rw [HN.out]; omega]))
            clear hxi hix
            go_wp2_with fail
            go_ret
            exact ⟨false, rfl, by simpa using Hng.out, k6⟩
    · obtain rfl : k = n := by omega
      have hG : Good (xs.map (·.n)) := (chkR_iff _).1 fun i r hr => HB.out i r (by have := (List.getElem?_eq_some_iff.1 hr).1; rw [HN.out] at this; exact this) hr
      have Hg := Lib.hid hG
      clear hG
      go_wp2_with fail
      go_ret
      exact ⟨true, rfl, by simpa using Hg.out, kk⟩
end Go.Proofs.YtbcgpjfejpcgnaaGreat
end
