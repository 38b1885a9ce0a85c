/- The contract of the reference's Check. -/
import Derived.Test.YtjlgodaiciopaaaHisX
import Derived.Deep.CutBlock
import Derived.BigQuiet
namespace Go.Proofs.Ytjlgodaiciopaaa
open Go.RowKit
set_option linter.unusedSectionVars false
set_option linter.unusedVariables false
set_option maxRecDepth 100000
set_option linter.unusedSimpArgs false
set_option maxHeartbeats 2000000
/-- The reference's first test of a record, as it computes it. -/
def sndR (r : Rec) : Bool := decide (r.th < 0) || decide (r.ix < 0) || decide (r.inv < 0) || decide (r.pt < -1) || (decide (0 ≤ r.pt) && decide (r.pt < r.inv)) || decide (r.rs < -1) || (decide (0 ≤ r.rs) && (decide (r.pt < 0) || decide (r.rs < r.pt)))
theorem sndR_iff (r : Rec) : sndR r = false ↔ SoundR r := by
  unfold sndR SoundR
  simp only [Bool.or_eq_false_iff, Bool.and_eq_false_iff, decide_eq_false_iff_not]
  omega
/-- What the inner loop asks of the k-th record z, at record i. -/
def InnOk (i : Nat) (r : Rec) (k : Nat) (z : Rec) : Prop := (k ≠ i → 0 ≤ r.pt → z.pt ≠ r.pt) ∧ (k < i → z.th = r.th → 0 ≤ z.rs ∧ z.rs < r.inv)
/-- How many of the first k records, before i, are of r's thread. -/
def innN (l : List Rec) (i : Nat) (r : Rec) (k : Nat) : Nat := ((l.take (min k i)).filter (fun y => y.th == r.th)).length
theorem innN_step {l : List Rec} {i k : Nat} {r z : Rec} (hz : l[k]? = some z) : innN l i r (k + 1) = innN l i r k + (if k < i ∧ z.th = r.th then 1 else 0) := by
  unfold innN
  by_cases h : k < i
  · rw [show min (k + 1) i = k + 1 by omega, show min k i = k by omega, List.take_add_one, hz, List.filter_append, List.length_append]
    by_cases ht : z.th = r.th
    · simp [h, ht]
    · simp [h, ht]
  · rw [show min (k + 1) i = i by omega, show min k i = i by omega]
    simp [h]
theorem innN_le (l : List Rec) (i : Nat) (r : Rec) (k : Nat) : innN l i r k ≤ k := by
  unfold innN
  have := List.length_filter_le (fun y : Rec => y.th == r.th) (l.take (min k i))
  rw [List.length_take] at this
  omega
theorem refOk_of {l : List Rec} {i : Nat} {r : Rec} (hi : i < l.length) (h1 : sndR r = false) (h2 : ∀ y, 0 < i → l[i - 1]? = some y → y.inv < r.inv) (h3 : ∀ (k : Nat) (z : Rec), l[k]? = some z → InnOk i r k z) (h4 : r.ix = (innN l i r l.length : Nat)) : RefOk l i r := by
  refine ⟨(sndR_iff r).1 h1, h2, fun k z hz => ⟨(h3 k z hz).1, (h3 k z hz).2⟩, ?_⟩
  rw [h4]
  unfold innN
  rw [show min l.length i = i by omega]
theorem ref_not {l : List Rec} {i : Nat} {r : Rec} (hr : l[i]? = some r) (h : ¬ RefOk l i r) : ¬ Good l := fun g => h ((chkR_iff l).2 g i r hr)
def RckPost (l : List Rec) (w : World) (e : Ending) (w' : World) : Prop := ∃ r : Bool, e = .returned (.bool r) ∧ (r = true ↔ Good l) ∧ Keeps [] w w'
theorem rcheck_any (xs : List RV) (hn : xs.length ≤ 1000) (v : Value) (w : World) (hv : Lst w v xs.length (rCs xs)) : Calls Try.prog 11 #[v] w (RckPost (xs.map (·.n)) w) := by
  have mixed : Try.prog.follows .mixedOrders = true := by kernel_rfl
  have HV := Lib.hid hv
  obtain ⟨n, hn'⟩ : ∃ n, xs.length = n := ⟨_, rfl⟩
  obtain ⟨A, cap, b, o, rfl, _, _⟩ := hv
  rw [hn'] at hn HV ⊢
  have Hn := Lib.hid hn'
  have HN : Hid ((xs.map (·.n)).length = n) := by show _ = _; rw [List.length_map, Hn.out]
  clear hn'
  go_enter Try.func11, Try.ntmps11
  go_wp2_with fail
  go_loopw [3] (fun i wr => ∃ k : Nat, k ≤ n ∧ i = .int .i64 k ∧ Keeps [] w wr ∧ Hid (∀ i r, i < k → (xs.map (·.n))[i]? = some r → RefOk (xs.map (·.n)) i r)) (fun i _ => n - (intOf i).toNat)
  case atStart => exact ⟨0, by omega, rfl, Keeps.refl _ _, Lib.hid (fun i r h => by omega)⟩
  case round =>
    obtain ⟨k, hk, rfl, kk, HB⟩ := hrel
    by_cases hlt : k < n
    · obtain ⟨x, hx⟩ : ∃ x, xs[k]? = some x := ⟨_, List.getElem?_eq_getElem (by rw [Hn.out]; exact hlt)⟩
      obtain ⟨g, o', rfl, hc, hg⟩ := (HV.out.keeps kk).atS Hn.out hx
      have hl0 := hc.load
      have hst := store_new wr x
      have Hbk := Lib.hid (new_rec wr x)
      have hkn : (k : Int) < (n : Int) := by omega
      have Hx := Lib.hid (recs_at hx)
      have HNot := Lib.hid (fun h => ref_not (l := xs.map (·.n)) (recs_at hx) h)
      clear hx hc
      go_upto_region 4 with fail
      go_cut [4] from 7 to 140 (fun s4 wx => ∃ g4, s4 = .pointer (some ⟨g4, 0, none⟩) ∧ Blk wx g4 [.int .i64 x.n.th, .int .i64 x.n.ix, .int .i64 x.n.inv, .int .i64 x.n.pt, .int .i64 x.n.rs, .int .i64 x.code, .string x.key, .int .u64 x.time, .slice x.bA x.b.length x.bc, .int .i64 x.hd, .int .i64 x.cu, .int .i64 x.mo, .int .i64 x.er, .int .u64 x.at_, .string x.ak, .string x.av] ∧ Keeps [] w wx)
      case first =>
        go_wp2_with (first
          | (refine list_load_eq rfl 36 _ rfl _ rfl _ hl0 ?_)
          | (refine list_store_eq rfl 36 _ _ rfl _ rfl _ rfl (hst _ rfl) ?_))
        go_meet
        case rel => exact ⟨_, rfl, Hbk.out, kk.alloc _⟩
      case rest =>
      obtain ⟨g4, rfl, hbk, k4⟩ := hcut
      clear hl0 hst Hbk kk
      obtain ⟨c0, c1, c2, c3, c4⟩ := hbk.cel.num
      simp only [Nat.zero_add] at c1 c2 c3 c4
      have g4l := hbk.lt
      go_upto_region 5 with fail
      go_cut [68] from 7 to 140 (fun s wx => s = .bool (sndR x.n) ∧ wx = wc)
      case first =>
        by_cases qq1 : x.n.th < 0
        · have qq1d : decide (x.n.th < 0) = true := decide_eq_true qq1
          first
            | (exfalso; omega)
            | (have hv : sndR x.n = true := by unfold sndR; simp; omega
               have Hv := Lib.hid hv
               clear hv
               go_wp2_with fail
               go_meet
               case rel => exact ⟨by rw [Hv.out], rfl⟩)
        · have qq1d : decide (x.n.th < 0) = false := decide_eq_false qq1
          by_cases qq2 : x.n.ix < 0
          · have qq2d : decide (x.n.ix < 0) = true := decide_eq_true qq2
            first
              | (exfalso; omega)
              | (have hv : sndR x.n = true := by unfold sndR; simp; omega
                 have Hv := Lib.hid hv
                 clear hv
                 go_wp2_with fail
                 go_meet
                 case rel => exact ⟨by rw [Hv.out], rfl⟩)
          · have qq2d : decide (x.n.ix < 0) = false := decide_eq_false qq2
            by_cases qq3 : x.n.inv < 0
            · have qq3d : decide (x.n.inv < 0) = true := decide_eq_true qq3
              first
                | (exfalso; omega)
                | (have hv : sndR x.n = true := by unfold sndR; simp; omega
                   have Hv := Lib.hid hv
                   clear hv
                   go_wp2_with fail
                   go_meet
                   case rel => exact ⟨by rw [Hv.out], rfl⟩)
            · have qq3d : decide (x.n.inv < 0) = false := decide_eq_false qq3
              by_cases qq4 : x.n.pt < -1
              · have qq4d : decide (x.n.pt < -1) = true := decide_eq_true qq4
                first
                  | (exfalso; omega)
                  | (have hv : sndR x.n = true := by unfold sndR; simp; omega
                     have Hv := Lib.hid hv
                     clear hv
                     go_wp2_with fail
                     go_meet
                     case rel => exact ⟨by rw [Hv.out], rfl⟩)
              · have qq4d : decide (x.n.pt < -1) = false := decide_eq_false qq4
                by_cases qq5 : 0 ≤ x.n.pt
                · have qq5d : decide (0 ≤ x.n.pt) = true := decide_eq_true qq5
                  by_cases qq6 : x.n.pt < x.n.inv
                  · have qq6d : decide (x.n.pt < x.n.inv) = true := decide_eq_true qq6
                    first
                      | (exfalso; omega)
                      | (have hv : sndR x.n = true := by unfold sndR; simp; omega
                         have Hv := Lib.hid hv
                         clear hv
                         go_wp2_with fail
                         go_meet
                         case rel => exact ⟨by rw [Hv.out], rfl⟩)
                  · have qq6d : decide (x.n.pt < x.n.inv) = false := decide_eq_false qq6
                    by_cases qq7 : x.n.rs < -1
                    · have qq7d : decide (x.n.rs < -1) = true := decide_eq_true qq7
                      first
                        | (exfalso; omega)
                        | (have hv : sndR x.n = true := by unfold sndR; simp; omega
                           have Hv := Lib.hid hv
                           clear hv
                           go_wp2_with fail
                           go_meet
                           case rel => exact ⟨by rw [Hv.out], rfl⟩)
                    · have qq7d : decide (x.n.rs < -1) = false := decide_eq_false qq7
                      by_cases qq8 : 0 ≤ x.n.rs
                      · have qq8d : decide (0 ≤ x.n.rs) = true := decide_eq_true qq8
                        by_cases qq9 : x.n.pt < 0
                        · have qq9d : decide (x.n.pt < 0) = true := decide_eq_true qq9
                          first
                            | (exfalso; omega)
                            | (have hv : sndR x.n = true := by unfold sndR; simp; omega
                               have Hv := Lib.hid hv
                               clear hv
                               go_wp2_with fail
                               go_meet
                               case rel => exact ⟨by rw [Hv.out], rfl⟩)
                        · have qq9d : decide (x.n.pt < 0) = false := decide_eq_false qq9
                          by_cases qq10 : x.n.rs < x.n.pt
                          · have qq10d : decide (x.n.rs < x.n.pt) = true := decide_eq_true qq10
                            first
                              | (exfalso; omega)
                              | (have hv : sndR x.n = true := by unfold sndR; simp; omega
                                 have Hv := Lib.hid hv
                                 clear hv
                                 go_wp2_with fail
                                 go_meet
                                 case rel => exact ⟨by rw [Hv.out], rfl⟩)
                          · have qq10d : decide (x.n.rs < x.n.pt) = false := decide_eq_false qq10
                            first
                              | (exfalso; omega)
                              | (have hv : sndR x.n = false := by unfold sndR; simp; omega
                                 have Hv := Lib.hid hv
                                 clear hv
                                 go_wp2_with fail
                                 go_meet
                                 case rel => exact ⟨by rw [Hv.out], rfl⟩)
                      · have qq8d : decide (0 ≤ x.n.rs) = false := decide_eq_false qq8
                        first
                          | (exfalso; omega)
                          | (have hv : sndR x.n = false := by unfold sndR; simp; omega
                             have Hv := Lib.hid hv
                             clear hv
                             go_wp2_with fail
                             go_meet
                             case rel => exact ⟨by rw [Hv.out], rfl⟩)
                · have qq5d : decide (0 ≤ x.n.pt) = false := decide_eq_false qq5
                  by_cases qq11 : x.n.rs < -1
                  · have qq11d : decide (x.n.rs < -1) = true := decide_eq_true qq11
                    first
                      | (exfalso; omega)
                      | (have hv : sndR x.n = true := by unfold sndR; simp; omega
                         have Hv := Lib.hid hv
                         clear hv
                         go_wp2_with fail
                         go_meet
                         case rel => exact ⟨by rw [Hv.out], rfl⟩)
                  · have qq11d : decide (x.n.rs < -1) = false := decide_eq_false qq11
                    by_cases qq12 : 0 ≤ x.n.rs
                    · have qq12d : decide (0 ≤ x.n.rs) = true := decide_eq_true qq12
                      by_cases qq13 : x.n.pt < 0
                      · have qq13d : decide (x.n.pt < 0) = true := decide_eq_true qq13
                        first
                          | (exfalso; omega)
                          | (have hv : sndR x.n = true := by unfold sndR; simp; omega
                             have Hv := Lib.hid hv
                             clear hv
                             go_wp2_with fail
                             go_meet
                             case rel => exact ⟨by rw [Hv.out], rfl⟩)
                      · have qq13d : decide (x.n.pt < 0) = false := decide_eq_false qq13
                        by_cases qq14 : x.n.rs < x.n.pt
                        · have qq14d : decide (x.n.rs < x.n.pt) = true := decide_eq_true qq14
                          first
                            | (exfalso; omega)
                            | (have hv : sndR x.n = true := by unfold sndR; simp; omega
                               have Hv := Lib.hid hv
                               clear hv
                               go_wp2_with fail
                               go_meet
                               case rel => exact ⟨by rw [Hv.out], rfl⟩)
                        · have qq14d : decide (x.n.rs < x.n.pt) = false := decide_eq_false qq14
                          first
                            | (exfalso; omega)
                            | (have hv : sndR x.n = false := by unfold sndR; simp; omega
                               have Hv := Lib.hid hv
                               clear hv
                               go_wp2_with fail
                               go_meet
                               case rel => exact ⟨by rw [Hv.out], rfl⟩)
                    · have qq12d : decide (0 ≤ x.n.rs) = false := decide_eq_false qq12
                      first
                        | (exfalso; omega)
                        | (have hv : sndR x.n = false := by unfold sndR; simp; omega
                           have Hv := Lib.hid hv
                           clear hv
                           go_wp2_with fail
                           go_meet
                           case rel => exact ⟨by rw [Hv.out], rfl⟩)
      case rest =>
      obtain ⟨rfl, rfl⟩ := hcut
      obtain ⟨bd, hbd⟩ : ∃ bd, sndR x.n = bd := ⟨_, rfl⟩
      rw [hbd]
      have Hbd := Lib.hid hbd
      clear hbd
      cases bd with
      | true =>
        have Hng := Lib.hid (HNot.out (fun h => by have := (sndR_iff x.n).2 h.1; rw [Hbd.out] at this; cases this))
        go_wp2_with fail
        go_ret
        exact ⟨false, rfl, by simpa using Hng.out, k4⟩
      | false =>
      go_upto_region 7 with fail
      obtain ⟨bp, hbp⟩ : ∃ bp : Bool, (bp = true ↔ ∃ y, 0 < k ∧ (xs.map (·.n))[k - 1]? = some y ∧ x.n.inv ≤ y.inv) := by
        haveI := Classical.propDecidable (∃ y, 0 < k ∧ (xs.map (·.n))[k - 1]? = some y ∧ x.n.inv ≤ y.inv)
        exact ⟨decide (∃ y, 0 < k ∧ (xs.map (·.n))[k - 1]? = some y ∧ x.n.inv ≤ y.inv), decide_eq_true_iff⟩
      have Hbp := Lib.hid hbp
      clear hbp
      go_cut [81] from 7 to 140 (fun s wx => s = .bool bp ∧ ∃ z, wx = wc.drewN z)
      case first =>
        rcases Nat.eq_zero_or_pos k with hk0 | hk0
        · subst hk0
          have hv : bp = false := by
            cases bp with
            | false => rfl
            | true => obtain ⟨y, h, _⟩ := Hbp.out.1 rfl; exact absurd h (Nat.lt_irrefl 0)
          have Hv := Lib.hid hv
          clear hv
          go_quiet (fail)
          go_wp2_with fail
          go_meet
          case rel => exact ⟨by rw [Hv.out], _, rfl⟩
        · obtain ⟨kp, rfl⟩ : ∃ kp, k = kp + 1 := ⟨k - 1, by omega⟩
          obtain ⟨y, hy⟩ : ∃ y, xs[kp]? = some y := ⟨_, List.getElem?_eq_getElem (by rw [Hn.out]; omega)⟩
          obtain ⟨g2, o2, e2, hc2, hg2⟩ := (HV.out.keeps k4).atS Hn.out hy
          injection e2 with e2
          injection e2 with e2 e3
          subst e2; subst e3
          have y2 := hc2.num.2.2.1
          have Hy := Lib.hid (recs_at hy)
          have hkz : (kp : Int) < (n : Int) := by omega
          have hwk : IntKind.i64.wrap (kp : Int) = (kp : Int) := by rw [IntKind.wrap_i64]; omega
          have hk1 : (0 : Int) < (kp : Int) + 1 := by omega
          clear hc2 hy
          by_cases hle : x.n.inv ≤ y.n.inv
          · have hd : decide (x.n.inv ≤ y.n.inv) = true := decide_eq_true hle
            have hv : bp = true := Hbp.out.2 ⟨y.n, by omega, Hy.out, hle⟩
            have Hv := Lib.hid hv
            clear hv
            go_quiet (fail)
            go_wp2_with fail
            go_meet
            case rel => exact ⟨by rw [Hv.out], _, rfl⟩
          · have hd : decide (x.n.inv ≤ y.n.inv) = false := decide_eq_false hle
            have hv : bp = false := by
              cases bp with
              | false => rfl
              | true =>
                obtain ⟨y', _, h2, h3⟩ := Hbp.out.1 rfl
                rw [Nat.add_sub_cancel, Hy.out] at h2
                obtain rfl := Option.some.inj h2
                exact absurd h3 hle
            have Hv := Lib.hid hv
            clear hv
            go_quiet (fail)
            go_wp2_with fail
            go_meet
            case rel => exact ⟨by rw [Hv.out], _, rfl⟩
      case rest =>
      obtain ⟨rfl, zz, rfl⟩ := hcut
      have hbk5 : Blk (wc.drewN zz) g4 [.int .i64 x.n.th, .int .i64 x.n.ix, .int .i64 x.n.inv, .int .i64 x.n.pt, .int .i64 x.n.rs, .int .i64 x.code, .string x.key, .int .u64 x.time, .slice x.bA x.b.length x.bc, .int .i64 x.hd, .int .i64 x.cu, .int .i64 x.mo, .int .i64 x.er, .int .u64 x.at_, .string x.ak, .string x.av] := hbk.drewN zz
      have k5 : Keeps [] w (wc.drewN zz) := k4.drewN zz
      generalize wc.drewN zz = wd at hbk5 k5 ⊢
      clear hbk k4 c0 c1 c2 c3 c4 g4l
      cases bp with
      | true =>
        have Hng := Lib.hid (HNot.out (fun h => by
          obtain ⟨y, h1, h2, h3⟩ := Hbp.out.1 rfl
          have := h.2.1 y h1 h2
          omega))
        go_wp2_with fail
        go_ret
        exact ⟨false, rfl, by simpa using Hng.out, k5⟩
      | false =>
      have HP : Hid (∀ y, 0 < k → (xs.map (·.n))[k - 1]? = some y → y.inv < x.n.inv) := fun y h1 h2 => by
        by_cases h : x.n.inv ≤ y.inv
        · have := Hbp.out.2 ⟨y, h1, h2, h⟩; cases this
        · omega
      have HS := Lib.hid (fun (j : Nat) (z : Rec) (hz : (xs.map (·.n))[j]? = some z) => innN_step (l := xs.map (·.n)) (i := k) (r := x.n) hz)
      have HZ := Lib.hid (innN_le (xs.map (·.n)) k x.n)
      go_wp2_with fail
      go_loopw [5, 6] (fun c j wx => ∃ q : Nat, q ≤ n ∧ j = .int .i64 q ∧ c = .int .i64 (innN (xs.map (·.n)) k x.n q : Nat) ∧ (∃ z, wx = wd.drewN z) ∧ Hid (∀ t z, t < q → (xs.map (·.n))[t]? = some z → InnOk k x.n t z)) (fun _ j _ => n - (intOf j).toNat)
      case atStart => exact ⟨0, by omega, rfl, rfl, ⟨0, rfl⟩, Lib.hid (fun t z h => by omega)⟩
      case round =>
        obtain ⟨q, hq, rfl, rfl, ⟨zq, rfl⟩, HI⟩ := hrel
        have hbk6 : Blk (wd.drewN zq) g4 [.int .i64 x.n.th, .int .i64 x.n.ix, .int .i64 x.n.inv, .int .i64 x.n.pt, .int .i64 x.n.rs, .int .i64 x.code, .string x.key, .int .u64 x.time, .slice x.bA x.b.length x.bc, .int .i64 x.hd, .int .i64 x.cu, .int .i64 x.mo, .int .i64 x.er, .int .u64 x.at_, .string x.ak, .string x.av] := hbk5.drewN zq
        have k6 : Keeps [] w (wd.drewN zq) := k5.drewN zq
        obtain ⟨c, hcc⟩ : ∃ c, innN (xs.map (·.n)) k x.n q = c := ⟨_, rfl⟩
        have hcq : c ≤ q := by have := HZ.out q; omega
        rw [hcc]
        have HC := Lib.hid hcc
        clear hcc
        by_cases hlt2 : q < n
        · obtain ⟨z, hz⟩ : ∃ z, xs[q]? = some z := ⟨_, List.getElem?_eq_getElem (by rw [Hn.out]; exact hlt2)⟩
          obtain ⟨g2, o2, e2, hc2, hg2⟩ := (HV.out.keeps k5).atS Hn.out hz
          injection e2 with e2
          injection e2 with e2 e3
          subst e2; subst e3
          obtain ⟨z0, z1, z2, z3, z4⟩ := hc2.num
          obtain ⟨c0, c1, c2, c3, c4⟩ := hbk5.cel.num
          simp only [Nat.zero_add] at c1 c2 c3 c4
          have g4l := hbk5.lt
          have hqn : (q : Int) < (n : Int) := by omega
          have hw1 : IntKind.i64.wrap ((c : Int) + 1) = (c : Int) + 1 := by rw [IntKind.wrap_i64]; omega
          have Hz := Lib.hid (recs_at hz)
          clear hc2 hz hbk6
          go_upto_region 13 with fail
          go_cut [105] from 82 to 136 (fun s wx => s = .bool (decide (q ≠ k) && (decide (0 ≤ x.n.pt) && decide (z.n.pt = x.n.pt))) ∧ ∃ t, wx = wd.drewN t)
          case first =>
            by_cases h1 : q = k
            · have hb1 : ((q : Int) != (k : Int)) = false := by simp [h1]
              have hv : (decide (q ≠ k) && (decide (0 ≤ x.n.pt) && decide (z.n.pt = x.n.pt))) = false := by simp [h1]
              have Hv := Lib.hid hv
              clear hv h1
              go_quiet (fail)
              go_wp2_with fail
              go_meet
              case rel => exact ⟨by rw [Hv.out], _, rfl⟩
            · have hb1 : ((q : Int) != (k : Int)) = true := by simp; omega
              by_cases h2 : 0 ≤ x.n.pt
              · have hb2 : decide (0 ≤ x.n.pt) = true := decide_eq_true h2
                by_cases h3 : z.n.pt = x.n.pt
                · have hb3 : (z.n.pt == x.n.pt) = true := by simp [h3]
                  have hv : (decide (q ≠ k) && (decide (0 ≤ x.n.pt) && decide (z.n.pt = x.n.pt))) = true := by simp [h1, h2, h3]
                  have Hv := Lib.hid hv
                  clear hv h3
                  go_quiet (fail)
                  go_wp2_with fail
                  go_meet
                  case rel => exact ⟨by rw [Hv.out], _, rfl⟩
                · have hb3 : (z.n.pt == x.n.pt) = false := by simp [h3]
                  have hv : (decide (q ≠ k) && (decide (0 ≤ x.n.pt) && decide (z.n.pt = x.n.pt))) = false := by simp [h3]
                  have Hv := Lib.hid hv
                  clear hv h3
                  go_quiet (fail)
                  go_wp2_with fail
                  go_meet
                  case rel => exact ⟨by rw [Hv.out], _, rfl⟩
              · have hb2 : decide (0 ≤ x.n.pt) = false := decide_eq_false h2
                have hv : (decide (q ≠ k) && (decide (0 ≤ x.n.pt) && decide (z.n.pt = x.n.pt))) = false := by rw [hb2]; simp
                have Hv := Lib.hid hv
                clear hv
                go_quiet (fail)
                go_wp2_with fail
                go_meet
                case rel => exact ⟨by rw [Hv.out], _, rfl⟩
          case rest =>
          obtain ⟨rfl, zt, rfl⟩ := hcut
          obtain ⟨b13, hb13⟩ : ∃ b13, (decide (q ≠ k) && (decide (0 ≤ x.n.pt) && decide (z.n.pt = x.n.pt))) = b13 := ⟨_, rfl⟩
          rw [hb13]
          have HB13 := Lib.hid hb13
          clear hb13 k6
          have k6 : Keeps [] w (wd.drewN zt) := k5.drewN zt
          cases b13 with
          | true =>
            have Hng := Lib.hid (HNot.out (fun h => by
              have hb := HB13.out
              simp only [Bool.and_eq_true, decide_eq_true_eq] at hb
              exact (h.2.2.1 q z.n Hz.out).1 hb.1 hb.2.1 hb.2.2))
            go_wp2_with fail
            go_ret
            exact ⟨false, rfl, by simpa using Hng.out, k6⟩
          | false =>
          have HIn : Hid (q ≠ k → 0 ≤ x.n.pt → z.n.pt ≠ x.n.pt) := fun h1 h2 h3 => by
            have hb := HB13.out
            simp [h1, h2, h3] at hb
          go_upto_region 15 with fail
          go_cut [118] from 82 to 136 (fun s wx => s = .bool (decide (q < k ∧ z.n.th = x.n.th)) ∧ ∃ t, wx = wd.drewN t)
          case first =>
            by_cases h1 : q < k
            · have hb1 : decide ((q : Int) < (k : Int)) = true := by simp; exact h1
              by_cases h3 : z.n.th = x.n.th
              · have hb3 : (z.n.th == x.n.th) = true := by simp [h3]
                have hv : decide (q < k ∧ z.n.th = x.n.th) = true := decide_eq_true ⟨h1, h3⟩
                have Hv := Lib.hid hv
                clear hv h3
                go_quiet (fail)
                go_wp2_with fail
                go_meet
                case rel => exact ⟨by rw [Hv.out], _, rfl⟩
              · have hb3 : (z.n.th == x.n.th) = false := by simp [h3]
                have hv : decide (q < k ∧ z.n.th = x.n.th) = false := decide_eq_false (fun h => h3 h.2)
                have Hv := Lib.hid hv
                clear hv h3
                go_quiet (fail)
                go_wp2_with fail
                go_meet
                case rel => exact ⟨by rw [Hv.out], _, rfl⟩
            · have hb1 : decide ((q : Int) < (k : Int)) = false := by simp; omega
              have hv : decide (q < k ∧ z.n.th = x.n.th) = false := decide_eq_false (fun h => h1 h.1)
              have Hv := Lib.hid hv
              clear hv
              go_quiet (fail)
              go_wp2_with fail
              go_meet
              case rel => exact ⟨by rw [Hv.out], _, rfl⟩
          case rest =>
          obtain ⟨rfl, zu, rfl⟩ := hcut
          clear k6
          have k6 : Keeps [] w (wd.drewN zu) := k5.drewN zu
          by_cases h15 : q < k ∧ z.n.th = x.n.th
          · have hb15 : decide (q < k ∧ z.n.th = x.n.th) = true := decide_eq_true h15
            rw [hb15]
            have H15 := Lib.hid h15
            clear hb15 h15
            go_upto_region 17 with fail
            go_cut [136] from 82 to 136 (fun s wx => s = .bool (decide (z.n.rs < 0) || decide (x.n.inv ≤ z.n.rs)) ∧ ∃ t, wx = wd.drewN t)
            case first =>
              by_cases h1 : z.n.rs < 0
              · have hb1 : decide (z.n.rs < 0) = true := decide_eq_true h1
                have hv : (decide (z.n.rs < 0) || decide (x.n.inv ≤ z.n.rs)) = true := by rw [hb1]; rfl
                have Hv := Lib.hid hv
                clear hv
                go_quiet (fail)
                go_wp2_with fail
                go_meet
                case rel => exact ⟨by rw [Hv.out], _, rfl⟩
              · have hb1 : decide (z.n.rs < 0) = false := decide_eq_false h1
                by_cases h2 : x.n.inv ≤ z.n.rs
                · have hb2 : decide (x.n.inv ≤ z.n.rs) = true := decide_eq_true h2
                  have hv : (decide (z.n.rs < 0) || decide (x.n.inv ≤ z.n.rs)) = true := by rw [hb1, hb2]; rfl
                  have Hv := Lib.hid hv
                  clear hv
                  go_quiet (fail)
                  go_wp2_with fail
                  go_meet
                  case rel => exact ⟨by rw [Hv.out], _, rfl⟩
                · have hb2 : decide (x.n.inv ≤ z.n.rs) = false := decide_eq_false h2
                  have hv : (decide (z.n.rs < 0) || decide (x.n.inv ≤ z.n.rs)) = false := by rw [hb1, hb2]; rfl
                  have Hv := Lib.hid hv
                  clear hv
                  go_quiet (fail)
                  go_wp2_with fail
                  go_meet
                  case rel => exact ⟨by rw [Hv.out], _, rfl⟩
            case rest =>
            obtain ⟨rfl, zv, rfl⟩ := hcut
            clear k6
            have k6 : Keeps [] w (wd.drewN zv) := k5.drewN zv
            obtain ⟨b17, hb17⟩ : ∃ b17, (decide (z.n.rs < 0) || decide (x.n.inv ≤ z.n.rs)) = b17 := ⟨_, rfl⟩
            rw [hb17]
            have HB17 := Lib.hid hb17
            clear hb17
            cases b17 with
            | true =>
              have Hng := Lib.hid (HNot.out (fun h => by
                have hb := HB17.out
                simp only [Bool.or_eq_true, decide_eq_true_eq] at hb
                have := (h.2.2.1 q z.n Hz.out).2 H15.out.1 H15.out.2
                omega))
              go_wp2_with fail
              go_ret
              exact ⟨false, rfl, by simpa using Hng.out, k6⟩
            | false =>
              have hst : innN (xs.map (·.n)) k x.n (q + 1) = c + 1 := by rw [HS.out q z.n Hz.out, HC.out, if_pos H15.out]
              have HSt := Lib.hid hst
              have HRs : Hid (0 ≤ z.n.rs ∧ z.n.rs < x.n.inv) := by
                have hb := HB17.out
                simp only [Bool.or_eq_false_iff, decide_eq_false_iff_not] at hb
                exact ⟨by omega, by omega⟩
              clear hst
              go_wp2_with fail
              refine ⟨⟨q + 1, by omega, by go_num, by rw [HSt.out]; go_num, ⟨_, rfl⟩, Lib.hid fun t z' ht hz' => ?_⟩, by simp [intOf]; omega⟩
              rcases Nat.lt_or_ge t q with h | h
              · exact HI.out t z' h hz'
              · obtain rfl : t = q := by omega
                rw [Hz.out] at hz'
                obtain rfl := Option.some.inj hz'
                exact ⟨HIn.out, fun _ _ => HRs.out⟩
          · have hb15 : decide (q < k ∧ z.n.th = x.n.th) = false := decide_eq_false h15
            rw [hb15]
            have hst : innN (xs.map (·.n)) k x.n (q + 1) = c := by rw [HS.out q z.n Hz.out, HC.out, if_neg h15, Nat.add_zero]
            have HSt := Lib.hid hst
            have H15 := Lib.hid h15
            clear hb15 h15 hst
            go_wp2_with fail
            refine ⟨⟨q + 1, by omega, by go_num, by rw [HSt.out], ⟨_, rfl⟩, Lib.hid fun t z' ht hz' => ?_⟩, by simp [intOf]; omega⟩
            rcases Nat.lt_or_ge t q with h | h
            · exact HI.out t z' h hz'
            · obtain rfl : t = q := by omega
              rw [Hz.out] at hz'
              obtain rfl := Option.some.inj hz'
              exact ⟨HIn.out, fun h1 h2 => absurd ⟨h1, h2⟩ H15.out⟩
        · obtain rfl : q = n := by omega
          have hix : innN (xs.map (·.n)) k x.n (xs.map (·.n)).length = c := by rw [HN.out]; exact HC.out
          have c1 := hbk6.cell 1
          simp only [List.getElem?_cons_succ, List.getElem?_cons_zero] at c1
          have g4l := hbk6.lt
          by_cases hxi : x.n.ix = (c : Int)
          · have hb : (x.n.ix != (c : Int)) = false := by simp [hxi]
            have hok : RefOk (xs.map (·.n)) k x.n := refOk_of (by rw [HN.out]; exact hlt) Hbd.out HP.out (fun t z hz => HI.out t z (by have := (List.getElem?_eq_some_iff.1 hz).1; rw [HN.out] at this; exact this) hz) (by rw [hix]; exact hxi)
            have HOk := Lib.hid hok
            clear hok hxi hix
            go_wp2_with fail
            refine ⟨⟨k + 1, by omega, by go_num, k6, Lib.hid fun i r hi hr => ?_⟩, by simp [intOf]; omega⟩
            rcases Nat.lt_or_ge i k with h | h
            · exact HB.out i r h hr
            · obtain rfl : i = k := by omega
              rw [Hx.out] at hr
              obtain rfl := Option.some.inj hr
              exact HOk.out
          · have hb : (x.n.ix != (c : Int)) = true := by simp [hxi]
            have Hng := Lib.hid (HNot.out (fun h => by
              have h4 := h.2.2.2
              apply hxi
              rw [h4, ← hix]
              unfold innN
              rw [show min (xs.map (·.n)).length k = k by rw [HN.out]; omega]))
            clear hxi hix
            go_wp2_with fail
            go_ret
            exact ⟨false, rfl, by simpa using Hng.out, k6⟩
    · obtain rfl : k = n := by omega
      have hG : Good (xs.map (·.n)) := (chkR_iff _).1 fun i r hr => HB.out i r (by have := (List.getElem?_eq_some_iff.1 hr).1; rw [HN.out] at this; exact this) hr
      have Hg := Lib.hid hG
      clear hG
      go_wp2_with fail
      go_ret
      exact ⟨true, rfl, by simpa using Hg.out, kk⟩
end Go.Proofs.Ytjlgodaiciopaaa
