/- The walk of HistoryAgrees. -/
import Derived.Test.YtjlgodaiciopaaaHisI
import Derived.Test.YtjlgodaiciopaaaHisROW
import Derived.Deep.CutBlock
import Derived.Deep.DeepCutAuto
namespace Go.Proofs.Ytjlgodaiciopaaa
open Go.RowKit
set_option linter.unusedSectionVars false
set_option linter.unusedVariables false
set_option linter.unusedSimpArgs false
set_option maxRecDepth 100000
set_option maxHeartbeats 4000000
/-- A list of records that the law compares. -/
structure LsOk (w : World) (A : Option Addr) (c : Nat) (xs : List RV) : Prop where
  len : xs.length ≤ 48
  lst : Lst w (.slice A xs.length c) xs.length (rCs xs)
  ok : OkL w xs
theorem LsOk.keeps {w w' : World} {A : Option Addr} {c : Nat} {xs : List RV} (h : LsOk w A c xs) (k : Keeps [] w w') : LsOk w' A c xs := ⟨h.len, h.lst.keeps k, h.ok.keeps k⟩
theorem strip_bl {ys zs : List RV} (h : ys.map strip = zs.map strip) : ∀ y ∈ ys, ∃ z ∈ zs, z.b.length = y.b.length := fun y hy => by
  have : strip y ∈ zs.map strip := by rw [← h]; exact List.mem_map_of_mem hy
  obtain ⟨z, hzm, e⟩ := List.mem_map.1 this
  have : (strip z).b = (strip y).b := by rw [e]
  have h2 : z.b = y.b := this
  exact ⟨z, hzm, by rw [h2]⟩
/-- A list that the law has picked: the same records, in a block of its own. -/
structure Own2 (w : World) (base : Nat) (v : Value) (ys : List RV) : Prop where
  row : Row w v ys.length 16 (rCs ys)
  ge : ∀ g, v.ownBlock = some g → base ≤ g
theorem Own2.nil (w : World) (base : Nat) : Own2 w base (.slice none 0 0) [] := ⟨Row.nil _ _, fun g hg => by simp [Value.ownBlock] at hg⟩
theorem Own2.keeps {S : List Nat} {w w' : World} {base : Nat} {v : Value} {ys : List RV} (h : Own2 w base v ys) (k : Keeps S w w') (hS : ∀ g, v.ownBlock = some g → g ∉ S) : Own2 w' base v ys := ⟨h.row.keeps k hS, h.ge⟩
theorem own2_append {w : World} {base : Nat} {v : Value} {ys : List RV} (h : Own2 w base v ys) (x : RV) (hn : ys.length < 1000) (hb : base ≤ w.heap.size) (a : Addr) (c : Nat) (hsrc : ∀ (j : Nat) (u : Value), (rC x)[j]? = some u → w.cell? (a.add j) = some u) (ty : TypeId) :
    ∃ v' w', (Builtin.append_ #[22, 22] ty #[v, .slice (some a) 1 c]).run Try.prog w = .ok v' w' ∧ Own2 w' base v' (ys ++ [x]) ∧ Keeps v.ownBlock.toList w w' ∧ ∀ g, v'.ownBlock = some g → v.ownBlock = some g ∨ w.heap.size ≤ g := by
  obtain ⟨i0, hi0, hz0, hz1, hz2⟩ := info_parts infoR
  obtain ⟨v', w', hr, r, k, f⟩ := row_append h.row 22 ty 36 i0 _ 168 Try.underlying22 hi0 hz0 hz1 hz2 rfl (by decide) a 1 c (rC x) rfl hsrc (rC_one x) (by omega) (by decide)
  refine ⟨v', w', hr, ⟨?_, fun g hg => ?_⟩, k, f⟩
  · rw [List.length_append, rCs_append, rCs_one]; exact r
  · rcases f g hg with h1 | h1
    · exact h.ge g h1
    · omega
theorem take_filter {xs : List RV} {i : Nat} {x : RV} (p : RV → Bool) (h : xs[i]? = some x) : (xs.take (i + 1)).filter p = (xs.take i).filter p ++ (if p x = true then [x] else []) := by
  rw [List.take_add_one, h, List.filter_append]
  by_cases hp : p x = true
  · simp [hp]
  · simp [hp]
def Apart (u v : Value) : Prop := ∀ g g', u.ownBlock = some g → v.ownBlock = some g' → g ≠ g'
theorem historyAgrees_any (raw : List RV) (X : List (Value × List Rn)) (th : Int) (v v2 : Value) (w : World) (hlen : raw.length ≤ 9223372036854775807) (hv : Lst w v raw.length (rCs raw)) (hr : OkL w raw) (hX : OkRuns w v2 X)
    (ht : -9223372036854775808 ≤ th ∧ th ≤ 9223372036854775807) :
    Calls Try.prog 6 #[v, v2, .int .i64 th] w fun e w' => e = .returned (.bool true) ∧ Keeps [] w w' := by
  have mixed : Try.prog.follows .mixedOrders = true := by kernel_rfl
  have hbld := build_any X v2 w hX
  have hawk := awake_any w
  have HR := Lib.hid hr
  have HV := Lib.hid hv
  obtain ⟨⟨A0, cap0, b0, o0, rfl, _, _⟩, _⟩ := hX
  obtain ⟨A, cap, b, o, rfl, _, _⟩ := hv
  by_cases h40 : 40 < raw.length
  · have hz : (40 : Int) < (raw.length : Int) := by omega
    clear hbld
    go_enter Try.func6, Try.ntmps6
    go_wp2_with fail
    refine hawk.mono ?_
    rintro e w1 ⟨rfl, k1⟩
    go_wp2_with fail
    go_ret
    exact ⟨rfl, k1⟩
  · have hz : ¬ (40 : Int) < (raw.length : Int) := by omega
    clear hawk
    go_enter Try.func6, Try.ntmps6
    go_wp2_with fail
    refine hbld.mono ?_
    rintro e w1 ⟨u, rfl, hp, k1⟩
    have hln := bldOf_len X
    have hl2 : LsOk w1 A cap raw := ⟨by omega, HV.out.keeps k1, HR.out.keeps k1⟩
    obtain ⟨L, hL⟩ : ∃ L, (bldOf X).map rvOf = L := ⟨_, rfl⟩
    have hok := okl_rv (w := w1) (bldOf X)
    rw [hL] at hp hok
    have hLl : L.length ≤ 48 := by rw [← hL, List.length_map]; exact hln
    have hlst := hp.lst
    obtain ⟨A1, c1, rfl⟩ := hp.row.len
    have hl3 : LsOk w1 A1 c1 L := ⟨hLl, hlst, hok⟩
    have H2 := Lib.hid hl2
    have H3 := Lib.hid hl3
    obtain ⟨N1, hN1⟩ : ∃ N1, raw.length = N1 := ⟨_, rfl⟩
    obtain ⟨N2, hN2⟩ : ∃ N2, L.length = N2 := ⟨_, rfl⟩
    rw [hN1, hN2]
    have HN1 := Lib.hid hN1
    have HN2 := Lib.hid hN2
    have hb0 := Blk.new w1 [.slice A N1 cap, .slice A1 N2 c1] 22
    have K0 : Keeps [] w1 (w1.alloc (.cells #[.slice A N1 cap, .slice A1 N2 c1] 22)) := (Keeps.refl [] w1).alloc _
    clear hbld hp hln hl2 hok hLl hlst hl3 hL hN1 hN2 hz h40 hlen
    go_wp2_with fail
    generalize w1.heap.size = g0 at hb0 ⊢
    generalize w1.alloc (.cells #[.slice A N1 cap, .slice A1 N2 c1] 22) = w2 at hb0 K0 ⊢
    have HB0 := Lib.hid hb0
    have HK0 := Lib.hid K0
    clear hb0 K0
    go_loopw [23] (fun i wr => ∃ q : Nat, q ≤ 2 ∧ i = .int .i64 q ∧ Keeps [] w2 wr) (fun i _ => 2 - (intOf i).toNat)
    case atStart => exact ⟨0, by omega, rfl, Keeps.refl _ _⟩
    case round =>
      obtain ⟨q, hq, rfl, kq⟩ := hrel
      obtain ⟨wq, hwq⟩ : ∃ wq, wq = wr := ⟨_, rfl⟩
      subst hwq
      by_cases hq2 : q < 2
      · obtain ⟨Ax, cx, xs, hcell, hls⟩ : ∃ Ax cx xs, wq.cell? ⟨g0, q, none⟩ = some (.slice Ax xs.length cx) ∧ LsOk wq Ax cx xs := by
          have hb := kq.blk HB0.out (by simp)
          match q, hq2 with
          | 0, _ => exact ⟨A, cap, raw, by rw [hb.cell, HN1.out]; rfl, H2.out.keeps (HK0.out.trans kq (by simp))⟩
          | 1, _ => exact ⟨A1, c1, L, by rw [hb.cell, HN2.out]; rfl, H3.out.keeps (HK0.out.trans kq (by simp))⟩
        have hqz : (q : Int) < 2 := by omega
        have g0l : g0 < wq.heap.size := (kq.blk HB0.out (by simp)).lt
        obtain ⟨n, hn⟩ : ∃ n, xs.length = n := ⟨_, rfl⟩
        have hn48 : n ≤ 48 := by rw [← hn]; exact hls.len
        have HLs := Lib.hid hls
        have Hn := Lib.hid hn
        rw [hn] at hcell
        have hord := order_any xs (by omega) _ wq hls.lst hls.ok
        rw [hn] at hord
        clear hls hn
        go_wp2_with fail
        refine hord.mono ?_
        rintro e w3 ⟨u3, ys, rfl, hp3, hst3, k3⟩
        have hlx := HLs.out.lst
        rw [Hn.out] at hlx
        have hro := rorder_any xs (by rw [Hn.out]; omega) _ w3 (by rw [Hn.out]; exact hlx.keeps k3)
        have hlst3 := hp3.lst
        have hok3 := hp3.ok
        have hyl : ys.length = (ordL xs).length := by have := congrArg List.length hst3; simpa using this
        have hym : ∀ x ∈ ordL xs, x ∈ xs := fun x hx => (List.mem_filter.1 ((stab_mem _ x).1 hx)).1
        have hol : ys.length ≤ 48 := by
          rw [hyl]; unfold ordL; rw [stab_len]
          have := List.length_filter_le (fun x : RV => x.n.pt != -1) xs
          rw [Hn.out] at this; omega
        obtain ⟨A3, c3, h3⟩ := hp3.row.len
        subst h3
        clear hord
        go_wp2_with fail
        refine hro.mono ?_
        rintro e w4 ⟨u4, rfl, hr4, k4⟩
        have K4 := k3.trans k4 (by simp)
        have hsl := samelist_any ys (ordL xs) hst3 (by omega) _ _ w4 (hlst3.keeps k4) hr4.lst (fun y hy => by
          obtain ⟨z, hz, hzl⟩ := strip_bl hst3 y hy
          refine ⟨(hok3 y hy).okb.keeps k4, ?_⟩
          have := (HLs.out.ok z (hym z hz)).2
          omega) (fun y hy => ((HLs.out.ok y (hym y hy)).1.keeps K4))
        obtain ⟨A4, c4, h4⟩ := hr4.len
        subst h4
        rw [hyl] at hsl
        clear hro hlst3 hok3 hyl hym hol hst3 hp3 hr4 k4 k3
        go_wp2_with fail
        refine hsl.mono ?_
        rintro e w5 ⟨rfl, k5⟩
        have K5 := K4.trans k5 (by simp)
        have hov := overlap_any xs (by rw [Hn.out]; omega) _ w5 (by rw [Hn.out]; exact hlx.keeps K5)
        clear hsl k5 K4
        go_wp2_with fail
        refine hov.mono ?_
        rintro e w6 ⟨rfl, k6⟩
        have K6 := K5.trans k6 (by simp)
        have hrv := roverlap_any xs (by rw [Hn.out]; omega) _ w6 (by rw [Hn.out]; exact hlx.keeps K6)
        clear hov k6 K5
        go_wp2_with fail
        refine hrv.mono ?_
        rintro e w7 ⟨rfl, k7⟩
        have K7 := K6.trans k7 (by simp)
        generalize ovM (xs.map (·.n)) xs.length = om
        have hself : ((om : Int) != (om : Int)) = false := by simp
        clear hrv k7 K6
        go_upto_region 10 with fail
        go_cut [48] from 24 to 124 (fun s wx => ∃ b : Bool, s = .bool b ∧ (b = true → 0 < n) ∧ Keeps [] wq wx)
        case first =>
          by_cases hn0 : 0 < n
          · have hnz : (0 : Int) < (n : Int) := by omega
            go_wp2_with fail
            go_meet
            case rel => exact ⟨_, rfl, (fun _ => hn0), K7⟩
          · have hnz : ¬ (0 : Int) < (n : Int) := by omega
            go_wp2_with fail
            go_meet
            case rel => exact ⟨false, rfl, (fun h => by cases h), K7⟩
        case rest =>
        obtain ⟨b48, rfl, hb48, K8⟩ := hcut
        have HB48 := Lib.hid hb48
        clear hb48 K7 hself
        go_upto_if 48 with fail
        go_cut [11] from 24 to 124 (fun s wx => ∃ t : Int, s = .int .i64 t ∧ Keeps [] wq wx)
        case first =>
          cases b48 with
          | false =>
            go_wp2_with fail
            go_meet
            case rel => exact ⟨th, rfl, K8⟩
          | true =>
            have hn0 := HB48.out rfl
            obtain ⟨x0, hx0⟩ : ∃ x, xs[0]? = some x := ⟨_, List.getElem?_eq_getElem (by rw [Hn.out]; exact hn0)⟩
            obtain ⟨g, o', rfl, hc, hg⟩ := (hlx.keeps K8).atS Hn.out hx0
            have c0 := hc.num.1
            rw [Nat.zero_mul, Nat.add_zero] at c0
            have hnz : (0 : Int) < (n : Int) := by omega
            clear hx0 hc
            go_wp2_with fail
            go_meet
            case rel => exact ⟨_, rfl, K8⟩
        case rest =>
        obtain ⟨t, rfl, K9⟩ := hcut
        clear K8 HB48
        have HLx := Lib.hid hlx
        clear hlx
        go_wp2_with fail
        go_loopw [9, 10, 12] (fun mv ov iv wx => ∃ i : Nat, i ≤ n ∧ iv = .int .i64 i ∧ Own2 wx wq.heap.size mv ((xs.take i).filter (fun x => x.n.th == t)) ∧ Own2 wx wq.heap.size ov ((xs.take i).filter (fun x => x.n.rs == -1)) ∧ Apart mv ov ∧ Keeps [] wq wx) (fun _ _ iv _ => n - (intOf iv).toNat)
        case atStart => exact ⟨0, by omega, rfl, Own2.nil _ _, Own2.nil _ _, fun g g' hg => by simp [Value.ownBlock] at hg, K9⟩
        case round =>
          obtain ⟨i, hi, rfl, hmi, hop, hap, ki⟩ := hrel
          by_cases hlt : i < n
          · obtain ⟨x, hx⟩ : ∃ x, xs[i]? = some x := ⟨_, List.getElem?_eq_getElem (by rw [Hn.out]; exact hlt)⟩
            obtain ⟨g, o', rfl, hc, hg⟩ := HLx.out.atS Hn.out hx
            have hiz : (i : Int) < (n : Int) := by omega
            have hf1 := fun p => take_filter p hx
            have Hf := Lib.hid hf1
            have HCx := Lib.hid hc
            have Hx := Lib.hid hx
            have hln1 : ((xs.take i).filter (fun x => x.n.th == t)).length < 1000 := by
              have := List.length_filter_le (fun x : RV => x.n.th == t) (xs.take i)
              rw [List.length_take] at this; omega
            have hln2 : ((xs.take i).filter (fun x => x.n.rs == -1)).length < 1000 := by
              have := List.length_filter_le (fun x : RV => x.n.rs == -1) (xs.take i)
              rw [List.length_take] at this; omega
            have HLn1 := Lib.hid hln1
            have HLn2 := Lib.hid hln2
            have hmS := hmi.row.len
            have hoS := hop.row.len
            have hcr := hc.keeps ki (by simp)
            have c0 := hcr.num.1
            have hl1 := hcr.load
            clear hf1 hx hc hcr hln1 hln2
            obtain ⟨A9, c9, h9⟩ := hmS
            obtain ⟨A10, c10, h10⟩ := hoS
            subst h9
            subst h10
            generalize hm9 : ((xs.take i).filter (fun x => x.n.th == t)).length = m9 at hmi hap ⊢
            generalize hm10 : ((xs.take i).filter (fun x => x.n.rs == -1)).length = m10 at hop hap ⊢
            go_upto_if 65 with fail
            go_cut [9] from 53 to 110 (fun mv wx => Own2 wx wq.heap.size mv ((xs.take (i + 1)).filter (fun x => x.n.th == t)) ∧ Own2 wx wq.heap.size (.slice A10 m10 c10) ((xs.take i).filter (fun x => x.n.rs == -1)) ∧ Apart mv (.slice A10 m10 c10) ∧ Keeps [] wq wx)
            case first =>
              by_cases hth : x.n.th = t
              · have hb : (x.n.th == t) = true := by simp [hth]
                have hfe : (xs.take (i + 1)).filter (fun x => x.n.th == t) = (xs.take i).filter (fun x => x.n.th == t) ++ [x] := by rw [Hf.out, if_pos hb]
                have HFe := Lib.hid hfe
                have k11 : Keeps [] wr (wr.alloc (.cells #[.int .i64 x.n.th, .int .i64 x.n.ix, .int .i64 x.n.inv, .int .i64 x.n.pt, .int .i64 x.n.rs, .int .i64 x.code, .string x.key, .int .u64 x.time, .slice x.bA x.b.length x.bc, .int .i64 x.hd, .int .i64 x.cu, .int .i64 x.mo, .int .i64 x.er, .int .u64 x.at_, .string x.ak, .string x.av] 36)) := (Keeps.refl [] wr).alloc _
                obtain ⟨u4, w12, hapd, hown, k12, hf⟩ := own2_append (hmi.keeps k11 (by simp)) x HLn1.out (Nat.le_trans ki.size k11.size) ⟨wr.heap.size, 0, none⟩ 1 (fun j u hj => by rw [Addr.add_lit]; exact (Blk.new_at wr wr.heap.size [.int .i64 x.n.th, .int .i64 x.n.ix, .int .i64 x.n.inv, .int .i64 x.n.pt, .int .i64 x.n.rs, .int .i64 x.code, .string x.key, .int .u64 x.time, .slice x.bA x.b.length x.bc, .int .i64 x.hd, .int .i64 x.cu, .int .i64 x.mo, .int .i64 x.er, .int .u64 x.at_, .string x.ak, .string x.av] 36 (by simp)).cel j u hj) 22
                have hop2 : Own2 w12 wq.heap.size (.slice A10 m10 c10) ((xs.take i).filter (fun x => x.n.rs == -1)) := (hop.keeps k11 (by simp)).keeps k12 (fun g hg hm => hap g g (by simpa using hm) hg rfl)
                have hap2 : Apart u4 (.slice A10 m10 c10) := fun g g' h1 h2 => by
                  rcases hf g h1 with h | h
                  · exact hap g g' h h2
                  · have h5 := hop.row.blk g' h2
                    have := k11.size
                    omega
                have K12 : Keeps [] wq w12 := (ki.trans k11 (by simp)).trans k12 (fun i hi => .inr (hmi.ge i (by simpa using hi)))
                have HO := Lib.hid (And.intro hown (And.intro hop2 (And.intro hap2 K12)))
                clear hfe k11 hown hop2 hap2 K12 k12 hf hmi hop hap hth hm9 hm10
                go_wp2_with (first
                  | (refine list_load_eq rfl 36 _ rfl _ rfl _ hl1 ?_)
                  | (at_builtin; refine list_append_eq rfl _ _ 22 22 rfl _ _ rfl rfl hapd ?_))
                go_meet
                case rel => exact ⟨by rw [HFe.out]; exact HO.out.1, HO.out.2.1, HO.out.2.2.1, HO.out.2.2.2⟩
              · have hb : (x.n.th == t) = false := by simp [hth]
                have hfe : (xs.take (i + 1)).filter (fun x => x.n.th == t) = (xs.take i).filter (fun x => x.n.th == t) := by rw [Hf.out, if_neg (by rw [hb]; simp), List.append_nil]
                have HFe := Lib.hid hfe
                clear hfe hth hm9 hm10
                go_wp2_with fail
                go_meet
                case rel => exact ⟨by rw [HFe.out]; exact hmi, hop, hap, ki⟩
            case rest =>
            clear hmi hop hap ki c0 hl1 hm9
            obtain ⟨hmi, hop, hap, ki⟩ := hcut
            have hcr := HCx.out.keeps ki (by simp)
            have c4 := hcr.num.2.2.2.2
            have hl1 := hcr.load
            have hmS := hmi.row.len
            obtain ⟨A9b, c9b, h9⟩ := hmS
            subst h9
            clear hcr
            generalize hm9 : ((xs.take (i + 1)).filter (fun x => x.n.th == t)).length = m9b at hmi hap ⊢
            go_upto_if 78 with fail
            go_cut [10] from 53 to 110 (fun ov wx => Own2 wx wq.heap.size (.slice A9b m9b c9b) ((xs.take (i + 1)).filter (fun x => x.n.th == t)) ∧ Own2 wx wq.heap.size ov ((xs.take (i + 1)).filter (fun x => x.n.rs == -1)) ∧ Apart (.slice A9b m9b c9b) ov ∧ Keeps [] wq wx)
            case first =>
              by_cases hrs : x.n.rs = -1
              · have hb : (x.n.rs == -1) = true := by simp [hrs]
                have hfe : (xs.take (i + 1)).filter (fun x => x.n.rs == -1) = (xs.take i).filter (fun x => x.n.rs == -1) ++ [x] := by rw [Hf.out, if_pos hb]
                have HFe := Lib.hid hfe
                have k11 : Keeps [] wc (wc.alloc (.cells #[.int .i64 x.n.th, .int .i64 x.n.ix, .int .i64 x.n.inv, .int .i64 x.n.pt, .int .i64 x.n.rs, .int .i64 x.code, .string x.key, .int .u64 x.time, .slice x.bA x.b.length x.bc, .int .i64 x.hd, .int .i64 x.cu, .int .i64 x.mo, .int .i64 x.er, .int .u64 x.at_, .string x.ak, .string x.av] 36)) := (Keeps.refl [] wc).alloc _
                obtain ⟨u4, w12, hapd, hown, k12, hf⟩ := own2_append (hop.keeps k11 (by simp)) x HLn2.out (Nat.le_trans ki.size k11.size) ⟨wc.heap.size, 0, none⟩ 1 (fun j u hj => by rw [Addr.add_lit]; exact (Blk.new_at wc wc.heap.size [.int .i64 x.n.th, .int .i64 x.n.ix, .int .i64 x.n.inv, .int .i64 x.n.pt, .int .i64 x.n.rs, .int .i64 x.code, .string x.key, .int .u64 x.time, .slice x.bA x.b.length x.bc, .int .i64 x.hd, .int .i64 x.cu, .int .i64 x.mo, .int .i64 x.er, .int .u64 x.at_, .string x.ak, .string x.av] 36 (by simp)).cel j u hj) 22
                have hmi2 : Own2 w12 wq.heap.size (.slice A9b m9b c9b) ((xs.take (i + 1)).filter (fun x => x.n.th == t)) := (hmi.keeps k11 (by simp)).keeps k12 (fun g hg hm => hap g g hg (by simpa using hm) rfl)
                have hap2 : Apart (.slice A9b m9b c9b) u4 := fun g g' h1 h2 => by
                  rcases hf g' h2 with h | h
                  · exact hap g g' h1 h
                  · have h5 := hmi.row.blk g h1
                    have := k11.size
                    omega
                have K12 : Keeps [] wq w12 := (ki.trans k11 (by simp)).trans k12 (fun i hi => .inr (hop.ge i (by simpa using hi)))
                have HO := Lib.hid (And.intro hmi2 (And.intro hown (And.intro hap2 K12)))
                clear hfe k11 hown hmi2 hap2 K12 k12 hf hmi hop hap hrs hm9 hm10
                go_wp2_with (first
                  | (refine list_load_eq rfl 36 _ rfl _ rfl _ hl1 ?_)
                  | (at_builtin; refine list_append_eq rfl _ _ 22 22 rfl _ _ rfl rfl hapd ?_))
                go_meet
                case rel => exact ⟨HO.out.1, by rw [HFe.out]; exact HO.out.2.1, HO.out.2.2.1, HO.out.2.2.2⟩
              · have hb : (x.n.rs == -1) = false := by simp [hrs]
                have hfe : (xs.take (i + 1)).filter (fun x => x.n.rs == -1) = (xs.take i).filter (fun x => x.n.rs == -1) := by rw [Hf.out, if_neg (by rw [hb]; simp), List.append_nil]
                have HFe := Lib.hid hfe
                clear hfe hrs hm9 hm10
                go_wp2_with fail
                go_meet
                case rel => exact ⟨hmi, by rw [HFe.out]; exact hop, hap, ki⟩
            case rest =>
            clear hmi hop hap ki c4 hl1 hm9 hm10
            obtain ⟨hmi, hop, hap, ki⟩ := hcut
            obtain ⟨w20, hw20⟩ : ∃ w20, w20 = wc := ⟨_, rfl⟩
            subst hw20
            have HMi := Lib.hid (And.intro hmi (And.intro hop (And.intro hap ki)))
            clear hmi hop hap ki
            go_wp2_with fail
            go_loopw [13] (fun kv wx => ∃ k : Nat, k ≤ n ∧ kv = .int .i64 k ∧ Keeps [] w20 wx) (fun kv _ => n - (intOf kv).toNat)
            case atStart => exact ⟨0, by omega, rfl, Keeps.refl _ _⟩
            case round =>
              obtain ⟨k, hk, rfl, kk⟩ := hrel
              by_cases hlk : k < n
              · obtain ⟨y, hy⟩ : ∃ y, xs[k]? = some y := ⟨_, List.getElem?_eq_getElem (by rw [Hn.out]; exact hlk)⟩
                obtain ⟨g', o2, e2, hc2, _⟩ := HLx.out.atS Hn.out hy
                injection e2 with e2
                injection e2 with e2 e3
                subst e2; subst e3
                have hkz : (k : Int) < (n : Int) := by omega
                have Kr : Keeps [] wq wr := HMi.out.2.2.2.trans kk (by simp)
                obtain ⟨va, hva⟩ : ∃ va, (.agg #[.int .i64 x.n.th, .int .i64 x.n.ix, .int .i64 x.n.inv, .int .i64 x.n.pt, .int .i64 x.n.rs, .int .i64 x.code, .string x.key, .int .u64 x.time, .slice x.bA x.b.length x.bc, .int .i64 x.hd, .int .i64 x.cu, .int .i64 x.mo, .int .i64 x.er, .int .u64 x.at_, .string x.ak, .string x.av] : Value) = va := ⟨_, rfl⟩
                obtain ⟨vb, hvb⟩ : ∃ vb, (.agg #[.int .i64 y.n.th, .int .i64 y.n.ix, .int .i64 y.n.inv, .int .i64 y.n.pt, .int .i64 y.n.rs, .int .i64 y.code, .string y.key, .int .u64 y.time, .slice y.bA y.b.length y.bc, .int .i64 y.hd, .int .i64 y.cu, .int .i64 y.mo, .int .i64 y.er, .int .u64 y.at_, .string y.ak, .string y.av] : Value) = vb := ⟨_, rfl⟩
                have L1 : Hid (∀ w', Keeps [] wr w' → (loadVar 36 ⟨g, o' + i * 16, none⟩).run Try.prog w' = .ok va w') := fun w' k' => by rw [← hva]; exact (HCx.out.keeps (Kr.trans k' (by simp)) (by simp)).load
                have L2 : Hid (∀ w', Keeps [] wr w' → (loadVar 36 ⟨g, o' + k * 16, none⟩).run Try.prog w' = .ok vb w') := fun w' k' => by rw [← hvb]; exact (hc2.keeps (Kr.trans k' (by simp)) (by simp)).load
                obtain ⟨pb, hpb⟩ : ∃ pb, prec x.n y.n = pb := ⟨_, rfl⟩
                have D1 : Hid (∀ w', Keeps [] wr w' → Calls Try.prog 14 #[va, vb] w' fun e w'' => e = .returned (.bool pb) ∧ Keeps [] wr w'') := fun w' k' => by rw [← hva, ← hvb]; exact (prec_any x y w').mono fun e w'' h => ⟨by rw [h.1, hpb], k'.trans h.2 (by simp)⟩
                have D2 : Hid (∀ w', Keeps [] wr w' → Calls Try.prog 20 #[va, vb] w' fun e w'' => e = .returned (.bool pb) ∧ Keeps [] wr w'') := fun w' k' => by rw [← hva, ← hvb]; exact (rprec_any x y w').mono fun e w'' h => ⟨by rw [h.1, hpb], k'.trans h.2 (by simp)⟩
                clear hy hc2 hva hvb hpb
                go_upto_region 22 with fail
                go_cut [110] from 86 to 110 (fun s wx => s = .bool false ∧ Keeps [] wr wx)
                case first =>
                  refine wp_region_keeps mixed (by kernel_rfl) ?_
                  try (refine wpQuiet_step (fun K hK => ?_); go_simp; first | refine ⟨_, fun _ _ => rfl, hK _ ?_⟩ | refine hK _ ?_; clear hK K)
                  repeat (first | go_big_quiet_skip | (go_big_quiet_want; go_big_quiet_op; first | go_big_quiet_on | (refine ⟨_, fun _ _ => rfl, ?_⟩; go_big_quiet_on)))
                  refine quiet_load_w (by rfl) 36 _ rfl _ rfl _ (fun w1 hw1 => L1.out w1 hw1) ?_
                  try (refine wpQuiet_step (fun K hK => ?_); go_simp; first | refine ⟨_, fun _ _ => rfl, hK _ ?_⟩ | refine hK _ ?_; clear hK K)
                  repeat (first | go_big_quiet_skip | (go_big_quiet_want; go_big_quiet_op; first | go_big_quiet_on | (refine ⟨_, fun _ _ => rfl, ?_⟩; go_big_quiet_on)))
                  refine quiet_load_w (by rfl) 36 _ rfl _ rfl _ (fun w1 hw1 => L2.out w1 hw1) ?_
                  try (refine wpQuiet_step (fun K hK => ?_); go_simp; first | refine ⟨_, fun _ _ => rfl, hK _ ?_⟩ | refine hK _ ?_; clear hK K)
                  repeat (first | go_big_quiet_skip | (go_big_quiet_want; go_big_quiet_op; first | go_big_quiet_on | (refine ⟨_, fun _ _ => rfl, ?_⟩; go_big_quiet_on)))
                  refine wpQuiet_step (fun K hK => ?_)
                  go_simp
                  apply Exists.intro
                  refine ⟨fun w1 hw1 => D1.out w1 hw1, hK _ ?_⟩
                  clear hK K
                  try (refine wpQuiet_step (fun K hK => ?_); go_simp; first | refine ⟨_, fun _ _ => rfl, hK _ ?_⟩ | refine hK _ ?_; clear hK K)
                  repeat (first | go_big_quiet_skip | (go_big_quiet_want; go_big_quiet_op; first | go_big_quiet_on | (refine ⟨_, fun _ _ => rfl, ?_⟩; go_big_quiet_on)))
                  refine quiet_load_w (by rfl) 36 _ rfl _ rfl _ (fun w1 hw1 => L1.out w1 hw1) ?_
                  try (refine wpQuiet_step (fun K hK => ?_); go_simp; first | refine ⟨_, fun _ _ => rfl, hK _ ?_⟩ | refine hK _ ?_; clear hK K)
                  repeat (first | go_big_quiet_skip | (go_big_quiet_want; go_big_quiet_op; first | go_big_quiet_on | (refine ⟨_, fun _ _ => rfl, ?_⟩; go_big_quiet_on)))
                  refine quiet_load_w (by rfl) 36 _ rfl _ rfl _ (fun w1 hw1 => L2.out w1 hw1) ?_
                  try (refine wpQuiet_step (fun K hK => ?_); go_simp; first | refine ⟨_, fun _ _ => rfl, hK _ ?_⟩ | refine hK _ ?_; clear hK K)
                  repeat (first | go_big_quiet_skip | (go_big_quiet_want; go_big_quiet_op; first | go_big_quiet_on | (refine ⟨_, fun _ _ => rfl, ?_⟩; go_big_quiet_on)))
                  refine wpQuiet_step (fun K hK => ?_)
                  go_simp
                  apply Exists.intro
                  refine ⟨fun w1 hw1 => D2.out w1 hw1, hK _ ?_⟩
                  clear hK K
                  try (refine wpQuiet_step (fun K hK => ?_); go_simp; first | refine ⟨_, fun _ _ => rfl, hK _ ?_⟩ | refine hK _ ?_; clear hK K)
                  repeat (first | go_big_quiet_skip | (go_big_quiet_want; go_big_quiet_op; first | go_big_quiet_on | (refine ⟨_, fun _ _ => rfl, ?_⟩; go_big_quiet_on)))
                  refine wpQuiet_nil ?_
                  intro w1 hw1
                  go_wp2_with fail
                  go_meet
                  case rel => exact ⟨by first | rfl | simp, hw1⟩
                case rest =>
                obtain ⟨rfl, k9⟩ := hcut
                go_wp2_with fail
                exact ⟨⟨k + 1, by omega, by go_num, kk.trans k9 (by simp)⟩, by simp [intOf]; omega⟩
              · obtain rfl : k = n := by omega
                go_wp2_with fail
                exact ⟨⟨i + 1, by omega, by go_num, HMi.out.1.keeps kk (by simp), HMi.out.2.1.keeps kk (by simp), HMi.out.2.2.1, HMi.out.2.2.2.trans kk (by simp)⟩, by simp [intOf]; omega⟩
          · obtain rfl : i = n := by omega
            have htk : xs.take i = xs := List.take_of_length_le (by rw [Hn.out]; exact Nat.le_refl _)
            rw [htk] at hmi hop
            have hmL := hmi.row.lst
            have hoL := hop.row.lst
            have hls := HLs.out.keeps ki
            have hth := thread_any xs (by rw [Hn.out]; omega) (.slice Ax i cx) wr (by rw [Hn.out]; exact HLx.out.keeps ki) hls.ok t
            have HmL := Lib.hid hmL
            have HoL := Lib.hid hoL
            obtain ⟨A9, c9, h9⟩ := hmi.row.len
            obtain ⟨A10, c10, h10⟩ := hop.row.len
            subst h9
            subst h10
            have hfl : ∀ p : RV → Bool, (xs.filter p).length ≤ 48 := fun p => by
              have := List.length_filter_le p xs
              rw [Hn.out] at this; omega
            have HFl := Lib.hid hfl
            have hmem : ∀ p : RV → Bool, ∀ x ∈ xs.filter p, x ∈ xs := fun p x hx => (List.mem_filter.1 hx).1
            have HMem := Lib.hid hmem
            generalize hm9 : (xs.filter (fun x => x.n.th == t)).length = m9 at HmL hmi hap ⊢
            generalize hm10 : (xs.filter (fun x => x.n.rs == -1)).length = m10 at HoL hop hap ⊢
            have Hm9 := Lib.hid hm9
            have Hm10 := Lib.hid hm10
            clear hmi hop hap hmL hoL htk hls hfl hmem hm9 hm10
            go_wp2_with fail
            refine hth.mono ?_
            rintro e w5 ⟨u5, ys5, rfl, hp5, hst5, k5⟩
            have hyl5 : ys5.length = m9 := by have := congrArg List.length hst5; rw [List.length_map, List.length_map] at this; rw [this, Hm9.out]
            have hs5 := samelist_any ys5 (xs.filter (fun x => x.n.th == t)) hst5 (by rw [hyl5, ← Hm9.out]; have := HFl.out (fun x => x.n.th == t); omega) _ (.slice A9 m9 c9) w5 hp5.lst (by rw [Hm9.out]; exact HmL.out.keeps k5) (fun y hy => by
              obtain ⟨z, hz, hzl⟩ := strip_bl hst5 y hy
              refine ⟨(hp5.ok y hy).okb, ?_⟩
              have := (HLs.out.ok z (HMem.out _ z hz)).2
              omega) (fun y hy => ((HLs.out.ok y (HMem.out _ y hy)).1.keeps ki).keeps k5)
            obtain ⟨A5, c5, h5⟩ := hp5.row.len
            subst h5
            rw [hyl5] at hs5 ⊢
            clear hth hst5 hp5 hyl5
            go_wp2_with fail
            refine hs5.mono ?_
            rintro e w6 ⟨rfl, k6⟩
            have K6 := ki.trans (k5.trans k6 (by simp)) (by simp)
            have K6r := k5.trans k6 (by simp)
            have hpe := pending_any xs (by rw [Hn.out]; omega) (.slice Ax i cx) w6 (by rw [Hn.out]; exact HLx.out.keeps K6) (HLs.out.keeps K6).ok
            clear hs5 k5 k6
            go_wp2_with fail
            refine hpe.mono ?_
            rintro e w7 ⟨u7, ys7, rfl, hp7, hst7, k7⟩
            have hyl7 : ys7.length = m10 := by have := congrArg List.length hst7; rw [List.length_map, List.length_map] at this; rw [this, Hm10.out]
            have hs7 := samelist_any ys7 (xs.filter (fun x => x.n.rs == -1)) hst7 (by rw [hyl7, ← Hm10.out]; have := HFl.out (fun x => x.n.rs == -1); omega) _ (.slice A10 m10 c10) w7 hp7.lst (by rw [Hm10.out]; exact (HoL.out.keeps K6r).keeps k7) (fun y hy => by
              obtain ⟨z, hz, hzl⟩ := strip_bl hst7 y hy
              refine ⟨(hp7.ok y hy).okb, ?_⟩
              have := (HLs.out.ok z (HMem.out _ z hz)).2
              omega) (fun y hy => ((HLs.out.ok y (HMem.out _ y hy)).1.keeps K6).keeps k7)
            obtain ⟨A7, c7, h7⟩ := hp7.row.len
            subst h7
            rw [hyl7] at hs7 ⊢
            clear hpe hst7 hp7 hyl7
            go_wp2_with fail
            refine hs7.mono ?_
            rintro e w8 ⟨rfl, k8⟩
            have K8 := (kq.trans K6 (by simp)).trans (k7.trans k8 (by simp)) (by simp)
            clear hs7 k7 k8 K6 K6r
            go_wp2_with fail
            exact ⟨⟨q + 1, by omega, by go_num, K8⟩, by simp [intOf]; omega⟩
      · obtain rfl : q = 2 := by omega
        go_wp2_with fail
        refine (awake_any wq).mono ?_
        rintro e w9 ⟨rfl, k9⟩
        go_wp2_with fail
        go_ret
        exact ⟨rfl, ((k1.trans HK0.out (by simp)).trans kq (by simp)).trans k9 (by simp)⟩
end Go.Proofs.Ytjlgodaiciopaaa
