/- The contracts of Overlap, of the program and of the reference. -/
import Derived.Test.YtjlgodaiciopaaaHisA
namespace Go.Proofs.Ytjlgodaiciopaaa
open Go.RowKit
set_option maxRecDepth 100000
set_option maxHeartbeats 1000000
/-- How many of the first j are in progress when x is invoked. -/
def ovN (l : List Rec) (x : Rec) (j : Nat) : Nat := ((l.take j).filter (ov x)).length
/-- The greatest of these numbers, over the first k. -/
def ovM (l : List Rec) : Nat → Nat
  | 0 => 0
  | k + 1 => match l[k]? with
    | some x => max (ovM l k) (l.filter (ov x)).length
    | none => ovM l k
theorem ovN_le (l : List Rec) (x : Rec) (j : Nat) : ovN l x j ≤ j := by
  unfold ovN
  have := List.length_filter_le (ov x) (l.take j)
  rw [List.length_take] at this
  omega
theorem ovN_step {l : List Rec} {x r : Rec} {j : Nat} (h : l[j]? = some r) : ovN l x (j + 1) = ovN l x j + (if ov x r = true then 1 else 0) := by
  unfold ovN
  rw [List.take_add_one, h, List.filter_append, List.length_append]
  by_cases hb : ov x r = true
  · simp [hb]
  · simp [hb]
theorem ovN_full (l : List Rec) (x : Rec) (n : Nat) (h : l.length = n) : ovN l x n = (l.filter (ov x)).length := by
  unfold ovN
  rw [List.take_of_length_le (by omega)]
theorem ovM_step {l : List Rec} {x : Rec} {k : Nat} (h : l[k]? = some x) : ovM l (k + 1) = max (ovM l k) (l.filter (ov x)).length := by
  simp [ovM, h]
theorem ovM_le (l : List Rec) : ∀ k, ovM l k ≤ l.length
  | 0 => Nat.zero_le _
  | k + 1 => by
    unfold ovM
    cases h : l[k]? with
    | none => exact ovM_le l k
    | some x =>
      have := ovM_le l k
      have := List.length_filter_le (ov x) l
      simp only
      omega
theorem recs_at {xs : List RV} {k : Nat} {x : RV} (h : xs[k]? = some x) : (xs.map (·.n))[k]? = some x.n := by rw [List.getElem?_map, h]; rfl
theorem overlap_any (xs : List RV) (hn : xs.length ≤ 1000) (v : Value) (w : World) (hv : Lst w v xs.length (rCs xs)) :
    Calls Try.prog 15 #[v] w fun e w' => e = .returned (.int .i64 (ovM (xs.map (·.n)) xs.length : Nat)) ∧ Keeps [] w w' := by
  have HV := Lib.hid hv
  obtain ⟨n, hn'⟩ : ∃ n, xs.length = n := ⟨_, rfl⟩
  obtain ⟨A, cap, b, o, rfl, _, _⟩ := hv
  rw [hn'] at hn HV ⊢
  have Hn := Lib.hid hn'
  have HN : Hid ((xs.map (·.n)).length = n) := by show _ = _; rw [List.length_map, Hn.out]
  have HM := Lib.hid (ovM_le (xs.map (·.n)))
  clear hn'
  go_enter Try.func15, Try.ntmps15
  go_wp2_with fail
  go_loopw [3, 11] (fun m i wr => ∃ k : Nat, k ≤ n ∧ i = .int .i64 k ∧ m = .int .i64 (ovM (xs.map (·.n)) k : Nat) ∧ Keeps [] w wr) (fun _ i _ => n - (intOf i).toNat)
  case atStart => exact ⟨0, by omega, rfl, rfl, Keeps.refl _ _⟩
  case round =>
    obtain ⟨k, hk, rfl, rfl, kk⟩ := hrel
    obtain ⟨q, hq⟩ : ∃ q, ovM (xs.map (·.n)) k = q := ⟨_, rfl⟩
    have hqn : q ≤ n := by have := HM.out k; rw [HN.out, hq] at this; exact this
    rw [hq]
    have HQ := Lib.hid hq
    clear hq
    by_cases hlt : k < n
    · obtain ⟨x, hx⟩ : ∃ x, xs[k]? = some x := ⟨_, List.getElem?_eq_getElem (by rw [Hn.out]; exact hlt)⟩
      obtain ⟨g, o', rfl, hc, hg⟩ := (HV.out.keeps kk).atS Hn.out hx
      have hl0 := hc.load
      have hst := store_new wr x
      have hbk := new_rec wr x
      have kn : Keeps [] wr (wr.alloc (.cells #[.int .i64 x.n.th, .int .i64 x.n.ix, .int .i64 x.n.inv, .int .i64 x.n.pt, .int .i64 x.n.rs, .int .i64 x.code, .string x.key, .int .u64 x.time, .slice x.bA x.b.length x.bc, .int .i64 x.hd, .int .i64 x.cu, .int .i64 x.mo, .int .i64 x.er, .int .u64 x.at_, .string x.ak, .string x.av] 36)) := (Keeps.refl [] wr).alloc _
      have hkn : (k : Int) < (n : Int) := by omega
      have Hx := Lib.hid hx
      have HF := Lib.hid (ovN_full (xs.map (·.n)) x.n n HN.out)
      have HS := Lib.hid (ovM_step (recs_at hx))
      have HZ := Lib.hid (ovN_le (xs.map (·.n)) x.n)
      have Hbk := Lib.hid hbk
      have HK : Keeps [] w (wr.alloc (.cells #[.int .i64 x.n.th, .int .i64 x.n.ix, .int .i64 x.n.inv, .int .i64 x.n.pt, .int .i64 x.n.rs, .int .i64 x.code, .string x.key, .int .u64 x.time, .slice x.bA x.b.length x.bc, .int .i64 x.hd, .int .i64 x.cu, .int .i64 x.mo, .int .i64 x.er, .int .u64 x.at_, .string x.ak, .string x.av] 36)) := kk.trans kn (by simp)
      have hgs : wr.heap.size < (wr.alloc (.cells #[.int .i64 x.n.th, .int .i64 x.n.ix, .int .i64 x.n.inv, .int .i64 x.n.pt, .int .i64 x.n.rs, .int .i64 x.code, .string x.key, .int .u64 x.time, .slice x.bA x.b.length x.bc, .int .i64 x.hd, .int .i64 x.cu, .int .i64 x.mo, .int .i64 x.er, .int .u64 x.at_, .string x.ak, .string x.av] 36)).heap.size := hbk.lt
      clear hx hc hbk
      go_wp2_with (first
        | (refine list_load_eq rfl 36 _ rfl _ rfl _ hl0 ?_)
        | (refine list_store_eq rfl 36 _ _ rfl _ rfl _ rfl (hst _ rfl) ?_))
      clear hl0 hst kn
      obtain ⟨g5, hg5⟩ : ∃ g5, wr.heap.size = g5 := ⟨_, rfl⟩
      rw [hg5] at Hbk hgs ⊢
      generalize hwx : wr.alloc (.cells #[.int .i64 x.n.th, .int .i64 x.n.ix, .int .i64 x.n.inv, .int .i64 x.n.pt, .int .i64 x.n.rs, .int .i64 x.code, .string x.key, .int .u64 x.time, .slice x.bA x.b.length x.bc, .int .i64 x.hd, .int .i64 x.cu, .int .i64 x.mo, .int .i64 x.er, .int .u64 x.at_, .string x.ak, .string x.av] 36) = wx at Hbk HK hgs ⊢
      clear hwx hg5 kk
      go_loopw [6, 17] (fun m i wr => ∃ j : Nat, j ≤ n ∧ i = .int .i64 j ∧ m = .int .i64 (ovN (xs.map (·.n)) x.n j : Nat) ∧ Keeps [] wx wr) (fun _ i _ => n - (intOf i).toNat)
      case atStart => exact ⟨0, by omega, rfl, rfl, Keeps.refl _ _⟩
      case round =>
        obtain ⟨j, hj, rfl, rfl, kk2⟩ := hrel
        obtain ⟨c, hcc⟩ : ∃ c, ovN (xs.map (·.n)) x.n j = c := ⟨_, rfl⟩
        have hcn : c ≤ n := by have := HZ.out j; omega
        rw [hcc]
        have HC := Lib.hid hcc
        clear hcc
        by_cases hlt2 : j < n
        · obtain ⟨r, hr⟩ : ∃ r, xs[j]? = some r := ⟨_, List.getElem?_eq_getElem (by rw [Hn.out]; exact hlt2)⟩
          obtain ⟨g2, o2, e2, hc2, hg2⟩ := (HV.out.keeps (HK.trans kk2 (by simp))).atS Hn.out hr
          injection e2 with e2
          injection e2 with e2 e3
          subst e2; subst e3
          have hl2 := hc2.load
          have hst2 := store_new wr r
          have hbr := new_rec wr r
          have r2 := hbr.cell 2
          have r4 := hbr.cell 4
          simp only [List.getElem?_cons_succ, List.getElem?_cons_zero] at r2 r4
          have hjn : (j : Int) < (n : Int) := by omega
          have hw1 : IntKind.i64.wrap ((c : Int) + 1) = (c : Int) + 1 := by rw [IntKind.wrap_i64]; omega
          have HS2 := Lib.hid (ovN_step (x := x.n) (recs_at hr))
          have R2 := Lib.hid r2
          have R4 := Lib.hid r4
          clear hc2 hr hbr r2 r4
          go_upto_region 8 with fail
          go_cut [8] from 18 to 40 (fun s wx2 => ∃ gb, s = .pointer (some ⟨gb, 0, none⟩) ∧ wx2.cell? ⟨gb, 2, none⟩ = some (.int .i64 r.n.inv) ∧ wx2.cell? ⟨gb, 4, none⟩ = some (.int .i64 r.n.rs) ∧ Keeps [] wr wx2)
          case first =>
            go_wp2_with (first
              | (refine list_load_eq rfl 36 _ rfl _ rfl _ hl2 ?_)
              | (refine list_store_eq rfl 36 _ _ rfl _ rfl _ rfl (hst2 _ rfl) ?_))
            go_meet
            case rel => exact ⟨_, rfl, R2.out, R4.out, (Keeps.refl _ _).alloc _⟩
          case rest =>
          obtain ⟨gb, rfl, r2, r4, k3⟩ := hcut
          have K3 := kk2.trans k3 (by simp)
          have hb5 := K3.blk Hbk.out (by simp)
          have x2 := hb5.cell 2
          simp only [List.getElem?_cons_succ, List.getElem?_cons_zero] at x2
          clear hl2 hst2 R2 R4 kk2 k3 hb5
          go_upto_region 9 with fail
          go_cut [37] from 18 to 40 (fun s wx2 => s = .bool (ov x.n r.n) ∧ wx2 = wc)
          case first =>
            by_cases h1 : r.n.inv ≤ x.n.inv
            · by_cases h2 : r.n.rs = -1
              · have h2b : (r.n.rs == -1) = true := by simpa using h2
                go_wp2_with fail
                go_meet
                case rel => exact ⟨by simp [ov, h1, h2], rfl⟩
              · have h2b : (r.n.rs == -1) = false := by simpa using h2
                by_cases h3 : x.n.inv ≤ r.n.rs
                · go_wp2_with fail
                  go_meet
                  case rel => exact ⟨by simp [ov, h1, h3], rfl⟩
                · go_wp2_with fail
                  go_meet
                  case rel => exact ⟨by simp [ov, h1, h2, h3], rfl⟩
            · go_wp2_with fail
              go_meet
              case rel => exact ⟨by simp [ov]; omega, rfl⟩
          case rest =>
          obtain ⟨rfl, rfl⟩ := hcut
          by_cases hov : ov x.n r.n = true
          · have Hov := Lib.hid hov
            rw [hov]
            clear hov
            go_wp2_with fail
            exact ⟨⟨j + 1, by omega, by go_num, by rw [HS2.out, HC.out, if_pos Hov.out]; go_num, K3⟩, by simp [intOf]; omega⟩
          · have hov' : ov x.n r.n = false := by simpa using hov
            have Hov := Lib.hid hov
            rw [hov']
            clear hov hov'
            go_wp2_with fail
            exact ⟨⟨j + 1, by omega, by go_num, by rw [HS2.out, HC.out, if_neg Hov.out]; rfl, K3⟩, by simp [intOf]; omega⟩
        · obtain rfl : j = n := by omega
          have hm : ovM (xs.map (·.n)) (k + 1) = max q c := by rw [HS.out, HQ.out, ← HF.out, HC.out]
          have HMm := Lib.hid hm
          clear hm
          have K5 : Keeps [] w wr := HK.trans kk2 (by simp)
          go_wp2_with fail
          exact ⟨⟨k + 1, by omega, by go_num, by rw [HMm.out]; congr 1; omega, K5⟩, by simp [intOf]; omega⟩
    · obtain rfl : k = n := by omega
      go_wp2_with fail
      go_ret
      exact ⟨by rw [HQ.out]; rfl, kk⟩
theorem roverlap_any (xs : List RV) (hn : xs.length ≤ 1000) (v : Value) (w : World) (hv : Lst w v xs.length (rCs xs)) :
    Calls Try.prog 19 #[v] w fun e w' => e = .returned (.int .i64 (ovM (xs.map (·.n)) xs.length : Nat)) ∧ Keeps [] w w' := by
  have mixed : Try.prog.follows .mixedOrders = true := by kernel_rfl
  have HV := Lib.hid hv
  obtain ⟨n, hn'⟩ : ∃ n, xs.length = n := ⟨_, rfl⟩
  obtain ⟨A, cap, b, o, rfl, _, _⟩ := hv
  rw [hn'] at hn HV ⊢
  have Hn := Lib.hid hn'
  have HN : Hid ((xs.map (·.n)).length = n) := by show _ = _; rw [List.length_map, Hn.out]
  have HM := Lib.hid (ovM_le (xs.map (·.n)))
  clear hn'
  go_enter Try.func19, Try.ntmps19
  go_wp2_with fail
  go_loopw [3, 4] (fun m i wr => ∃ k z : Nat, k ≤ n ∧ i = .int .i64 k ∧ m = .int .i64 (ovM (xs.map (·.n)) k : Nat) ∧ wr = w.drewN z) (fun _ i _ => n - (intOf i).toNat)
  case atStart => exact ⟨0, 0, by omega, rfl, rfl, rfl⟩
  case round =>
    obtain ⟨k, z, hk, rfl, rfl, rfl⟩ := hrel
    obtain ⟨q, hq⟩ : ∃ q, ovM (xs.map (·.n)) k = q := ⟨_, rfl⟩
    have hqn : q ≤ n := by have := HM.out k; rw [HN.out, hq] at this; exact this
    rw [hq]
    have HQ := Lib.hid hq
    clear hq
    by_cases hlt : k < n
    · obtain ⟨x, hx⟩ : ∃ x, xs[k]? = some x := ⟨_, List.getElem?_eq_getElem (by rw [Hn.out]; exact hlt)⟩
      obtain ⟨g, o', rfl, hc, hg⟩ := HV.out.atS Hn.out hx
      have x2 := hc.num.2.2.1
      have hkn : (k : Int) < (n : Int) := by omega
      have HF := Lib.hid (ovN_full (xs.map (·.n)) x.n n HN.out)
      have HS := Lib.hid (ovM_step (recs_at hx))
      have HZ := Lib.hid (ovN_le (xs.map (·.n)) x.n)
      clear hx hc
      go_wp2_with fail
      go_loopw [5, 6] (fun m i wr => ∃ j z : Nat, j ≤ n ∧ i = .int .i64 j ∧ m = .int .i64 (ovN (xs.map (·.n)) x.n j : Nat) ∧ wr = w.drewN z) (fun _ i _ => n - (intOf i).toNat)
      case atStart => exact ⟨0, z, by omega, rfl, rfl, rfl⟩
      case round =>
        obtain ⟨j, z2, hj, rfl, rfl, rfl⟩ := hrel
        obtain ⟨c, hcc⟩ : ∃ c, ovN (xs.map (·.n)) x.n j = c := ⟨_, rfl⟩
        have hcn : c ≤ n := by have := HZ.out j; omega
        rw [hcc]
        have HC := Lib.hid hcc
        clear hcc
        by_cases hlt2 : j < n
        · obtain ⟨r, hr⟩ : ∃ r, xs[j]? = some r := ⟨_, List.getElem?_eq_getElem (by rw [Hn.out]; exact hlt2)⟩
          obtain ⟨g2, o2, e2, hc2, hg2⟩ := HV.out.atS Hn.out hr
          injection e2 with e2
          injection e2 with e2 e3
          subst e2; subst e3
          have r2 := hc2.num.2.2.1
          have r4 := hc2.num.2.2.2.2
          have hjn : (j : Int) < (n : Int) := by omega
          have hw1 : IntKind.i64.wrap ((c : Int) + 1) = (c : Int) + 1 := by rw [IntKind.wrap_i64]; omega
          have HS2 := Lib.hid (ovN_step (x := x.n) (recs_at hr))
          clear hc2 hr
          go_upto_region 9 with fail
          go_cut [50] from 13 to 52 (fun s wx2 => s = .bool (ov x.n r.n) ∧ ∃ z : Nat, wx2 = w.drewN z)
          case first =>
            by_cases h1 : r.n.inv ≤ x.n.inv
            · have hd1 : decide (r.n.inv ≤ x.n.inv) = true := decide_eq_true h1
              by_cases h2 : r.n.rs = -1
              · have h2b : (r.n.rs == -1) = true := by simpa using h2
                have hov : ov x.n r.n = true := by simp [ov, h1, h2]
                have Hov := Lib.hid hov
                clear h2 hov
                go_quiet (fail)
                go_wp2_with fail
                go_meet
                case rel => exact ⟨by rw [Hov.out], _, rfl⟩
              · have h2b : (r.n.rs == -1) = false := by simpa using h2
                by_cases h3 : x.n.inv ≤ r.n.rs
                · have hd3 : decide (x.n.inv ≤ r.n.rs) = true := decide_eq_true h3
                  have hov : ov x.n r.n = true := by simp [ov, h1, h3]
                  have Hov := Lib.hid hov
                  clear h2 hov
                  go_quiet (fail)
                  go_wp2_with fail
                  go_meet
                  case rel => exact ⟨by rw [Hov.out], _, rfl⟩
                · have hd3 : decide (x.n.inv ≤ r.n.rs) = false := decide_eq_false h3
                  have hov : ov x.n r.n = false := by simp [ov, h1, h2, h3]
                  have Hov := Lib.hid hov
                  clear h2 hov
                  go_quiet (fail)
                  go_wp2_with fail
                  go_meet
                  case rel => exact ⟨by rw [Hov.out], _, rfl⟩
            · have hd1 : decide (r.n.inv ≤ x.n.inv) = false := decide_eq_false h1
              have hov : ov x.n r.n = false := by simp [ov, h1]
              have Hov := Lib.hid hov
              clear hov
              go_quiet (fail)
              go_wp2_with fail
              go_meet
              case rel => exact ⟨by rw [Hov.out], _, rfl⟩
          case rest =>
          obtain ⟨rfl, z3, rfl⟩ := hcut
          by_cases hov : ov x.n r.n = true
          · have Hov := Lib.hid hov
            rw [hov]
            clear hov
            go_wp2_with fail
            exact ⟨⟨j + 1, z3, by omega, by go_num, by rw [HS2.out, HC.out, if_pos Hov.out]; go_num, rfl⟩, by simp [intOf]; omega⟩
          · have hov' : ov x.n r.n = false := by simpa using hov
            have Hov := Lib.hid hov
            rw [hov']
            clear hov hov'
            go_wp2_with fail
            exact ⟨⟨j + 1, z3, by omega, by go_num, by rw [HS2.out, HC.out, if_neg Hov.out]; rfl, rfl⟩, by simp [intOf]; omega⟩
        · obtain rfl : j = n := by omega
          have hm : ovM (xs.map (·.n)) (k + 1) = max q c := by rw [HS.out, HQ.out, ← HF.out, HC.out]
          have HMm := Lib.hid hm
          clear hm
          go_wp2_with fail
          exact ⟨⟨k + 1, z2, by omega, by go_num, by rw [HMm.out]; congr 1; omega, rfl⟩, by simp [intOf]; omega⟩
    · obtain rfl : k = n := by omega
      go_wp2_with fail
      go_ret
      exact ⟨by rw [HQ.out]; rfl, (Keeps.refl _ _).drewN _⟩
end Go.Proofs.Ytjlgodaiciopaaa
