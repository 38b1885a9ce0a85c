/- The contract of the reference's Order: the walk. -/
import Derived.Test.YtjlgodaiciopaaaHisRO
import Derived.BigQuiet
namespace Go.Proofs.Ytjlgodaiciopaaa
open Go.RowKit Go.Shelf Go.Lib Go.Sort
set_option linter.unusedSectionVars false
set_option linter.unusedVariables false
set_option maxRecDepth 100000
set_option linter.unusedSimpArgs false
set_option maxHeartbeats 2000000
theorem rec_at {w : World} {g : Nat} {T : List RV} {rest : List Value} (h : Blk w g (rCs T ++ rest)) {i : Nat} {y : RV} (hy : T[i]? = some y) : Cel w g (i * 16) y := fun j u hj => by
  have hj16 : j < 16 := by have := (List.getElem?_eq_some_iff.1 hj).1; rwa [rC_len] at this
  rw [h.cell, rCs_cells T rest i y hy j hj16, hj]
def RoPost (xs : List RV) (w : World) (e : Ending) (w' : World) : Prop := ∃ u, e = .returned u ∧ Row w' u (ordL xs).length 16 (rCs (ordL xs)) ∧ Keeps [] w w'
theorem rorder_any (xs : List RV) (hn : xs.length ≤ 100) (v : Value) (w : World) (hv : Lst w v xs.length (rCs xs)) : Calls Try.prog 18 #[v] w (RoPost xs w) := by
  have mixed : Try.prog.follows .mixedOrders = true := by kernel_rfl
  have HV := Lib.hid hv
  obtain ⟨n, hn'⟩ : ∃ n, xs.length = n := ⟨_, rfl⟩
  obtain ⟨A, cap, b, o, rfl, _, _⟩ := hv
  rw [hn'] at hn HV ⊢
  have Hn := Lib.hid hn'
  clear hn'
  go_enter Try.func18, Try.ntmps18
  go_wp2_with fail
  go_loopw [3, 4] (fun l i wr => ∃ k : Nat, k ≤ n ∧ i = .int .i64 k ∧ Row wr l (rordL xs k).length 16 (rCs (rordL xs k)) ∧ (∀ g, l.ownBlock = some g → w.heap.size ≤ g) ∧ Keeps [] w wr ∧ (rordL xs k).length ≤ k) (fun _ i _ => n - (intOf i).toNat)
  case atStart => exact ⟨0, by omega, rfl, Row.nil _ _, fun g hg => by simp [Value.ownBlock] at hg, Keeps.refl _ _, Nat.le_refl _⟩
  case round =>
    obtain ⟨k, hk, rfl, hrow, hge, kk, hlk⟩ := hrel
    by_cases hlt : k < n
    · obtain ⟨x, hx⟩ : ∃ x, xs[k]? = some x := ⟨_, List.getElem?_eq_getElem (by rw [Hn.out]; exact hlt)⟩
      obtain ⟨g, o', rfl, hc, hg⟩ := HV.out.atS Hn.out hx
      have hkn : (k : Int) < (n : Int) := by omega
      have hcr := hc.keeps kk (by simp)
      have x3 := hcr.num.2.2.2.1
      by_cases hp : x.n.pt = -1
      · have hpb : (x.n.pt == -1) = true := by simpa using hp
        have hs := rordL_skip hx hp
        have HSk := Lib.hid hs
        clear hs hx hp hc hcr
        go_wp2_with fail
        exact ⟨⟨k + 1, by omega, by go_num, by rw [HSk.out]; exact hrow, hge, kk, by rw [HSk.out]; omega⟩, by simp [intOf]; omega⟩
      · have hpb : (x.n.pt == -1) = false := by simpa using hp
        obtain ⟨L, hL⟩ : ∃ L, rordL xs k = L := ⟨_, rfl⟩
        have hput := rordL_put hx hp
        rw [hL] at hrow hlk hput
        obtain ⟨m, hm⟩ : ∃ m, L.length = m := ⟨_, rfl⟩
        rw [hm] at hrow hlk hput
        have HPut := Lib.hid hput
        have Hm := Lib.hid hm
        have HCw := Lib.hid hc
        have hl1 := hcr.load
        have kal : Keeps [] wr (wr.alloc (.cells #[.int .i64 x.n.th, .int .i64 x.n.ix, .int .i64 x.n.inv, .int .i64 x.n.pt, .int .i64 x.n.rs, .int .i64 x.code, .string x.key, .int .u64 x.time, .slice x.bA x.b.length x.bc, .int .i64 x.hd, .int .i64 x.cu, .int .i64 x.mo, .int .i64 x.er, .int .u64 x.at_, .string x.ak, .string x.av] 36)) := (Keeps.refl [] wr).alloc _
        obtain ⟨i0, hi0, hz0, hz1, hz2⟩ := info_parts infoR
        obtain ⟨u2, w2, hap, hrow2, k2, hf2⟩ := row_append (hrow.keeps kal (by simp)) 22 22 36 i0 _ 168 Try.underlying22 hi0 hz0 hz1 hz2 rfl (by decide) ⟨wr.heap.size, 0, none⟩ 1 1 (rC x) rfl (fun j u hj => by rw [Addr.add_lit]; exact (Blk.new_at wr wr.heap.size [.int .i64 x.n.th, .int .i64 x.n.ix, .int .i64 x.n.inv, .int .i64 x.n.pt, .int .i64 x.n.rs, .int .i64 x.code, .string x.key, .int .u64 x.time, .slice x.bA x.b.length x.bc, .int .i64 x.hd, .int .i64 x.cu, .int .i64 x.mo, .int .i64 x.er, .int .u64 x.at_, .string x.ak, .string x.av] 36 (by simp)).cel j u hj) (rC_one x) (by omega) (by decide)
        obtain ⟨A3, c3, h3⟩ := hrow.len
        subst h3
        obtain ⟨h1, ⟨_, h0⟩ | ⟨g3, cap3, rest, hu2, hb3, hc1, hc2, hc3⟩⟩ := hrow2
        · exact absurd h0 (by omega)
        subst hu2
        have hge3 : w.heap.size ≤ g3 := by
          rcases hf2 g3 rfl with h | h
          · exact hge g3 h
          · have := kk.size; have := kal.size; omega
        have K2 : Keeps [] w w2 := (kk.trans kal (by simp)).trans k2 (fun i hi => .inr (hge i (by simpa using hi)))
        have hhole : rCs L ++ rC x = rCs (holeL L x m) := by rw [← hm]; simp [holeL, rCs_append, rCs_one]
        rw [hhole] at hb3 h1 hc3
        have HB3 := Lib.hid hb3
        have HRes := Lib.hid (And.intro h1 (And.intro hc1 (And.intro hc2 hc3)))
        have HK2 := Lib.hid K2
        clear hx hL hput hm hc hcr hrow k2 hf2 hhole hb3 h1 hc1 hc2 hc3 kal hge K2 hi0 hz0 hz1 hz2 hp
        go_upto_block 2 with (first
          | (refine list_load_eq rfl 36 _ rfl _ rfl _ hl1 ?_)
          | (at_builtin; refine list_append_eq rfl _ _ 22 22 rfl _ _ rfl rfl hap ?_))
        go_cut [5] from 6 to 59 (fun s wx => ∃ (j : Nat) (z : RV), s = .int .i64 j ∧ j ≤ m ∧ Blk wx g3 (rCs (holeL L z j) ++ rest) ∧ Keeps [g3] w2 wx ∧ Hid (rordL xs (k + 1) = holeL L x j))
        case first =>
          go_wp2_with fail
          go_loopw [5] (fun s wx => ∃ (j : Nat) (z : RV), s = .int .i64 j ∧ j ≤ m ∧ Hid (Blk wx g3 (rCs (holeL L z j) ++ rest)) ∧ Keeps [g3] w2 wx ∧ Hid (∀ y ∈ L.drop j, keyP x < keyP y)) (fun s _ => (intOf s).toNat)
          case atStart => exact ⟨m, x, rfl, Nat.le_refl _, HB3, Keeps.refl _ _, Lib.hid (by rw [← Hm.out]; simp)⟩
          case round =>
            obtain ⟨j, z, rfl, hj, HB, k4, HI⟩ := hrel
            have K4 : Keeps [] w wr := HK2.out.trans k4 (fun i hi => .inr (by simp at hi; omega))
            have x3 := (HCw.out.keeps K4 (by simp)).num.2.2.2.1
            rcases Nat.eq_zero_or_pos j with h0 | h0
            · subst h0
              have hs := HPut.out 0 HI.out (fun y h => absurd h (Nat.lt_irrefl 0)) (Nat.zero_le _)
              have HSk := Lib.hid hs
              clear hs x3
              go_wp2_with fail
              go_quiet (fail)
              go_wp2_with fail
              go_meet
              case rel => exact ⟨0, z, rfl, Nat.zero_le _, HB.out, k4.drewN _, HSk⟩
            · obtain ⟨i, rfl⟩ : ∃ i, j = i + 1 := ⟨j - 1, by omega⟩
              obtain ⟨y, hy⟩ : ∃ y, L[i]? = some y := ⟨_, List.getElem?_eq_getElem (by rw [Hm.out]; omega)⟩
              have hcy := rec_at HB.out (holeL_at (z := z) hy)
              have y3 := hcy.num.2.2.2.1
              have jz : (i : Int) + 1 < (m : Int) + 1 := by omega
              have jz1 : (i : Int) < (m : Int) + 1 := by omega
              have jz0 : (0 : Int) < (i : Int) + 1 := by omega
              have jzp : (0 : Int) ≤ (i : Int) + 1 := by omega
              have hwj : IntKind.i64.wrap (i : Int) = (i : Int) := by rw [IntKind.wrap_i64]; omega
              have e1 : ((i : Int) + 1).toNat = i + 1 := by omega
              by_cases hgt : x.n.pt < y.n.pt
              · have hd : decide (x.n.pt < y.n.pt) = true := decide_eq_true hgt
                have hI2 : ∀ y' ∈ L.drop i, keyP x < keyP y' := fun y' hy' => by
                  obtain ⟨q1, q2⟩ := List.getElem?_eq_some_iff.1 hy
                  rw [List.drop_eq_getElem_cons q1, q2] at hy'
                  rcases List.mem_cons.1 hy' with rfl | hy'
                  · exact hgt
                  · exact HI.out y' hy'
                have HI2 := Lib.hid hI2
                have HY := Lib.hid hy
                have HCy := Lib.hid hcy
                clear hI2 hy hcy
                go_wp2_with fail
                go_quiet (fail)
                have HBq : Hid (Blk (wr.drewN nq) g3 (rCs (holeL L z (i + 1)) ++ rest)) := HB.out.drewN nq
                have k4q : Keeps [g3] w2 (wr.drewN nq) := k4.drewN nq
                have HCq : Hid (Cel (wr.drewN nq) g3 (i * 16) y) := HCy.out
                generalize wr.drewN nq = wq at HBq k4q HCq ⊢
                clear x3 y3 HB k4 K4 HCy
                have ldy := HCq.out.load
                obtain ⟨w5, st5, hb5, k5⟩ := store_rec HBq.out y (i + 1) (by rw [List.length_take, Hm.out]; omega)
                rw [holeL_step HY.out] at hb5
                have HB5 := Lib.hid hb5
                have K5 : Keeps [g3] w2 w5 := k4q.trans k5 (fun i hi => .inl hi)
                clear hb5 k5 k4q HCq HBq
                go_wp2_with (first
                  | (refine list_load_eq rfl 36 _ rfl _ rfl _ ldy ?_)
                  | (refine list_store_eq rfl 36 _ _ rfl _ rfl _ rfl st5 ?_))
                exact ⟨⟨i, y, by first | rfl | go_num, by omega, HB5, K5, HI2⟩, by simp [intOf] <;> omega⟩
              · have hd : decide (x.n.pt < y.n.pt) = false := decide_eq_false hgt
                have hs := HPut.out (i + 1) HI.out (fun y' _ h => by rw [Nat.add_sub_cancel, hy] at h; obtain rfl := Option.some.inj h; unfold keyP; omega) hj
                have HSk := Lib.hid hs
                clear hs hy hcy
                go_wp2_with fail
                go_quiet (fail)
                go_wp2_with fail
                go_meet
                case rel => exact ⟨i + 1, z, rfl, hj, HB.out, k4.drewN _, HSk⟩
        case rest =>
        obtain ⟨j, z, rfl, hj, hb5, k5, HSk⟩ := hcut
        have K5 : Keeps [] w wc := HK2.out.trans k5 (fun i hi => .inr (by simp at hi; omega))
        have hcx := HCw.out.keeps K5 (by simp)
        have ldx := hcx.load
        obtain ⟨w6, st6, hb6, k6⟩ := store_rec hb5 x j (by rw [List.length_take, Hm.out]; omega)
        have K6 : Keeps [] w w6 := K5.trans k6 (fun i hi => .inr (by simp at hi; omega))
        have hrowf : Row w6 (.slice (some ⟨g3, 0, none⟩) (m + 1) cap3) (rordL xs (k + 1)).length 16 (rCs (rordL xs (k + 1))) := by
          rw [HSk.out, holeL_len, Hm.out]
          refine ⟨by rw [rCs_len, holeL_len, Hm.out], .inr ⟨g3, cap3, rest, rfl, hb6, HRes.out.2.1, HRes.out.2.2.1, ?_⟩⟩
          rw [← HRes.out.2.2.2, List.length_append, List.length_append, rCs_len, rCs_len, holeL_len, holeL_len]
        have hlen : (rordL xs (k + 1)).length ≤ k + 1 := by rw [HSk.out, holeL_len, Hm.out]; omega
        have HRF := Lib.hid hrowf
        have HLen := Lib.hid hlen
        have jz : (j : Int) < (m : Int) + 1 := by omega
        clear hrowf hlen hb5 hb6 hcx k5 k6 hl1 hap x3 K5
        go_wp2_with (first
          | (refine list_load_eq rfl 36 _ rfl _ rfl _ ldx ?_)
          | (refine list_store_eq rfl 36 _ _ rfl _ rfl _ rfl st6 ?_))
        exact ⟨⟨k + 1, by omega, by go_num, HRF.out, fun g hg => by simp [Value.ownBlock] at hg; omega, K6, HLen.out⟩, by simp [intOf]; omega⟩
    · obtain rfl : k = n := by omega
      go_wp2_with fail
      go_ret
      refine ⟨_, rfl, ?_, kk⟩
      rw [← rordL_full, Hn.out]; exact hrow
end Go.Proofs.Ytjlgodaiciopaaa
