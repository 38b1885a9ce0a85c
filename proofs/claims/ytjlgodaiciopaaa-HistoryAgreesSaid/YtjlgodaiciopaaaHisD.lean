/- The contract of build: its list is bld's. -/
import Derived.Test.YtjlgodaiciopaaaHisDL
import Derived.Deep.CutBlock
namespace Go.Proofs.Ytjlgodaiciopaaa
open Go.RowKit Go.Shelf Go.Lib Go.Sort
set_option maxRecDepth 100000
set_option linter.unusedSimpArgs false
set_option maxHeartbeats 4000000
def BldPost (X : List (Value × List Rn)) (w : World) (e : Ending) (w' : World) : Prop := ∃ u, e = .returned u ∧ Pk w' w.heap.size u ((bldOf X).map rvOf) ∧ Keeps [] w w'
theorem build_any (X : List (Value × List Rn)) (v : Value) (w : World) (hX : OkRuns w v X) : Calls Try.prog 9 #[v] w (BldPost X w) := by
  have mixed : Try.prog.follows .mixedOrders = true := by kernel_rfl
  obtain ⟨hv, hl, hrs⟩ := hX
  have HV := Lib.hid hv
  have HR := Lib.hid hrs
  obtain ⟨N, hN⟩ : ∃ N, X.length = N := ⟨_, rfl⟩
  obtain ⟨n, hn⟩ : ∃ n, min X.length 6 = n := ⟨_, rfl⟩
  obtain ⟨A, cap, b, o, rfl, _, _⟩ := hv
  have hB : bldOf X = bld n (runsOf X) n := by unfold bldOf; rw [hn]
  have HB := Lib.hid hB
  rw [hN] at hl hn HV ⊢
  have HN := Lib.hid hN
  have hmin : (if (6 : Int) < (N : Int) then (6 : Int) else (N : Int)) = (n : Int) := by split <;> omega
  have hn6 : n ≤ 6 := by omega
  have hnN : n ≤ N := by omega
  have hz : (n : Int) = min (N : Int) 6 := by omega
  clear hrs hN hB hn
  go_enter Try.func9, Try.ntmps9
  go_wp2_with fail
  rw [← hz]
  clear hz hmin
  go_loopw [3, 5] (fun l t wr => ∃ m : Nat, m ≤ n ∧ t = .int .i64 m ∧ Pk wr w.heap.size l ((bld n (runsOf X) m).map rvOf) ∧ Keeps [] w wr ∧ (bld n (runsOf X) m).length ≤ 8 * m) (fun _ t _ => n - (intOf t).toNat)
  case atStart => exact ⟨0, by omega, rfl, Pk.nil _ _, Keeps.refl _ _, Nat.zero_le _⟩
  case round =>
    obtain ⟨m, hm, rfl, hpk, kk, hlen⟩ := hrel
    by_cases hlt : m < n
    · have hmn : (m : Int) < (n : Int) := by omega
      obtain ⟨p, hp⟩ : ∃ p, X[m]? = some p := ⟨_, List.getElem?_eq_getElem (by rw [HN.out]; omega)⟩
      obtain ⟨hpl, hpn, hpr⟩ := HR.out p (List.mem_of_getElem? hp)
      have hro : runsOf X m = p.2 := by unfold runsOf; rw [hp]
      have hstep := bld_succ n (runsOf X) m
      have hlaw := bld_law n (by omega) (runsOf X) m
      rw [hro] at hstep
      obtain ⟨pv, rs⟩ := p
      simp only at hpl hpn hpr hstep
      obtain ⟨Lm, hLm⟩ : ∃ Lm, bld n (runsOf X) m = Lm := ⟨_, rfl⟩
      rw [hLm] at hstep hlaw hpk hlen
      have HStep := Lib.hid hstep
      have HS := Lib.hid hlaw.1
      have HT := Lib.hid hlaw.2.2
      have HP := Lib.hid (show (X.map (·.1))[m]? = some pv by rw [List.getElem?_map, hp]; rfl)
      have HNm : Hid ((X.map (·.1)).length = N) := by show _ = _; rw [List.length_map, HN.out]
      obtain ⟨q, hq⟩ : ∃ q, rs.length = q := ⟨_, rfl⟩
      obtain ⟨A1, cap1, b1, o1, rfl, hA1, har1⟩ := hpl
      rw [hq] at hpn HP hA1
      have HPL : Hid (Lst w (.slice A1 q cap1) q (rnCs rs)) := ⟨A1, cap1, b1, o1, rfl, hA1, har1⟩
      have HQ := Lib.hid hq
      have HPR := Lib.hid hpr
      clear hp hro hstep hlaw hLm hq hpr hA1 har1
      have hF : ∀ (l : Value) (wx : World), Pk wx w.heap.size l ((adds Lm (recs m n 0 0 8 rs)).map rvOf) → Keeps [] w wx → (adds Lm (recs m n 0 0 8 rs)).length ≤ 8 * m + 8 →
          ∃ m1 : Nat, m1 ≤ n ∧ (.int .i64 ((m : Int) + 1) : Value) = .int .i64 m1 ∧ Pk wx w.heap.size l ((bld n (runsOf X) m1).map rvOf) ∧ Keeps [] w wx ∧ (bld n (runsOf X) m1).length ≤ 8 * m1 := fun l wx h1 h2 h3 =>
        ⟨m + 1, by omega, by go_num, by rw [HStep.out]; exact h1, h2, by rw [HStep.out]; omega⟩
      have HF := Lib.hid hF
      clear hF
      go_wp2_with fail
      go_loopw [3, 6, 7] (fun l nw kv wr => ∃ (k now : Nat) (done : List Rec), k ≤ 8 ∧ k ≤ q ∧ kv = .int .i64 k ∧ nw = .int .i64 now ∧ now ≤ 16 * k ∧ Pk wr w.heap.size l ((adds Lm done).map rvOf) ∧ Keeps [] w wr ∧ Hid (done.length = k ∧ done ++ recs m n k now (8 - k) (rs.drop k) = recs m n 0 0 8 rs)) (fun _ _ kv _ => 8 - (intOf kv).toNat)
      case atStart => exact ⟨0, 0, [], by omega, by omega, rfl, rfl, by omega, hpk, kk, Lib.hid ⟨rfl, rfl⟩⟩
      case round =>
        clear hpk kk
        obtain ⟨k, now, done, hk8, hkq, rfl, rfl, hnow, hpk, kk, HD⟩ := hrel
        obtain ⟨g0, o0, rfl, hc0, hg0⟩ := (HV.out.keeps kk).one HNm.out HP.out
        by_cases hkq2 : k < q
        · by_cases hk82 : k < 8
          · obtain ⟨r, hr⟩ : ∃ r, rs[k]? = some r := ⟨_, List.getElem?_eq_getElem (by rw [HQ.out]; exact hkq2)⟩
            obtain ⟨g1, p1, rfl, d0, d1, d2, d3, d4, hg1⟩ := (HPL.out.keeps kk).rn HQ.out hr
            have hk8z : (k : Int) < 8 := by omega
            have hkqz : (k : Int) < (q : Int) := by omega
            obtain ⟨r0, r1, r2⟩ := HPR.out r (List.mem_of_getElem? hr)
            have hrest : rs.drop k = r :: rs.drop (k + 1) := by
              obtain ⟨h1, h2⟩ := List.getElem?_eq_some_iff.1 hr
              rw [List.drop_eq_getElem_cons h1, h2]
            obtain ⟨ia, hia⟩ : ∃ ia : Nat, (now + r.pause % 6) * n + m = ia := ⟨_, rfl⟩
            obtain ⟨ib, hib⟩ : ∃ ib : Nat, (now + r.pause % 6 + r.at_ % 6) * n + m = ib := ⟨_, rfl⟩
            obtain ⟨ic, hic⟩ : ∃ ic : Nat, (now + r.pause % 6 + r.at_ % 6 + r.rest % 6) * n + m = ic := ⟨_, rfl⟩
            have hxm : mk m n k now r = ⟨(m : Int), (k : Int), (ia : Int), if r.op && r.late then -1 else (ib : Int), if r.op then -1 else (ic : Int)⟩ := by
              rw [← hia, ← hib, ← hic]; rfl
            have na := Nat.mul_le_mul (show now + r.pause % 6 ≤ 200 by omega) hn6
            have nb := Nat.mul_le_mul (show now + r.pause % 6 + r.at_ % 6 ≤ 200 by omega) hn6
            have nc := Nat.mul_le_mul (show now + r.pause % 6 + r.at_ % 6 + r.rest % 6 ≤ 200 by omega) hn6
            have ea : wrap64 (wrap64 (((now : Int) + (r.pause : Int) % 6) * (n : Int)) + (m : Int)) = (ia : Int) := wrap2 _ ((now + r.pause % 6) * n) m ia (by simp) hia (by omega)
            have eb : wrap64 (wrap64 (((now : Int) + (r.pause : Int) % 6 + (r.at_ : Int) % 6) * (n : Int)) + (m : Int)) = (ib : Int) := wrap2 _ ((now + r.pause % 6 + r.at_ % 6) * n) m ib (by simp) hib (by omega)
            have ec : wrap64 (wrap64 (((now : Int) + (r.pause : Int) % 6 + (r.at_ : Int) % 6 + (r.rest : Int) % 6) * (n : Int)) + (m : Int)) = (ic : Int) := wrap2 _ ((now + r.pause % 6 + r.at_ % 6 + r.rest % 6) * n) m ic (by simp) hic (by omega)
            have HE := Lib.hid (And.intro ea (And.intro eb ec))
            have HX := Lib.hid hxm
            have HRest := Lib.hid hrest
            have haf : (now : Int) + (r.pause : Int) % 6 + (r.at_ : Int) % 6 + (r.rest : Int) % 6 + 1 = (after now r : Nat) := by unfold after; omega
            have haf2 : after now r ≤ 16 * (k + 1) := by unfold after; omega
            have HA := Lib.hid haf
            have HA2 := Lib.hid haf2
            clear ea eb ec hxm hia hib hic na nb nc hr hrest haf haf2
            go_upto_region 18 with fail
            rw [HE.out.1, HE.out.2.1, HE.out.2.2, HA.out]
            have hb8 := (Blk.new wr (rnC r) 51).alloc (.cells #[.int .i64 m, .int .i64 k, .int .i64 ia, .int .i64 ib, .int .i64 ic, .int .i64 9, .string ⟨#[]⟩, .int .u64 0, .slice none 0 0, .int .i64 0, .int .i64 0, .int .i64 0, .int .i64 0, .int .u64 0, .string ⟨#[]⟩, .string ⟨#[]⟩] 36)
            have hb9 := Blk.new_at (wr.alloc (.cells (rnC r).toArray 51)) (wr.heap.size + 1) [.int .i64 m, .int .i64 k, .int .i64 ia, .int .i64 ib, .int .i64 ic, .int .i64 9, .string ⟨#[]⟩, .int .u64 0, .slice none 0 0, .int .i64 0, .int .i64 0, .int .i64 0, .int .i64 0, .int .u64 0, .string ⟨#[]⟩, .string ⟨#[]⟩] 36 (by simp)
            have k9 : Keeps [] wr ((wr.alloc (.cells (rnC r).toArray 51)).alloc (.cells #[.int .i64 m, .int .i64 k, .int .i64 ia, .int .i64 ib, .int .i64 ic, .int .i64 9, .string ⟨#[]⟩, .int .u64 0, .slice none 0 0, .int .i64 0, .int .i64 0, .int .i64 0, .int .i64 0, .int .u64 0, .string ⟨#[]⟩, .string ⟨#[]⟩] 36)) := ((Keeps.refl [] wr).alloc _).alloc _
            simp only [rnC] at hb8 hb9 k9
            change Blk _ _ [.int .u8 r.pause, .int .u8 r.at_, .int .u8 r.rest, .bool r.op, .bool r.late] at hb8
            have h89 : wr.heap.size + 1 ≠ wr.heap.size := by omega
            have h8w : w.heap.size ≤ wr.heap.size := kk.size
            generalize hW9 : (wr.alloc (.cells #[.int .u8 r.pause, .int .u8 r.at_, .int .u8 r.rest, .bool r.op, .bool r.late] 51)).alloc (.cells #[.int .i64 m, .int .i64 k, .int .i64 ia, .int .i64 ib, .int .i64 ic, .int .i64 9, .string ⟨#[]⟩, .int .u64 0, .slice none 0 0, .int .i64 0, .int .i64 0, .int .i64 0, .int .i64 0, .int .u64 0, .string ⟨#[]⟩, .string ⟨#[]⟩] 36) = W9 at hb8 hb9 k9 ⊢
            have hge9 : wr.heap.size ≤ wr.heap.size + 1 := by omega
            have hpk9 := hpk.keeps k9
            have hgl : ∀ g, u3.ownBlock = some g → g < wr.heap.size := hpk.row.blk
            generalize wr.heap.size + 1 = g9 at hb9 h89 hge9 ⊢
            generalize hg8 : wr.heap.size = g8 at hb8 h89 hge9 h8w hgl ⊢
            clear hW9 hg8 hpk hc0 d0 d1 d2 d3 d4 hg0 hg1
            have K9 := kk.trans k9 (by simp)
            clear kk k9
            have e3 := hb8.cell 3
            have e4 := hb8.cell 4
            have f9 := hb9.frozen
            have l8 := hb8.lt
            have l9 := hb9.lt
            have q3 := hb9.cell 3
            have q4 := hb9.cell 4
            simp only [List.getElem?_cons_succ, List.getElem?_cons_zero] at e3 e4 q3 q4
            have HB8 := Lib.hid hb8
            have HB9 := Lib.hid hb9
            clear hb8 hb9
            obtain ⟨ys, hys⟩ : ∃ ys, (adds Lm done).map rvOf = ys := ⟨_, rfl⟩
            rw [hys] at hpk9
            have hyl : ys.length = Lm.length + k := by rw [← hys, List.length_map, (adds_len done Lm HS.out).2, HD.out.1]
            have HYS := Lib.hid hys
            clear hys
            obtain ⟨xm, hxm⟩ : ∃ xm, mk m n k now r = xm := ⟨_, rfl⟩
            have HXm := Lib.hid hxm
            rw [hxm] at HX
            clear hxm
            go_upto_if 81 with fail
            go_cut [6] from 19 to 128 (fun s wx => s = .int .i64 (after now r : Nat) ∧ Blk wx g9 (rC (rvOf xm)) ∧ Blk wx g8 [.int .u8 r.pause, .int .u8 r.at_, .int .u8 r.rest, .bool r.op, .bool r.late] ∧ Keeps [g9] W9 wx)
            case first =>
              cases hop : r.op with
              | false =>
                have hxe : xm = ⟨(m : Int), (k : Int), (ia : Int), (ib : Int), (ic : Int)⟩ := by rw [HX.out, hop]; rfl
                have HXE := Lib.hid hxe
                have HO := Lib.hid hop
                clear hxe hop
                go_wp2_with fail
                go_meet
                case rel => exact ⟨rfl, by rw [HXE.out]; exact HB9.out, HB8.out, Keeps.refl _ _⟩
              | true =>
                cases hlt2 : r.late with
                | false =>
                  have hxe : xm = ⟨(m : Int), (k : Int), (ia : Int), (ib : Int), -1⟩ := by rw [HX.out, hop, hlt2]; rfl
                  have HXE := Lib.hid hxe
                  have HO := Lib.hid (And.intro hop hlt2)
                  rw [hlt2] at e4
                  clear hxe hop hlt2
                  go_wp2_with fail
                  go_meet
                  case rel => exact ⟨rfl, by rw [HXE.out]; exact HB9.out.set 4 (.int .i64 (-1)), by rw [HO.out.1, HO.out.2]; have := HB8.out; rw [HO.out.1, HO.out.2] at this; exact this.other ⟨g9, 4, none⟩ _ (fun e => h89 e.symm), (Keeps.refl _ _).setCell _ _ (.inl (by simp))⟩
                | true =>
                  have hxe : xm = ⟨(m : Int), (k : Int), (ia : Int), -1, -1⟩ := by rw [HX.out, hop, hlt2]; rfl
                  have HXE := Lib.hid hxe
                  have HO := Lib.hid (And.intro hop hlt2)
                  rw [hlt2] at e4
                  clear hxe hop hlt2
                  go_wp2_with fail
                  go_meet
                  case rel => exact ⟨rfl, by rw [HXE.out]; exact (HB9.out.set 4 (.int .i64 (-1))).set 3 (.int .i64 (-1)), by rw [HO.out.1, HO.out.2]; have := HB8.out; rw [HO.out.1, HO.out.2] at this; exact (this.other ⟨g9, 4, none⟩ _ (fun e => h89 e.symm)).other ⟨g9, 3, none⟩ _ (fun e => h89 e.symm), ((Keeps.refl _ _).setCell _ _ (.inl (by simp))).setCell _ _ (.inl (by simp))⟩
            case rest =>
            obtain ⟨rfl, hb9, hb8, k10⟩ := hcut
            have K10 : Keeps [] w wc := K9.trans k10 (fun i hi => .inr (by simp at hi; omega))
            have hpk10 : Pk wc w.heap.size u3 ys := by
              rw [← HYS.out] at hpk9 ⊢
              exact pk_rv (hpk9.row.keeps k10 (fun g hg hm => by have := hgl g hg; simp at hm; omega)) hpk9.ge
            clear hpk9 HB8 HB9 e3 e4 f9 l8 l9 q3 q4 k10 K9
            obtain ⟨z, hz⟩ : ∃ z, rvOf xm = z := ⟨_, rfl⟩
            rw [hz] at hb9
            have hzb : z.b = [] := by rw [← hz]; rfl
            have HZ := Lib.hid hz
            clear hz
            have hl9 := Blk.load (x := z) hb9
            have k11 : Keeps [] wc (wc.alloc (.cells #[.int .i64 z.n.th, .int .i64 z.n.ix, .int .i64 z.n.inv, .int .i64 z.n.pt, .int .i64 z.n.rs, .int .i64 z.code, .string z.key, .int .u64 z.time, .slice z.bA z.b.length z.bc, .int .i64 z.hd, .int .i64 z.cu, .int .i64 z.mo, .int .i64 z.er, .int .u64 z.at_, .string z.ak, .string z.av] 36)) := (Keeps.refl [] wc).alloc _
            obtain ⟨u4, w12, hap, hpk12, k12⟩ := pk_append (hpk10.keeps k11) z (okn_nil _ _ _ hzb) (by omega) (Nat.le_trans K10.size k11.size) ⟨wc.heap.size, 0, none⟩ 1 (fun j u hj => by rw [Addr.add_lit]; exact (Blk.new_at wc wc.heap.size [.int .i64 z.n.th, .int .i64 z.n.ix, .int .i64 z.n.inv, .int .i64 z.n.pt, .int .i64 z.n.rs, .int .i64 z.code, .string z.key, .int .u64 z.time, .slice z.bA z.b.length z.bc, .int .i64 z.hd, .int .i64 z.cu, .int .i64 z.mo, .int .i64 z.er, .int .u64 z.at_, .string z.ak, .string z.av] 36 (by simp)).cel j u hj) 22
            have K12 : Keeps [] w w12 := (K10.trans k11 (by simp)).trans k12 (fun i hi => .inr (hpk10.ge i (by simpa using hi)))
            have hb8' : Blk w12 g8 [.int .u8 r.pause, .int .u8 r.at_, .int .u8 r.rest, .bool r.op, .bool r.late] := k12.blk (k11.blk hb8 (by simp)) (fun hm => by have := hgl g8 (by simpa using hm); omega)
            obtain ⟨A3, c3, h3⟩ := hpk10.row.len
            subst h3
            have HPK := Lib.hid hpk12
            have HB8 := Lib.hid hb8'
            have HYL := Lib.hid hyl
            clear hpk10 k11 k12 K10 hb8 hb8' hpk12 hyl hzb
            go_upto_region 22 with fail
            go_cut [3] from 19 to 128 (fun s wx => Pk wx w.heap.size s (ys ++ [z]) ∧ Keeps [] w wx ∧ Blk wx g8 [.int .u8 r.pause, .int .u8 r.at_, .int .u8 r.rest, .bool r.op, .bool r.late])
            case first =>
              go_wp2_with (first
                | (refine list_load_eq rfl 36 _ rfl _ rfl _ hl9 ?_)
                | (at_builtin; refine list_append_eq rfl _ _ 22 22 rfl _ _ rfl rfl hap ?_))
              go_meet
              case rel => exact ⟨HPK.out, K12, HB8.out⟩
            case rest =>
            obtain ⟨hpk, kk, hb8⟩ := hcut
            clear hl9 hap HPK HB8 K12 hb9
            go_upto_region 23 with fail
            obtain ⟨L, hL⟩ : ∃ L, adds Lm done = L := ⟨_, rfl⟩
            have hsL : Sorted L := by rw [← hL]; exact (adds_len done Lm HS.out).1
            have HSL := Lib.hid hsL
            have hyz : ys ++ [z] = atPl L xm L.length := by rw [atPl_end, ← HYS.out, ← HZ.out, hL]
            rw [hyz] at hpk
            obtain ⟨nL, hnL⟩ : ∃ nL, L.length = nL := ⟨_, rfl⟩
            have hnb : nL ≤ 100 := by
              have := HYL.out
              rw [← HYS.out, List.length_map, hL, hnL] at this
              omega
            obtain ⟨hrw, hok, hge⟩ := hpk
            rw [atPl_len, hnL] at hrw
            obtain ⟨h1, ⟨rfl, h0⟩ | ⟨gl, capl, rest, rfl, hbl, hc1, hc2, hc3⟩⟩ := hrw
            · exact absurd h0 (by omega)
            have HRes := Lib.hid (And.intro h1 (And.intro hc1 (And.intro hc2 hc3)))
            have hge' := hge gl rfl
            have HBL := Lib.hid hbl
            have hHo := holds_of_blk hbl
            have R : RowK rC 16 wc gl 0 (atPl L xm nL).toArray := ⟨rC_len, rC_one, hHo, hbl.lt⟩
            have HRw := Lib.hid R
            have S0 : Hid (SWK rC 16 wc gl 0 (atPl L xm nL).toArray wc) := SWK.start hHo
            have HL := Lib.hid hL
            have HnL := Lib.hid hnL
            clear h1 hc1 hc2 hc3 hbl hHo R hok hge hyz hsL hL hnL HYS HYL HZ
            have hwn : IntKind.i64.wrap ((nL : Int) + 1 - 1) = (nL : Int) := by rw [IntKind.wrap_i64]; omega
            have hgne : gl ≠ g8 := fun e => by
              subst e
              have := congrArg List.length (HBL.out.inj hb8)
              rw [List.length_append, HRes.out.1] at this
              simp at this; omega
            go_upto_block 4 with fail
            go_cut [10] from 19 to 128 (fun _ wx => Blk wx gl (rCs ((sink xm L).map rvOf) ++ rest) ∧ Keeps [gl] wc wx)
            case first =>
              go_wp2_with fail
              go_loopw [10] (fun s wx => ∃ i : Nat, i ≤ nL ∧ s = .int .i64 i ∧ Hid (SWK rC 16 wc gl 0 (atPl L xm i).toArray wx) ∧ Hid (∀ y ∈ L.drop i, xm.inv < y.inv)) (fun s _ => (intOf s).toNat)
              case atStart => exact ⟨nL, Nat.le_refl _, by first | rfl | go_num, S0, Lib.hid (by rw [← HnL.out]; simp)⟩
              case round =>
                obtain ⟨i, hi, rfl, HS1, HI⟩ := hrel
                obtain ⟨hb1, kk1⟩ := blk_of_swk HBL.out (by rw [atPl_len, atPl_len]) HS1.out
                rcases Nat.eq_zero_or_pos i with h0 | h0
                · subst h0
                  have hs : sink xm L = L.take 0 ++ xm :: L.drop 0 := sink_at HSL.out xm 0 (Nat.zero_le _) HI.out (fun y h => absurd h (Nat.lt_irrefl 0))
                  have HSk := Lib.hid hs
                  have HB1 := Lib.hid hb1
                  clear hs hb1
                  go_wp2_with fail
                  go_quiet (fail)
                  go_wp2_with fail
                  go_meet
                  case rel => exact ⟨by rw [HSk.out]; exact HB1.out, kk1.drewN _⟩
                · obtain ⟨j, rfl⟩ : ∃ j, i = j + 1 := ⟨i - 1, by omega⟩
                  obtain ⟨y, hy⟩ : ∃ y, L[j]? = some y := ⟨_, List.getElem?_eq_getElem (by rw [HnL.out]; omega)⟩
                  obtain ⟨cj, ci⟩ := atPl_cells hy hb1
                  have jz : (j : Int) + 1 < (nL : Int) + 1 := by omega
                  have jz1 : (j : Int) < (nL : Int) + 1 := by omega
                  have jz0 : (0 : Int) < (j : Int) + 1 := by omega
                  have jzp : (0 : Int) ≤ (j : Int) + 1 := by omega
                  have hwj : IntKind.i64.wrap (j : Int) = (j : Int) := by rw [IntKind.wrap_i64]; omega
                  have e1 : ((j : Int) + 1).toNat = j + 1 := by omega
                  have HY := Lib.hid hy
                  have HB1 := Lib.hid hb1
                  clear hy hb1
                  by_cases hgt : xm.inv < y.inv
                  · have hd : decide (xm.inv < y.inv) = true := decide_eq_true hgt
                    have hI2 : ∀ y' ∈ L.drop j, xm.inv < y'.inv := fun y' hy' => by
                      obtain ⟨q1, q2⟩ := List.getElem?_eq_some_iff.1 HY.out
                      rw [List.drop_eq_getElem_cons q1, q2] at hy'
                      rcases List.mem_cons.1 hy' with rfl | hy'
                      · exact hgt
                      · exact HI.out y' hy'
                    have HI2 := Lib.hid hI2
                    clear hI2
                    go_wp2_with fail
                    go_quiet (fail)
                    have HSq : Hid (SWK rC 16 wc gl 0 (atPl L xm (j + 1)).toArray (wr.drewN nq)) := HS1.out.drewN nq
                    generalize wr.drewN nq = wq at HSq ⊢
                    clear cj ci HS1 kk1 HB1 hd
                    go_upto_block 5 with fail
                    go_cut [10] from 93 to 126 (fun s wx => s = .int .i64 ((j : Int) + 1) ∧ SWK rC 16 wc gl 0 (atPl L xm j).toArray wx)
                    case first =>
                      go_wp2_with fail
                      obtain ⟨P, hP⟩ : ∃ P, Try.prog = P := ⟨_, rfl⟩
                      obtain ⟨kc, hkc⟩ : ∃ kc, 16 = kc := ⟨_, rfl⟩
                      have LL := sl
                      have HRk := HRw.out
                      have HSk := HSq.out
                      rw [hP] at LL ⊢
                      rw [hkc] at LL HRk HSk
                      obtain ⟨cA, cB, nA, nB, ld1, ld2, st1, st2, S2⟩ := swap_gen P HRk HSk HY.out
                      have HS2 := Lib.hid S2
                      have HKC := Lib.hid hkc
                      have mixed := LL.mixed; have t3 := LL.t3; have a3 := LL.a3; have z3 := LL.z3; have v3 := LL.v3; have t4 := LL.t4; have a4 := LL.a4; have z4 := LL.z4; have v4 := LL.v4; have t22 := LL.t22; have a22 := LL.a22; have z22 := LL.z22; have v22 := LL.v22; have aE := LL.aE; have zE := LL.zE
                      clear S2 hP hkc HRk HSk HSq HRw S0 HRes HBL
                      go_big_region_o
                      generalize (wq.drew.setCells gl (j * kc) cA).setCells gl ((j + 1) * kc) cB = w2 at HS2 ⊢
                      go_wp2_with fail
                      go_meet
                      case rel => exact ⟨by first | rfl | go_num, by have := HS2.out; rw [← HKC.out] at this; exact this⟩
                    case rest =>
                    obtain ⟨rfl, S2⟩ := hcut
                    go_wp2_with fail
                    exact ⟨⟨j, by omega, by first | rfl | go_num, Lib.hid S2, HI2⟩, by simp [intOf] <;> omega⟩
                  · have hd : decide (xm.inv < y.inv) = false := decide_eq_false hgt
                    have hs : sink xm L = L.take (j + 1) ++ xm :: L.drop (j + 1) := sink_at HSL.out xm (j + 1) (by rw [HnL.out]; omega) HI.out (fun y' _ h => by rw [Nat.add_sub_cancel, HY.out] at h; obtain rfl := Option.some.inj h; omega)
                    have HSk := Lib.hid hs
                    clear hs
                    go_wp2_with fail
                    go_quiet (fail)
                    go_wp2_with fail
                    go_meet
                    case rel => exact ⟨by rw [HSk.out]; exact HB1.out, kk1.drewN _⟩
            case rest =>
            obtain ⟨hb13, k13⟩ := hcut
            have K13 : Keeps [] w wc := kk.trans k13 (fun i hi => .inr (by simp at hi; omega))
            have hb8n := k13.blk hb8 (by simp; exact fun e => hgne e.symm)
            have hsl : (sink xm L).length = nL + 1 := by rw [sink_length HSL.out, HnL.out]
            have hpk13 : Pk wc w.heap.size (.slice (some ⟨gl, 0, none⟩) (nL + 1) capl) ((adds Lm (done ++ [xm])).map rvOf) := by
              rw [adds_snoc, HL.out]
              refine pk_rv ⟨by rw [rCs_len], .inr ⟨gl, capl, rest, by rw [List.length_map, hsl], hb13, by rw [List.length_map, hsl]; exact HRes.out.2.1, HRes.out.2.2.1, ?_⟩⟩ (fun g hg => by simp [Value.ownBlock] at hg; omega)
              rw [← HRes.out.2.2.2, List.length_append, List.length_append, rCs_len, rCs_len, List.length_map, hsl, atPl_len, HnL.out]
            have x3 := hb8n.cell 3
            have l8 := hb8n.lt
            simp only [List.getElem?_cons_succ, List.getElem?_cons_zero] at x3
            have HD2 : Hid (done ++ recs m n k now (8 - k) (rs.drop k) = (done ++ [xm]) ++ (if r.op then [] else recs m n (k + 1) (after now r) (8 - (k + 1)) (rs.drop (k + 1)))) := by
              show _ = _
              rw [HRest.out, ← HXm.out, show 8 - k = (8 - (k + 1)) + 1 by omega]
              simp [recs]
            clear S0 HBL HRw hb13 k13 kk hb8 hb8n hsl
            cases hop : r.op with
            | true =>
              have hd : done ++ [xm] = recs m n 0 0 8 rs := by
                have := HD2.out
                rw [HD.out.2, hop] at this
                simpa using this.symm
              have hl8 : (adds Lm (recs m n 0 0 8 rs)).length ≤ 8 * m + 8 := by
                have := (adds_len (done ++ [xm]) Lm HS.out).2
                rw [List.length_append, HD.out.1] at this
                rw [← hd]; simp at this; omega
              rw [hd] at hpk13
              rw [hop] at x3
              have HL8 := Lib.hid hl8
              clear hd hl8 hop
              go_wp2_with fail
              exact ⟨HF.out _ _ hpk13 K13 HL8.out, by simp [intOf]; omega⟩
            | false =>
              have hd : (done ++ [xm]) ++ recs m n (k + 1) (after now r) (8 - (k + 1)) (rs.drop (k + 1)) = recs m n 0 0 8 rs := by
                have := HD2.out
                rw [HD.out.2, hop] at this
                simpa using this.symm
              rw [hop] at x3
              have HDD := Lib.hid hd
              clear hd hop
              go_wp2_with fail
              exact ⟨⟨k + 1, after now r, done ++ [xm], by omega, by omega, by go_num, rfl, HA2.out, hpk13, K13, Lib.hid ⟨by rw [List.length_append, HD.out.1]; rfl, HDD.out⟩⟩, by simp [intOf]; omega⟩
          · obtain rfl : k = 8 := by omega
            have hd : done = recs m n 0 0 8 rs := by have := HD.out.2; simpa [recs] using this
            have hl8 : (adds Lm (recs m n 0 0 8 rs)).length ≤ 8 * m + 8 := by
              have := (adds_len done Lm HS.out).2
              rw [HD.out.1] at this
              rw [← hd]; omega
            rw [hd] at hpk
            have HL8 := Lib.hid hl8
            clear hd hl8
            go_wp2_with fail
            exact ⟨HF.out _ _ hpk kk HL8.out, by simp [intOf]; omega⟩
        · obtain rfl : k = q := by omega
          have hd : done = recs m n 0 0 8 rs := by
            have := HD.out.2
            rw [List.drop_of_length_le (by rw [HQ.out]; exact Nat.le_refl _)] at this
            have e : recs m n k now (8 - k) [] = [] := by cases (8 - k) <;> rfl
            rw [e, List.append_nil] at this
            exact this
          have hl8 : (adds Lm (recs m n 0 0 8 rs)).length ≤ 8 * m + 8 := by
            have := (adds_len done Lm HS.out).2
            rw [HD.out.1] at this
            rw [← hd]; omega
          rw [hd] at hpk
          have HL8 := Lib.hid hl8
          clear hd hl8
          go_wp2_with fail
          exact ⟨HF.out _ _ hpk kk HL8.out, by simp [intOf]; omega⟩
    · obtain rfl : m = n := by omega
      go_wp2_with fail
      go_ret
      exact ⟨_, rfl, by rw [HB.out]; exact hpk, kk⟩
end Go.Proofs.Ytjlgodaiciopaaa
