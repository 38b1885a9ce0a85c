/- The walk of LatchExcludes. -/
import Derived.Test.YtigmafikjbaigaaExclH
import Derived.Deep.CutBlock
namespace Go.Proofs.Ytigmafikjbaigaa
open Go.RowKit
theorem info_acq : (Try.prog.info? 56).map (fun i => (i.zero, i.size, i.bytes)) = some (some (.pointer none), 1, 8) := by kernel_rfl
theorem info_rel : (Try.prog.info? 61).map (fun i => (i.zero, i.size, i.bytes)) = some (some (.pointer none), 1, 8) := by kernel_rfl
theorem info_int : (Try.prog.info? 3).map (fun i => (i.zero, i.size, i.bytes)) = some (some (.int .i64 0), 1, 8) := by kernel_rfl
theorem made_ones (z : Value) (k : Nat) : madeCells #[z] (k * 1) = Array.replicate k z := by
  apply Array.ext'
  apply List.ext_getElem?
  intro i
  by_cases hi : i < k
  · simp [madeCells, hi, Nat.mod_one]
  · rw [List.getElem?_eq_none (by simp [madeCells]; omega), List.getElem?_eq_none (by simp; omega)]
theorem make_rels (k : Nat) (h : k ≤ 1048577) (w : World) :
    (Instr.makeSlice 58 (.int .i64 k) (.int .i64 k)).run Try.prog w = .ok (.slice (some ⟨w.heap.size, 0, none⟩) k k) (w.alloc (.cells (Array.replicate k (.pointer none)) 61)) := by
  obtain ⟨i, hi, hz0, hz1, hz2⟩ := info_parts info_rel
  have := run_make (P := Try.prog) w 58 61 i _ Try.underlying58 hi hz0 .i64 .i64 k k (by omega) (by omega) (by rw [hz2]; omega) (by omega)
  rw [hz1] at this
  rw [this]
  simp only [Int.toNat_natCast, Value.cells, made_ones]
theorem make_ints (k : Nat) (h : k ≤ 1048577) (w : World) :
    (Instr.makeSlice 59 (.int .i64 k) (.int .i64 k)).run Try.prog w = .ok (.slice (some ⟨w.heap.size, 0, none⟩) k k) (w.alloc (.cells (Array.replicate k (.int .i64 0)) 3)) := by
  obtain ⟨i, hi, hz0, hz1, hz2⟩ := info_parts info_int
  have := run_make (P := Try.prog) w 59 3 i _ Try.underlying59 hi hz0 .i64 .i64 k k (by omega) (by omega) (by rw [hz2]; omega) (by omega)
  rw [hz1] at this
  rw [this]
  simp only [Int.toNat_natCast, Value.cells, made_ones]
theorem own_blk' {w : World} {base e size n : Nat} {v : Value} {xs : List Value} (h : w.ownsRow base e size v n xs) (hn : 0 < n) :
    ∃ g cap rest, v = .slice (some ⟨g, 0, none⟩) n cap ∧ base ≤ g ∧ Blk w g (xs ++ rest) := by
  obtain ⟨h1, h2⟩ := h
  rcases h2 with ⟨_, h0⟩ | ⟨g, cap, cur, hv, hg, hh, hnc, hcap, hsz, htk⟩
  · omega
  · refine ⟨g, cap, cur.toList.drop (n * size), hv, hg, e, ?_⟩
    rw [hh, ← htk, List.take_append_drop]
theorem own_ne {w : World} {base e k j ab : Nat} {v : Value} {abs : List Nat} {x y : Int} (hown : w.ownsRow base e 1 v k (abs.map ptr)) (hab : abs[j]? = some ab) (ha : Acq w ab .look x y) : v.ownBlock ≠ some ab := by
  intro hg
  rcases hown.2 with ⟨hv, _⟩ | ⟨g', cp, cu, hv, _, hh, hkc, _, hsz, htk⟩
  · rw [hv] at hg; cases hg
  · rw [hv] at hg
    simp only [Value.ownBlock, Option.some.injEq] at hg
    subst hg
    obtain ⟨T, hT⟩ := ha
    rw [hh] at hT
    simp only [Option.some.injEq, Obj.cells.injEq] at hT
    have hl := hown.1
    simp at hl
    have hj : j < k := by rw [← hl]; exact (List.getElem?_eq_some_iff.1 hab).1
    have h0 : (cu.toList.take (k * 1))[0]? = (abs.map ptr)[0]? := by rw [htk]
    rw [hT.1, List.getElem?_take_of_lt (by omega)] at h0
    have hab0 : abs[0]? = some (abs[0]'(by omega)) := List.getElem?_eq_getElem (by omega)
    simp [ASt.fn, hab0, ptr] at h0
theorem upd_same (ph : Nat → Ph) (t : Nat) (p : Ph) (h : ph t = p) : upd ph t p = ph := by
  funext i
  unfold upd
  split
  · rename_i e; rw [e, h]
  · rfl
theorem mem2_at (s : Sys) : memAt (mem2 s) 1 = ⟨cur s, ⟨#[]⟩, 0⟩ := rfl
theorem mem2_in (s : Sys) : memIn (mem2 s) 1 = true := rfl
theorem mem2_set (s : Sys) (x : C3) : memSet (mem2 s) 1 x = [C3.zero, x] := rfl
theorem cur_f {s : Sys} (h : s.h = false) : cur s = 4 * (s.d : Int) := by unfold cur; rw [h]; simp
theorem cur_t {s : Sys} (h : s.h = true) : cur s = 4 * (s.d : Int) + 1 := by unfold cur; rw [h]; simp
theorem cur_bd {s : Sys} (h : s.d ≤ 5) : 0 ≤ cur s ∧ cur s ≤ 21 := by unfold cur; split <;> omega
def tk (xs : List Nat) (n : Nat) (k : Nat) : Nat := (if k < xs.length then xs.getD k 0 else k) % n
set_option maxRecDepth 100000 in
set_option maxHeartbeats 4000000 in
theorem latchExcludes_any (th : Int) (s0 : -9223372036854775808 ≤ th) (s1 : th ≤ 9223372036854775807) (A : Option Addr) (cap b o : Nat) (xs : List Nat) (w : World)
    (hA : 0 < xs.length → A = some ⟨b, o, none⟩) (hx : Arr w b o (xs.map vU8)) (hlen : xs.length ≤ 9223372036854775807) (hxs : ∀ x, x ∈ xs → x ≤ 255) :
    Calls Try.prog 10 #[.int .i64 th, .slice A xs.length cap] w fun e w' => e = .returned (.bool true) ∧ Keeps [] w w' := by
  have hm0 := Int.emod_nonneg th (show (4 : Int) ≠ 0 by omega)
  have hm1 := Int.emod_lt_of_pos th (show (0 : Int) < 4 by omega)
  obtain ⟨r, hr⟩ : ∃ r : Nat, th % 4 = r := ⟨(th % 4).toNat, by omega⟩
  rw [hr] at hm0 hm1
  have Hr := Lib.hid hr
  clear hr
  obtain ⟨n, hn, hn2, hn5⟩ : ∃ n : Nat, 2 + (r : Int) = n ∧ 2 ≤ n ∧ n ≤ 5 := ⟨2 + r, by omega, by omega, by omega⟩
  have hmk1 := make_rels n (by omega)
  have hmk2 := make_ints n (by omega)
  have HA := Lib.hid hA
  clear hA
  obtain ⟨i0, hi, hz0, hz1, hz2⟩ := info_parts info_acq
  go_enter Try.func10, Try.ntmps10
  go_wp2_with fail
  refine (mod_any th 4 s0 s1 (by omega) (by omega) _).mono ?_
  rintro e w' ⟨rfl, rfl⟩
  rw [Hr.out]
  go_wp2_with fail
  refine (new_yes 2 (by omega) (by omega) _).mono ?_
  rintro e w1 ⟨m, c, rfl, h1, hm, hc, k1⟩
  have Hn := Lib.hid hn
  clear hn
  by_cases hl : 200 < xs.length
  · go_wp2_with (go_at_call 13; refine (awake4_any _).mono ?_; rintro e w' ⟨rfl, rfl⟩)
    go_ret
    exact ⟨rfl, k1⟩
  · have hx1 := hx.keeps k1 (by simp)
    have hx0 := hx
    have hlt1 := h1.lt
    have hmcne := h1.ne
    clear hx
    go_wp2_with (go_at_call 13; refine (awake4_any _).mono ?_; rintro e w' ⟨rfl, rfl⟩)
    go_loopw [8, 9] (fun v i wr => ∃ (k : Nat) (abs : List Nat), k ≤ n ∧ i = .int .i64 k ∧ abs.length = k ∧ wr.ownsRow w1.heap.size 56 1 v k (abs.map ptr) ∧ (∀ (j ab : Nat), abs[j]? = some ab → w1.heap.size ≤ ab ∧ Acq wr ab .look 1 0) ∧ (∀ (i j b : Nat), abs[i]? = some b → abs[j]? = some b → i = j) ∧ Keeps [] w1 wr) (fun _ i _ => n - (intOf i).toNat)
    case atStart => exact ⟨0, [], by omega, rfl, rfl, World.ownsRow_nil _ _ _ _, by simp, by simp, Keeps.refl _ _⟩
    case round =>
      obtain ⟨k, abs, hk, rfl, hal, hown, hacq, hinj, hkp⟩ := hrel
      by_cases hkn : k < n
      · go_wp2_with fail
        refine (newAcquire_any 1 _).mono ?_
        rintro e w5 ⟨ab, rfl, ha5, hab, k5⟩
        have hown5 := (ownsRow_keeps hown k5 (by simp)).alloc (.cells #[ptr ab] 56)
        have hs1 := hkp.size
        have hs5 := k5.size
        go_wp2_with (at_builtin; refine wpList_append_own _ rfl _ _ 55 rfl w1.heap.size 56 i0 _ 1 8 Try.underlying55 hi hz0 hz1 hz2 rfl (by decide) _ _ _ rfl hown5 ⟨w5.heap.size, 0, none⟩ 1 1 [ptr ab] rfl rfl ?c1 ?c2 ?c3 ?c4 ?c5 ?_)
        case c1 => exact cell_one_new _ _ _
        case c2 => simp [ptr, Value.oneCell']
        case c3 => unfold maxLen; omega
        case c4 => omega
        case c5 => simp; omega
        intro v' w6 hown6 hgr _
        have hvb : ∀ (g : Nat), u8.ownBlock = some g → g < wr.heap.size ∧ ∀ (j ab : Nat), abs[j]? = some ab → g ≠ ab := by
          intro g hg
          exact ⟨(hown.lt g hg).2, fun j ab' hab' e => own_ne hown hab' (hacq j ab' hab').2 (by rw [hg, e])⟩
        have hg6 : Keeps ((u8.ownBlock).toList) (w5.alloc (.cells #[ptr ab] 56)) w6 := Keeps.of_grownBy hgr _ (fun g hg => by rw [hg]; simp)
        have K6 : Keeps [] w1 w6 := by
          refine ((hkp.trans k5 (by simp)).alloc (.cells #[ptr ab] 56)).trans hg6 (fun g hg => .inr ?_)
          exact (hown.lt g (by simpa using hg)).1
        have hacq6 : ∀ (j ab' : Nat), (abs ++ [ab])[j]? = some ab' → w1.heap.size ≤ ab' ∧ Acq w6 ab' .look 1 0 := by
          intro j ab' hj
          by_cases hjk : j < abs.length
          · rw [List.getElem?_append_left hjk] at hj
            obtain ⟨q1, q2⟩ := hacq j ab' hj
            refine ⟨q1, hg6.blk ((k5.blk q2 (by simp)).alloc _) (fun hm' => ?_)⟩
            exact (hvb ab' (by simpa using hm')).2 j ab' hj rfl
          · rw [List.getElem?_append_right (by omega)] at hj
            have hj0 : j - abs.length = 0 := by
              rcases Nat.eq_zero_or_pos (j - abs.length) with h0 | h0
              · exact h0
              · rw [List.getElem?_eq_none (by simp; omega)] at hj; cases hj
            rw [hj0] at hj
            simp at hj
            subst hj
            refine ⟨by omega, hg6.blk (ha5.alloc _) (fun hm' => ?_)⟩
            have := (hvb ab (by simpa using hm')).1
            omega
        have hinj6 : ∀ (i j b : Nat), (abs ++ [ab])[i]? = some b → (abs ++ [ab])[j]? = some b → i = j := by
          have hnot : ∀ (i : Nat), abs[i]? ≠ some ab := fun i hi' => by
            have := (hacq i ab hi').2.lt
            omega
          intro i j b hi' hj'
          by_cases h1' : i < abs.length <;> by_cases h2' : j < abs.length
          · rw [List.getElem?_append_left h1'] at hi'
            rw [List.getElem?_append_left h2'] at hj'
            exact hinj i j b hi' hj'
          · rw [List.getElem?_append_left h1'] at hi'
            rw [List.getElem?_append_right (by omega)] at hj'
            have : b = ab := by
              rcases Nat.eq_zero_or_pos (j - abs.length) with h0 | h0
              · rw [h0] at hj'; simpa using hj'.symm
              · rw [List.getElem?_eq_none (by simp; omega)] at hj'; cases hj'
            subst this
            exact absurd hi' (hnot i)
          · rw [List.getElem?_append_left h2'] at hj'
            rw [List.getElem?_append_right (by omega)] at hi'
            have : b = ab := by
              rcases Nat.eq_zero_or_pos (i - abs.length) with h0 | h0
              · rw [h0] at hi'; simpa using hi'.symm
              · rw [List.getElem?_eq_none (by simp; omega)] at hi'; cases hi'
            subst this
            exact absurd hj' (hnot j)
          · have e1 := (List.getElem?_eq_some_iff.1 hi').1
            have e2 := (List.getElem?_eq_some_iff.1 hj').1
            simp at e1 e2
            omega
        have hown6' : w6.ownsRow w1.heap.size 56 1 v' (k + 1) ((abs ++ [ab]).map ptr) := by rw [List.map_append]; exact hown6
        clear hown6 hgr hown5 hown hacq hg6 hvb
        go_wp2_with fail
        go_roundw
        case rel => exact ⟨k + 1, abs ++ [ab], by omega, by go_num, by simp [hal], hown6', hacq6, hinj6, K6⟩
        case measure => simp [intOf]; omega
      · obtain rfl : n = k := by omega
        obtain ⟨wo, rfl⟩ : ∃ wo : World, wo = wr := ⟨_, rfl⟩
        have hown' := hown
        obtain ⟨al, acap, rest, hv, hal2, halb⟩ := own_blk' hown (by omega)
        have hws := hkp.size
        have hlay : Lay n m c al wo.heap.size (wo.heap.size + 1) (wo.heap.size + 2) abs := by
          have := halb.lt
          refine ⟨hal, hinj, fun ab hab => ?_, by omega, by omega⟩
          obtain ⟨j, hj⟩ := List.getElem?_of_mem hab
          obtain ⟨q1, q2⟩ := hacq j ab hj
          have q3 := q2.lt
          have q4 : ab ≠ al := fun e => own_ne hown hj q2 (by rw [hv, e]; rfl)
          omega
        subst hv
        have hm0 := h1.keeps hkp (by simp) (by simp)
        have hlies : Lies ((wo.alloc (.cells (Array.replicate n (.pointer none)) 61)).alloc (.cells (Array.replicate n (.int .i64 0)) 3)) n m c al wo.heap.size (wo.heap.size + 1) (wo.heap.size + 2) abs rest (Sys.run (tk xs n) 0) 0 := by
          refine ⟨(hm0.alloc _).alloc _, (halb.alloc _).alloc _, ⟨List.replicate n (.pointer none), by simp, (Blk.rep_at _ _ _ _ _ rfl).alloc _, fun t ht hp => by cases hp⟩, ?_, fun t ab hab => ⟨0, ((hacq t ab hab).2.alloc _).alloc _⟩⟩
          have e : ((List.range n).map fun t => stV ((Sys.run (tk xs n) 0).ph t)) = List.replicate n (.int .i64 0) := by
            rw [List.eq_replicate_iff]
            refine ⟨by simp, fun b hb => ?_⟩
            simp only [List.mem_map] at hb
            obtain ⟨i, _, rfl⟩ := hb
            rfl
          rw [e]
          exact Blk.rep_at _ _ _ _ _ (by simp)
        have K3 : Keeps [] w1 ((wo.alloc (.cells (Array.replicate n (.pointer none)) 61)).alloc (.cells (Array.replicate n (.int .i64 0)) 3)) := (hkp.alloc _).alloc _
        have htkn : ∀ k, tk xs n k < n := fun k => Nat.mod_lt _ (by omega)
        have hlow : ∀ (j ab : Nat), abs[j]? = some ab → w1.heap.size ≤ ab := fun j ab hj => (hacq j ab hj).1
        clear hown hown' hacq hm0
        go_wp2_with fail
        go_loopw [12] (fun i wq => ∃ (k acc : Nat), k ≤ xs.length + 40 * n ∧ i = .int .i64 k ∧ acc ≤ k ∧ Lies wq n m c al wo.heap.size (wo.heap.size + 1) (wo.heap.size + 2) abs rest (Sys.run (tk xs n) k) acc ∧ Keeps [] w wq) (fun i _ => xs.length + 40 * n - (intOf i).toNat)
        case atStart => exact ⟨0, 0, by omega, rfl, by omega, hlies, k1.trans K3 (by simp)⟩
        case round =>
          obtain ⟨k, acc, hk, rfl, hacc, hli, hkq⟩ := hrel
          by_cases hkl : k < xs.length + 40 * n
          · go_upto_if 74 with fail
            go_cut [13] from 59 to 164 (fun s wx => s = .int .i64 (tk xs n k) ∧ wx = wr)
            case first =>
              by_cases hkx : k < xs.length
              · obtain rfl := HA.out (by omega)
                have hbl : b < w.heap.size := hx0.lt (by simp; omega)
                have hxk := (hx0.keeps hkq (by simp)).cells k (by simpa using hkx)
                obtain ⟨p, hp⟩ : ∃ p, xs[k]? = some p := ⟨xs[k], by simp [hkx]⟩
                rw [List.getElem?_map, hp] at hxk
                simp only [Option.map_some, vU8] at hxk
                have hp255 := hxs p (List.mem_of_getElem? hp)
                have htk : tk xs n k = p % n := by unfold tk; rw [if_pos hkx]; simp [hp]
                have Htk := Lib.hid htk
                clear hp htk
                go_wp2_with fail
                go_meet
                case rel => exact ⟨by rw [Htk.out]; go_num, rfl⟩
              · have htk : tk xs n k = k % n := by unfold tk; rw [if_neg hkx]
                have Htk := Lib.hid htk
                clear htk
                go_wp2_with fail
                go_meet
                case rel => exact ⟨by rw [Htk.out]; go_num, rfl⟩
            case rest =>
              obtain ⟨rfl, rfl⟩ := hcut
              obtain ⟨t, htt⟩ : ∃ t, tk xs n k = t := ⟨_, rfl⟩
              have htn : t < n := by rw [← htt]; exact htkn k
              obtain ⟨s, hss⟩ : ∃ s, Sys.run (tk xs n) k = s := ⟨_, rfl⟩
              have hinv : s.Inv n := by rw [← hss]; exact run_inv _ n htkn k
              have hnext : Sys.run (tk xs n) (k + 1) = s.step t := by rw [← hss, ← htt]; rfl
              rw [hss] at hli
              rw [htt]
              have Hnext := Lib.hid hnext
              clear hnext hss htt
              obtain ⟨ab, hab⟩ : ∃ ab, abs[t]? = some ab := ⟨abs[t]'(by have := hlay.len; omega), by simp [hlay.len, htn]⟩
              have hold := hlay.old ab (List.mem_of_getElem? hab)
              have hllt := hlay.lt
              have hlne := hlay.ne
              have cal : wc.cell? ⟨al, t, none⟩ = some (.pointer (some ⟨ab, 0, none⟩)) := by
                rw [hli.al.cell, List.getElem?_append_left (by simp [hlay.len, htn])]
                simp [hab, ptr]
              obtain ⟨tg, htg⟩ : ∃ tg : Int, stV (s.ph t) = .int .i64 tg := by cases s.ph t <;> exact ⟨_, rfl⟩
              have csl : wc.cell? ⟨wo.heap.size + 1, t, none⟩ = some (.int .i64 tg) := by
                rw [hli.sl.cell, ← htg]; simp [htn]
              have Htg := Lib.hid htg
              clear htg
              have fsl := hli.sl.frozen
              have hablow := hlow t ab hab
              have Hab := Lib.hid hab
              clear hab
              have hd5 : s.d ≤ 5 := by
                have := cnt_le (fun i => (s.ph i).isDone) (fun i => isDone_le _) n
                rw [hinv.done] at this
                omega
              have hcb := cur_bd hd5
              have hkws := hkq.size
              have hm1s := h1.lt
              have hk1s := k1.size
              go_upto_block 4 with (go_at_call 25; refine (accesses_any _ m c _ _ hli.mem).mono ?_; rintro e w' ⟨rfl, rfl⟩)
              go_cut [15] from 59 to 164 (fun _ wx => ∃ acc' : Nat, acc' ≤ acc + 1 ∧ Lies wx n m c al wo.heap.size (wo.heap.size + 1) (wo.heap.size + 2) abs rest (s.step t) acc' ∧ Keeps [] w wx)
              case first =>
                have hacq := hli.acq t ab Hab.out
                cases hp : s.ph t with
                | done =>
                  obtain rfl : tg = 2 := by have := Htg.out; rw [hp] at this; simpa [stV] using this.symm
                  have hst : s.step t = s := by unfold Sys.step; rw [hp]
                  have Hst := Lib.hid hst
                  clear hst
                  go_wp2_with fail
                  go_meet
                  case rel => rw [Hst.out]; exact ⟨acc, by omega, hli, hkq⟩
                | look =>
                  obtain rfl : tg = 0 := by have := Htg.out; rw [hp] at this; simpa [stV] using this.symm
                  rw [hp] at hacq
                  obtain ⟨x, hacq⟩ := hacq
                  cases hh : s.h with
                  | true =>
                    have hst : s.step t = ⟨upd s.ph t .look, s.d, s.h⟩ := by
                      have e0 : (⟨upd s.ph t .look, s.d, s.h⟩ : Sys) = s := by rw [upd_same _ _ _ hp]
                      rw [e0]; unfold Sys.step; rw [hp]; simp [hh]
                    have hcu := cur_t hh
                    have Hst := Lib.hid hst
                    have Hcu := Lib.hid hcu
                    have Hp := Lib.hid hp
                    clear hst hcu hp hh
                    go_wp2_with fail
                    refine (acqStep_busy _ ab m c _ acc 1 x hacq hli.mem (by omega) (by omega) (by omega) (by rw [mem2_at]; exact hcb.1) (by rw [mem2_at]; dsimp only; omega) (by rw [mem2_at]; dsimp only; rw [Hcu.out]; omega)).mono ?_
                    rintro e w5 ⟨rfl, ha5, hm5, k5⟩
                    go_wp2_with fail
                    go_meet
                    case rel =>
                      rw [Hst.out]
                      exact ⟨acc + 1, by omega, hli.turn hlay Hab.out (k5.mono (by intro i hi; left; simp at hi ⊢; omega)) (by rw [Hp.out]) (fun e => by cases e) rfl (by have h' := hm5; rw [show (acc : Int) + 1 = ((acc + 1 : Nat) : Int) by omega] at h'; exact h') ⟨x, ha5⟩, hkq.trans k5 (by simp <;> omega)⟩
                  | false =>
                    have hst : s.step t = ⟨upd s.ph t (.lock s.d), s.d, s.h⟩ := by unfold Sys.step; rw [hp]; simp [hh]
                    have hcu := cur_f hh
                    have Hst := Lib.hid hst
                    have Hcu := Lib.hid hcu
                    have Hp := Lib.hid hp
                    clear hst hcu hp hh
                    go_wp2_with fail
                    refine (acqStep_free _ ab m c _ acc 1 x hacq hli.mem (by omega) (by omega) (by omega) (by rw [mem2_at]; exact hcb.1) (by rw [mem2_at]; dsimp only; omega) (by rw [mem2_at]; dsimp only; rw [Hcu.out]; omega)).mono ?_
                    rintro e w5 ⟨rfl, ha5, hm5, k5⟩
                    rw [mem2_at] at ha5
                    dsimp only at ha5
                    rw [Hcu.out, show 4 * (s.d : Int) / 2 * 2 + 1 = 4 * (s.d : Int) + 1 by omega] at ha5
                    go_wp2_with fail
                    go_meet
                    case rel =>
                      rw [Hst.out]
                      exact ⟨acc + 1, by omega, hli.turn hlay Hab.out (k5.mono (by intro i hi; left; simp at hi ⊢; omega)) (by rw [Hp.out]; rfl) (fun e => by cases e) rfl (by have h' := hm5; rw [show (acc : Int) + 1 = ((acc + 1 : Nat) : Int) by omega] at h'; exact h') ha5, hkq.trans k5 (by simp <;> omega)⟩
                | lock e =>
                  have hed := hinv.lock t e hp
                  obtain rfl : tg = 0 := by have := Htg.out; rw [hp] at this; simpa [stV] using this.symm
                  rw [hp] at hacq
                  simp only [AcqPh] at hacq
                  have hw2 : (4 * (e : Int) + 1) / 2 * 2 = 4 * (e : Int) := by omega
                  have Hw2 := Lib.hid hw2
                  clear hw2
                  by_cases hc' : s.h = false ∧ e = s.d
                  · have hst : s.step t = ⟨upd s.ph t .have_, s.d, true⟩ := by unfold Sys.step; rw [hp]; simp only; rw [if_pos hc']
                    obtain ⟨hh, rfl⟩ := hc'
                    have hye' : (memIn (mem2 s) 1 && (memAt (mem2 s) 1).N == (4 * (s.d : Int) + 1) / 2 * 2) = true := by
                      rw [mem2_in, mem2_at, Bool.true_and, beq_iff_eq, Hw2.out]
                      exact cur_f hh
                    have huniq := no_have hinv hh
                    obtain ⟨rv, rv1, rv2, _⟩ := hli.rl
                    have Hst := Lib.hid hst
                    have Hp := Lib.hid hp
                    have Hye := Lib.hid hye'
                    have Huq := Lib.hid huniq
                    clear hst hp hh hye' huniq
                    go_wp2_with fail
                    refine (acqStep_hit _ ab m c _ acc 1 (4 * (s.d : Int) + 1) hacq hli.mem (by omega) (by omega) (by omega) (by omega) (by omega) Hye.out).mono ?_
                    rintro e' w5 ⟨rfl, ha5, hm5, k5⟩
                    rw [mem2_set] at hm5
                    have sl5 := k5.blk hli.sl (by simp <;> omega)
                    have al5 := k5.blk hli.al (by simp <;> omega)
                    have rl5 := k5.blk rv2 (by simp <;> omega)
                    have csl5 : w5.cell? ⟨wo.heap.size + 1, t, none⟩ = some (.int .i64 0) := k5.cellEq csl (by simp <;> omega)
                    have cal5 : w5.cell? ⟨al, t, none⟩ = some (.pointer (some ⟨ab, 0, none⟩)) := k5.cellEq cal (by simp <;> omega)
                    have fsl5 := sl5.frozen
                    have lsl5 := sl5.lt
                    have a6 : Acq (w5.setCell ⟨wo.heap.size + 1, t, none⟩ (.int .i64 1)) ab .done 1 (4 * (s.d : Int) + 1) := ha5.other _ _ (by simp <;> omega)
                    have m6 := hm5.other ⟨wo.heap.size + 1, t, none⟩ (.int .i64 1) (by simp <;> omega) (by simp <;> omega)
                    have sl6 := sl5.set t (.int .i64 1)
                    have al6 := al5.other ⟨wo.heap.size + 1, t, none⟩ (.int .i64 1) (by simp <;> omega)
                    have rl6 := rl5.other ⟨wo.heap.size + 1, t, none⟩ (.int .i64 1) (by simp <;> omega)
                    have K6 := (k5.mono (S' := [m, c, ab, wo.heap.size + 1, wo.heap.size]) (by intro i hi; left; simp at hi ⊢; omega)).setCell ⟨wo.heap.size + 1, t, none⟩ (.int .i64 1) (.inl (by simp))
                    clear csl cal fsl
                    go_wp2_with fail
                    refine (peek_any _ m c _ _ m6 1).mono ?_
                    rintro e' w7 ⟨he, k7⟩
                    have e1 : memAt [C3.zero, ⟨4 * (s.d : Int) + 1, ⟨#[]⟩, 0⟩] 1 = ⟨4 * (s.d : Int) + 1, ⟨#[]⟩, 0⟩ := rfl
                    rw [e1] at he
                    dsimp only at he
                    subst he
                    have a7 : Acq w7 ab .done 1 (4 * (s.d : Int) + 1) := k7.blk a6 (by simp)
                    have m7 := m6.keeps k7 (by simp) (by simp)
                    have sl7 := k7.blk sl6 (by simp)
                    have al7 := k7.blk al6 (by simp)
                    have rl7 := k7.blk rl6 (by simp)
                    have K7 := K6.trans k7 (by simp)
                    have cal7 : w7.cell? ⟨al, t, none⟩ = some (.pointer (some ⟨ab, 0, none⟩)) := by
                      rw [al7.cell, List.getElem?_append_left (by simp [hlay.len, htn])]
                      simp [Hab.out, ptr]
                    have lal7 := al7.lt
                    clear csl5 cal5 fsl5 lsl5
                    go_wp2_with (first | (go_at_call 37; refine (acqWord_done _ ab 1 (4 * (s.d : Int) + 1) a7).mono ?_; rintro e' w' ⟨rfl, rfl⟩) | (go_at_call 15; refine (locked_yes _ (by omega) (by omega) (by omega) _).mono ?_; rintro e' w' ⟨rfl, rfl⟩) | (go_at_call 16; refine (begin_is _ (4 * (s.d : Int) + 3) (by omega) (by omega) (by omega) _).mono ?_; rintro e' w' ⟨rfl, rfl⟩) | (go_at_call 17; refine (end_is _ (4 * (s.d : Int) + 5) (by omega) (by omega) (by omega) _).mono ?_; rintro e' w' ⟨rfl, rfl⟩))
                    refine (newRelease_any 1 (4 * (s.d : Int) + 5) _).mono ?_
                    rintro e' w8 ⟨rb, ib, wb, rfl, hr8, hrb, hib, hwb, k8⟩
                    have a8 : Acq w8 ab .done 1 (4 * (s.d : Int) + 1) := k8.blk a7 (by simp)
                    have m8 := m7.keeps k8 (by simp) (by simp)
                    have sl8 := k8.blk sl7 (by simp)
                    have al8 := k8.blk al7 (by simp)
                    have rl8 := k8.blk rl7 (by simp)
                    have K8 := K7.trans k8 (by simp)
                    have crl8 : w8.cell? ⟨wo.heap.size, t, none⟩ = some (rv[t]'(by omega)) := by rw [rl8.cell]; exact List.getElem?_eq_getElem (by omega)
                    have frl8 := rl8.frozen
                    have lrl8 := rl8.lt
                    have ls7 := sl7.lt
                    clear cal7 lal7
                    go_wp2_with fail
                    go_meet
                    case rel =>
                      rw [Hst.out]
                      have hK := K8.setCell ⟨wo.heap.size, t, none⟩ (ptr rb) (.inl (by simp))
                      refine ⟨acc + 1, by omega, hli.take hlay htn Hab.out Huq.out rv1 (ib := ib) (wb := wb) hK ?_ ?_ ?_ (rl8.set t (ptr rb)) ?_ (by omega) (by omega) (by omega), hkq.trans hK (by simp <;> omega)⟩
                      · have := m8.other ⟨wo.heap.size, t, none⟩ (ptr rb) (by simp <;> omega) (by simp <;> omega)
                        simpa [mem2, cur, ptr] using this
                      · exact a8.other _ _ (by simp <;> omega)
                      · exact sl8.other _ _ (by simp)
                      · exact ⟨hr8.1.other _ _ (by simp <;> omega), hr8.2.1.other _ _ (by simp <;> omega), hr8.2.2.other _ _ (by simp <;> omega)⟩
                  · have hst : s.step t = ⟨upd s.ph t .look, s.d, s.h⟩ := by unfold Sys.step; rw [hp]; simp only; rw [if_neg hc']
                    have hne' : (memIn (mem2 s) 1 && (memAt (mem2 s) 1).N == (4 * (e : Int) + 1) / 2 * 2) = false := by
                      rw [mem2_in, mem2_at, Bool.true_and, beq_eq_false_iff_ne, Hw2.out]
                      dsimp only
                      intro e1
                      cases hh : s.h
                      · rw [cur_f hh] at e1; exact hc' ⟨hh, by omega⟩
                      · rw [cur_t hh] at e1; omega
                    have Hst := Lib.hid hst
                    have Hp := Lib.hid hp
                    have Hne := Lib.hid hne'
                    clear hst hp hc' hne'
                    go_wp2_with fail
                    refine (acqStep_miss _ ab m c _ acc 1 (4 * (e : Int) + 1) hacq hli.mem (by omega) (by omega) (by omega) (by omega) (by omega) Hne.out).mono ?_
                    rintro e' w5 ⟨rfl, ha5, hm5, k5⟩
                    go_wp2_with fail
                    go_meet
                    case rel =>
                      rw [Hst.out]
                      exact ⟨acc + 1, by omega, hli.turn hlay Hab.out k5 (by rw [Hp.out]; rfl) (fun e => by cases e) rfl (by have h' := hm5; rw [show (acc : Int) + 1 = ((acc + 1 : Nat) : Int) by omega] at h'; exact h') ⟨_, ha5⟩, hkq.trans k5 (by simp <;> omega)⟩
                | have_ =>
                  obtain rfl : tg = 1 := by have := Htg.out; rw [hp] at this; simpa [stV] using this.symm
                  have hst : s.step t = ⟨upd s.ph t .done, s.d + 1, false⟩ := by unfold Sys.step; rw [hp]
                  have hh := has_h hinv htn hp
                  have huniq := only_have hinv htn hp
                  obtain ⟨rv, rv1, rv2, hrel⟩ := hli.rl
                  obtain ⟨rb, ib, wb, hrt, hr, hrb, hib, hwb⟩ := hrel t htn hp
                  have crl : wc.cell? ⟨wo.heap.size, t, none⟩ = some (.pointer (some ⟨rb, 0, none⟩)) := by rw [rv2.cell, hrt]; rfl
                  have hw2 : (4 * (s.d : Int) + 5) / 2 * 2 = 4 * (s.d : Int) + 4 := by omega
                  have Hw2 := Lib.hid hw2
                  have Hst := Lib.hid hst
                  have Hp := Lib.hid hp
                  have Huq := Lib.hid huniq
                  clear hst hp hh hw2 huniq hrel hrt
                  go_wp2_with fail
                  refine (relStep_any _ rb ib wb m c _ acc 1 (4 * (s.d : Int) + 5) hr hli.mem (by omega) (by omega) (by omega) (by omega) (by omega)).mono ?_
                  rintro e' w5 ⟨rfl, hm5, k5⟩
                  rw [mem2_set, Hw2.out] at hm5
                  have sl5 := k5.blk hli.sl (by simp <;> omega)
                  have csl5 : w5.cell? ⟨wo.heap.size + 1, t, none⟩ = some (.int .i64 1) := k5.cellEq csl (by simp <;> omega)
                  have fsl5 := sl5.frozen
                  have lsl5 := sl5.lt
                  clear csl cal fsl crl
                  go_wp2_with fail
                  go_meet
                  case rel =>
                    rw [Hst.out]
                    have hK := (k5.mono (S' := [m, c, rb, wo.heap.size + 1]) (by intro i hi; left; simp at hi ⊢; omega)).setCell ⟨wo.heap.size + 1, t, none⟩ (.int .i64 2) (.inl (by simp))
                    refine ⟨acc + 1, by omega, hli.give hlay htn Hab.out Hp.out Huq.out hrb hK ?_ (sl5.set t _), hkq.trans hK (by simp <;> omega)⟩
                    have := hm5.other ⟨wo.heap.size + 1, t, none⟩ (.int .i64 2) (by simp <;> omega) (by simp <;> omega)
                    have e9 : cur ⟨upd s.ph t .done, s.d + 1, false⟩ = 4 * (s.d : Int) + 4 := by unfold cur; simp; omega
                    simpa [mem2, e9] using this
              case rest =>
                obtain ⟨acc', hacc', hli', hkq'⟩ := hcut
                have hacc2 : (acc' : Int) ≤ (acc : Int) + 1 := by omega
                have hinv' := Inv.step hinv t htn
                rw [← Hnext.out] at hli' hinv'
                obtain ⟨s', hs'⟩ : ∃ s', Sys.run (tk xs n) (k + 1) = s' := ⟨_, rfl⟩
                rw [hs'] at hli' hinv'
                have Hs' := Lib.hid hs'
                clear hs' csl cal fsl
                have sl9 := hli'.sl
                have lsl9 := sl9.lt
                go_wp2_with (go_at_call 25; refine (accesses_any _ m c _ _ hli'.mem).mono ?_; rintro e w' ⟨rfl, rfl⟩)
                go_loop [16, 17] (fun hv jv => ∃ j : Nat, j ≤ n ∧ jv = .int .i64 j ∧ hv = .int .i64 (cnt (fun i => (s'.ph i).isHave) j : Nat)) (fun _ jv => n - (intOf jv).toNat)
                case atStart => exact ⟨0, by omega, rfl, rfl⟩
                case round =>
                  obtain ⟨j, hj, rfl, rfl⟩ := hrel
                  have hcle := cnt_le (fun i => (s'.ph i).isHave) (fun i => by cases s'.ph i <;> simp [Ph.isHave]) j
                  by_cases hjn : j < n
                  · obtain ⟨tg', htg'⟩ : ∃ tg' : Int, stV (s'.ph j) = .int .i64 tg' := by cases s'.ph j <;> exact ⟨_, rfl⟩
                    have csl9 : wc.cell? ⟨wo.heap.size + 1, j, none⟩ = some (.int .i64 tg') := by
                      rw [sl9.cell, ← htg']; simp [hjn]
                    have hcs : cnt (fun i => (s'.ph i).isHave) (j + 1) = cnt (fun i => (s'.ph i).isHave) j + (s'.ph j).isHave := rfl
                    by_cases hph : s'.ph j = .have_
                    · obtain rfl : tg' = 1 := by rw [hph] at htg'; simpa [stV] using htg'.symm
                      have hcs' : cnt (fun i => (s'.ph i).isHave) (j + 1) = cnt (fun i => (s'.ph i).isHave) j + 1 := by rw [hcs, hph]; rfl
                      have Hcs := Lib.hid hcs'
                      clear hcs hcs' htg' hph
                      go_wp2_with fail
                      go_round
                      case rel => exact ⟨j + 1, by omega, by go_num, by rw [Hcs.out]; go_num⟩
                      case measure => simp [intOf]; omega
                    · have hcs' : cnt (fun i => (s'.ph i).isHave) (j + 1) = cnt (fun i => (s'.ph i).isHave) j := by rw [hcs]; cases hq : s'.ph j <;> simp_all [Ph.isHave]
                      have htg1 : (tg' == 1) = false := by
                        cases hq : s'.ph j <;> rw [hq] at htg' hph <;> simp [stV] at htg' <;> first | exact absurd rfl hph | (rw [← htg']; rfl)
                      have Hcs := Lib.hid hcs'
                      clear hcs hcs' htg' hph
                      go_wp2_with fail
                      go_round
                      case rel => exact ⟨j + 1, by omega, by go_num, by rw [Hcs.out]⟩
                      case measure => simp [intOf]; omega
                  · obtain rfl : n = j := by omega
                    have hhas := hinv'.has
                    rw [hhas]
                    clear hhas hcle
                    have hd5' : s'.d ≤ 5 := by
                      have := cnt_le (fun i => (s'.ph i).isDone) (fun i => isDone_le _) n
                      rw [hinv'.done] at this
                      omega
                    cases hh' : s'.h with
                    | true =>
                      have hcu' := cur_t hh'
                      have Hcu' := Lib.hid hcu'
                      clear hcu' hh'
                      go_wp2_with fail
                      refine (peek_any _ m c _ _ hli'.mem 1).mono ?_
                      rintro e w9 ⟨he, k9⟩
                      rw [mem2_at, Hcu'.out] at he
                      dsimp only at he
                      subst he
                      have hli9 := hli'.keeps k9
                      rw [← Hs'.out] at hli9
                      go_wp2_with (go_at_call 15; refine (locked_yes _ (by omega) (by omega) (by omega) _).mono ?_; rintro e w' ⟨rfl, rfl⟩)
                      go_roundw
                      case rel => exact ⟨k + 1, acc', by omega, by go_num, by omega, hli9, hkq'.trans k9 (by simp)⟩
                      case measure => simp [intOf]; omega
                    | false =>
                      have hcu' := cur_f hh'
                      have Hcu' := Lib.hid hcu'
                      clear hcu' hh'
                      go_wp2_with fail
                      refine (peek_any _ m c _ _ hli'.mem 1).mono ?_
                      rintro e w9 ⟨he, k9⟩
                      rw [mem2_at, Hcu'.out] at he
                      dsimp only at he
                      subst he
                      have hli9 := hli'.keeps k9
                      rw [← Hs'.out] at hli9
                      go_wp2_with (go_at_call 15; refine (locked_no _ (by omega) (by omega) (by omega) _).mono ?_; rintro e w' ⟨rfl, rfl⟩)
                      go_roundw
                      case rel => exact ⟨k + 1, acc', by omega, by go_num, by omega, hli9, hkq'.trans k9 (by simp)⟩
                      case measure => simp [intOf]; omega
          · obtain rfl : k = xs.length + 40 * n := by omega
            obtain ⟨e1, e2, e3⟩ := run_ends (tk xs n) n htkn xs.length (fun j hj => by unfold tk; rw [if_neg (by omega)]) hn5
            obtain ⟨s, hs⟩ : ∃ s, Sys.run (tk xs n) (xs.length + 40 * n) = s := ⟨_, rfl⟩
            rw [hs] at hli e1 e2 e3
            clear hs
            have hcu : cur s = 4 * (n : Int) := by rw [cur_f e2, e1]
            have Hcu := Lib.hid hcu
            clear hcu e1 e2
            have sl9 := hli.sl
            have lsl9 := sl9.lt
            go_wp2_with fail
            go_loop [18] (fun jv => ∃ j : Nat, j ≤ n ∧ jv = .int .i64 j) (fun jv => n - (intOf jv).toNat)
            case atStart => exact ⟨0, by omega, rfl⟩
            case round =>
              obtain ⟨j, hj, rfl⟩ := hrel
              by_cases hjn : j < n
              · have csl9 : wr.cell? ⟨wo.heap.size + 1, j, none⟩ = some (.int .i64 2) := by
                  rw [sl9.cell]; simp [hjn, e3 j hjn, stV]
                go_wp2_with fail
                go_round
                case rel => exact ⟨j + 1, by omega, by go_num⟩
                case measure => simp [intOf]; omega
              · obtain rfl : n = j := by omega
                go_wp2_with fail
                refine (peek_any _ m c _ _ hli.mem 1).mono ?_
                rintro e w9 ⟨he, k9⟩
                rw [mem2_at, Hcu.out] at he
                dsimp only at he
                subst he
                go_wp2_with fail
                go_ret
                exact ⟨rfl, hkq.trans k9 (by simp)⟩
end Go.Proofs.Ytigmafikjbaigaa
