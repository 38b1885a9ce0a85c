/- Lemmas on the way to LinearAcceptsSequential. No condition. -/
import Derived.Test.YtbcgpjfejpcgnaaGreatRAd
import Derived.Test.YtbcgpjfejpcgnaaGreatRAs
import Derived.Test.YtbcgpjfejpcgnaaGreatRAt
import Derived.Test.YtbcgpjfejpcgnaaGreatRBe
import Derived.Shelf.SlSortCmp.QuietGrown
import Derived.BigQuiet
import Derived.Deep.RegionHeld3
import Derived.Deep.CutRange
set_option linter.unusedSimpArgs false
set_option linter.unusedVariables false
set_option linter.unusedSectionVars false
section
namespace Go.Proofs.YtbcgpjfejpcgnaaGreat
open Go.RowKit Go.Maps
set_option maxRecDepth 100000
set_option linter.unusedSimpArgs false
set_option maxHeartbeats 2000000
theorem take_snoc_last {l : List Rec} {k : Nat} {y : Rec} (h : l[k]? = some y) : (l.take (k + 1)).getLast? = some y := by
  rw [List.take_add_one, h]; simp
theorem quiet_load {P : Program} {ops : Array Oper} {C : World → Prop} {Q : Act → Prop} {rest : List Oper} {o : Oper} {a : Act} (hgd : o.guard = none) (ty : TypeId) (x : Operand) (ho : o.op = .load ty x) (p : Addr) (hx : a.eval x = .pointer (some p)) (v : Value)
    (hr : ∀ w, C w → (loadVar ty p).run P w = .ok v w) (h : wpQuiet P ops C Q rest (a.put o.dst v)) : wpQuiet P ops C Q (o :: rest) a := by
  unfold wpQuiet
  rw [if_pos (by simp [Region.wanted, hgd])]
  refine ⟨v, fun w hw => ?_, h⟩
  unfold Oper.quietAt execOp
  simp only [ho, hx, Instr.loadAt, Instr.sureAddr, Sem.run_bind, Sem.run_pure, Result.andThen_ok, hr w hw]
  exact ⟨rfl, rfl⟩
theorem list_load_eq_w {P : Program} {ops : Array Oper} {rest : List Oper} {o : Oper} {a : Act} {w : World} {Q : Exit → Act → World → Prop} (hw : Region.wanted o (yielded ops a.tmps) = true) (ty : TypeId) (x : Operand) (ho : o.op = .load ty x)
    (p : Addr) (hx : a.eval x = .pointer (some p)) (v : Value) (hr : (loadVar ty p).run P w = .ok v w) (h : wpList P ops Q rest (a.put o.dst v) w) : wpList P ops Q (o :: rest) a w :=
  wpList_step fun K hK => by
    rw [if_pos hw]
    unfold Oper.wp execOp
    simp only [ho, hx, Instr.loadAt, Instr.sureAddr, Sem.run_bind, Sem.run_pure, Result.andThen_ok, hr]
    exact hK _ _ h
def ChkPost (l : List Rec) (w : World) (e : Ending) (w' : World) : Prop := ∃ r : Bool, e = .returned (.bool r) ∧ (r = true ↔ Good l) ∧ Keeps [] w w'
theorem check_anyR (xs : List RV) (hn : xs.length ≤ 1000) (hr : ∀ x ∈ xs, RngA x.n) (v : Value) (w : World) (hv : Lst w v xs.length (rCs xs)) :
    Calls Tryz.prog 41 #[v] w (ChkPost (xs.map (·.n)) w) := by
  have mixed : Tryz.prog.follows .mixedOrders = true := by kernel_rfl
  have HV := Lib.hid hv
  have HR := Lib.hid hr
  have HG : Hid (∀ y ∈ xs.map (·.n), Rng y) := fun y hy => by
    obtain ⟨x, hx, rfl⟩ := List.mem_map.1 hy
    exact (hr x hx).2.1
  obtain ⟨n, hn'⟩ : ∃ n, xs.length = n := ⟨_, rfl⟩
  obtain ⟨A, cap, b, o, rfl, _, _⟩ := hv
  rw [hn'] at hn HV ⊢
  have Hn := Lib.hid hn'
  have C0 : ChkW w ((w.alloc (.map #[] 0)).alloc (.map #[] 0)) xs w.heap.size (w.heap.size + 1) 0 0 :=
    ⟨(World.ownsMap_made w _ _ _).alloc _, by have := World.ownsMap_made (w.alloc (.map #[] 0)) Tryz.prog 3 heldR; rw [show (w.alloc (.map #[] 0)).heap.size = w.heap.size + 1 by simp] at this; exact this, by omega, ((Keeps.refl [] w).alloc _).alloc _, Nat.le_refl _, by omega⟩
  clear hn' hr
  have hmm := @run_makeMap Tryz.prog
  go_enter Tryz.func41, Tryz.ntmps41
  go_wp2_with fail
  generalize w.heap.size + 1 = b2 at C0 ⊢
  generalize hb1 : w.heap.size = b1 at C0 ⊢
  clear hb1 hmm
  go_loopw [13] (fun i wr => ∃ k : Nat, k ≤ n ∧ i = .int .i64 k ∧ ChkW w wr xs b1 b2 k k ∧ Hid (∀ i r, i < k → (xs.map (·.n))[i]? = some r → bad6 ((xs.map (·.n)).take i) r = false ∧ bad11 ((xs.map (·.n)).take i) r = false)) (fun i _ => n - (intOf i).toNat)
  case atStart => exact ⟨0, by omega, rfl, C0, Lib.hid (fun i r h => by omega)⟩
  case round =>
    clear C0
    obtain ⟨k, hk, rfl, hC, HB⟩ := hrel
    by_cases hlt : k < n
    · obtain ⟨x, hx⟩ : ∃ x, xs[k]? = some x := ⟨_, List.getElem?_eq_getElem (by rw [Hn.out]; exact hlt)⟩
      obtain ⟨g, o', rfl, hc, hg⟩ := (HV.out.keeps hC.kk).atS Hn.out hx
      have hl0 := hc.load
      have hst := store_new wr x
      have Hbk := Lib.hid (new_rec wr x)
      have hkn : (k : Int) < (n : Int) := by omega
      have Hx := Lib.hid hx
      have hrx := HR.out x (List.mem_of_getElem? hx)
      have hwp := wfI hrx.2.2.1 hrx.2.2.2
      have hwt := wfI hrx.1.1 hrx.1.2
      clear hx hc hrx
      go_upto_region 5 with fail
      go_cut [5, 6] from 14 to 83 (fun s5 s6 wx => ∃ g6, s5 = .int .i64 k ∧ s6 = .pointer (some ⟨g6, 0, none⟩) ∧ Blk wx g6 [.int .i64 x.n.th, .int .i64 x.n.ix, .int .i64 x.n.inv, .int .i64 x.n.pt, .int .i64 x.n.rs, .int .i64 x.code, .string x.key, .int .u64 x.time, .slice x.bA x.b.length x.bc, .int .i64 x.hd, .int .i64 x.cu, .int .i64 x.mo, .int .i64 x.er, .int .u64 x.at_, .string x.ak, .string x.av] ∧ b1 ≠ g6 ∧ b2 ≠ g6 ∧ ChkW w wx xs b1 b2 k k)
      case first =>
        go_wp2_with (first
          | (refine list_load_eq rfl 34 _ rfl _ rfl _ hl0 ?_)
          | (refine list_store_eq rfl 34 _ _ rfl _ rfl _ rfl (hst _ rfl) ?_))
        go_meet
        case rel => exact ⟨_, rfl, rfl, Hbk.out, Nat.ne_of_lt hC.pts.lt, Nat.ne_of_lt hC.lst.lt, hC.step ((Keeps.refl _ _).alloc _)⟩
      case rest =>
      obtain ⟨g6, rfl, rfl, hbk, hne1, hne2, hC6⟩ := hcut
      clear hl0 hst Hbk hC
      have hcx := hbk.cel.num
      obtain ⟨c0, c1, c2, c3, c4⟩ := hcx
      have g6l := hbk.lt
      have Hbk := Lib.hid hbk
      have HC6 := Lib.hid hC6
      have hlk := look_pts hC6.pts x.n.pt hwp
      obtain ⟨pb, hpb⟩ : ∃ pb, ptsB ((xs.take k).map (·.n)) x.n.pt = pb := ⟨_, rfl⟩
      rw [hpb] at hlk
      have hld : ∀ (q : Nat) (os : Array Obj), (loadVar 34 ⟨g6, 0, none⟩).run Tryz.prog (Go.Sort.grow (wc.drewN q) os) = .ok (.agg #[.int .i64 x.n.th, .int .i64 x.n.ix, .int .i64 x.n.inv, .int .i64 x.n.pt, .int .i64 x.n.rs, .int .i64 x.code, .string x.key, .int .u64 x.time, .slice x.bA x.b.length x.bc, .int .i64 x.hd, .int .i64 x.cu, .int .i64 x.mo, .int .i64 x.er, .int .u64 x.at_, .string x.ak, .string x.av]) (Go.Sort.grow (wc.drewN q) os) := fun q os => ((grow_keeps wc q os).blk hbk (by simp)).load
      have hsn : ∀ (q : Nat) (os : Array Obj), Calls Tryz.prog 55 #[.agg #[.int .i64 x.n.th, .int .i64 x.n.ix, .int .i64 x.n.inv, .int .i64 x.n.pt, .int .i64 x.n.rs, .int .i64 x.code, .string x.key, .int .u64 x.time, .slice x.bA x.b.length x.bc, .int .i64 x.hd, .int .i64 x.cu, .int .i64 x.mo, .int .i64 x.er, .int .u64 x.at_, .string x.ak, .string x.av]] (Go.Sort.grow (wc.drewN q) os) fun e w' => e = .returned (.bool (sndB x.n)) ∧ ∃ q' os', w' = Go.Sort.grow ((Go.Sort.grow (wc.drewN q) os).drewN q') os' := fun q os => (sndg_any x _).mono fun e w' h => ⟨h.1, 0, by obtain ⟨os', h⟩ := h.2; exact ⟨os', h⟩⟩
      have d2 : ∀ q os, (Go.Sort.grow (wc.drewN q) os).cell? ⟨g6, 2, none⟩ = some (.int .i64 x.n.inv) := fun q os => Go.cell_grown g6l (by simpa using c2) q os
      have d3 : ∀ q os, (Go.Sort.grow (wc.drewN q) os).cell? ⟨g6, 3, none⟩ = some (.int .i64 x.n.pt) := fun q os => Go.cell_grown g6l (by simpa using c3) q os
      obtain ⟨sb, hsb⟩ : ∃ sb, sndB x.n = sb := ⟨_, rfl⟩
      rw [hsb] at hsn
      have Hpb := Lib.hid hpb
      have Hsb := Lib.hid hsb
      clear hbk hC6 hpb hsb c0 c1 c2 c3 c4
      go_upto_region 6 with fail
      go_cut [41] from 14 to 83 (fun s wx => s = .bool (bad6 ((xs.map (·.n)).take k) x.n) ∧ Keeps [] wc wx)
      case first =>
        cases sb with
        | false =>
          refine wp_region_quiet_grown (by assumption) (by kernel_rfl) ?_
          refine quiet_load rfl 34 _ rfl _ rfl _ (fun w1 hw1 => by obtain ⟨p1, rfl⟩ := hw1; exact hld _ _) ?_
          refine wpQuiet_step (fun K hK => ?_)
          go_simp
          apply Exists.intro
          refine ⟨fun _ => ?_, hK _ ?_⟩
          · exact Calls.grown_of (hsn _ _)
          clear hK K
          repeat (go_big_quiet_step (fail))
          refine wpQuiet_nil ?_
          intro _ hw1
          obtain ⟨⟨nq, osq⟩, hw2⟩ := hw1
          subst hw2
          go_wp2_with fail
          go_meet
          case rel => exact ⟨by unfold bad6; rw [Hsb.out]; rfl, grow_keeps _ _ _⟩
        | true =>
          rcases Nat.eq_zero_or_pos k with hk0 | hk0
          · subst hk0
            refine wp_region_quiet_grown (by assumption) (by kernel_rfl) ?_
            refine quiet_load rfl 34 _ rfl _ rfl _ (fun w1 hw1 => by obtain ⟨p1, rfl⟩ := hw1; exact hld _ _) ?_
            refine wpQuiet_step (fun K hK => ?_)
            go_simp
            apply Exists.intro
            refine ⟨fun _ => ?_, hK _ ?_⟩
            · exact Calls.grown_of (hsn _ _)
            clear hK K
            repeat (go_big_quiet_step (fail))
            refine wpQuiet_nil ?_
            intro _ hw1
            obtain ⟨⟨nq, osq⟩, hw2⟩ := hw1
            subst hw2
            go_wp2_with fail
            go_meet
            case rel => exact ⟨by unfold bad6; rw [Hsb.out, ← List.map_take, Hpb.out]; simp, grow_keeps _ _ _⟩
          · obtain ⟨kp, rfl⟩ : ∃ kp, k = kp + 1 := ⟨k - 1, by omega⟩
            obtain ⟨y, hy⟩ : ∃ y, xs[kp]? = some y := ⟨_, List.getElem?_eq_getElem (by rw [Hn.out]; omega)⟩
            obtain ⟨g2, o2, e2, hc2, hg2⟩ := (HV.out.keeps HC6.out.kk).atS Hn.out hy
            injection e2 with e2
            injection e2 with e2 e3
            subst e2; subst e3
            have y2 : ∀ q os, (Go.Sort.grow (wc.drewN q) os).cell? ⟨g, o' + kp * 16 + 2, none⟩ = some (.int .i64 y.n.inv) := fun q os => Go.cell_grown hg2 hc2.num.2.2.1 q os
            have hl := take_snoc_last (recs_at hy)
            have Hl := Lib.hid hl
            have hkz : (kp : Int) < (n : Int) := by omega
            have hwk : IntKind.i64.wrap (kp : Int) = (kp : Int) := by rw [IntKind.wrap_i64]; omega
            have hk1 : (0 : Int) < (kp : Int) + 1 := by omega
            clear hl hc2 hg2 hy
            by_cases hle : x.n.inv ≤ y.n.inv
            · have hd : decide (x.n.inv ≤ y.n.inv) = true := decide_eq_true hle
              refine wp_region_quiet_grown (by assumption) (by kernel_rfl) ?_
              refine quiet_load rfl 34 _ rfl _ rfl _ (fun w1 hw1 => by obtain ⟨p1, rfl⟩ := hw1; exact hld _ _) ?_
              refine wpQuiet_step (fun K hK => ?_)
              go_simp
              apply Exists.intro
              refine ⟨fun _ => ?_, hK _ ?_⟩
              · exact Calls.grown_of (hsn _ _)
              clear hK K
              repeat (go_big_quiet_step (fail))
              refine wpQuiet_nil ?_
              intro _ hw1
              obtain ⟨⟨nq, osq⟩, hw2⟩ := hw1
              subst hw2
              go_wp2_with fail
              go_meet
              case rel => exact ⟨by unfold bad6; rw [Hsb.out, Hl.out]; simp only [hd]; rfl, grow_keeps _ _ _⟩
            · have hd : decide (x.n.inv ≤ y.n.inv) = false := decide_eq_false hle
              refine wp_region_quiet_grown (by assumption) (by kernel_rfl) ?_
              refine quiet_load rfl 34 _ rfl _ rfl _ (fun w1 hw1 => by obtain ⟨p1, rfl⟩ := hw1; exact hld _ _) ?_
              refine wpQuiet_step (fun K hK => ?_)
              go_simp
              apply Exists.intro
              refine ⟨fun _ => ?_, hK _ ?_⟩
              · exact Calls.grown_of (hsn _ _)
              clear hK K
              repeat (go_big_quiet_step (fail))
              refine wpQuiet_nil ?_
              intro _ hw1
              obtain ⟨⟨nq, osq⟩, hw2⟩ := hw1
              subst hw2
              go_wp2_with fail
              go_meet
              case rel => exact ⟨by unfold bad6; rw [Hsb.out, Hl.out, ← List.map_take, Hpb.out]; simp only [hd]; rfl, grow_keeps _ _ _⟩
      case rest =>
      obtain ⟨rfl, k7⟩ := hcut
      have hC7 := HC6.out.step k7
      have hbk7 := k7.blk Hbk.out (by simp)
      clear hlk hld hsn d2 d3 HC6 Hbk k7 g6l
      obtain ⟨bd, hbd⟩ : ∃ bd, bad6 ((xs.map (·.n)).take k) x.n = bd := ⟨_, rfl⟩
      rw [hbd]
      have Hbd := Lib.hid hbd
      clear hbd
      cases bd with
      | true =>
        have Hng := Lib.hid (bad_not (xs.map (·.n)) HG.out (recs_at Hx.out) (.inl Hbd.out))
        go_wp2_with fail
        go_ret
        exact ⟨false, rfl, by simpa using Hng.out, hC7.kk⟩
      | false =>
      have c3 := hbk7.cell 3
      have f6 := hbk7.frozen
      have g6l := hbk7.lt
      simp only [List.getElem?_cons_succ, List.getElem?_cons_zero] at c3
      go_upto_region 8 with fail
      go_cut [44] from 14 to 83 (fun s wx => s = .bool (x.n.pt != -1) ∧ wx = wc)
      case first =>
        go_wp2_with fail
        go_meet
        case rel => exact ⟨rfl, rfl⟩
      case rest =>
      obtain ⟨rfl, rfl⟩ := hcut
      go_upto_if 44 with fail
      go_cut [5] from 14 to 83 (fun s wx => s = .int .i64 k ∧ ChkW w wx xs b1 b2 (k + 1) k ∧ Blk wx g6 [.int .i64 x.n.th, .int .i64 x.n.ix, .int .i64 x.n.inv, .int .i64 x.n.pt, .int .i64 x.n.rs, .int .i64 x.code, .string x.key, .int .u64 x.time, .slice x.bA x.b.length x.bc, .int .i64 x.hd, .int .i64 x.cu, .int .i64 x.mo, .int .i64 x.er, .int .u64 x.at_, .string x.ak, .string x.av])
      case first =>
        have hP : ptsD xs (k + 1) = if x.n.pt = -1 then ptsD xs k else (ptsD xs k).put (kI x.n.pt) (.held (.bool true)) := by rw [ptsD, Hx.out]
        have HP := Lib.hid hP
        clear hP
        by_cases hp : x.n.pt = -1
        · have hpb : (x.n.pt != -1) = false := by simp [hp]
          have Hp := Lib.hid hp
          rw [hpb]
          clear hp hpb
          go_wp2_with fail
          go_meet
          case rel => exact ⟨rfl, ⟨by rw [HP.out, if_pos Hp.out]; exact hC7.pts.mono (Nat.le_succ k), hC7.lst, hC7.ne, hC7.kk, hC7.ge1, hC7.ge2⟩, hbk7⟩
        · have hpb : (x.n.pt != -1) = true := by simp [hp]
          have Hp := Lib.hid hp
          rw [hpb]
          clear hp hpb
          have hP1 := hC7.pts
          go_wp2_with (at_mapUpdate; refine wpList_mapUpdate_own _ rfl _ _ _ 108 rfl 3 4 lawI Tryz.underlying108 heldR b1 k _ rfl hP1 (by unfold maxLen; omega) _ _ _ rfl rfl (keyI _ hwp) (.held (.bool true)) [] rfl ?_; intro w1 hown1 hgrow1)
          go_meet
          case rel => exact ⟨rfl, ⟨by rw [HP.out, if_neg Hp.out]; exact hown1, ownsMap_keeps hC7.lst (Keeps.of_grownBy hgrow1 [b1] (by simp)) (by simp; exact fun e => hC7.ne e.symm), hC7.ne, hC7.kk.trans (Keeps.of_grownBy hgrow1 [b1] (by simp)) (by simp; exact hC7.ge1), hC7.ge1, hC7.ge2⟩, (Keeps.of_grownBy hgrow1 [b1] (by simp)).blk hbk7 (by simp; exact fun e => hne1 e.symm)⟩
      case rest =>
      obtain ⟨rfl, hC8, hbk8⟩ := hcut
      clear hC7 hbk7 c3 f6 g6l
      obtain ⟨y, hy⟩ : ∃ y, (lastV x.n.th (xs.take k)).getD default = y := ⟨_, rfl⟩
      obtain ⟨ok, ho⟩ : ∃ ok, (lastV x.n.th (xs.take k)).isSome = ok := ⟨_, rfl⟩
      have hlk := look_last hC8.lst x.n.th hwt y ok hy ho
      have hst := store_new wc y
      have Hby := Lib.hid (new_rec wc y)
      have Hy := Lib.hid hy
      have Ho := Lib.hid ho
      have c0 := hbk8.cell 0
      have g6l := hbk8.lt
      simp only [List.getElem?_cons_succ, List.getElem?_cons_zero] at c0
      have HC8 := Lib.hid hC8
      have Hbk8 := Lib.hid hbk8
      clear hy ho hC8 hbk8
      go_upto_region 10 with fail
      go_cut [7, 8] from 14 to 83 (fun s7 s8 wx => ∃ g7, s7 = .pointer (some ⟨g7, 0, none⟩) ∧ s8 = .bool ok ∧ Blk wx g7 [.int .i64 y.n.th, .int .i64 y.n.ix, .int .i64 y.n.inv, .int .i64 y.n.pt, .int .i64 y.n.rs, .int .i64 y.code, .string y.key, .int .u64 y.time, .slice y.bA y.b.length y.bc, .int .i64 y.hd, .int .i64 y.cu, .int .i64 y.mo, .int .i64 y.er, .int .u64 y.at_, .string y.ak, .string y.av] ∧ Keeps [] wc wx)
      case first =>
        go_wp2_with (refine list_store_eq rfl 34 _ _ rfl _ rfl _ rfl (hst _ rfl) ?_)
        go_meet
        case rel => exact ⟨_, rfl, rfl, Hby.out, (Keeps.refl _ _).alloc _⟩
      case rest =>
      obtain ⟨g7, rfl, rfl, hby, k9⟩ := hcut
      have hC9 := HC8.out.step k9
      have hb9 := k9.blk Hbk8.out (by simp)
      clear hlk hst Hby HC8 Hbk8 c0 g6l k9
      have x1 := hb9.cell 1
      have y1 := hby.cell 1
      simp only [List.getElem?_cons_succ, List.getElem?_cons_zero] at x1 y1
      have hlx := hb9.load
      have hly := hby.load
      have g6l := hb9.lt
      have g7l := hby.lt
      go_upto_region 11 with fail
      go_cut [78] from 14 to 83 (fun s wx => s = .bool (bad11 ((xs.map (·.n)).take k) x.n) ∧ Keeps [] wc wx)
      case first =>
        have hlo : lastOf x.n.th ((xs.map (·.n)).take k) = (lastV x.n.th (xs.take k)).map (·.n) := by rw [← List.map_take, lastV_of]
        have Hlo := Lib.hid hlo
        have Hb9 := Lib.hid hb9
        have Hby := Lib.hid hby
        clear hlo hb9 hby
        cases ok with
        | false =>
          have hb : bad11 ((xs.map (·.n)).take k) x.n = (x.n.ix != 0) := by
            unfold bad11
            rw [Hlo.out]
            cases hl : lastV x.n.th (xs.take k) with
            | none => rfl
            | some z => have := Ho.out; rw [hl] at this; cases this
          by_cases h0 : x.n.ix = 0
          · have hz : (x.n.ix != 0) = false := by simp [h0]
            rw [hz] at hb
            have Hb := Lib.hid hb
            clear hb h0
            go_wp2_with fail
            go_meet
            case rel => exact ⟨by rw [Hb.out], Keeps.refl _ _⟩
          · have hz : (x.n.ix != 0) = true := by simp [h0]
            rw [hz] at hb
            have Hb := Lib.hid hb
            clear hb h0
            go_wp2_with fail
            go_meet
            case rel => exact ⟨by rw [Hb.out], Keeps.refl _ _⟩
        | true =>
          have hb : bad11 ((xs.map (·.n)).take k) x.n = (x.n.ix != IntKind.i64.wrap (y.n.ix + 1) || !prec y.n x.n) := by
            unfold bad11
            rw [Hlo.out]
            cases hl : lastV x.n.th (xs.take k) with
            | none => have := Ho.out; rw [hl] at this; cases this
            | some z => have := Hy.out; rw [hl] at this; simp at this; subst this; rfl
          obtain ⟨q, hq⟩ : ∃ q, IntKind.i64.wrap (y.n.ix + 1) = q := ⟨_, rfl⟩
          rw [hq] at hb
          by_cases h0 : x.n.ix = q
          · have hz : (x.n.ix != q) = false := by simp [h0]
            rw [hz] at hb
            have Hb := Lib.hid hb
            clear hb h0
            go_wp2_with (first
              | (refine list_load_eq_w (by rfl) 34 _ rfl _ rfl _ hly ?_)
              | (refine list_load_eq_w (by rfl) 34 _ rfl _ rfl _ hlx ?_))
            refine (prec_any y x _).mono ?_
            rintro e w2 ⟨rfl, k2⟩
            go_wp2_with fail
            go_meet
            case rel => exact ⟨by rw [Hb.out]; rfl, k2⟩
          · have hz : (x.n.ix != q) = true := by simp [h0]
            rw [hz] at hb
            have Hb := Lib.hid hb
            clear hb h0
            go_wp2_with fail
            go_meet
            case rel => exact ⟨by rw [Hb.out]; rfl, Keeps.refl _ _⟩
      case rest =>
      obtain ⟨rfl, k10⟩ := hcut
      have hC10 := hC9.step k10
      have hb10 := k10.blk hb9 (by simp)
      clear hlx hly x1 y1 g6l g7l hC9 hb9 hby k10
      obtain ⟨be, hbe⟩ : ∃ be, bad11 ((xs.map (·.n)).take k) x.n = be := ⟨_, rfl⟩
      rw [hbe]
      have Hbe := Lib.hid hbe
      clear hbe
      cases be with
      | true =>
        have Hng := Lib.hid (bad_not (xs.map (·.n)) HG.out (recs_at Hx.out) (.inr Hbe.out))
        go_wp2_with fail
        go_ret
        exact ⟨false, rfl, by simpa using Hng.out, hC10.kk⟩
      | false =>
      have hlx := hb10.load
      have x0 := hb10.cell 0
      simp only [List.getElem?_cons_succ, List.getElem?_cons_zero] at x0
      have g6l := hb10.lt
      have hL : lastD xs (k + 1) = (lastD xs k).put (kI x.n.th) (.held (.agg #[.int .i64 x.n.th, .int .i64 x.n.ix, .int .i64 x.n.inv, .int .i64 x.n.pt, .int .i64 x.n.rs, .int .i64 x.code, .string x.key, .int .u64 x.time, .slice x.bA x.b.length x.bc, .int .i64 x.hd, .int .i64 x.cu, .int .i64 x.mo, .int .i64 x.er, .int .u64 x.at_, .string x.ak, .string x.av])) := by rw [lastD, Hx.out]
      have HL := Lib.hid hL
      have hL1 := hC10.lst
      clear hL hb10
      go_wp2_with (first
        | (refine list_load_eq rfl 34 _ rfl _ rfl _ hlx ?_)
        | (at_mapUpdate; refine wpList_mapUpdate_own _ rfl _ _ _ 109 rfl 3 34 lawI Tryz.underlying109 heldR b2 k _ rfl hL1 (by unfold maxLen; omega) _ _ _ rfl rfl (keyI _ hwt) (.held (.agg #[.int .i64 x.n.th, .int .i64 x.n.ix, .int .i64 x.n.inv, .int .i64 x.n.pt, .int .i64 x.n.rs, .int .i64 x.code, .string x.key, .int .u64 x.time, .slice x.bA x.b.length x.bc, .int .i64 x.hd, .int .i64 x.cu, .int .i64 x.mo, .int .i64 x.er, .int .u64 x.at_, .string x.ak, .string x.av])) [] rfl ?_; intro w1 hown1 hgrow1))
      have k11 := Keeps.of_grownBy hgrow1 [b2] (by simp)
      refine ⟨⟨k + 1, by omega, by go_num, ⟨ownsMap_keeps hC10.pts k11 (by simp; exact hC10.ne), by rw [HL.out]; exact hown1, hC10.ne, hC10.kk.trans k11 (by simp; exact hC10.ge2), hC10.ge1, hC10.ge2⟩, Lib.hid fun i r hi hr => ?_⟩, by simp [intOf]; omega⟩
      rcases Nat.lt_or_ge i k with h | h
      · exact HB.out i r h hr
      · obtain rfl : i = k := by omega
        rw [recs_at Hx.out] at hr
        obtain rfl := Option.some.inj hr
        exact ⟨Hbd.out, Hbe.out⟩
    · obtain rfl : k = n := by omega
      have hG : Good (xs.map (·.n)) := (good_iff _ HG.out).1 fun i r hr => HB.out i r (by have := (List.getElem?_eq_some_iff.1 hr).1; rw [List.length_map, Hn.out] at this; exact this) hr
      have Hg := Lib.hid hG
      clear hG
      go_wp2_with fail
      go_ret
      exact ⟨true, rfl, by simpa using Hg.out, hC.kk⟩
end Go.Proofs.YtbcgpjfejpcgnaaGreat
end
section
namespace Go.Proofs.YtbcgpjfejpcgnaaGreat
open Go.RowKit Go.Maps Go.MapKept Go.ChangeMaps
set_option maxRecDepth 100000
set_option linter.unusedSimpArgs false
set_option linter.unusedVariables false
set_option linter.unusedSectionVars false
set_option maxHeartbeats 4000000 in
theorem pvalid_any (T S N C R F K : Int) (xs : List RV) (hn : xs.length ≤ 99) (v : Value) (w : World) (hv : Lst w v xs.length (rCs xs)) (hN : ∀ x ∈ xs, NatX x) (hr : ∀ x ∈ xs, RngA x.n) :
    Calls Tryz.prog 28 #[.agg #[.int .i64 T, .int .i64 S, .int .i64 N, .int .i64 C, .int .i64 R, .int .i64 F, .int .u64 K], v] w fun e w' => ∃ r : Bool, e = .returned (.bool r) ∧ (r = true ↔ exOk T S N C R F K xs) ∧ Keeps [] w w' := by
  have kB := (Keeps.refl [] w).alloc (.cells #[.int .i64 T, .int .i64 S, .int .i64 N, .int .i64 C, .int .i64 R, .int .i64 F, .int .u64 K] 24)
  have bc := Blk.new w [.int .i64 T, .int .i64 S, .int .i64 N, .int .i64 C, .int .i64 R, .int .i64 F, .int .u64 K] 24
  obtain ⟨W, hW⟩ : ∃ W, W = w.alloc (.cells #[.int .i64 T, .int .i64 S, .int .i64 N, .int .i64 C, .int .i64 R, .int .i64 F, .int .u64 K] 24) := ⟨_, rfl⟩
  have bc' : Blk W w.heap.size [.int .i64 T, .int .i64 S, .int .i64 N, .int .i64 C, .int .i64 R, .int .i64 F, .int .u64 K] := by rw [hW]; exact bc
  rw [← hW] at kB
  have hvl : Calls Tryz.prog 40 #[.agg #[.int .i64 T, .int .i64 S, .int .i64 N, .int .i64 C, .int .i64 R, .int .i64 F, .int .u64 K]] W fun e w' => e = .returned (.bool (O.cfgB T S N C R F K)) ∧ Keeps [] W w' := by
    by_cases h : O.CfgOK T S N C R F K
    · rw [O.cfgB_yes h]; exact O.valid_yes T S N C R F K h W
    · rw [O.cfgB_no h]; exact O.valid_no T S N C R F K h W
  have HW := Lib.hid hW
  have HV := Lib.hid hv
  have HB := Lib.hid (And.intro kB bc')
  have hck := fun u (k : Keeps [] w u) => check_anyR xs (by omega) hr v u (hv.keeps k)
  obtain ⟨d0, d1, d2, d3, d4, d5, d6, df, dl⟩ := bc'.o7
  obtain ⟨n, hn'⟩ : ∃ n, xs.length = n := ⟨_, rfl⟩
  obtain ⟨A, cap, bv_, ov_, rfl, hA, _⟩ := hv
  rw [hn'] at hn HV hck hA
  rw [hn']
  have Hn := Lib.hid hn'
  clear hn' hW kB bc bc'
  go_enter Tryz.func28, Tryz.ntmps28
  go_upto_region 1 with fail
  rw [← HW.out]
  go_wp2_with fail
  refine hvl.mono ?_
  rintro e w1 ⟨rfl, k1⟩
  obtain ⟨kB, bc⟩ := HB.out
  have kB1 := kB.trans k1 (by simp)
  have bc1 := k1.blk bc (by simp)
  have hck1 := hck _ kB1
  have HB1 := Lib.hid (And.intro kB1 bc1)
  clear kB bc k1 kB1 bc1 HW HB hvl hck d0 d1 d2 d3 d4 d5 d6 df dl
  by_cases hcf : O.cfgB T S N C R F K = true
  case neg =>
    have hcf' : O.cfgB T S N C R F K = false := by simpa using hcf
    have HE : Hid (¬ exOk T S N C R F K xs) := Lib.hid (fun h => hcf h.1)
    rw [hcf']
    clear hcf hcf'
    go_wp2_with fail
    go_ret
    exact ⟨false, rfl, by simpa using HE.out, HB1.out.1⟩
  case pos =>
  have Hcf := Lib.hid hcf
  rw [hcf]
  clear hcf
  go_wp2_with fail
  refine hck1.mono ?_
  rintro e w2 ⟨r, rfl, hgood, k2⟩
  obtain ⟨kB, bc⟩ := HB1.out
  have kB2 := kB.trans k2 (by simp)
  have bc2 := k2.blk bc (by simp)
  clear kB bc k2 hck1 HB1
  cases r with
  | false =>
    have HE : Hid (¬ exOk T S N C R F K xs) := Lib.hid (fun h => by simpa using hgood.2 h.2.1)
    have HX := Lib.hid kB2
    clear hgood kB2 bc2
    go_wp2_with fail
    go_ret
    exact ⟨false, rfl, by simpa using HE.out, HX.out⟩
  | true =>
    have Hgood := Lib.hid (hgood.1 rfl)
    have HX := Lib.hid (And.intro kB2 bc2)
    clear hgood kB2 bc2
    by_cases hn0 : n = 0
    · have hnil : xs = [] := List.eq_nil_of_length_eq_zero (by have := Hn.out; omega)
      have HE : Hid (exOk T S N C R F K xs) := Lib.hid ⟨Hcf.out, Hgood.out, by rw [hnil]; simp⟩
      subst hn0
      clear hnil hA
      go_wp2_with fail
      go_loopw [17] (fun i wr => i = .int .i64 0 ∧ wr = w2) (fun i _ => 0)
      case atStart => exact ⟨rfl, rfl⟩
      case round =>
        obtain ⟨rfl, rfl⟩ := hrel
        go_wp2_with fail
        go_ret
        exact ⟨true, rfl, by simpa using HE.out, HX.out.1⟩
    obtain rfl := hA (by omega)
    go_wp2_with fail
    go_loopw [17] (fun i wr => ∃ k : Nat, k ≤ n ∧ i = .int .i64 k ∧ Keeps [] w2 wr ∧ Hid (∀ j x, j < k → xs[j]? = some x → okR T S x)) (fun i _ => n - (intOf i).toNat)
    case atStart => exact ⟨0, by omega, rfl, Keeps.refl _ _, Lib.hid (fun i r h => by omega)⟩
    case round =>
      obtain ⟨k, hk, rfl, kk, HO⟩ := hrel
      by_cases hlt : k < n
      · obtain ⟨x, hx⟩ : ∃ x, xs[k]? = some x := ⟨_, List.getElem?_eq_getElem (by rw [Hn.out]; exact hlt)⟩
        have hxm := List.mem_of_getElem? hx
        have K2 := HX.out.1.trans kk (by simp)
        obtain ⟨g', o', hgo, hc, hg⟩ := (HV.out.keeps K2).atS Hn.out hx
        have e1 : g' = bv_ := by simp at hgo; exact hgo.1.symm
        have e2 : o' = ov_ := by simp at hgo; exact hgo.2.symm
        rw [e1, e2] at hc
        clear hgo e1 e2 hg
        have hl0 := hc.load
        have hst := store_new wr x
        have Hbk := Lib.hid (new_rec wr x)
        have hkn : (k : Int) < (n : Int) := by omega
        have Hx := Lib.hid hx
        have Hm := Lib.hid hxm
        clear hx hc hxm K2
        go_upto_region 5 with fail
        go_cut [6] from 19 to 33 (fun s6 wx => ∃ g6 : Nat, s6 = .pointer (some ⟨g6, 0, none⟩) ∧ Blk wx g6 [.int .i64 x.n.th, .int .i64 x.n.ix, .int .i64 x.n.inv, .int .i64 x.n.pt, .int .i64 x.n.rs, .int .i64 x.code, .string x.key, .int .u64 x.time, .slice x.bA x.b.length x.bc, .int .i64 x.hd, .int .i64 x.cu, .int .i64 x.mo, .int .i64 x.er, .int .u64 x.at_, .string x.ak, .string x.av] ∧ Keeps [] w2 wx)
        case first =>
          go_wp2_with (first
            | (refine list_load_eq rfl 34 _ rfl _ rfl _ hl0 ?_)
            | (refine list_store_eq rfl 34 _ _ rfl _ rfl _ rfl (hst _ rfl) ?_))
          go_meet
          case rel => exact ⟨_, rfl, Hbk.out, kk.alloc _⟩
        case rest =>
        obtain ⟨g6, rfl, b6, k6⟩ := hcut
        obtain ⟨w6, hw6⟩ : ∃ w6, w6 = wc := ⟨_, rfl⟩
        rw [← hw6] at b6 k6 ⊢
        clear hl0 hst Hbk kk hw6
        obtain ⟨r0, r1, r2, r3, r4, r5, r6, r7, r8, r9, r10, r11, r12, r13, r14, r15, rf, rl⟩ := Blk.o16 b6
        have bcr := k6.blk HX.out.2 (by simp)
        obtain ⟨d0, d1, d2, d3, d4, d5, d6, df, dl⟩ := bcr.o7
        have hT := O.cliValid_any T S N C R F K (ovO x)
        have H6 := Lib.hid k6
        clear b6 bcr k6
        by_cases hth : x.n.th < T
        · have hth' : ¬ T ≤ x.n.th := by omega
          have hv2 : ∀ u, Calls Tryz.prog 42 #[.agg #[.int .i64 T, .int .i64 S, .int .i64 N, .int .i64 C, .int .i64 R, .int .i64 F, .int .u64 K], .agg #[.int .i64 x.code, .string x.key, .int .u64 x.time, .slice x.bA x.b.length x.bc, .int .i64 x.hd, .int .i64 x.cu, .int .i64 x.mo]] u fun q w' => q = .returned (.bool (O.vOp S (ovO x).op)) ∧ Keeps [] u w' := fun u => by
            have := hT u
            simp only [ovO, key_back] at this
            rw [Int.toNat_of_nonneg (hN x Hm.out).1.1] at this
            exact this
          obtain ⟨vo, hvo⟩ : ∃ vo, O.vOp S (ovO x).op = vo := ⟨_, rfl⟩
          rw [hvo] at hv2
          have Hvo := Lib.hid hvo
          clear hT hvo
          go_wp2_with fail
          refine (hv2 _).mono ?_
          rintro e w7 ⟨rfl, k7⟩
          have kkc := H6.out.trans k7 (by simp)
          clear hv2 r0 r1 r2 r3 r4 r5 r6 r7 r8 r9 r10 r11 r12 r13 r14 r15 rf rl d0 d1 d2 d3 d4 d5 d6 df dl k7 H6
          cases vo with
          | true =>
            go_wp2_with fail
            exact ⟨⟨k + 1, by omega, by go_num, kkc, Lib.hid (fun j y hj hy => by
              by_cases hjk : j = k
              · subst hjk
                rw [Hx.out] at hy
                cases hy
                exact ⟨hth, Hvo.out⟩
              · exact HO.out j y (by omega) hy)⟩, by simp [intOf]; omega⟩
          | false =>
            have HE : Hid (¬ exOk T S N C R F K xs) := Lib.hid (exOk_not Hm.out (fun h => by have := h.2; rw [Hvo.out] at this; exact absurd this (by simp)))
            have HY := Lib.hid (HX.out.1.trans kkc (by simp))
            clear kkc
            go_wp2_with fail
            go_ret
            exact ⟨false, rfl, by simpa using HE.out, HY.out⟩
        · have hth' : T ≤ x.n.th := by omega
          have HE : Hid (¬ exOk T S N C R F K xs) := Lib.hid (exOk_not Hm.out (fun h => hth h.1))
          have HY := Lib.hid (HX.out.1.trans H6.out (by simp))
          clear hT HO hth
          go_wp2_with fail
          go_ret
          exact ⟨false, rfl, by simpa using HE.out, HY.out⟩
      · obtain rfl : k = n := by omega
        have Hok : Hid (exOk T S N C R F K xs) := Lib.hid ⟨Hcf.out, Hgood.out, fun x hx => by
          obtain ⟨j, hj⟩ := List.mem_iff_getElem?.1 hx
          exact HO.out j x (by have := (List.getElem?_eq_some_iff.1 hj).1; rw [Hn.out] at this; exact this) hj⟩
        have K2 := Lib.hid (HX.out.1.trans kk (by simp))
        clear HO kk hlt hk
        go_wp2_with fail
        go_ret
        exact ⟨true, rfl, by simpa using Hok.out, K2.out⟩
end Go.Proofs.YtbcgpjfejpcgnaaGreat
end
