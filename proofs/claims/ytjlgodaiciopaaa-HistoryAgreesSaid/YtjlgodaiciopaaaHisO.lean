/- The contracts of the reference's SameOp, Same and SameList, where both sides are equal. -/
import Derived.Test.YtjlgodaiciopaaaHisC
import Derived.BigQuiet
namespace Go.Proofs.Ytjlgodaiciopaaa
open Go.RowKit
set_option maxRecDepth 100000
set_option linter.unusedSimpArgs false
set_option maxHeartbeats 1000000
theorem wp_region_keeps {P : Program} {id : Nat} {Q : Exit → Act → World → Prop} {a : Act} {w : World} {l : List Oper} (hm : P.follows .mixedOrders = true) (hB : Region.lexB .any l.toArray = true)
    (h : wpQuiet P l.toArray (fun w' => Keeps [] w w') (fun a' => ∀ w', Keeps [] w w' → Q .normal a' w') l a) : (Code.region id l.toArray true).wp P Q a w :=
  wp_region_quiet (C := fun w' => Keeps [] w w') hm hB ((Keeps.refl [] w).drew) (by simpa using h)
theorem quiet_load {P : Program} {ops : Array Oper} {C : World → Prop} {Q : Act → Prop} {rest : List Oper} {o : Oper} {a : Act} (hgd : o.guard = none) (ty : TypeId) (x : Operand) (ho : o.op = .load ty x) (p : Addr) (hx : a.eval x = .pointer (some p)) (v : Value)
    (hr : ∀ w, C w → (loadVar ty p).run P w = .ok v w) (h : wpQuiet P ops C Q rest (a.put o.dst v)) : wpQuiet P ops C Q (o :: rest) a := by
  unfold wpQuiet
  rw [if_pos (by simp [Region.wanted, hgd])]
  refine ⟨v, fun w hw => ?_, h⟩
  unfold Oper.quietAt execOp
  simp only [ho, hx, Instr.loadAt, Instr.sureAddr, Sem.run_bind, Sem.run_pure, Result.andThen_ok, hr w hw]
  exact ⟨rfl, rfl⟩
theorem sameop_any (x y : RV) (hxy : strip x = strip y) (hn : x.b.length ≤ 4611686018427387904) (w : World) (hx : OkB w x) (hy : OkB w y) : Calls Try.prog 34 #[.agg #[.int .i64 x.code, .string x.key, .int .u64 x.time, .slice x.bA x.b.length x.bc, .int .i64 x.hd, .int .i64 x.cu, .int .i64 x.mo], .agg #[.int .i64 y.code, .string y.key, .int .u64 y.time, .slice y.bA y.b.length y.bc, .int .i64 y.hd, .int .i64 y.cu, .int .i64 y.mo]] w fun e w' => e = .returned (.bool true) ∧ Keeps [] w w' := by
  obtain ⟨n1, code, key, time, bA, bc, b, hd, cu, mo, er, at_, ak, av⟩ := x
  obtain ⟨n1', code', key', time', bA', bc', b', hd', cu', mo', er', at_', ak', av'⟩ := y
  simp only [strip, RV.mk.injEq] at hxy
  obtain ⟨rfl, rfl, rfl, rfl, _, _, rfl, rfl, rfl, rfl, rfl, rfl, rfl, rfl⟩ := hxy
  obtain ⟨A, c, bb, o, e1, h1, h2⟩ := hx
  obtain ⟨A', c', bb', o', e2, h1', h2'⟩ := hy
  injection e1 with q1 _ q2
  injection e2 with q3 _ q4
  subst q1 q2 q3 q4
  simp only at hn h1 h2 h1' h2' ⊢
  obtain ⟨n, hnn⟩ : ∃ n, b.length = n := ⟨_, rfl⟩
  rw [hnn] at hn h1 h1' ⊢
  have Hn := Lib.hid hnn
  have hself : ((n : Int) != (n : Int)) = false := by simp
  have s1 : ((code : Int) == code) = true := by simp
  have s2 : ((time : Int) == time) = true := by simp
  have s3 : ((hd : Int) == hd) = true := by simp
  have s4 : ((cu : Int) == cu) = true := by simp
  have s5 : ((mo : Int) == mo) = true := by simp
  have s6 : (key.toList == key.toList) = true := by simp
  have K2 : Keeps [] w ((w.alloc (.cells #[.int .i64 code, .string key, .int .u64 time, .slice bA n bc, .int .i64 hd, .int .i64 cu, .int .i64 mo] 31)).alloc (.cells #[.int .i64 code, .string key, .int .u64 time, .slice bA' n bc', .int .i64 hd, .int .i64 cu, .int .i64 mo] 31)) := ((Keeps.refl [] w).alloc _).alloc _
  have hb1 := (Blk.new w [.int .i64 code, .string key, .int .u64 time, .slice bA n bc, .int .i64 hd, .int .i64 cu, .int .i64 mo] 31).alloc (.cells #[.int .i64 code, .string key, .int .u64 time, .slice bA' n bc', .int .i64 hd, .int .i64 cu, .int .i64 mo] 31)
  have hb2 := Blk.new_at (w.alloc (.cells #[.int .i64 code, .string key, .int .u64 time, .slice bA n bc, .int .i64 hd, .int .i64 cu, .int .i64 mo] 31)) (w.heap.size + 1) [.int .i64 code, .string key, .int .u64 time, .slice bA' n bc', .int .i64 hd, .int .i64 cu, .int .i64 mo] 31 (by simp)
  clear hnn
  go_enter Try.func34, Try.ntmps34
  go_wp2_with fail
  generalize w.heap.size + 1 = g2 at hb2 ⊢
  generalize w.heap.size = g1 at hb1 ⊢
  generalize hW : (w.alloc (.cells #[.int .i64 code, .string key, .int .u64 time, .slice bA n bc, .int .i64 hd, .int .i64 cu, .int .i64 mo] 31)).alloc (.cells #[.int .i64 code, .string key, .int .u64 time, .slice bA' n bc', .int .i64 hd, .int .i64 cu, .int .i64 mo] 31) = W at hb1 hb2 K2 ⊢
  have hb1' : Blk W g1 [.int .i64 code, .string key, .int .u64 time, .slice bA n bc, .int .i64 hd, .int .i64 cu, .int .i64 mo] := hb1
  have hb2' : Blk W g2 [.int .i64 code, .string key, .int .u64 time, .slice bA' n bc', .int .i64 hd, .int .i64 cu, .int .i64 mo] := hb2
  obtain ⟨p0, p1, p2, p3, p4, p5, p6, pf, pl⟩ := hb1'.o7
  obtain ⟨q0, q1, q2, q3, q4, q5, q6, qf, ql⟩ := hb2'.o7
  have har := Lib.hid (h2.keeps K2 (by simp))
  have har' := Lib.hid (h2'.keeps K2 (by simp))
  clear hW hb1 hb2 hb1' hb2' h2 h2'
  go_loopw [5] (fun i wr => ∃ k z : Nat, k ≤ n ∧ i = .int .i64 k ∧ wr = W.drewN z) (fun i _ => n - (intOf i).toNat)
  case atStart => exact ⟨0, 0, by omega, rfl, rfl⟩
  case round =>
    obtain ⟨k, z, hk, rfl, rfl⟩ := hrel
    by_cases hlt : k < n
    · obtain rfl := h1 (by omega)
      obtain rfl := h1' (by omega)
      obtain ⟨x, hx⟩ : ∃ x, b[k]? = some x := ⟨_, List.getElem?_eq_getElem (by rw [Hn.out]; exact hlt)⟩
      obtain ⟨c0, c1, c2, cl⟩ := har.out.wrt hx
      obtain ⟨d0, d1, d2, dl⟩ := har'.out.wrt hx
      have hkn : (k : Int) < (n : Int) := by omega
      clear hx
      go_wp2_with fail
      go_quiet (fail)
      go_wp2_with fail
      go_roundw
      case rel => exact ⟨k + 1, _, by omega, by go_num, rfl⟩
      case measure => simp [intOf]; omega
    · obtain rfl : k = n := by omega
      go_wp2_with fail
      go_ret
      exact ⟨rfl, K2.drewN _⟩
theorem same_any (x y : RV) (hxy : strip x = strip y) (hn : x.b.length ≤ 4611686018427387904) (w : World) (hx : OkB w x) (hy : OkB w y) : Calls Try.prog 28 #[.agg #[.int .i64 x.n.th, .int .i64 x.n.ix, .int .i64 x.n.inv, .int .i64 x.n.pt, .int .i64 x.n.rs, .int .i64 x.code, .string x.key, .int .u64 x.time, .slice x.bA x.b.length x.bc, .int .i64 x.hd, .int .i64 x.cu, .int .i64 x.mo, .int .i64 x.er, .int .u64 x.at_, .string x.ak, .string x.av], .agg #[.int .i64 y.n.th, .int .i64 y.n.ix, .int .i64 y.n.inv, .int .i64 y.n.pt, .int .i64 y.n.rs, .int .i64 y.code, .string y.key, .int .u64 y.time, .slice y.bA y.b.length y.bc, .int .i64 y.hd, .int .i64 y.cu, .int .i64 y.mo, .int .i64 y.er, .int .u64 y.at_, .string y.ak, .string y.av]] w fun e w' => e = .returned (.bool true) ∧ Keeps [] w w' := by
  have K2 : Keeps [] w ((w.alloc (.cells #[.int .i64 x.n.th, .int .i64 x.n.ix, .int .i64 x.n.inv, .int .i64 x.n.pt, .int .i64 x.n.rs, .int .i64 x.code, .string x.key, .int .u64 x.time, .slice x.bA x.b.length x.bc, .int .i64 x.hd, .int .i64 x.cu, .int .i64 x.mo, .int .i64 x.er, .int .u64 x.at_, .string x.ak, .string x.av] 36)).alloc (.cells #[.int .i64 y.n.th, .int .i64 y.n.ix, .int .i64 y.n.inv, .int .i64 y.n.pt, .int .i64 y.n.rs, .int .i64 y.code, .string y.key, .int .u64 y.time, .slice y.bA y.b.length y.bc, .int .i64 y.hd, .int .i64 y.cu, .int .i64 y.mo, .int .i64 y.er, .int .u64 y.at_, .string y.ak, .string y.av] 36)) := ((Keeps.refl [] w).alloc _).alloc _
  have hsk := sameop_any x y hxy hn _ (hx.keeps K2) (hy.keeps K2)
  clear hx hy
  obtain ⟨n1, code, key, time, bA, bc, b, hd, cu, mo, er, at_, ak, av⟩ := x
  obtain ⟨n1', code', key', time', bA', bc', b', hd', cu', mo', er', at_', ak', av'⟩ := y
  simp only [strip, RV.mk.injEq] at hxy
  obtain ⟨rfl, rfl, rfl, rfl, _, _, rfl, rfl, rfl, rfl, rfl, rfl, rfl, rfl⟩ := hxy
  simp only at hsk K2 ⊢
  go_enter Try.func28, Try.ntmps28
  go_wp2_with fail
  refine hsk.mono ?_
  rintro e w1 ⟨rfl, k1⟩
  go_wp2_with fail
  go_ret
  exact ⟨rfl, K2.trans k1 (by simp)⟩
theorem samelist_any (xs ys : List RV) (hxy : xs.map strip = ys.map strip) (hn : xs.length ≤ 1000) (v u : Value) (w : World) (hv : Lst w v xs.length (rCs xs)) (hu : Lst w u ys.length (rCs ys)) (hx : ∀ x ∈ xs, OkB w x ∧ x.b.length ≤ 4611686018427387904) (hy : ∀ y ∈ ys, OkB w y) :
    Calls Try.prog 16 #[v, u] w fun e w' => e = .returned (.bool true) ∧ Keeps [] w w' := by
  have mixed : Try.prog.follows .mixedOrders = true := by kernel_rfl
  have hl : xs.length = ys.length := by have := congrArg List.length hxy; simpa using this
  have HX := Lib.hid hx
  have HY := Lib.hid hy
  have HE := Lib.hid hxy
  have HV := Lib.hid hv
  have HU := Lib.hid hu
  obtain ⟨n, hn'⟩ : ∃ n, xs.length = n := ⟨_, rfl⟩
  have hm' : ys.length = n := by rw [← hl, hn']
  obtain ⟨A, cap, b, o, rfl, _, _⟩ := hv
  obtain ⟨A', cap', b', o', rfl, _, _⟩ := hu
  rw [hn'] at hn HV ⊢
  rw [hm'] at HU ⊢
  have Hn := Lib.hid hn'
  have Hm := Lib.hid hm'
  have hself : ((n : Int) != (n : Int)) = false := by simp
  clear hn' hm' hx hy hxy hl
  go_enter Try.func16, Try.ntmps16
  go_wp2_with fail
  go_loopw [5] (fun i wr => ∃ k : Nat, k ≤ n ∧ i = .int .i64 k ∧ Keeps [] w wr) (fun i _ => n - (intOf i).toNat)
  case atStart => exact ⟨0, by omega, rfl, Keeps.refl _ _⟩
  case round =>
    obtain ⟨k, hk, rfl, kk⟩ := hrel
    by_cases hlt : k < n
    · obtain ⟨x, hx⟩ : ∃ x, xs[k]? = some x := ⟨_, List.getElem?_eq_getElem (by rw [Hn.out]; exact hlt)⟩
      obtain ⟨y, hy⟩ : ∃ y, ys[k]? = some y := ⟨_, List.getElem?_eq_getElem (by rw [Hm.out]; exact hlt)⟩
      have hxy : strip x = strip y := by
        have := congrArg (·[k]?) HE.out
        simp only [List.getElem?_map, hx, hy, Option.map_some, Option.some.injEq] at this
        exact this
      obtain ⟨g1, o1, rfl, hc1, hg1⟩ := (HV.out.keeps kk).atS Hn.out hx
      obtain ⟨g2, o2, rfl, hc2, hg2⟩ := (HU.out.keeps kk).atS Hm.out hy
      have ld1 : ∀ w', Keeps [] wr w' → (loadVar 36 ⟨g1, o1 + k * 16, none⟩).run Try.prog w' = .ok (.agg #[.int .i64 x.n.th, .int .i64 x.n.ix, .int .i64 x.n.inv, .int .i64 x.n.pt, .int .i64 x.n.rs, .int .i64 x.code, .string x.key, .int .u64 x.time, .slice x.bA x.b.length x.bc, .int .i64 x.hd, .int .i64 x.cu, .int .i64 x.mo, .int .i64 x.er, .int .u64 x.at_, .string x.ak, .string x.av]) w' := fun w' k' => (hc1.keeps k' (by simp)).load
      have ld2 : ∀ w', Keeps [] wr w' → (loadVar 36 ⟨g2, o2 + k * 16, none⟩).run Try.prog w' = .ok (.agg #[.int .i64 y.n.th, .int .i64 y.n.ix, .int .i64 y.n.inv, .int .i64 y.n.pt, .int .i64 y.n.rs, .int .i64 y.code, .string y.key, .int .u64 y.time, .slice y.bA y.b.length y.bc, .int .i64 y.hd, .int .i64 y.cu, .int .i64 y.mo, .int .i64 y.er, .int .u64 y.at_, .string y.ak, .string y.av]) w' := fun w' k' => (hc2.keeps k' (by simp)).load
      have hcall : ∀ w', Keeps [] wr w' → Calls Try.prog 28 #[.agg #[.int .i64 x.n.th, .int .i64 x.n.ix, .int .i64 x.n.inv, .int .i64 x.n.pt, .int .i64 x.n.rs, .int .i64 x.code, .string x.key, .int .u64 x.time, .slice x.bA x.b.length x.bc, .int .i64 x.hd, .int .i64 x.cu, .int .i64 x.mo, .int .i64 x.er, .int .u64 x.at_, .string x.ak, .string x.av], .agg #[.int .i64 y.n.th, .int .i64 y.n.ix, .int .i64 y.n.inv, .int .i64 y.n.pt, .int .i64 y.n.rs, .int .i64 y.code, .string y.key, .int .u64 y.time, .slice y.bA y.b.length y.bc, .int .i64 y.hd, .int .i64 y.cu, .int .i64 y.mo, .int .i64 y.er, .int .u64 y.at_, .string y.ak, .string y.av]] w' fun e w'' => e = .returned (.bool true) ∧ Keeps [] wr w'' := fun w' k' =>
        (same_any x y hxy (HX.out x (List.mem_of_getElem? hx)).2 w' (((HX.out x (List.mem_of_getElem? hx)).1.keeps kk).keeps k') (((HY.out y (List.mem_of_getElem? hy)).keeps kk).keeps k')).mono fun e w'' h => ⟨h.1, k'.trans h.2 (by simp)⟩
      have hkn : (k : Int) < (n : Int) := by omega
      have L1 := Lib.hid ld1
      have L2 := Lib.hid ld2
      have HC := Lib.hid hcall
      clear hx hy hxy hc1 hc2 ld1 ld2 hcall
      go_upto_region 6 with fail
      go_cut [26] from 11 to 26 (fun s wx => s = .bool false ∧ Keeps [] wr wx)
      case first =>
        refine wp_region_keeps mixed (by kernel_rfl) ?_
        refine wpQuiet_step (fun K hK => ?_)
        go_simp
        refine ⟨_, fun _ _ => rfl, hK _ ?_⟩
        clear hK K
        refine wpQuiet_step (fun K hK => ?_)
        go_simp
        refine ⟨_, fun _ _ => rfl, hK _ ?_⟩
        clear hK K
        refine wpQuiet_step (fun K hK => ?_)
        go_simp
        refine ⟨_, fun _ _ => rfl, hK _ ?_⟩
        clear hK K
        refine quiet_load rfl 36 _ rfl _ rfl _ (fun w1 hw1 => L1.out w1 hw1) ?_
        refine wpQuiet_step (fun K hK => ?_)
        go_simp
        refine ⟨_, fun _ _ => rfl, hK _ ?_⟩
        clear hK K
        refine wpQuiet_step (fun K hK => ?_)
        go_simp
        refine ⟨_, fun _ _ => rfl, hK _ ?_⟩
        clear hK K
        refine wpQuiet_step (fun K hK => ?_)
        go_simp
        refine ⟨_, fun _ _ => rfl, hK _ ?_⟩
        clear hK K
        refine quiet_load rfl 36 _ rfl _ rfl _ (fun w1 hw1 => L2.out w1 hw1) ?_
        refine wpQuiet_step (fun K hK => ?_)
        go_simp
        apply Exists.intro
        refine ⟨fun w1 hw1 => HC.out w1 hw1, hK _ ?_⟩
        clear hK K
        refine wpQuiet_step (fun K hK => ?_)
        go_simp
        refine ⟨_, fun _ _ => rfl, hK _ ?_⟩
        clear hK K
        refine wpQuiet_nil ?_
        intro w1 hw1
        go_wp2_with fail
        go_meet
        case rel => exact ⟨rfl, hw1⟩
      case rest =>
      obtain ⟨rfl, k2⟩ := hcut
      go_wp2_with fail
      exact ⟨⟨k + 1, by omega, by go_num, kk.trans k2 (by simp)⟩, by simp [intOf]; omega⟩
    · obtain rfl : k = n := by omega
      go_wp2_with fail
      go_ret
      exact ⟨rfl, kk⟩
end Go.Proofs.Ytjlgodaiciopaaa
