/- Lemmas on the way to LinearAcceptsSequential. No condition. -/
import Derived.Test.YtbcgpjfejpcgnaaGreatRAs
import Derived.Test.YtbcgpjfejpcgnaaGreatRBd
import Derived.Deep.RegionHeld3
import Derived.Deep.CutRange
set_option linter.unusedSimpArgs false
set_option linter.unusedVariables false
set_option linter.unusedSectionVars false
section
namespace Go.Proofs.YtbcgpjfejpcgnaaGreat
open Go.RowKit Go.Maps Go.MapKept Go.ChangeMaps
set_option maxRecDepth 100000
set_option linter.unusedSimpArgs false
set_option linter.unusedVariables false
set_option linter.unusedSectionVars false
variable {w w' : World} {base p m ns nc N : Nat} {Q : List Nat} {s : WS}
def EoP (w : World) (base p m ns nc : Nat) (Q : List Nat) (N : Nat) (r : Bool × WS) (e : Ending) (w' : World) : Prop := e = .returned (.bool r.1) ∧ PR w' base p m ns nc Q N r.2 ∧ Kq base Q ns nc w w'
set_option maxHeartbeats 4000000 in
theorem pe9 (h : PR w base p m ns nc Q N s) {n : Nat} (hi : Inv n s) (hn : n ≤ 25) (hN : N ≤ 4000) (x : RX) (hx : OkX x) (hok : OkX' w x) (hbl : x.b.length ≤ 1000) (ht : x.time ≤ 18446744073709551615) (hcd : x.code = 9) :
    Calls Tryz.prog 31 #[.pointer (some ⟨p, 0, none⟩), .agg #[.int .i64 (x.t : Int), .int .i64 x.ix, .int .i64 x.inv, .int .i64 x.pt, .int .i64 x.rs, .int .i64 (x.code : Int), .string ⟨x.key.toArray⟩, .int .u64 (x.time : Int), .slice x.bA x.b.length x.bc, .int .i64 (x.hd : Int), .int .i64 (x.cu : Int), .int .i64 (x.mo : Int), .int .i64 x.er, .int .u64 (x.at_ : Int), .string ⟨x.ak.toArray⟩, .string ⟨x.av.toArray⟩]] w (EoP w base p m ns nc (Q ++ [w.heap.size]) (N + 1) (expO s x)) := by
  have K := (Keeps.refl [] w).alloc (.cells #[.int .i64 (x.t : Int), .int .i64 x.ix, .int .i64 x.inv, .int .i64 x.pt, .int .i64 x.rs, .int .i64 (x.code : Int), .string ⟨x.key.toArray⟩, .int .u64 (x.time : Int), .slice x.bA x.b.length x.bc, .int .i64 (x.hd : Int), .int .i64 (x.cu : Int), .int .i64 (x.mo : Int), .int .i64 x.er, .int .u64 (x.at_ : Int), .string ⟨x.ak.toArray⟩, .string ⟨x.av.toArray⟩] 34)
  have bR := Blk.new w [.int .i64 (x.t : Int), .int .i64 x.ix, .int .i64 x.inv, .int .i64 x.pt, .int .i64 x.rs, .int .i64 (x.code : Int), .string ⟨x.key.toArray⟩, .int .u64 (x.time : Int), .slice x.bA x.b.length x.bc, .int .i64 (x.hd : Int), .int .i64 (x.cu : Int), .int .i64 (x.mo : Int), .int .i64 x.er, .int .u64 (x.at_ : Int), .string ⟨x.ak.toArray⟩, .string ⟨x.av.toArray⟩] 34
  obtain ⟨W, hW⟩ : ∃ W, W = w.alloc (.cells #[.int .i64 (x.t : Int), .int .i64 x.ix, .int .i64 x.inv, .int .i64 x.pt, .int .i64 x.rs, .int .i64 (x.code : Int), .string ⟨x.key.toArray⟩, .int .u64 (x.time : Int), .slice x.bA x.b.length x.bc, .int .i64 (x.hd : Int), .int .i64 (x.cu : Int), .int .i64 (x.mo : Int), .int .i64 x.er, .int .u64 (x.at_ : Int), .string ⟨x.ak.toArray⟩, .string ⟨x.av.toArray⟩] 34) := ⟨_, rfl⟩
  have bR' : Blk W w.heap.size [.int .i64 (x.t : Int), .int .i64 x.ix, .int .i64 x.inv, .int .i64 x.pt, .int .i64 x.rs, .int .i64 (x.code : Int), .string ⟨x.key.toArray⟩, .int .u64 (x.time : Int), .slice x.bA x.b.length x.bc, .int .i64 (x.hd : Int), .int .i64 (x.cu : Int), .int .i64 (x.mo : Int), .int .i64 x.er, .int .u64 (x.at_ : Int), .string ⟨x.ak.toArray⟩, .string ⟨x.av.toArray⟩] := by rw [hW]; exact bR
  rw [← hW] at K
  have hsz := h.nel
  have hR := h.addQ K (L := [w.heap.size]) (by have := bR'.lt; intro g hg; simp at hg; omega)
  have hok1 : OkX' W x := hok.keeps K
  have HW := Lib.hid hW
  have Hcd := Lib.hid hcd
  obtain ⟨RR, hRR⟩ : ∃ RR, expO s x = RR := ⟨_, rfl⟩
  rw [hRR]
  have HR := Lib.hid hRR
  obtain ⟨z0, z1, z2, zf, zl⟩ := hR.hp.o3
  obtain ⟨r0, r1, r2, r3, r4, r5, r6, r7, r8, r9, r10, r11, r12, r13, r14, r15, rf, rl⟩ := Blk.o16 bR'
  have e9 : ((x.code : Int) == 9) = true := by rw [beq_iff_eq]; have := hcd; omega
  have heq : ∀ w : World, (binOp .eql 32 (.agg #[.int .i64 x.er, .int .u64 (x.at_ : Int), .string ⟨x.ak.toArray⟩, .string ⟨x.av.toArray⟩]) (.agg #[.int .i64 0, .int .u64 (x.at_ : Int), .string ⟨#[]⟩, .string ⟨#[]⟩])).run Tryz.prog w = .ok (.bool (anB (ansX x) (okA x.at_))) w := fun w => eq_ans (ansX x) (okA x.at_) w
  obtain ⟨bb, hbb⟩ : ∃ bb, anB (ansX x) (okA x.at_) = bb := ⟨_, rfl⟩
  rw [hbb] at heq
  have Hbb := Lib.hid hbb
  have hra := (hR.keeps (Keeps.refl [] W).drew).mo.raise (by have := hi.nB; omega) (by have := hi.nS; omega) (fun p hp => (hi.bS p hp).2.2) x.at_
  have hS : ∀ w' : World, Keeps [] W w' → (w'.cell? ⟨p, 0, none⟩ = some (.pointer (some ⟨m, 0, none⟩)) ∧ w'.cell? ⟨w.heap.size, 12, none⟩ = some (.int .i64 x.er) ∧ w'.cell? ⟨w.heap.size, 13, none⟩ = some (.int .u64 (x.at_ : Int)) ∧ w'.cell? ⟨w.heap.size, 14, none⟩ = some (.string ⟨x.ak.toArray⟩) ∧ w'.cell? ⟨w.heap.size, 15, none⟩ = some (.string ⟨x.av.toArray⟩)) := fun w' k => ⟨k.cellEq z0 (by simp), k.cellEq r12 (by simp), k.cellEq r13 (by simp), k.cellEq r14 (by simp), k.cellEq r15 (by simp)⟩
  clear hbb
  have HZ := Lib.hid (And.intro K (And.intro bR' (And.intro hR hok1)))
  clear K bR bR' h hR hok hok1 hRR hW hcd
  go_enter Tryz.func31, Tryz.ntmps31
  go_upto_region 1 with fail
  rw [← HW.out]
  cases bb with
  | false =>
    have hRv : RR = (false, s) := by rw [← HR.out]; unfold expO; rw [if_pos Hcd.out, if_neg (by rw [Hbb.out]; simp)]
    have HRv := Lib.hid hRv
    have HX := Lib.hid (And.intro (HZ.out.2.2.1.keeps (Keeps.refl [] W).drew) (HZ.out.1.trans (Keeps.refl [] W).drew (by simp)))
    clear hra hRv hS
    go_wp2_with fail
    go_region
    all_goals
      go_wp2_with fail
      go_ret
      exact ⟨by first | (rw [HRv.out]; rfl) | rw [HRv.out], by rw [HRv.out]; exact HX.out.1.mono (by omega), Kq.of HX.out.2⟩
  | true =>
    obtain ⟨dd, hdd⟩ : ∃ dd, decide (x.at_ ≤ minT s.Ss s.Bs.length) = dd := ⟨_, rfl⟩
    obtain ⟨F', hF'⟩ : ∃ F', (if x.at_ ≤ minT s.Ss s.Bs.length then max s.F x.at_ else s.F) = F' := ⟨_, rfl⟩
    have hRv : RR = (dd, ⟨s.Bs, F', s.Ss, s.Cs⟩) := by rw [← HR.out]; unfold expO; rw [if_pos Hcd.out, if_pos Hbb.out, hdd, hF']
    rw [hdd, hF'] at hra
    have HRv := Lib.hid hRv
    clear hRv hdd hF'
    go_wp2_with fail
    go_region_held3 (fun w' => w'.cell? ⟨p, 0, none⟩ = some (.pointer (some ⟨m, 0, none⟩)) ∧ w'.cell? ⟨w.heap.size, 12, none⟩ = some (.int .i64 x.er) ∧ w'.cell? ⟨w.heap.size, 13, none⟩ = some (.int .u64 (x.at_ : Int)) ∧ w'.cell? ⟨w.heap.size, 14, none⟩ = some (.string ⟨x.ak.toArray⟩) ∧ w'.cell? ⟨w.heap.size, 15, none⟩ = some (.string ⟨x.av.toArray⟩))
      (first
        | (with_reducible exact hS _ ((Keeps.refl [] W).drew))
        | (with_reducible exact t5)
        | fail)
      ((first
        | (go_at_call 48; refine hra.mono ?_; rintro e w5 ⟨rfl, hm5, k5⟩; have bP5 := k5.blk (HZ.out.2.2.1.hp.drew) (.inl HZ.out.2.2.1.q.1); have bR5 := k5.blk (HZ.out.2.1.drew) (.inl (by simp)); have t5 : w5.cell? ⟨p, 0, none⟩ = some (.pointer (some ⟨m, 0, none⟩)) ∧ w5.cell? ⟨w.heap.size, 12, none⟩ = some (.int .i64 x.er) ∧ w5.cell? ⟨w.heap.size, 13, none⟩ = some (.int .u64 (x.at_ : Int)) ∧ w5.cell? ⟨w.heap.size, 14, none⟩ = some (.string ⟨x.ak.toArray⟩) ∧ w5.cell? ⟨w.heap.size, 15, none⟩ = some (.string ⟨x.av.toArray⟩) := ⟨bP5.cell 0, bR5.cell 12, bR5.cell 13, bR5.cell 14, bR5.cell 15⟩)
        | fail))
    all_goals
      have hmod := (HZ.out.2.2.1.keeps (Keeps.refl [] W).drew).model' k5
      have hR5 : PR w5 base p m ns nc (Q ++ [w.heap.size]) N ⟨s.Bs, F', s.Ss, s.Cs⟩ := ⟨hmod.1, hm5, hmod.2.1, hmod.2.2, HZ.out.2.2.1.q, HZ.out.2.2.1.ne, HZ.out.2.2.1.ge⟩
      have kq5 : Kq base (Q ++ [w.heap.size]) ns nc w w5 := (Kq.of (HZ.out.1.trans (Keeps.refl [] W).drew (by simp))).trans (Kq.ofp k5)
      have HX := Lib.hid (And.intro hR5 kq5)
      clear hmod hR5 kq5 bP5 bR5 t5 hm5 k5
      go_wp2_with fail
      go_ret
      exact ⟨by first | (rw [HRv.out]; rfl) | rw [HRv.out], by rw [HRv.out]; exact HX.out.1.mono (by omega), HX.out.2⟩
set_option maxHeartbeats 4000000 in
theorem peo (h : PR w base p m ns nc Q N s) {n : Nat} (hi : Inv n s) (hn : n ≤ 25) (hN : N ≤ 4000) (x : RX) (hx : OkX x) (hok : OkX' w x) (hbl : x.b.length ≤ 1000) (ht : x.time ≤ 18446744073709551615) (hcd : x.code ≠ 9 ∧ x.code ≠ 3) :
    Calls Tryz.prog 31 #[.pointer (some ⟨p, 0, none⟩), .agg #[.int .i64 (x.t : Int), .int .i64 x.ix, .int .i64 x.inv, .int .i64 x.pt, .int .i64 x.rs, .int .i64 (x.code : Int), .string ⟨x.key.toArray⟩, .int .u64 (x.time : Int), .slice x.bA x.b.length x.bc, .int .i64 (x.hd : Int), .int .i64 (x.cu : Int), .int .i64 (x.mo : Int), .int .i64 x.er, .int .u64 (x.at_ : Int), .string ⟨x.ak.toArray⟩, .string ⟨x.av.toArray⟩]] w (EoP w base p m ns nc (Q ++ [w.heap.size]) (N + 1) (expO s x)) := by
  have K := (Keeps.refl [] w).alloc (.cells #[.int .i64 (x.t : Int), .int .i64 x.ix, .int .i64 x.inv, .int .i64 x.pt, .int .i64 x.rs, .int .i64 (x.code : Int), .string ⟨x.key.toArray⟩, .int .u64 (x.time : Int), .slice x.bA x.b.length x.bc, .int .i64 (x.hd : Int), .int .i64 (x.cu : Int), .int .i64 (x.mo : Int), .int .i64 x.er, .int .u64 (x.at_ : Int), .string ⟨x.ak.toArray⟩, .string ⟨x.av.toArray⟩] 34)
  have bR := Blk.new w [.int .i64 (x.t : Int), .int .i64 x.ix, .int .i64 x.inv, .int .i64 x.pt, .int .i64 x.rs, .int .i64 (x.code : Int), .string ⟨x.key.toArray⟩, .int .u64 (x.time : Int), .slice x.bA x.b.length x.bc, .int .i64 (x.hd : Int), .int .i64 (x.cu : Int), .int .i64 (x.mo : Int), .int .i64 x.er, .int .u64 (x.at_ : Int), .string ⟨x.ak.toArray⟩, .string ⟨x.av.toArray⟩] 34
  obtain ⟨W, hW⟩ : ∃ W, W = w.alloc (.cells #[.int .i64 (x.t : Int), .int .i64 x.ix, .int .i64 x.inv, .int .i64 x.pt, .int .i64 x.rs, .int .i64 (x.code : Int), .string ⟨x.key.toArray⟩, .int .u64 (x.time : Int), .slice x.bA x.b.length x.bc, .int .i64 (x.hd : Int), .int .i64 (x.cu : Int), .int .i64 (x.mo : Int), .int .i64 x.er, .int .u64 (x.at_ : Int), .string ⟨x.ak.toArray⟩, .string ⟨x.av.toArray⟩] 34) := ⟨_, rfl⟩
  have bR' : Blk W w.heap.size [.int .i64 (x.t : Int), .int .i64 x.ix, .int .i64 x.inv, .int .i64 x.pt, .int .i64 x.rs, .int .i64 (x.code : Int), .string ⟨x.key.toArray⟩, .int .u64 (x.time : Int), .slice x.bA x.b.length x.bc, .int .i64 (x.hd : Int), .int .i64 (x.cu : Int), .int .i64 (x.mo : Int), .int .i64 x.er, .int .u64 (x.at_ : Int), .string ⟨x.ak.toArray⟩, .string ⟨x.av.toArray⟩] := by rw [hW]; exact bR
  rw [← hW] at K
  have hsz := h.nel
  have hR := h.addQ K (L := [w.heap.size]) (by have := bR'.lt; intro g hg; simp at hg; omega)
  have hok1 : OkX' W x := hok.keeps K
  have HW := Lib.hid hW
  have Hcd := Lib.hid hcd
  obtain ⟨RR, hRR⟩ : ∃ RR, expO s x = RR := ⟨_, rfl⟩
  rw [hRR]
  have HR := Lib.hid hRR
  obtain ⟨z0, z1, z2, zf, zl⟩ := hR.hp.o3
  obtain ⟨r0, r1, r2, r3, r4, r5, r6, r7, r8, r9, r10, r11, r12, r13, r14, r15, rf, rl⟩ := Blk.o16 bR'
  have e9 : ((x.code : Int) == 9) = false := by rw [beq_eq_false_iff_ne]; have := hcd; omega
  have e3 : ((x.code : Int) == 3) = false := by rw [beq_eq_false_iff_ne]; have := hcd; omega
  have HZ := Lib.hid (And.intro K (And.intro bR' (And.intro hR hok1)))
  clear K bR bR' h hR hok hok1 hRR hW hcd
  go_enter Tryz.func31, Tryz.ntmps31
  go_upto_region 1 with fail
  rw [← HW.out]
  obtain ⟨K2, bR2, hR2, hok2⟩ := HZ.out
  have h9 : x.code ≠ 9 := Hcd.out.1
  have h3 : ¬ (x.code = 3 ∧ checkR 8 1 x.b = 0 ∧ (x.er = 2 ∨ x.er = 9)) := fun h => Hcd.out.2 h.1
  clear z0 z1 z2 zf zl r0 r1 r2 r3 r4 r5 r6 r7 r8 r9 r10 r11 r12 r13 r14 r15 rf rl HZ
  have hpf := pperf_any hR2 hi hn hN x hx hok2 hbl ht h9
  obtain ⟨⟨a, s'⟩, hr⟩ : ∃ r, perfO s x = r := ⟨_, rfl⟩
  rw [hr] at hpf
  have heq : ∀ w : World, (binOp .eql 32 (.agg #[.int .i64 x.er, .int .u64 (x.at_ : Int), .string ⟨x.ak.toArray⟩, .string ⟨x.av.toArray⟩]) (.agg #[.int .i64 a.er, .int .u64 (a.tm : Int), .string ⟨a.k.toArray⟩, .string ⟨a.v.toArray⟩])).run Tryz.prog w = .ok (.bool (anB (ansX x) a)) w := fun w => eq_ans (ansX x) a w
  obtain ⟨bb, hbb⟩ : ∃ bb, anB (ansX x) a = bb := ⟨_, rfl⟩
  rw [hbb] at heq
  have hRv : RR = (decide (x.rs = -1) || bb, s') := by rw [← HR.out]; unfold expO; rw [if_neg h9, if_neg h3, hr, hbb]
  have HRv := Lib.hid hRv
  obtain ⟨r0, r1, r2, r3, r4, r5, r6, r7, r8, r9, r10, r11, r12, r13, r14, r15, rf, rl⟩ := Blk.o16 bR2
  have HZ2 := Lib.hid (And.intro K2 (And.intro bR2 hR2))
  clear K2 bR2 hR2 hok2 hRv hbb hr h9 h3
  go_wp2_with fail
  refine hpf.mono ?_
  rintro e w3 ⟨rfl, hR3, k3⟩
  obtain ⟨K2, bR2, hR2⟩ := HZ2.out
  have bR3 := k3.blk bR2 (.inr ⟨by simp, (hR2.nep bR2).1, (hR2.nep bR2).2⟩)
  have kq3 : Kq base (Q ++ [w.heap.size]) ns nc w w3 := (Kq.of K2).trans k3
  have ka := (Keeps.refl [] w3).alloc (.cells #[.int .i64 a.er, .int .u64 (a.tm : Int), .string ⟨a.k.toArray⟩, .string ⟨a.v.toArray⟩] 32)
  have HX := Lib.hid (And.intro (hR3.keeps ka) (kq3.trans (Kq.of ka)))
  clear r0 r1 r2 r3 r4 r5 r6 r7 r8 r9 r10 r11 r12 r13 r14 r15 rf rl
  obtain ⟨r0, r1, r2, r3, r4, r5, r6, r7, r8, r9, r10, r11, r12, r13, r14, r15, rf, rl⟩ := Blk.o16 bR3
  clear K2 bR2 hR2 hR3 k3 bR3 kq3 ka HZ2 hpf
  by_cases hrs : x.rs = -1
  · have hr1 : (x.rs == -1) = true := by rw [beq_iff_eq]; exact hrs
    have hd : decide (x.rs = -1) = true := decide_eq_true hrs
    have Hd := Lib.hid hd
    clear hd hrs
    go_wp2_with fail
    go_ret
    exact ⟨by rw [HRv.out, Hd.out]; rfl, by rw [HRv.out]; exact HX.out.1, HX.out.2⟩
  · have hr1 : (x.rs == -1) = false := by rw [beq_eq_false_iff_ne]; exact hrs
    have hd : decide (x.rs = -1) = false := decide_eq_false hrs
    have Hd := Lib.hid hd
    clear hd hrs
    go_wp2_with fail
    go_ret
    exact ⟨by rw [HRv.out, Hd.out]; rfl, by rw [HRv.out]; exact HX.out.1, HX.out.2⟩
set_option maxHeartbeats 4000000 in
theorem pe3 (h : PR w base p m ns nc Q N s) {n : Nat} (hi : Inv n s) (hn : n ≤ 25) (hN : N ≤ 4000) (x : RX) (hx : OkX x) (hok : OkX' w x) (hbl : x.b.length ≤ 1000) (ht : x.time ≤ 18446744073709551615) (hcd : x.code = 3) :
    Calls Tryz.prog 31 #[.pointer (some ⟨p, 0, none⟩), .agg #[.int .i64 (x.t : Int), .int .i64 x.ix, .int .i64 x.inv, .int .i64 x.pt, .int .i64 x.rs, .int .i64 (x.code : Int), .string ⟨x.key.toArray⟩, .int .u64 (x.time : Int), .slice x.bA x.b.length x.bc, .int .i64 (x.hd : Int), .int .i64 (x.cu : Int), .int .i64 (x.mo : Int), .int .i64 x.er, .int .u64 (x.at_ : Int), .string ⟨x.ak.toArray⟩, .string ⟨x.av.toArray⟩]] w (EoP w base p m ns nc (Q ++ [w.heap.size]) (N + 1) (expO s x)) := by
  have K := (Keeps.refl [] w).alloc (.cells #[.int .i64 (x.t : Int), .int .i64 x.ix, .int .i64 x.inv, .int .i64 x.pt, .int .i64 x.rs, .int .i64 (x.code : Int), .string ⟨x.key.toArray⟩, .int .u64 (x.time : Int), .slice x.bA x.b.length x.bc, .int .i64 (x.hd : Int), .int .i64 (x.cu : Int), .int .i64 (x.mo : Int), .int .i64 x.er, .int .u64 (x.at_ : Int), .string ⟨x.ak.toArray⟩, .string ⟨x.av.toArray⟩] 34)
  have bR := Blk.new w [.int .i64 (x.t : Int), .int .i64 x.ix, .int .i64 x.inv, .int .i64 x.pt, .int .i64 x.rs, .int .i64 (x.code : Int), .string ⟨x.key.toArray⟩, .int .u64 (x.time : Int), .slice x.bA x.b.length x.bc, .int .i64 (x.hd : Int), .int .i64 (x.cu : Int), .int .i64 (x.mo : Int), .int .i64 x.er, .int .u64 (x.at_ : Int), .string ⟨x.ak.toArray⟩, .string ⟨x.av.toArray⟩] 34
  obtain ⟨W, hW⟩ : ∃ W, W = w.alloc (.cells #[.int .i64 (x.t : Int), .int .i64 x.ix, .int .i64 x.inv, .int .i64 x.pt, .int .i64 x.rs, .int .i64 (x.code : Int), .string ⟨x.key.toArray⟩, .int .u64 (x.time : Int), .slice x.bA x.b.length x.bc, .int .i64 (x.hd : Int), .int .i64 (x.cu : Int), .int .i64 (x.mo : Int), .int .i64 x.er, .int .u64 (x.at_ : Int), .string ⟨x.ak.toArray⟩, .string ⟨x.av.toArray⟩] 34) := ⟨_, rfl⟩
  have bR' : Blk W w.heap.size [.int .i64 (x.t : Int), .int .i64 x.ix, .int .i64 x.inv, .int .i64 x.pt, .int .i64 x.rs, .int .i64 (x.code : Int), .string ⟨x.key.toArray⟩, .int .u64 (x.time : Int), .slice x.bA x.b.length x.bc, .int .i64 (x.hd : Int), .int .i64 (x.cu : Int), .int .i64 (x.mo : Int), .int .i64 x.er, .int .u64 (x.at_ : Int), .string ⟨x.ak.toArray⟩, .string ⟨x.av.toArray⟩] := by rw [hW]; exact bR
  rw [← hW] at K
  have hsz := h.nel
  have hR := h.addQ K (L := [w.heap.size]) (by have := bR'.lt; intro g hg; simp at hg; omega)
  have hok1 : OkX' W x := hok.keeps K
  have HW := Lib.hid hW
  have Hcd := Lib.hid hcd
  obtain ⟨RR, hRR⟩ : ∃ RR, expO s x = RR := ⟨_, rfl⟩
  rw [hRR]
  have HR := Lib.hid hRR
  obtain ⟨z0, z1, z2, zf, zl⟩ := hR.hp.o3
  obtain ⟨r0, r1, r2, r3, r4, r5, r6, r7, r8, r9, r10, r11, r12, r13, r14, r15, rf, rl⟩ := Blk.o16 bR'
  have e9 : ((x.code : Int) == 9) = false := by rw [beq_eq_false_iff_ne]; have := hcd; omega
  have e3 : ((x.code : Int) == 3) = true := by rw [beq_iff_eq]; have := hcd; omega
  have hck := check_any x.b (by omega) _ W hok1
  obtain ⟨c, hc⟩ : ∃ c, checkR 8 1 x.b = c := ⟨_, rfl⟩
  rw [hc] at hck
  have Hc := Lib.hid hc
  have heq0 : ∀ w : World, (binOp .eql 32 (.agg #[.int .i64 x.er, .int .u64 (x.at_ : Int), .string ⟨x.ak.toArray⟩, .string ⟨x.av.toArray⟩]) (.agg #[.int .i64 x.er, .int .u64 0, .string ⟨#[]⟩, .string ⟨#[]⟩])).run Tryz.prog w = .ok (.bool (anB (ansX x) (errA x.er))) w := fun w => eq_ans (ansX x) (errA x.er) w
  obtain ⟨b0, hb0⟩ : ∃ b0, anB (ansX x) (errA x.er) = b0 := ⟨_, rfl⟩
  rw [hb0] at heq0
  have Hb0 := Lib.hid hb0
  clear hc hb0
  have HZ := Lib.hid (And.intro K (And.intro bR' (And.intro hR hok1)))
  clear K bR bR' h hR hok hok1 hRR hW hcd
  go_enter Tryz.func31, Tryz.ntmps31
  go_upto_region 1 with fail
  rw [← HW.out]
  go_wp2_with fail
  refine hck.mono ?_
  rintro e w2 ⟨rfl, k2⟩
  obtain ⟨K1, bR1, hR1, hok1⟩ := HZ.out
  have K2 := K1.trans k2 (by simp)
  have bR2 := k2.blk bR1 (by simp)
  have hR2 := hR1.keeps k2
  have hok2 : OkX' w2 x := hok1.keeps k2
  clear z0 z1 z2 zf zl r0 r1 r2 r3 r4 r5 r6 r7 r8 r9 r10 r11 r12 r13 r14 r15 rf rl HZ K1 bR1 hR1 hok1 k2 hck
  by_cases hc0 : c = 0
  · have hc1 : (c == 0) = true := by rw [beq_iff_eq]; exact hc0
    by_cases hee : x.er = 2 ∨ x.er = 9
    · rcases hee with h2 | h2
      · have hx2 : (x.er == 2) = true := by rw [beq_iff_eq]; exact h2
        have hee : x.er = 2 ∨ x.er = 9 := .inl h2
        clear h2
        have hRv : RR = (b0, s) := by rw [← HR.out]; unfold expO; rw [if_neg (by have := Hcd.out; omega), if_pos ⟨Hcd.out, by rw [Hc.out]; exact hc0, hee⟩, Hb0.out]
        have HRv := Lib.hid hRv
        have HX := Lib.hid (And.intro hR2 K2)
        obtain ⟨r0, r1, r2, r3, r4, r5, r6, r7, r8, r9, r10, r11, r12, r13, r14, r15, rf, rl⟩ := Blk.o16 bR2
        clear K2 bR2 hR2 hok2 hRv hc0 hee
        go_wp2_with fail
        go_ret
        exact ⟨by first | (rw [HRv.out]; rfl) | rw [HRv.out], by rw [HRv.out]; exact HX.out.1.mono (by omega), Kq.of HX.out.2⟩
      · have hx2 : (x.er == 2) = false := by rw [beq_eq_false_iff_ne]; omega
        have hx9 : (x.er == 9) = true := by rw [beq_iff_eq]; exact h2
        have hee : x.er = 2 ∨ x.er = 9 := .inr h2
        clear h2
        have hRv : RR = (b0, s) := by rw [← HR.out]; unfold expO; rw [if_neg (by have := Hcd.out; omega), if_pos ⟨Hcd.out, by rw [Hc.out]; exact hc0, hee⟩, Hb0.out]
        have HRv := Lib.hid hRv
        have HX := Lib.hid (And.intro hR2 K2)
        obtain ⟨r0, r1, r2, r3, r4, r5, r6, r7, r8, r9, r10, r11, r12, r13, r14, r15, rf, rl⟩ := Blk.o16 bR2
        clear K2 bR2 hR2 hok2 hRv hc0 hee
        go_wp2_with fail
        go_ret
        exact ⟨by first | (rw [HRv.out]; rfl) | rw [HRv.out], by rw [HRv.out]; exact HX.out.1.mono (by omega), Kq.of HX.out.2⟩
    · have hx2 : (x.er == 2) = false := by rw [beq_eq_false_iff_ne]; exact fun e => hee (.inl e)
      have hx9 : (x.er == 9) = false := by rw [beq_eq_false_iff_ne]; exact fun e => hee (.inr e)
      have h9 : x.code ≠ 9 := by have := Hcd.out; omega
      have h3 : ¬ (x.code = 3 ∧ checkR 8 1 x.b = 0 ∧ (x.er = 2 ∨ x.er = 9)) := fun h => hee h.2.2
      clear hc0 hee heq0
      have hpf := pperf_any hR2 hi hn hN x hx hok2 hbl ht h9
      obtain ⟨⟨a, s'⟩, hr⟩ : ∃ r, perfO s x = r := ⟨_, rfl⟩
      rw [hr] at hpf
      have heq : ∀ w : World, (binOp .eql 32 (.agg #[.int .i64 x.er, .int .u64 (x.at_ : Int), .string ⟨x.ak.toArray⟩, .string ⟨x.av.toArray⟩]) (.agg #[.int .i64 a.er, .int .u64 (a.tm : Int), .string ⟨a.k.toArray⟩, .string ⟨a.v.toArray⟩])).run Tryz.prog w = .ok (.bool (anB (ansX x) a)) w := fun w => eq_ans (ansX x) a w
      obtain ⟨bb, hbb⟩ : ∃ bb, anB (ansX x) a = bb := ⟨_, rfl⟩
      rw [hbb] at heq
      have hRv : RR = (decide (x.rs = -1) || bb, s') := by rw [← HR.out]; unfold expO; rw [if_neg h9, if_neg h3, hr, hbb]
      have HRv := Lib.hid hRv
      obtain ⟨r0, r1, r2, r3, r4, r5, r6, r7, r8, r9, r10, r11, r12, r13, r14, r15, rf, rl⟩ := Blk.o16 bR2
      have HZ2 := Lib.hid (And.intro K2 (And.intro bR2 hR2))
      clear K2 bR2 hR2 hok2 hRv hbb hr h9 h3
      go_wp2_with fail
      refine hpf.mono ?_
      rintro e w3 ⟨rfl, hR3, k3⟩
      obtain ⟨K2, bR2, hR2⟩ := HZ2.out
      have bR3 := k3.blk bR2 (.inr ⟨by simp, (hR2.nep bR2).1, (hR2.nep bR2).2⟩)
      have kq3 : Kq base (Q ++ [w.heap.size]) ns nc w w3 := (Kq.of K2).trans k3
      have ka := (Keeps.refl [] w3).alloc (.cells #[.int .i64 a.er, .int .u64 (a.tm : Int), .string ⟨a.k.toArray⟩, .string ⟨a.v.toArray⟩] 32)
      have HX := Lib.hid (And.intro (hR3.keeps ka) (kq3.trans (Kq.of ka)))
      clear r0 r1 r2 r3 r4 r5 r6 r7 r8 r9 r10 r11 r12 r13 r14 r15 rf rl
      obtain ⟨r0, r1, r2, r3, r4, r5, r6, r7, r8, r9, r10, r11, r12, r13, r14, r15, rf, rl⟩ := Blk.o16 bR3
      clear K2 bR2 hR2 hR3 k3 bR3 kq3 ka HZ2 hpf
      by_cases hrs : x.rs = -1
      · have hr1 : (x.rs == -1) = true := by rw [beq_iff_eq]; exact hrs
        have hd : decide (x.rs = -1) = true := decide_eq_true hrs
        have Hd := Lib.hid hd
        clear hd hrs
        go_wp2_with fail
        go_ret
        exact ⟨by rw [HRv.out, Hd.out]; rfl, by rw [HRv.out]; exact HX.out.1, HX.out.2⟩
      · have hr1 : (x.rs == -1) = false := by rw [beq_eq_false_iff_ne]; exact hrs
        have hd : decide (x.rs = -1) = false := decide_eq_false hrs
        have Hd := Lib.hid hd
        clear hd hrs
        go_wp2_with fail
        go_ret
        exact ⟨by rw [HRv.out, Hd.out]; rfl, by rw [HRv.out]; exact HX.out.1, HX.out.2⟩
  · have hc1 : (c == 0) = false := by rw [beq_eq_false_iff_ne]; exact hc0
    have h9 : x.code ≠ 9 := by have := Hcd.out; omega
    have h3 : ¬ (x.code = 3 ∧ checkR 8 1 x.b = 0 ∧ (x.er = 2 ∨ x.er = 9)) := fun h => hc0 (by rw [← Hc.out]; exact h.2.1)
    clear hc0 heq0
    have hpf := pperf_any hR2 hi hn hN x hx hok2 hbl ht h9
    obtain ⟨⟨a, s'⟩, hr⟩ : ∃ r, perfO s x = r := ⟨_, rfl⟩
    rw [hr] at hpf
    have heq : ∀ w : World, (binOp .eql 32 (.agg #[.int .i64 x.er, .int .u64 (x.at_ : Int), .string ⟨x.ak.toArray⟩, .string ⟨x.av.toArray⟩]) (.agg #[.int .i64 a.er, .int .u64 (a.tm : Int), .string ⟨a.k.toArray⟩, .string ⟨a.v.toArray⟩])).run Tryz.prog w = .ok (.bool (anB (ansX x) a)) w := fun w => eq_ans (ansX x) a w
    obtain ⟨bb, hbb⟩ : ∃ bb, anB (ansX x) a = bb := ⟨_, rfl⟩
    rw [hbb] at heq
    have hRv : RR = (decide (x.rs = -1) || bb, s') := by rw [← HR.out]; unfold expO; rw [if_neg h9, if_neg h3, hr, hbb]
    have HRv := Lib.hid hRv
    obtain ⟨r0, r1, r2, r3, r4, r5, r6, r7, r8, r9, r10, r11, r12, r13, r14, r15, rf, rl⟩ := Blk.o16 bR2
    have HZ2 := Lib.hid (And.intro K2 (And.intro bR2 hR2))
    clear K2 bR2 hR2 hok2 hRv hbb hr h9 h3
    go_wp2_with fail
    refine hpf.mono ?_
    rintro e w3 ⟨rfl, hR3, k3⟩
    obtain ⟨K2, bR2, hR2⟩ := HZ2.out
    have bR3 := k3.blk bR2 (.inr ⟨by simp, (hR2.nep bR2).1, (hR2.nep bR2).2⟩)
    have kq3 : Kq base (Q ++ [w.heap.size]) ns nc w w3 := (Kq.of K2).trans k3
    have ka := (Keeps.refl [] w3).alloc (.cells #[.int .i64 a.er, .int .u64 (a.tm : Int), .string ⟨a.k.toArray⟩, .string ⟨a.v.toArray⟩] 32)
    have HX := Lib.hid (And.intro (hR3.keeps ka) (kq3.trans (Kq.of ka)))
    clear r0 r1 r2 r3 r4 r5 r6 r7 r8 r9 r10 r11 r12 r13 r14 r15 rf rl
    obtain ⟨r0, r1, r2, r3, r4, r5, r6, r7, r8, r9, r10, r11, r12, r13, r14, r15, rf, rl⟩ := Blk.o16 bR3
    clear K2 bR2 hR2 hR3 k3 bR3 kq3 ka HZ2 hpf
    by_cases hrs : x.rs = -1
    · have hr1 : (x.rs == -1) = true := by rw [beq_iff_eq]; exact hrs
      have hd : decide (x.rs = -1) = true := decide_eq_true hrs
      have Hd := Lib.hid hd
      clear hd hrs
      go_wp2_with fail
      go_ret
      exact ⟨by rw [HRv.out, Hd.out]; rfl, by rw [HRv.out]; exact HX.out.1, HX.out.2⟩
    · have hr1 : (x.rs == -1) = false := by rw [beq_eq_false_iff_ne]; exact hrs
      have hd : decide (x.rs = -1) = false := decide_eq_false hrs
      have Hd := Lib.hid hd
      clear hd hrs
      go_wp2_with fail
      go_ret
      exact ⟨by rw [HRv.out, Hd.out]; rfl, by rw [HRv.out]; exact HX.out.1, HX.out.2⟩
theorem pexplain_any (h : PR w base p m ns nc Q N s) {n : Nat} (hi : Inv n s) (hn : n ≤ 25) (hN : N ≤ 4000) (x : RX) (hx : OkX x) (hok : OkX' w x) (hbl : x.b.length ≤ 1000) (ht : x.time ≤ 18446744073709551615) :
    Calls Tryz.prog 31 #[.pointer (some ⟨p, 0, none⟩), .agg #[.int .i64 (x.t : Int), .int .i64 x.ix, .int .i64 x.inv, .int .i64 x.pt, .int .i64 x.rs, .int .i64 (x.code : Int), .string ⟨x.key.toArray⟩, .int .u64 (x.time : Int), .slice x.bA x.b.length x.bc, .int .i64 (x.hd : Int), .int .i64 (x.cu : Int), .int .i64 (x.mo : Int), .int .i64 x.er, .int .u64 (x.at_ : Int), .string ⟨x.ak.toArray⟩, .string ⟨x.av.toArray⟩]] w (EoP w base p m ns nc Q (N + 1) (expO s x)) := by
  have key : Calls Tryz.prog 31 #[.pointer (some ⟨p, 0, none⟩), .agg #[.int .i64 (x.t : Int), .int .i64 x.ix, .int .i64 x.inv, .int .i64 x.pt, .int .i64 x.rs, .int .i64 (x.code : Int), .string ⟨x.key.toArray⟩, .int .u64 (x.time : Int), .slice x.bA x.b.length x.bc, .int .i64 (x.hd : Int), .int .i64 (x.cu : Int), .int .i64 (x.mo : Int), .int .i64 x.er, .int .u64 (x.at_ : Int), .string ⟨x.ak.toArray⟩, .string ⟨x.av.toArray⟩]] w (EoP w base p m ns nc (Q ++ [w.heap.size]) (N + 1) (expO s x)) := by
    by_cases h9 : x.code = 9
    · exact pe9 h hi hn hN x hx hok hbl ht h9
    · by_cases h3 : x.code = 3
      · exact pe3 h hi hn hN x hx hok hbl ht h3
      · exact peo h hi hn hN x hx hok hbl ht ⟨h9, h3⟩
  refine key.mono ?_
  rintro e w' ⟨h1, h2, h3⟩
  exact ⟨h1, h2.subQ (fun q hq => List.mem_append_left _ hq) h.q, h3.subQ (fun q hq => List.mem_append_left _ hq)⟩
end Go.Proofs.YtbcgpjfejpcgnaaGreat
end
section
namespace Go.Proofs.YtbcgpjfejpcgnaaGreat.O
open Go.RowKit
set_option linter.unusedSectionVars false
set_option linter.unusedVariables false
set_option linter.unusedSimpArgs false
set_option maxRecDepth 20000
set_option maxHeartbeats 4000000
theorem and_no {a b : Prop} [Decidable a] [Decidable b] (h : ¬ (a ∧ b)) : (decide a && decide b) = false := by
  cases ha : decide a
  · rfl
  · simp at ha
    simp
    exact fun hb => h ⟨ha, hb⟩
theorem and_yes {a b : Prop} [Decidable a] [Decidable b] (h : a ∧ b) : (decide a && decide b) = true := by simp [h.1, h.2]
theorem valid_no (T S N C R F K : Int) (h : ¬ CfgOK T S N C R F K) (w : World) :
    Calls Tryz.prog 40 #[.agg #[.int .i64 T, .int .i64 S, .int .i64 N, .int .i64 C, .int .i64 R, .int .i64 F, .int .u64 K]] w fun e w' => e = .returned (.bool false) ∧ Keeps [] w w' := by
  by_cases h1 : 1 ≤ T ∧ T ≤ 64
  · have E1 := Lib.hid (and_yes h1)
    by_cases h2 : 1 ≤ S ∧ S ≤ 8
    · have E2 := Lib.hid (and_yes h2)
      by_cases h3 : 1 ≤ N ∧ N ≤ 4096
      · have E3 := Lib.hid (and_yes h3)
        by_cases h4 : 1 ≤ C ∧ C ≤ 16384
        · have E4 := Lib.hid (and_yes h4)
          by_cases h5 : 1 ≤ R ∧ R ≤ 65536
          · have E5 := Lib.hid (and_yes h5)
            by_cases h6 : 4 ≤ F ∧ F ≤ 32
            · have E6 := Lib.hid (and_yes h6)
              have hk : ¬ (1 ≤ K ∧ K ≤ 1099511627776) := fun hk => h ⟨h1.1, h1.2, h2.1, h2.2, h3.1, h3.2, h4.1, h4.2, h5.1, h5.2, h6.1, h6.2, hk.1, hk.2⟩
              by_cases hk1 : 1 ≤ K
              · have hk2 : ¬ K ≤ 1099511627776 := fun h => hk ⟨hk1, h⟩
                clear h1 h2 h3 h4 h5 h6 h hk
                go_enter Tryz.func40, Tryz.ntmps40
                go_wp2_with fail
                refine (between_any T 1 64 _).mono ?_
                rintro e w1 ⟨rfl, rfl⟩
                rw [E1.out]
                go_wp2_with fail
                refine (between_any S 1 8 _).mono ?_
                rintro e w2 ⟨rfl, rfl⟩
                rw [E2.out]
                go_wp2_with fail
                refine (between_any N 1 4096 _).mono ?_
                rintro e w3 ⟨rfl, rfl⟩
                rw [E3.out]
                go_wp2_with fail
                refine (between_any C 1 16384 _).mono ?_
                rintro e w4 ⟨rfl, rfl⟩
                rw [E4.out]
                go_wp2_with fail
                refine (between_any R 1 65536 _).mono ?_
                rintro e w5 ⟨rfl, rfl⟩
                rw [E5.out]
                go_wp2_with fail
                refine (between_any F 4 32 _).mono ?_
                rintro e w6 ⟨rfl, rfl⟩
                rw [E6.out]
                go_wp2_with fail
                go_ret
                exact ⟨by simp <;> omega, (Keeps.refl _ _).alloc _⟩
              · clear h1 h2 h3 h4 h5 h6 h hk
                go_enter Tryz.func40, Tryz.ntmps40
                go_wp2_with fail
                refine (between_any T 1 64 _).mono ?_
                rintro e w1 ⟨rfl, rfl⟩
                rw [E1.out]
                go_wp2_with fail
                refine (between_any S 1 8 _).mono ?_
                rintro e w2 ⟨rfl, rfl⟩
                rw [E2.out]
                go_wp2_with fail
                refine (between_any N 1 4096 _).mono ?_
                rintro e w3 ⟨rfl, rfl⟩
                rw [E3.out]
                go_wp2_with fail
                refine (between_any C 1 16384 _).mono ?_
                rintro e w4 ⟨rfl, rfl⟩
                rw [E4.out]
                go_wp2_with fail
                refine (between_any R 1 65536 _).mono ?_
                rintro e w5 ⟨rfl, rfl⟩
                rw [E5.out]
                go_wp2_with fail
                refine (between_any F 4 32 _).mono ?_
                rintro e w6 ⟨rfl, rfl⟩
                rw [E6.out]
                go_wp2_with fail
                go_ret
                exact ⟨rfl, (Keeps.refl _ _).alloc _⟩
            · have E6 := Lib.hid (and_no h6)
              clear h1 h2 h3 h4 h5 h6 h
              go_enter Tryz.func40, Tryz.ntmps40
              go_wp2_with fail
              refine (between_any T 1 64 _).mono ?_
              rintro e w1 ⟨rfl, rfl⟩
              rw [E1.out]
              go_wp2_with fail
              refine (between_any S 1 8 _).mono ?_
              rintro e w2 ⟨rfl, rfl⟩
              rw [E2.out]
              go_wp2_with fail
              refine (between_any N 1 4096 _).mono ?_
              rintro e w3 ⟨rfl, rfl⟩
              rw [E3.out]
              go_wp2_with fail
              refine (between_any C 1 16384 _).mono ?_
              rintro e w4 ⟨rfl, rfl⟩
              rw [E4.out]
              go_wp2_with fail
              refine (between_any R 1 65536 _).mono ?_
              rintro e w5 ⟨rfl, rfl⟩
              rw [E5.out]
              go_wp2_with fail
              refine (between_any F 4 32 _).mono ?_
              rintro e w6 ⟨rfl, rfl⟩
              rw [E6.out]
              go_wp2_with fail
              go_ret
              exact ⟨rfl, (Keeps.refl _ _).alloc _⟩
          · have E5 := Lib.hid (and_no h5)
            clear h1 h2 h3 h4 h5 h
            go_enter Tryz.func40, Tryz.ntmps40
            go_wp2_with fail
            refine (between_any T 1 64 _).mono ?_
            rintro e w1 ⟨rfl, rfl⟩
            rw [E1.out]
            go_wp2_with fail
            refine (between_any S 1 8 _).mono ?_
            rintro e w2 ⟨rfl, rfl⟩
            rw [E2.out]
            go_wp2_with fail
            refine (between_any N 1 4096 _).mono ?_
            rintro e w3 ⟨rfl, rfl⟩
            rw [E3.out]
            go_wp2_with fail
            refine (between_any C 1 16384 _).mono ?_
            rintro e w4 ⟨rfl, rfl⟩
            rw [E4.out]
            go_wp2_with fail
            refine (between_any R 1 65536 _).mono ?_
            rintro e w5 ⟨rfl, rfl⟩
            rw [E5.out]
            go_wp2_with fail
            go_ret
            exact ⟨rfl, (Keeps.refl _ _).alloc _⟩
        · have E4 := Lib.hid (and_no h4)
          clear h1 h2 h3 h4 h
          go_enter Tryz.func40, Tryz.ntmps40
          go_wp2_with fail
          refine (between_any T 1 64 _).mono ?_
          rintro e w1 ⟨rfl, rfl⟩
          rw [E1.out]
          go_wp2_with fail
          refine (between_any S 1 8 _).mono ?_
          rintro e w2 ⟨rfl, rfl⟩
          rw [E2.out]
          go_wp2_with fail
          refine (between_any N 1 4096 _).mono ?_
          rintro e w3 ⟨rfl, rfl⟩
          rw [E3.out]
          go_wp2_with fail
          refine (between_any C 1 16384 _).mono ?_
          rintro e w4 ⟨rfl, rfl⟩
          rw [E4.out]
          go_wp2_with fail
          go_ret
          exact ⟨rfl, (Keeps.refl _ _).alloc _⟩
      · have E3 := Lib.hid (and_no h3)
        clear h1 h2 h3 h
        go_enter Tryz.func40, Tryz.ntmps40
        go_wp2_with fail
        refine (between_any T 1 64 _).mono ?_
        rintro e w1 ⟨rfl, rfl⟩
        rw [E1.out]
        go_wp2_with fail
        refine (between_any S 1 8 _).mono ?_
        rintro e w2 ⟨rfl, rfl⟩
        rw [E2.out]
        go_wp2_with fail
        refine (between_any N 1 4096 _).mono ?_
        rintro e w3 ⟨rfl, rfl⟩
        rw [E3.out]
        go_wp2_with fail
        go_ret
        exact ⟨rfl, (Keeps.refl _ _).alloc _⟩
    · have E2 := Lib.hid (and_no h2)
      clear h1 h2 h
      go_enter Tryz.func40, Tryz.ntmps40
      go_wp2_with fail
      refine (between_any T 1 64 _).mono ?_
      rintro e w1 ⟨rfl, rfl⟩
      rw [E1.out]
      go_wp2_with fail
      refine (between_any S 1 8 _).mono ?_
      rintro e w2 ⟨rfl, rfl⟩
      rw [E2.out]
      go_wp2_with fail
      go_ret
      exact ⟨rfl, (Keeps.refl _ _).alloc _⟩
  · have E1 := Lib.hid (and_no h1)
    clear h1 h
    go_enter Tryz.func40, Tryz.ntmps40
    go_wp2_with fail
    refine (between_any T 1 64 _).mono ?_
    rintro e w1 ⟨rfl, rfl⟩
    rw [E1.out]
    go_wp2_with fail
    go_ret
    exact ⟨rfl, (Keeps.refl _ _).alloc _⟩
end Go.Proofs.YtbcgpjfejpcgnaaGreat.O
end
