/- Lemmas on the way to LinearAcceptsSequential. No condition. -/
import Derived.Test.YtbcgpjfejpcgnaaGreatRAk
import Derived.StillTailTactics
set_option linter.unusedSimpArgs false
set_option linter.unusedVariables false
set_option linter.unusedSectionVars false
section
namespace Go.Proofs.YtbcgpjfejpcgnaaGreat
open Go.RowKit
set_option maxRecDepth 100000
set_option linter.unusedSimpArgs false
set_option linter.unusedVariables false
variable {w w' : World} {base ww : Nat} {bv sv cv : Value} {vs : List Value} {s : WS}
set_option maxHeartbeats 4000000 in
theorem xl5_any (h : WX w base ww bv sv cv vs s) {n : Nat} (hi : Inv n s) (hn : n ≤ 100) (x : RX) (hx : OkX x) (hcd : x.code = 5) :
    Calls Tryz.prog 27 #[.pointer (some ⟨ww, 0, none⟩), .agg #[.int .i64 (x.t : Int), .int .i64 x.ix, .int .i64 x.inv, .int .i64 x.pt, .int .i64 x.rs, .int .i64 (x.code : Int), .string ⟨x.key.toArray⟩, .int .u64 (x.time : Int), .slice x.bA x.b.length x.bc, .int .i64 (x.hd : Int), .int .i64 (x.cu : Int), .int .i64 (x.mo : Int), .int .i64 x.er, .int .u64 (x.at_ : Int), .string ⟨x.ak.toArray⟩, .string ⟨x.av.toArray⟩]] w (LocP w base ww bv sv cv vs (relW s x)) := by
  obtain ⟨r, hr⟩ := SnAt.ex s.Ss x.t x.hd
  obtain ⟨c, hc⟩ := CuAt.ex s.Cs x.t x.cu
  have K := ((((Keeps.refl [] w).alloc (.cells #[.int .i64 (x.t : Int), .int .i64 x.ix, .int .i64 x.inv, .int .i64 x.pt, .int .i64 x.rs, .int .i64 (x.code : Int), .string ⟨x.key.toArray⟩, .int .u64 (x.time : Int), .slice x.bA x.b.length x.bc, .int .i64 (x.hd : Int), .int .i64 (x.cu : Int), .int .i64 (x.mo : Int), .int .i64 x.er, .int .u64 (x.at_ : Int), .string ⟨x.ak.toArray⟩, .string ⟨x.av.toArray⟩] 34)).alloc (.cells #[.int .i64 0, .int .u64 0, .string ⟨#[]⟩, .string ⟨#[]⟩] 32)).alloc (.cells #[.int .i64 (x.code : Int), .string ⟨x.key.toArray⟩, .int .u64 (x.time : Int), .slice x.bA x.b.length x.bc, .int .i64 (x.hd : Int), .int .i64 (x.cu : Int), .int .i64 (x.mo : Int)] 29)).alloc (.cells #[.int .i64 6, .int .u64 0, .string ⟨#[]⟩, .string ⟨#[]⟩] 32)
  have bR := (((Blk.new w [.int .i64 (x.t : Int), .int .i64 x.ix, .int .i64 x.inv, .int .i64 x.pt, .int .i64 x.rs, .int .i64 (x.code : Int), .string ⟨x.key.toArray⟩, .int .u64 (x.time : Int), .slice x.bA x.b.length x.bc, .int .i64 (x.hd : Int), .int .i64 (x.cu : Int), .int .i64 (x.mo : Int), .int .i64 x.er, .int .u64 (x.at_ : Int), .string ⟨x.ak.toArray⟩, .string ⟨x.av.toArray⟩] 34).alloc (.cells #[.int .i64 0, .int .u64 0, .string ⟨#[]⟩, .string ⟨#[]⟩] 32)).alloc (.cells #[.int .i64 (x.code : Int), .string ⟨x.key.toArray⟩, .int .u64 (x.time : Int), .slice x.bA x.b.length x.bc, .int .i64 (x.hd : Int), .int .i64 (x.cu : Int), .int .i64 (x.mo : Int)] 29)).alloc (.cells #[.int .i64 6, .int .u64 0, .string ⟨#[]⟩, .string ⟨#[]⟩] 32)
  have bA := ((Blk.new_at (w.alloc (.cells #[.int .i64 (x.t : Int), .int .i64 x.ix, .int .i64 x.inv, .int .i64 x.pt, .int .i64 x.rs, .int .i64 (x.code : Int), .string ⟨x.key.toArray⟩, .int .u64 (x.time : Int), .slice x.bA x.b.length x.bc, .int .i64 (x.hd : Int), .int .i64 (x.cu : Int), .int .i64 (x.mo : Int), .int .i64 x.er, .int .u64 (x.at_ : Int), .string ⟨x.ak.toArray⟩, .string ⟨x.av.toArray⟩] 34)) (w.heap.size + 1) [.int .i64 0, .int .u64 0, .string ⟨#[]⟩, .string ⟨#[]⟩] 32 (by simp)).alloc (.cells #[.int .i64 (x.code : Int), .string ⟨x.key.toArray⟩, .int .u64 (x.time : Int), .slice x.bA x.b.length x.bc, .int .i64 (x.hd : Int), .int .i64 (x.cu : Int), .int .i64 (x.mo : Int)] 29)).alloc (.cells #[.int .i64 6, .int .u64 0, .string ⟨#[]⟩, .string ⟨#[]⟩] 32)
  have bO := (Blk.new_at ((w.alloc (.cells #[.int .i64 (x.t : Int), .int .i64 x.ix, .int .i64 x.inv, .int .i64 x.pt, .int .i64 x.rs, .int .i64 (x.code : Int), .string ⟨x.key.toArray⟩, .int .u64 (x.time : Int), .slice x.bA x.b.length x.bc, .int .i64 (x.hd : Int), .int .i64 (x.cu : Int), .int .i64 (x.mo : Int), .int .i64 x.er, .int .u64 (x.at_ : Int), .string ⟨x.ak.toArray⟩, .string ⟨x.av.toArray⟩] 34)).alloc (.cells #[.int .i64 0, .int .u64 0, .string ⟨#[]⟩, .string ⟨#[]⟩] 32)) (w.heap.size + 1 + 1) [.int .i64 (x.code : Int), .string ⟨x.key.toArray⟩, .int .u64 (x.time : Int), .slice x.bA x.b.length x.bc, .int .i64 (x.hd : Int), .int .i64 (x.cu : Int), .int .i64 (x.mo : Int)] 29 (by simp)).alloc (.cells #[.int .i64 6, .int .u64 0, .string ⟨#[]⟩, .string ⟨#[]⟩] 32)
  have bC := Blk.new_at (((w.alloc (.cells #[.int .i64 (x.t : Int), .int .i64 x.ix, .int .i64 x.inv, .int .i64 x.pt, .int .i64 x.rs, .int .i64 (x.code : Int), .string ⟨x.key.toArray⟩, .int .u64 (x.time : Int), .slice x.bA x.b.length x.bc, .int .i64 (x.hd : Int), .int .i64 (x.cu : Int), .int .i64 (x.mo : Int), .int .i64 x.er, .int .u64 (x.at_ : Int), .string ⟨x.ak.toArray⟩, .string ⟨x.av.toArray⟩] 34)).alloc (.cells #[.int .i64 0, .int .u64 0, .string ⟨#[]⟩, .string ⟨#[]⟩] 32)).alloc (.cells #[.int .i64 (x.code : Int), .string ⟨x.key.toArray⟩, .int .u64 (x.time : Int), .slice x.bA x.b.length x.bc, .int .i64 (x.hd : Int), .int .i64 (x.cu : Int), .int .i64 (x.mo : Int)] 29)) (w.heap.size + 1 + 1 + 1) [.int .i64 6, .int .u64 0, .string ⟨#[]⟩, .string ⟨#[]⟩] 32 (by simp)
  obtain ⟨W, hW⟩ : ∃ W, W = (((w.alloc (.cells #[.int .i64 (x.t : Int), .int .i64 x.ix, .int .i64 x.inv, .int .i64 x.pt, .int .i64 x.rs, .int .i64 (x.code : Int), .string ⟨x.key.toArray⟩, .int .u64 (x.time : Int), .slice x.bA x.b.length x.bc, .int .i64 (x.hd : Int), .int .i64 (x.cu : Int), .int .i64 (x.mo : Int), .int .i64 x.er, .int .u64 (x.at_ : Int), .string ⟨x.ak.toArray⟩, .string ⟨x.av.toArray⟩] 34)).alloc (.cells #[.int .i64 0, .int .u64 0, .string ⟨#[]⟩, .string ⟨#[]⟩] 32)).alloc (.cells #[.int .i64 (x.code : Int), .string ⟨x.key.toArray⟩, .int .u64 (x.time : Int), .slice x.bA x.b.length x.bc, .int .i64 (x.hd : Int), .int .i64 (x.cu : Int), .int .i64 (x.mo : Int)] 29)).alloc (.cells #[.int .i64 6, .int .u64 0, .string ⟨#[]⟩, .string ⟨#[]⟩] 32) := ⟨_, rfl⟩
  rw [← hW] at K bR bA bO bC
  have hWX := h.keeps K
  have hs1 := xsnap_q hWX (by have := hi.nS; omega) hi.dS hr
  have hc1 := xcur_q hWX (by have := hi.nC; omega) hi.dC hc
  have q0 : W.cell? ⟨w.heap.size, 0, none⟩ = some (.int .i64 (x.t : Int)) := bR.cell 0
  have ql := bR.lt
  have p4 : W.cell? ⟨w.heap.size + 1 + 1, 4, none⟩ = some (.int .i64 (x.hd : Int)) := bO.cell 4
  have p5 : W.cell? ⟨w.heap.size + 1 + 1, 5, none⟩ = some (.int .i64 (x.cu : Int)) := bO.cell 5
  have pl := bO.lt
  have Hr := Lib.hid hr
  have Hc := Lib.hid hc
  have HW := Lib.hid hW
  have HB := Lib.hid (And.intro bR (And.intro bA (And.intro bO (And.intro bC (And.intro K hWX)))))
  obtain ⟨R, hR⟩ : ∃ R, relW s x = R := ⟨_, rfl⟩
  have HR := Lib.hid hR
  have H := Lib.hid h
  have Hcode := Lib.hid hcd
  rw [hR]
  clear hr hc hW bR bA bO bC K h hWX hR hcd
  go_enter Tryz.func27, Tryz.ntmps27
  go_wp2_with fail
  rw [← HW.out]
  clear HW
  go_quiet (first | (go_at_call 25; exact hs1 _) | (go_at_call 38; exact hc1 _))
  clear hs1 hc1 q0 ql p4 p5 pl
  have kd := (Keeps.refl [] W).drewN nq
  have bR := kd.blk HB.out.1 (by simp)
  have bA := kd.blk HB.out.2.1 (by simp)
  have bO := kd.blk HB.out.2.2.1 (by simp)
  have bC := kd.blk HB.out.2.2.2.1 (by simp)
  have K := HB.out.2.2.2.2.1.trans kd (by simp)
  have hWX := HB.out.2.2.2.2.2.keeps kd
  obtain ⟨W2, hW2⟩ : ∃ W2, W2 = W.drewN nq := ⟨_, rfl⟩
  rw [← hW2] at bR bA bO bC K hWX ⊢
  clear hW2 HB kd
  have p0 : W2.cell? ⟨w.heap.size + 1 + 1, 0, none⟩ = some (.int .i64 (x.code : Int)) := bO.cell 0
  have pl := bO.lt
  have e5 : ((x.code : Int) == 5) = true := by rw [beq_iff_eq]; have := Hcode.out; omega
  rcases Hr.out.fnd hi.dS with ⟨hr1, hno⟩ | ⟨k, p, hr1, hp, hsn, hfil⟩
  · have hr0 : r < 0 := by omega
    have hRv : R = (errA 6, true, s) := by rw [← HR.out]; unfold relW; rw [hno]
    clear hr1 hno HR Hr Hc
    obtain ⟨c0, c1, c2, c3, c4, c5⟩ := bC.o4
    obtain ⟨bS, kS⟩ := bA.set4 (.int .i64 6) (.int .u64 0) (.string ⟨#[]⟩) (.string ⟨#[]⟩)
    obtain ⟨o0, o1, o2, o3, o4, o5⟩ := bA.o4
    have no : ¬ OwnW ww bv sv cv vs (w.heap.size + 1) := fun e => by have := (H.out.oge e).2; omega
    have HX := Lib.hid (And.intro (hWX.beside kS no) ((Ef.refl (O := OwnW ww bv sv cv vs) K).fresh kS (by omega)))
    clear bA bO bC bR K hWX no
    go_wp2_with fail
    refine bodyPost_ret (O.results_blk rfl _ _ (w.heap.size + 1) [.int .i64 6, .int .u64 0, .string ⟨#[]⟩, .string ⟨#[]⟩] _ rfl bS Tryz.underlying32 sizAn) rfl ?_
    refine ⟨?_, ?_, ?_⟩
    · rw [hRv]; rfl
    · rw [hRv]
    · rw [hRv]; exact ⟨_, _, _, _, HX.out.1, HX.out.2⟩
  · subst hr1
    have hr0 : ¬ (k : Int) < 0 := by omega
    obtain ⟨g, cap, hv, s0, s1, s2, sl⟩ := Row.at3 hWX.hs hp
    obtain ⟨w0, w1, w2, w3, w4, w5⟩ := hWX.hw.o4
    rw [hv] at w2
    have hkl : (k : Int) < (s.Ss.length : Int) := by have := (List.getElem?_eq_some_iff.1 hp).1; omega
    obtain ⟨N, hN⟩ : ∃ N, s.Ss.length = N := ⟨_, rfl⟩
    rw [hN] at w2 hkl
    have hRv : R = (okA p.T, true, ⟨s.Bs, s.F, s.Ss.filter (fun p => !isS x.t x.hd p), s.Cs.filter (fun p => !onS x.t x.hd p)⟩) := by rw [← HR.out]; unfold relW; rw [hsn]
    have kA := (Keeps.refl [] W2).alloc (.cells #[.int .i64 0, .int .u64 (p.T : Int), .string ⟨#[]⟩, .string ⟨#[]⟩] 32)
    have b9 := Blk.new W2 [.int .i64 0, .int .u64 (p.T : Int), .string ⟨#[]⟩, .string ⟨#[]⟩] 32
    have hX3 := hWX.keeps kA
    have hrel := xrel_some hX3 (by have := hi.nS; omega) (by have := hi.nC; omega) x.t x.hd hi.dS p hsn
    have r0 : W2.cell? ⟨w.heap.size, 0, none⟩ = some (.int .i64 (x.t : Int)) := bR.cell 0
    have rl := bR.lt
    have p4 : W2.cell? ⟨w.heap.size + 1 + 1, 4, none⟩ = some (.int .i64 (x.hd : Int)) := bO.cell 4
    have HZ := Lib.hid (And.intro (kA.blk bA (by simp)) (And.intro b9 (And.intro (K.trans kA (by simp)) (And.intro hX3 K.size))))
    have HRv := Lib.hid hRv
    clear bA bO bC bR K hWX kA b9 hX3 hfil hsn hp hv HR Hr Hc hN hRv
    go_wp2_with fail
    refine hrel.mono ?_
    rintro e w4 ⟨rfl, b1', b2', b3', b4', hX, hG⟩
    obtain ⟨bA3, b93, K3, hX3, hsz⟩ := HZ.out
    have no : ¬ OwnW ww bv sv cv vs (w.heap.size + 1) := fun e => by have := (H.out.oge e).2; omega
    have no9 : ¬ OwnW ww bv sv cv vs W2.heap.size := fun e => by have := (H.out.oge e).2; omega
    obtain ⟨bA4, no4⟩ := hG.blk bA3 no
    obtain ⟨b94, _⟩ := hG.blk b93 no9
    obtain ⟨c0, c1, c2, c3, c4, c5⟩ := b94.o4
    obtain ⟨bS, kS⟩ := bA4.set4 (.int .i64 0) (.int .u64 (p.T : Int)) (.string ⟨#[]⟩) (.string ⟨#[]⟩)
    obtain ⟨o0, o1, o2, o3, o4, o5⟩ := bA4.o4
    have HX := Lib.hid (And.intro (hX.beside kS no4) ((Ef.before K3 hG).fresh kS (by omega)))
    clear bA3 b93 K3 hX3 no no9 bA4 no4 b94 hX hG HZ hrel
    go_wp2_with fail
    refine bodyPost_ret (O.results_blk rfl _ _ (w.heap.size + 1) [.int .i64 0, .int .u64 (p.T : Int), .string ⟨#[]⟩, .string ⟨#[]⟩] _ rfl bS Tryz.underlying32 sizAn) rfl ?_
    refine ⟨?_, ?_, ?_⟩
    · rw [HRv.out]; rfl
    · rw [HRv.out]
    · rw [HRv.out]; exact ⟨_, _, _, _, HX.out.1, HX.out.2⟩
end Go.Proofs.YtbcgpjfejpcgnaaGreat
end
section
namespace Go.Proofs.YtbcgpjfejpcgnaaGreat
open Go.RowKit
set_option maxRecDepth 100000
set_option linter.unusedSimpArgs false
set_option linter.unusedVariables false
variable {w w' : World} {base ww : Nat} {bv sv cv : Value} {vs : List Value} {s : WS}
set_option maxHeartbeats 4000000 in
theorem xl6_any (h : WX w base ww bv sv cv vs s) {n : Nat} (hi : Inv n s) (hn : n ≤ 100) (x : RX) (hx : OkX x) (hcd : x.code = 6) :
    Calls Tryz.prog 27 #[.pointer (some ⟨ww, 0, none⟩), .agg #[.int .i64 (x.t : Int), .int .i64 x.ix, .int .i64 x.inv, .int .i64 x.pt, .int .i64 x.rs, .int .i64 (x.code : Int), .string ⟨x.key.toArray⟩, .int .u64 (x.time : Int), .slice x.bA x.b.length x.bc, .int .i64 (x.hd : Int), .int .i64 (x.cu : Int), .int .i64 (x.mo : Int), .int .i64 x.er, .int .u64 (x.at_ : Int), .string ⟨x.ak.toArray⟩, .string ⟨x.av.toArray⟩]] w (LocP w base ww bv sv cv vs (opnW s x)) := by
  obtain ⟨r, hr⟩ := SnAt.ex s.Ss x.t x.hd
  obtain ⟨c, hc⟩ := CuAt.ex s.Cs x.t x.cu
  have K := ((((Keeps.refl [] w).alloc (.cells #[.int .i64 (x.t : Int), .int .i64 x.ix, .int .i64 x.inv, .int .i64 x.pt, .int .i64 x.rs, .int .i64 (x.code : Int), .string ⟨x.key.toArray⟩, .int .u64 (x.time : Int), .slice x.bA x.b.length x.bc, .int .i64 (x.hd : Int), .int .i64 (x.cu : Int), .int .i64 (x.mo : Int), .int .i64 x.er, .int .u64 (x.at_ : Int), .string ⟨x.ak.toArray⟩, .string ⟨x.av.toArray⟩] 34)).alloc (.cells #[.int .i64 0, .int .u64 0, .string ⟨#[]⟩, .string ⟨#[]⟩] 32)).alloc (.cells #[.int .i64 (x.code : Int), .string ⟨x.key.toArray⟩, .int .u64 (x.time : Int), .slice x.bA x.b.length x.bc, .int .i64 (x.hd : Int), .int .i64 (x.cu : Int), .int .i64 (x.mo : Int)] 29)).alloc (.cells #[.int .i64 6, .int .u64 0, .string ⟨#[]⟩, .string ⟨#[]⟩] 32)
  have bR := (((Blk.new w [.int .i64 (x.t : Int), .int .i64 x.ix, .int .i64 x.inv, .int .i64 x.pt, .int .i64 x.rs, .int .i64 (x.code : Int), .string ⟨x.key.toArray⟩, .int .u64 (x.time : Int), .slice x.bA x.b.length x.bc, .int .i64 (x.hd : Int), .int .i64 (x.cu : Int), .int .i64 (x.mo : Int), .int .i64 x.er, .int .u64 (x.at_ : Int), .string ⟨x.ak.toArray⟩, .string ⟨x.av.toArray⟩] 34).alloc (.cells #[.int .i64 0, .int .u64 0, .string ⟨#[]⟩, .string ⟨#[]⟩] 32)).alloc (.cells #[.int .i64 (x.code : Int), .string ⟨x.key.toArray⟩, .int .u64 (x.time : Int), .slice x.bA x.b.length x.bc, .int .i64 (x.hd : Int), .int .i64 (x.cu : Int), .int .i64 (x.mo : Int)] 29)).alloc (.cells #[.int .i64 6, .int .u64 0, .string ⟨#[]⟩, .string ⟨#[]⟩] 32)
  have bA := ((Blk.new_at (w.alloc (.cells #[.int .i64 (x.t : Int), .int .i64 x.ix, .int .i64 x.inv, .int .i64 x.pt, .int .i64 x.rs, .int .i64 (x.code : Int), .string ⟨x.key.toArray⟩, .int .u64 (x.time : Int), .slice x.bA x.b.length x.bc, .int .i64 (x.hd : Int), .int .i64 (x.cu : Int), .int .i64 (x.mo : Int), .int .i64 x.er, .int .u64 (x.at_ : Int), .string ⟨x.ak.toArray⟩, .string ⟨x.av.toArray⟩] 34)) (w.heap.size + 1) [.int .i64 0, .int .u64 0, .string ⟨#[]⟩, .string ⟨#[]⟩] 32 (by simp)).alloc (.cells #[.int .i64 (x.code : Int), .string ⟨x.key.toArray⟩, .int .u64 (x.time : Int), .slice x.bA x.b.length x.bc, .int .i64 (x.hd : Int), .int .i64 (x.cu : Int), .int .i64 (x.mo : Int)] 29)).alloc (.cells #[.int .i64 6, .int .u64 0, .string ⟨#[]⟩, .string ⟨#[]⟩] 32)
  have bO := (Blk.new_at ((w.alloc (.cells #[.int .i64 (x.t : Int), .int .i64 x.ix, .int .i64 x.inv, .int .i64 x.pt, .int .i64 x.rs, .int .i64 (x.code : Int), .string ⟨x.key.toArray⟩, .int .u64 (x.time : Int), .slice x.bA x.b.length x.bc, .int .i64 (x.hd : Int), .int .i64 (x.cu : Int), .int .i64 (x.mo : Int), .int .i64 x.er, .int .u64 (x.at_ : Int), .string ⟨x.ak.toArray⟩, .string ⟨x.av.toArray⟩] 34)).alloc (.cells #[.int .i64 0, .int .u64 0, .string ⟨#[]⟩, .string ⟨#[]⟩] 32)) (w.heap.size + 1 + 1) [.int .i64 (x.code : Int), .string ⟨x.key.toArray⟩, .int .u64 (x.time : Int), .slice x.bA x.b.length x.bc, .int .i64 (x.hd : Int), .int .i64 (x.cu : Int), .int .i64 (x.mo : Int)] 29 (by simp)).alloc (.cells #[.int .i64 6, .int .u64 0, .string ⟨#[]⟩, .string ⟨#[]⟩] 32)
  have bC := Blk.new_at (((w.alloc (.cells #[.int .i64 (x.t : Int), .int .i64 x.ix, .int .i64 x.inv, .int .i64 x.pt, .int .i64 x.rs, .int .i64 (x.code : Int), .string ⟨x.key.toArray⟩, .int .u64 (x.time : Int), .slice x.bA x.b.length x.bc, .int .i64 (x.hd : Int), .int .i64 (x.cu : Int), .int .i64 (x.mo : Int), .int .i64 x.er, .int .u64 (x.at_ : Int), .string ⟨x.ak.toArray⟩, .string ⟨x.av.toArray⟩] 34)).alloc (.cells #[.int .i64 0, .int .u64 0, .string ⟨#[]⟩, .string ⟨#[]⟩] 32)).alloc (.cells #[.int .i64 (x.code : Int), .string ⟨x.key.toArray⟩, .int .u64 (x.time : Int), .slice x.bA x.b.length x.bc, .int .i64 (x.hd : Int), .int .i64 (x.cu : Int), .int .i64 (x.mo : Int)] 29)) (w.heap.size + 1 + 1 + 1) [.int .i64 6, .int .u64 0, .string ⟨#[]⟩, .string ⟨#[]⟩] 32 (by simp)
  obtain ⟨W, hW⟩ : ∃ W, W = (((w.alloc (.cells #[.int .i64 (x.t : Int), .int .i64 x.ix, .int .i64 x.inv, .int .i64 x.pt, .int .i64 x.rs, .int .i64 (x.code : Int), .string ⟨x.key.toArray⟩, .int .u64 (x.time : Int), .slice x.bA x.b.length x.bc, .int .i64 (x.hd : Int), .int .i64 (x.cu : Int), .int .i64 (x.mo : Int), .int .i64 x.er, .int .u64 (x.at_ : Int), .string ⟨x.ak.toArray⟩, .string ⟨x.av.toArray⟩] 34)).alloc (.cells #[.int .i64 0, .int .u64 0, .string ⟨#[]⟩, .string ⟨#[]⟩] 32)).alloc (.cells #[.int .i64 (x.code : Int), .string ⟨x.key.toArray⟩, .int .u64 (x.time : Int), .slice x.bA x.b.length x.bc, .int .i64 (x.hd : Int), .int .i64 (x.cu : Int), .int .i64 (x.mo : Int)] 29)).alloc (.cells #[.int .i64 6, .int .u64 0, .string ⟨#[]⟩, .string ⟨#[]⟩] 32) := ⟨_, rfl⟩
  rw [← hW] at K bR bA bO bC
  have hWX := h.keeps K
  have hs1 := xsnap_q hWX (by have := hi.nS; omega) hi.dS hr
  have hc1 := xcur_q hWX (by have := hi.nC; omega) hi.dC hc
  have q0 : W.cell? ⟨w.heap.size, 0, none⟩ = some (.int .i64 (x.t : Int)) := bR.cell 0
  have ql := bR.lt
  have p4 : W.cell? ⟨w.heap.size + 1 + 1, 4, none⟩ = some (.int .i64 (x.hd : Int)) := bO.cell 4
  have p5 : W.cell? ⟨w.heap.size + 1 + 1, 5, none⟩ = some (.int .i64 (x.cu : Int)) := bO.cell 5
  have pl := bO.lt
  have Hr := Lib.hid hr
  have Hc := Lib.hid hc
  have HW := Lib.hid hW
  have HB := Lib.hid (And.intro bR (And.intro bA (And.intro bO (And.intro bC (And.intro K hWX)))))
  obtain ⟨R, hR⟩ : ∃ R, opnW s x = R := ⟨_, rfl⟩
  have HR := Lib.hid hR
  have H := Lib.hid h
  have Hcode := Lib.hid hcd
  rw [hR]
  clear hr hc hW bR bA bO bC K h hWX hR hcd
  go_enter Tryz.func27, Tryz.ntmps27
  go_wp2_with fail
  rw [← HW.out]
  clear HW
  go_quiet (first | (go_at_call 25; exact hs1 _) | (go_at_call 38; exact hc1 _))
  clear hs1 hc1 q0 ql p4 p5 pl
  have kd := (Keeps.refl [] W).drewN nq
  have bR := kd.blk HB.out.1 (by simp)
  have bA := kd.blk HB.out.2.1 (by simp)
  have bO := kd.blk HB.out.2.2.1 (by simp)
  have bC := kd.blk HB.out.2.2.2.1 (by simp)
  have K := HB.out.2.2.2.2.1.trans kd (by simp)
  have hWX := HB.out.2.2.2.2.2.keeps kd
  obtain ⟨W2, hW2⟩ : ∃ W2, W2 = W.drewN nq := ⟨_, rfl⟩
  rw [← hW2] at bR bA bO bC K hWX ⊢
  clear hW2 HB kd
  have p0 : W2.cell? ⟨w.heap.size + 1 + 1, 0, none⟩ = some (.int .i64 (x.code : Int)) := bO.cell 0
  have pl := bO.lt
  have e5 : ((x.code : Int) == 5) = false := by rw [beq_eq_false_iff_ne]; have := Hcode.out; omega
  have e6 : ((x.code : Int) == 6) = true := by rw [beq_iff_eq]; have := Hcode.out; omega
  rcases Hr.out.fnd hi.dS with ⟨hr1, hno⟩ | ⟨k, p, hr1, hp, hsn, hfil⟩
  · have hr0 : r < 0 := by omega
    have hRv : R = (errA 6, true, s) := by rw [← HR.out]; unfold opnW; rw [hno]
    clear hr1 hno HR Hr Hc
    obtain ⟨c0, c1, c2, c3, c4, c5⟩ := bC.o4
    obtain ⟨bS, kS⟩ := bA.set4 (.int .i64 6) (.int .u64 0) (.string ⟨#[]⟩) (.string ⟨#[]⟩)
    obtain ⟨o0, o1, o2, o3, o4, o5⟩ := bA.o4
    have no : ¬ OwnW ww bv sv cv vs (w.heap.size + 1) := fun e => by have := (H.out.oge e).2; omega
    have HX := Lib.hid (And.intro (hWX.beside kS no) ((Ef.refl (O := OwnW ww bv sv cv vs) K).fresh kS (by omega)))
    clear bA bO bC bR K hWX no
    go_wp2_with fail
    refine bodyPost_ret (O.results_blk rfl _ _ (w.heap.size + 1) [.int .i64 6, .int .u64 0, .string ⟨#[]⟩, .string ⟨#[]⟩] _ rfl bS Tryz.underlying32 sizAn) rfl ?_
    refine ⟨?_, ?_, ?_⟩
    · rw [hRv]; rfl
    · rw [hRv]
    · rw [hRv]; exact ⟨_, _, _, _, HX.out.1, HX.out.2⟩
  · subst hr1
    have hr0 : ¬ (k : Int) < 0 := by omega
    clear hfil
    have no : ¬ OwnW ww bv sv cv vs (w.heap.size + 1) := fun e => by have := (H.out.oge e).2; omega
    rcases Hc.out.fnd hi.dC with ⟨hc1, hcn⟩ | ⟨kc, pc, hc1, hpc, hcs, _⟩
    · have hc0 : ¬ 0 ≤ c := by omega
      have hRv : R = (okA p.T, true, ⟨s.Bs, s.F, s.Ss, s.Cs ++ [⟨x.t, x.cu, x.hd, p.T, 0, []⟩]⟩) := by rw [← HR.out]; unfold opnW; rw [hsn]; simp only; rw [hcn]
      have HRv := Lib.hid hRv
      clear hRv hcn hc1 HR Hr Hc
      obtain ⟨g, cap, hv, s0, s1, s2, sl⟩ := Row.at3 hWX.hs hp
      have hsR := hWX.hs
      obtain ⟨w0, w1, w2, w3, w4, w5⟩ := hWX.hw.o4
      obtain ⟨cA, cc, hcv⟩ := hWX.hc.len
      rw [hv] at w2
      rw [hcv] at w3
      have hkl : (k : Int) < (s.Ss.length : Int) := by have := (List.getElem?_eq_some_iff.1 hp).1; omega
      have hCl := hi.nC
      have kd : Keeps [] W2 W2.drew := (Keeps.refl [] W2).drew
      have kA := kd.alloc (.cells #[.int .i64 (x.t : Int), .int .i64 (x.cu : Int), .int .i64 (x.hd : Int), .int .u64 (p.T : Int), .int .i64 0, .string ⟨#[]⟩] 92)
      obtain ⟨i1, hi0, hz0, hz1, hz2⟩ := info_parts infoCU
      have bn := Blk.new W2.drew (cC ⟨x.t, x.cu, x.hd, p.T, 0, []⟩) 92
      obtain ⟨v5, W5, hr5, r5, k5, f5⟩ := row_append (hWX.hc.keeps kA (by simp)) 56 56 92 i1 _ 56 Tryz.underlying56 hi0 hz0 hz1 hz2 rfl (by decide) ⟨W2.drew.heap.size, 0, none⟩ 1 1 (cC ⟨x.t, x.cu, x.hd, p.T, 0, []⟩) rfl
        (fun j u hj => by rw [Addr.add_lit, Nat.zero_add]; exact (bn.cell j).trans hj) (fun u hu => cCs_one' (l := [⟨x.t, x.cu, x.hd, p.T, 0, []⟩]) (by rw [cCs_one]; exact hu)) (by omega) (by decide)
      obtain ⟨v5A, v5c, rfl⟩ := r5.len
      have hlen : (s.Cs ++ [(⟨x.t, x.cu, x.hd, p.T, 0, []⟩ : CuE)]).length = s.Cs.length + 1 := by simp
      obtain ⟨hX5, hE5⟩ := hWX.setC ((kA.mono (by simp)).trans k5 (fun i hi => .inl hi)) (Cs' := s.Cs ++ [⟨x.t, x.cu, x.hd, p.T, 0, []⟩]) (by rw [hlen, cCs_append, cCs_one]; exact r5) (fun g hg => by
        rcases f5 g hg with q | q
        · exact .inl q
        · exact .inr (Nat.le_trans kA.size q))
      obtain ⟨bA5, no5⟩ := hE5.blk bA no
      have hs5 := hX5.hs
      rw [hv] at hs5
      obtain ⟨-, -, s2', sl'⟩ := Row.at3' hs5 hp
      clear hs5
      obtain ⟨y0, y1, y2, y3, y4, y5⟩ := hX5.hw.o4
      simp only at y1
      rw [hv] at y2
      have kw5 : Keeps cv.ownBlock.toList W2 W5 := (kA.mono (by simp)).trans k5 (fun i hi => .inl hi)
      have nww : ww ∉ cv.ownBlock.toList := fun hm => (hWX.hq.2 ww (.inr (.inr (by simpa using hm)))).2 rfl
      have f5' := (kw5.blk hWX.hw nww).frozen
      have l5' := (kw5.blk hWX.hw nww).lt
      have w35 : W5.cell? ⟨ww, 3, none⟩ = some (.slice cA s.Cs.length cc) := by rw [← hcv]; exact (kw5.blk hWX.hw nww).cell 3
      have hf5 := fun j => (kw5.blk hWX.hw nww).frozen j
      have r0 : W2.cell? ⟨w.heap.size, 0, none⟩ = some (.int .i64 (x.t : Int)) := bR.cell 0
      have rl := bR.lt
      have p4 : W2.cell? ⟨w.heap.size + 1 + 1, 4, none⟩ = some (.int .i64 (x.hd : Int)) := bO.cell 4
      have p5 : W2.cell? ⟨w.heap.size + 1 + 1, 5, none⟩ = some (.int .i64 (x.cu : Int)) := bO.cell 5
      have hr5' : (Builtin.append_ #[56, 56] 56 #[.slice cA s.Cs.length cc, .slice (some ⟨W2.drew.heap.size, 0, none⟩) 1 1]).run Tryz.prog (W2.drew.alloc (.cells #[.int .i64 (x.t : Int), .int .i64 (x.cu : Int), .int .i64 (x.hd : Int), .int .u64 (p.T : Int), .int .i64 0, .string ⟨#[]⟩] 92)) = .ok (.slice v5A (s.Cs.length + 1) v5c) W5 := by rw [← hcv]; exact hr5
      obtain ⟨N, hN⟩ : ∃ N, s.Ss.length = N := ⟨_, rfl⟩
      rw [hN] at w2 y2 hkl
      have hE6 := Ef.before K hE5
      have w3d := kd.cellEq w3 (by simp)
      have r0d := kd.cellEq r0 (by simp)
      have p4d := kd.cellEq p4 (by simp)
      have p5d := kd.cellEq p5 (by simp)
      have w2d := kd.cellEq w2 (by simp)
      have s2d := kd.cellEq s2 (by simp)
      have w3a := kA.cellEq w3 (by simp)
      have r0a := kA.cellEq r0 (by simp)
      have p4a := kA.cellEq p4 (by simp)
      have p5a := kA.cellEq p5 (by simp)
      have w2a := kA.cellEq w2 (by simp)
      have s2a := kA.cellEq s2 (by simp)
      have ncv : ∀ b, w.heap.size ≤ b → b ∉ cv.ownBlock.toList := fun b hb hm => by have := (H.out.oge (.inr (.inr (.inr (.inl (by simpa using hm)))))).2; omega
      have r05 := kw5.cellEq r0 (ncv _ (by omega))
      have p45 := kw5.cellEq p4 (ncv _ (by omega))
      have p55 := kw5.cellEq p5 (ncv _ (by omega))
      have w25 := kw5.cellEq w2 nww
      have s25 := kw5.cellEq s2 (fun hm => hWX.hd2 g (by rw [hv]; rfl) (by simpa using hm))
      obtain ⟨bS, kS⟩ := bA5.set4 (.int .i64 0) (.int .u64 (p.T : Int)) (.string ⟨#[]⟩) (.string ⟨#[]⟩)
      obtain ⟨o0, o1, o2, o3, o4, o5⟩ := bA5.o4
      have HX := Lib.hid (And.intro (hX5.beside kS no5) ((hE6).fresh kS (by omega)))
      have HbS := Lib.hid bS
      clear bS kS

      clear ncv bA bO bC bR K hWX kd kA bn hr5 r5 f5 k5 hX5 hE5 hE6 bA5 no5 kw5 nww hsn hp hv hcv no hlen hN hCl hi0 hz0 hz1 hz2 hsR H
      go_wp2_with fail
      go_region_held3 (fun w' => w'.cell? ⟨ww, 3, none⟩ = some (.slice cA s.Cs.length cc) ∧ w'.cell? ⟨w.heap.size, 0, none⟩ = some (.int .i64 (x.t : Int)) ∧ w'.cell? ⟨w.heap.size + 1 + 1, 4, none⟩ = some (.int .i64 (x.hd : Int)) ∧ w'.cell? ⟨w.heap.size + 1 + 1, 5, none⟩ = some (.int .i64 (x.cu : Int)) ∧ w'.cell? ⟨ww, 2, none⟩ = some (.slice (some ⟨g, 0, none⟩) N cap) ∧ w'.cell? ⟨g, k * 3 + 2, none⟩ = some (.int .u64 (p.T : Int)))
        (first | (with_reducible exact ⟨w3d, r0d, p4d, p5d, w2d, s2d⟩) | (with_reducible exact ⟨w3a, r0a, p4a, p5a, w2a, s2a⟩) | (with_reducible exact ⟨w35, r05, p45, p55, w25, s25⟩) | go_keep)
        (refine step_append_eq rfl _ _ 56 56 rfl (.slice cA s.Cs.length cc) (.slice (some ⟨W2.drew.heap.size, 0, none⟩) 1 1) (by simp [Act.eval, Act.put]) (by simp [Act.eval, Act.put]) hr5' ?_)
      all_goals (
        go_wp2_with fail
        refine bodyPost_ret (O.results_blk rfl _ _ (w.heap.size + 1) [.int .i64 0, .int .u64 (p.T : Int), .string ⟨#[]⟩, .string ⟨#[]⟩] _ rfl HbS.out Tryz.underlying32 sizAn) rfl ?_
        refine ⟨?_, ?_, ?_⟩
        · rw [HRv.out]; rfl
        · rw [HRv.out]
        · rw [HRv.out]; exact ⟨_, _, _, _, HX.out.1, HX.out.2⟩)
    · have hc0 : 0 ≤ c := by omega
      have hRv : R = (errA 7, true, s) := by rw [← HR.out]; unfold opnW; rw [hsn]; simp only; rw [hcs]
      have HRv := Lib.hid hRv
      obtain ⟨bS, kS⟩ := bA.set4 (.int .i64 7) (.int .u64 0) (.string ⟨#[]⟩) (.string ⟨#[]⟩)
      obtain ⟨o0, o1, o2, o3, o4, o5⟩ := bA.o4
      have HX := Lib.hid (And.intro (hWX.beside kS no) ((Ef.refl (O := OwnW ww bv sv cv vs) K).fresh kS (by omega)))
      have HbS := Lib.hid bS
      clear bS kS

      clear bA bO bC bR K hWX no hRv hcs hpc hc1 hsn hp HR Hr Hc
      go_wp2_with fail
      refine bodyPost_ret (O.results_blk rfl _ _ (w.heap.size + 1) [.int .i64 7, .int .u64 0, .string ⟨#[]⟩, .string ⟨#[]⟩] _ rfl HbS.out Tryz.underlying32 sizAn) rfl ?_
      refine ⟨?_, ?_, ?_⟩
      · rw [HRv.out]; rfl
      · rw [HRv.out]
      · rw [HRv.out]; exact ⟨_, _, _, _, HX.out.1, HX.out.2⟩
end Go.Proofs.YtbcgpjfejpcgnaaGreat
end
section
namespace Go.Proofs.YtbcgpjfejpcgnaaGreat
open Go.RowKit
set_option maxRecDepth 100000
set_option linter.unusedSimpArgs false
set_option linter.unusedVariables false
variable {w w' : World} {base ww : Nat} {bv sv cv : Value} {vs : List Value} {s : WS}
set_option maxHeartbeats 4000000 in
theorem xl8_any (h : WX w base ww bv sv cv vs s) {n : Nat} (hi : Inv n s) (hn : n ≤ 100) (x : RX) (hx : OkX x) (hcd : x.code = 8) :
    Calls Tryz.prog 27 #[.pointer (some ⟨ww, 0, none⟩), .agg #[.int .i64 (x.t : Int), .int .i64 x.ix, .int .i64 x.inv, .int .i64 x.pt, .int .i64 x.rs, .int .i64 (x.code : Int), .string ⟨x.key.toArray⟩, .int .u64 (x.time : Int), .slice x.bA x.b.length x.bc, .int .i64 (x.hd : Int), .int .i64 (x.cu : Int), .int .i64 (x.mo : Int), .int .i64 x.er, .int .u64 (x.at_ : Int), .string ⟨x.ak.toArray⟩, .string ⟨x.av.toArray⟩]] w (LocP w base ww bv sv cv vs (cloW s x)) := by
  obtain ⟨r, hr⟩ := SnAt.ex s.Ss x.t x.hd
  obtain ⟨c, hc⟩ := CuAt.ex s.Cs x.t x.cu
  have K := ((((Keeps.refl [] w).alloc (.cells #[.int .i64 (x.t : Int), .int .i64 x.ix, .int .i64 x.inv, .int .i64 x.pt, .int .i64 x.rs, .int .i64 (x.code : Int), .string ⟨x.key.toArray⟩, .int .u64 (x.time : Int), .slice x.bA x.b.length x.bc, .int .i64 (x.hd : Int), .int .i64 (x.cu : Int), .int .i64 (x.mo : Int), .int .i64 x.er, .int .u64 (x.at_ : Int), .string ⟨x.ak.toArray⟩, .string ⟨x.av.toArray⟩] 34)).alloc (.cells #[.int .i64 0, .int .u64 0, .string ⟨#[]⟩, .string ⟨#[]⟩] 32)).alloc (.cells #[.int .i64 (x.code : Int), .string ⟨x.key.toArray⟩, .int .u64 (x.time : Int), .slice x.bA x.b.length x.bc, .int .i64 (x.hd : Int), .int .i64 (x.cu : Int), .int .i64 (x.mo : Int)] 29)).alloc (.cells #[.int .i64 6, .int .u64 0, .string ⟨#[]⟩, .string ⟨#[]⟩] 32)
  have bR := (((Blk.new w [.int .i64 (x.t : Int), .int .i64 x.ix, .int .i64 x.inv, .int .i64 x.pt, .int .i64 x.rs, .int .i64 (x.code : Int), .string ⟨x.key.toArray⟩, .int .u64 (x.time : Int), .slice x.bA x.b.length x.bc, .int .i64 (x.hd : Int), .int .i64 (x.cu : Int), .int .i64 (x.mo : Int), .int .i64 x.er, .int .u64 (x.at_ : Int), .string ⟨x.ak.toArray⟩, .string ⟨x.av.toArray⟩] 34).alloc (.cells #[.int .i64 0, .int .u64 0, .string ⟨#[]⟩, .string ⟨#[]⟩] 32)).alloc (.cells #[.int .i64 (x.code : Int), .string ⟨x.key.toArray⟩, .int .u64 (x.time : Int), .slice x.bA x.b.length x.bc, .int .i64 (x.hd : Int), .int .i64 (x.cu : Int), .int .i64 (x.mo : Int)] 29)).alloc (.cells #[.int .i64 6, .int .u64 0, .string ⟨#[]⟩, .string ⟨#[]⟩] 32)
  have bA := ((Blk.new_at (w.alloc (.cells #[.int .i64 (x.t : Int), .int .i64 x.ix, .int .i64 x.inv, .int .i64 x.pt, .int .i64 x.rs, .int .i64 (x.code : Int), .string ⟨x.key.toArray⟩, .int .u64 (x.time : Int), .slice x.bA x.b.length x.bc, .int .i64 (x.hd : Int), .int .i64 (x.cu : Int), .int .i64 (x.mo : Int), .int .i64 x.er, .int .u64 (x.at_ : Int), .string ⟨x.ak.toArray⟩, .string ⟨x.av.toArray⟩] 34)) (w.heap.size + 1) [.int .i64 0, .int .u64 0, .string ⟨#[]⟩, .string ⟨#[]⟩] 32 (by simp)).alloc (.cells #[.int .i64 (x.code : Int), .string ⟨x.key.toArray⟩, .int .u64 (x.time : Int), .slice x.bA x.b.length x.bc, .int .i64 (x.hd : Int), .int .i64 (x.cu : Int), .int .i64 (x.mo : Int)] 29)).alloc (.cells #[.int .i64 6, .int .u64 0, .string ⟨#[]⟩, .string ⟨#[]⟩] 32)
  have bO := (Blk.new_at ((w.alloc (.cells #[.int .i64 (x.t : Int), .int .i64 x.ix, .int .i64 x.inv, .int .i64 x.pt, .int .i64 x.rs, .int .i64 (x.code : Int), .string ⟨x.key.toArray⟩, .int .u64 (x.time : Int), .slice x.bA x.b.length x.bc, .int .i64 (x.hd : Int), .int .i64 (x.cu : Int), .int .i64 (x.mo : Int), .int .i64 x.er, .int .u64 (x.at_ : Int), .string ⟨x.ak.toArray⟩, .string ⟨x.av.toArray⟩] 34)).alloc (.cells #[.int .i64 0, .int .u64 0, .string ⟨#[]⟩, .string ⟨#[]⟩] 32)) (w.heap.size + 1 + 1) [.int .i64 (x.code : Int), .string ⟨x.key.toArray⟩, .int .u64 (x.time : Int), .slice x.bA x.b.length x.bc, .int .i64 (x.hd : Int), .int .i64 (x.cu : Int), .int .i64 (x.mo : Int)] 29 (by simp)).alloc (.cells #[.int .i64 6, .int .u64 0, .string ⟨#[]⟩, .string ⟨#[]⟩] 32)
  have bC := Blk.new_at (((w.alloc (.cells #[.int .i64 (x.t : Int), .int .i64 x.ix, .int .i64 x.inv, .int .i64 x.pt, .int .i64 x.rs, .int .i64 (x.code : Int), .string ⟨x.key.toArray⟩, .int .u64 (x.time : Int), .slice x.bA x.b.length x.bc, .int .i64 (x.hd : Int), .int .i64 (x.cu : Int), .int .i64 (x.mo : Int), .int .i64 x.er, .int .u64 (x.at_ : Int), .string ⟨x.ak.toArray⟩, .string ⟨x.av.toArray⟩] 34)).alloc (.cells #[.int .i64 0, .int .u64 0, .string ⟨#[]⟩, .string ⟨#[]⟩] 32)).alloc (.cells #[.int .i64 (x.code : Int), .string ⟨x.key.toArray⟩, .int .u64 (x.time : Int), .slice x.bA x.b.length x.bc, .int .i64 (x.hd : Int), .int .i64 (x.cu : Int), .int .i64 (x.mo : Int)] 29)) (w.heap.size + 1 + 1 + 1) [.int .i64 6, .int .u64 0, .string ⟨#[]⟩, .string ⟨#[]⟩] 32 (by simp)
  obtain ⟨W, hW⟩ : ∃ W, W = (((w.alloc (.cells #[.int .i64 (x.t : Int), .int .i64 x.ix, .int .i64 x.inv, .int .i64 x.pt, .int .i64 x.rs, .int .i64 (x.code : Int), .string ⟨x.key.toArray⟩, .int .u64 (x.time : Int), .slice x.bA x.b.length x.bc, .int .i64 (x.hd : Int), .int .i64 (x.cu : Int), .int .i64 (x.mo : Int), .int .i64 x.er, .int .u64 (x.at_ : Int), .string ⟨x.ak.toArray⟩, .string ⟨x.av.toArray⟩] 34)).alloc (.cells #[.int .i64 0, .int .u64 0, .string ⟨#[]⟩, .string ⟨#[]⟩] 32)).alloc (.cells #[.int .i64 (x.code : Int), .string ⟨x.key.toArray⟩, .int .u64 (x.time : Int), .slice x.bA x.b.length x.bc, .int .i64 (x.hd : Int), .int .i64 (x.cu : Int), .int .i64 (x.mo : Int)] 29)).alloc (.cells #[.int .i64 6, .int .u64 0, .string ⟨#[]⟩, .string ⟨#[]⟩] 32) := ⟨_, rfl⟩
  rw [← hW] at K bR bA bO bC
  have hWX := h.keeps K
  have hs1 := xsnap_q hWX (by have := hi.nS; omega) hi.dS hr
  have hc1 := xcur_q hWX (by have := hi.nC; omega) hi.dC hc
  have q0 : W.cell? ⟨w.heap.size, 0, none⟩ = some (.int .i64 (x.t : Int)) := bR.cell 0
  have ql := bR.lt
  have p4 : W.cell? ⟨w.heap.size + 1 + 1, 4, none⟩ = some (.int .i64 (x.hd : Int)) := bO.cell 4
  have p5 : W.cell? ⟨w.heap.size + 1 + 1, 5, none⟩ = some (.int .i64 (x.cu : Int)) := bO.cell 5
  have pl := bO.lt
  have Hr := Lib.hid hr
  have Hc := Lib.hid hc
  have HW := Lib.hid hW
  have HB := Lib.hid (And.intro bR (And.intro bA (And.intro bO (And.intro bC (And.intro K hWX)))))
  obtain ⟨R, hR⟩ : ∃ R, cloW s x = R := ⟨_, rfl⟩
  have HR := Lib.hid hR
  have H := Lib.hid h
  have Hcode := Lib.hid hcd
  rw [hR]
  clear hr hc hW bR bA bO bC K h hWX hR hcd
  go_enter Tryz.func27, Tryz.ntmps27
  go_wp2_with fail
  rw [← HW.out]
  clear HW
  go_quiet (first | (go_at_call 25; exact hs1 _) | (go_at_call 38; exact hc1 _))
  clear hs1 hc1 q0 ql p4 p5 pl
  have kd := (Keeps.refl [] W).drewN nq
  have bR := kd.blk HB.out.1 (by simp)
  have bA := kd.blk HB.out.2.1 (by simp)
  have bO := kd.blk HB.out.2.2.1 (by simp)
  have bC := kd.blk HB.out.2.2.2.1 (by simp)
  have K := HB.out.2.2.2.2.1.trans kd (by simp)
  have hWX := HB.out.2.2.2.2.2.keeps kd
  obtain ⟨W2, hW2⟩ : ∃ W2, W2 = W.drewN nq := ⟨_, rfl⟩
  rw [← hW2] at bR bA bO bC K hWX ⊢
  clear hW2 HB kd
  have p0 : W2.cell? ⟨w.heap.size + 1 + 1, 0, none⟩ = some (.int .i64 (x.code : Int)) := bO.cell 0
  have pl := bO.lt
  have e5 : ((x.code : Int) == 5) = false := by rw [beq_eq_false_iff_ne]; have := Hcode.out; omega
  have e6 : ((x.code : Int) == 6) = false := by rw [beq_eq_false_iff_ne]; have := Hcode.out; omega
  have e8 : ((x.code : Int) == 8) = true := by rw [beq_iff_eq]; have := Hcode.out; omega
  rcases Hc.out.fnd hi.dC with ⟨hc1, hcn⟩ | ⟨k, pc, hc1, hpc, hcs, hfil, _⟩
  · have hc0 : c < 0 := by omega
    have hRv : R = (errA 6, true, s) := by rw [← HR.out]; unfold cloW; rw [hcn]
    clear hc1 hcn HR Hr Hc
    obtain ⟨c0, c1, c2, c3, c4, c5⟩ := bC.o4
    obtain ⟨bS, kS⟩ := bA.set4 (.int .i64 6) (.int .u64 0) (.string ⟨#[]⟩) (.string ⟨#[]⟩)
    obtain ⟨o0, o1, o2, o3, o4, o5⟩ := bA.o4
    have no : ¬ OwnW ww bv sv cv vs (w.heap.size + 1) := fun e => by have := (H.out.oge e).2; omega
    have HX := Lib.hid (And.intro (hWX.beside kS no) ((Ef.refl (O := OwnW ww bv sv cv vs) K).fresh kS (by omega)))
    clear bA bO bC bR K hWX no
    go_wp2_with fail
    refine bodyPost_ret (O.results_blk rfl _ _ (w.heap.size + 1) [.int .i64 6, .int .u64 0, .string ⟨#[]⟩, .string ⟨#[]⟩] _ rfl bS Tryz.underlying32 sizAn) rfl ?_
    refine ⟨?_, ?_, ?_⟩
    · rw [hRv]; rfl
    · rw [hRv]
    · rw [hRv]; exact ⟨_, _, _, _, HX.out.1, HX.out.2⟩
  · subst hc1
    have hc0 : ¬ (k : Int) < 0 := by omega
    have no : ¬ OwnW ww bv sv cv vs (w.heap.size + 1) := fun e => by have := (H.out.oge e).2; omega
    have hRv : R = (okA pc.T, true, ⟨s.Bs, s.F, s.Ss, s.Cs.filter (fun p => !isC x.t x.cu p)⟩) := by rw [← HR.out]; unfold cloW; rw [hcs]
    rw [hfil] at hRv
    have HRv := Lib.hid hRv
    clear hRv hcs HR Hr Hc hfil
    have kA := (Keeps.refl [] W2).alloc (.cells #[.int .i64 (pc.t : Int), .int .i64 (pc.c : Int), .int .i64 (pc.j : Int), .int .u64 (pc.T : Int), .int .i64 (pc.pl : Int), .string ⟨pc.key.toArray⟩] 92)
    have b11 := Blk.new W2 (cC pc) 92
    have hX3 := hWX.keeps kA
    have bA3 := kA.blk bA (by simp)
    have bO3 := kA.blk bO (by simp)
    have K3 := K.trans kA (by simp)
    have hsz := K.size
    obtain ⟨u0, u1, u2, u3, u4, u5⟩ := hWX.hw.o4
    obtain ⟨gq, capq, hvq, x0, x1, x2, x3, x4, x5, xl⟩ := Row.at6 hWX.hc hpc
    have hkl := (List.getElem?_eq_some_iff.1 hpc).1
    obtain ⟨W3, hW3⟩ : ∃ W3, W3 = W2.alloc (.cells #[.int .i64 (pc.t : Int), .int .i64 (pc.c : Int), .int .i64 (pc.j : Int), .int .u64 (pc.T : Int), .int .i64 (pc.pl : Int), .string ⟨pc.key.toArray⟩] 92) := ⟨_, rfl⟩
    have b11' : Blk (W2.alloc (.cells #[.int .i64 (pc.t : Int), .int .i64 (pc.c : Int), .int .i64 (pc.j : Int), .int .u64 (pc.T : Int), .int .i64 (pc.pl : Int), .string ⟨pc.key.toArray⟩] 92)) W2.heap.size (cC pc) := b11
    rw [← hW3] at hX3 bA3 bO3 K3 b11'
    obtain ⟨n2, hn2⟩ : ∃ n, s.Cs.length = k + 1 + n := ⟨s.Cs.length - (k + 1), by omega⟩
    have hcR := hX3.hc
    have hsplit : cCs s.Cs = cCs (s.Cs.take k) ++ (cC pc ++ cCs (s.Cs.drop (k + 1))) := split3 hpc
    have hl1 : (cCs (s.Cs.take k)).length = k * 6 := by rw [cCs_len, List.length_take]; omega
    have hl2 : (cCs (s.Cs.drop (k + 1))).length = n2 * 6 := by rw [cCs_len, List.length_drop]; omega
    obtain ⟨i0, hi0, hz0, hz1, hz2⟩ := info_parts infoCU
    obtain ⟨_, ⟨hv, h0⟩ | ⟨g, cap, rest, hv, hb, q2, q3, q4⟩⟩ := hcR
    · omega
    rw [hsplit] at hb
    have hCl := hi.nC
    rw [hn2] at hv q2 hCl
    obtain ⟨vA, vc, w1, a, v2A, v2c, w2, hr1, ha, hr2, r2, K1, K2, f2⟩ := cut_row (by omega) hb hl1 rfl hl2 q2 (fun u hu => by
      rw [← cCs_append] at hu; exact cCs_one' hu) 56 92 i0 _ 56 Tryz.underlying56 hi0 hz0 hz1 hz2 rfl (by decide) (by omega)
    rw [hv] at u3
    have hvq' := hvq
    rw [hv] at hvq'
    have hgq : g = gq := by
      injection hvq' with e1 _ _
      injection e1 with e1
      injection e1
    subst hgq
    have hlen : (s.Cs.take k ++ s.Cs.drop (k + 1)).length = k + n2 := by rw [List.length_append, List.length_take, List.length_drop]; omega
    obtain ⟨hX5, hE5⟩ := hX3.setC (K2.mono (by simp)) (Cs' := s.Cs.take k ++ s.Cs.drop (k + 1)) (by rw [hlen, cCs_append]; exact r2) (fun x hx => .inr (f2 x hx))
    have hwb := hX3.hw
    have kd : Keeps [] W3 W3.drew := (Keeps.refl [] W3).drew
    have e2 : W3.cell? ⟨ww, 3, none⟩ = some (.slice (some ⟨g, 0, none⟩) (k + 1 + n2) cap) := by rw [← hv]; exact hwb.cell 3
    have e2d := kd.cellEq e2 (by simp)
    have e3 := K1.cellEq e2 (by simp)
    have hb2 := K2.blk hwb (by simp)
    have g3 : w2.cell? ⟨ww, 3, none⟩ = some (.slice (some ⟨g, 0, none⟩) (k + 1 + n2) cap) := K2.cellEq e2 (by simp)
    have g4 := fun j => hb2.frozen j
    have g5 := hb2.lt
    have hwl := hwb.lt
    obtain ⟨bA5, no5⟩ := hE5.blk bA3 no
    have n11 : ¬ OwnW ww bv sv cv vs W2.heap.size := fun e => by have := (H.out.oge e).2; omega
    obtain ⟨b115, _⟩ := hE5.blk b11' n11
    have z3 : (w2.setCell ⟨ww, 3, none⟩ (.slice v2A (k + n2) v2c)).cell? ⟨W2.heap.size, 3, none⟩ = some (.int .u64 (pc.T : Int)) := b115.cell 3
    have zl := b115.lt
    have p0' : W3.cell? ⟨w.heap.size + 1 + 1, 0, none⟩ = some (.int .i64 (x.code : Int)) := bO3.cell 0
    have pl' := bO3.lt
    have hE6 := Ef.before K3 hE5
    obtain ⟨bS, kS⟩ := bA5.set4 (.int .i64 0) (.int .u64 (pc.T : Int)) (.string ⟨#[]⟩) (.string ⟨#[]⟩)
    obtain ⟨o0, o1, o2, o3, o4, o5⟩ := bA5.o4
    have HX := Lib.hid (And.intro (hX5.beside kS no5) ((hE6).fresh kS (by omega)))
    have HbS := Lib.hid bS
    clear bS kS

    have hca : k ≤ cap := by omega
    have hcb : k + 1 ≤ cap := by omega
    have hcc : k + 1 ≤ k + 1 + n2 := by omega
    have hcd : k + 1 + n2 - (k + 1) = n2 := by omega
    have hce : (0 : Int) ≤ (k : Int) + 1 := by omega
    have hcf : (k : Int) + 1 ≤ (k : Int) + 1 + (n2 : Int) := by omega
    have hcg : ((k : Int) + 1).toNat = k + 1 := by omega
    have hch : (k : Int) ≤ (k : Int) + 1 + (n2 : Int) := by omega
    have hck : (k : Int) < (k : Int) + 1 + (n2 : Int) := by omega
    have hcl : (k : Int) < ((k + 1 + n2 : Nat) : Int) := by omega
    have hci : ¬ cap = 0 := by omega
    have hcw : IntKind.i64.wrap ((k : Int) + 1) = (k : Int) + 1 := IntWalk.i64_in _ ⟨by omega, by omega⟩
    have HW3 := Lib.hid hW3
    clear hX3 bA3 bO3 K3 b11 b11' hW3 hsplit hl1 hl2 hi0 hz0 hz1 hz2 hb q2 q3 q4 K1 K2 r2 f2 hlen hX5 hE5 hwb kd hb2 bA5 no5 b115 n11 hE6 hn2 hkl hpc hvq hvq' hCl bA bO bC bR K hWX kA no hsz hv
    go_wp2_with fail
    rw [← HW3.out]
    go_region_law (first
      | (refine step_append_eq rfl _ _ 56 56 rfl (.slice none 0 0) (.slice (some ⟨g, 0, none⟩) k cap) (by simp [Act.eval, Act.put]) (by simp [Act.eval, Act.put]) hr1 ?_)
      | (refine step_append_eq rfl _ _ 56 56 rfl (.slice vA k vc) (.slice (some a) n2 (cap - (k + 1))) (by simp [Act.eval, Act.put]) (by simp [Act.eval, Act.put]) hr2 ?_))
    all_goals (
      go_wp2_with fail
      refine bodyPost_ret (O.results_blk rfl _ _ (w.heap.size + 1) [.int .i64 0, .int .u64 (pc.T : Int), .string ⟨#[]⟩, .string ⟨#[]⟩] _ rfl HbS.out Tryz.underlying32 sizAn) rfl ?_
      refine ⟨?_, ?_, ?_⟩
      · rw [HRv.out]; rfl
      · rw [HRv.out]
      · rw [HRv.out]; exact ⟨_, _, _, _, HX.out.1, HX.out.2⟩)
end Go.Proofs.YtbcgpjfejpcgnaaGreat
end
