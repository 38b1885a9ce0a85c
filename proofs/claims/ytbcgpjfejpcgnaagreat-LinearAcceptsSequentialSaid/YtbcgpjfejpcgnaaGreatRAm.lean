/- Lemmas on the way to LinearAcceptsSequential. No condition. -/
import Derived.Test.YtbcgpjfejpcgnaaGreatRAk
import Derived.Deep.RegionHeld3
import Derived.Deep.CutRange
set_option linter.unusedSimpArgs false
set_option linter.unusedVariables false
set_option linter.unusedSectionVars false
section
namespace Go.Proofs.YtbcgpjfejpcgnaaGreat
open Go.RowKit
set_option maxRecDepth 100000
variable {w w' : World} {base ww : Nat} {bv sv cv : Value} {vs : List Value} {s : WS}
theorem WX.rowC (h : WX w base ww bv sv cv vs s) {w2 : World} {Cs' : List CuE} (k2 : Keeps cv.ownBlock.toList w w2) (r2 : Row w2 cv Cs'.length 6 (cCs Cs')) :
    WX w2 base ww bv sv cv vs ⟨s.Bs, s.F, s.Ss, Cs'⟩ ∧ Ef (OwnW ww bv sv cv vs) w w2 (OwnW ww bv sv cv vs) :=
  ⟨⟨k2.blk h.hw (fun hm => (h.hq.2 ww (.inr (.inr (by simpa using hm)))).2 rfl), h.hb.keeps k2 (fun g hg hm => (h.hd g hg).2 (by simpa using hm)), fun i v b hv hb => ⟨(h.he i v b hv hb).1.keeps k2 (fun g hg hm => ((h.he i v b hv hb).2 g hg).2.2.2.2 (by simpa using hm)), (h.he i v b hv hb).2⟩,
    h.hs.keeps k2 (fun g hg hm => h.hd2 g hg (by simpa using hm)), r2, h.hq, h.hd, h.hd2⟩,
   ⟨cv.ownBlock.toList, fun j hj => .inr (.inr (.inr (.inl (by simpa using hj)))), k2⟩, fun _ h => .inl h⟩
theorem set_flat (X Z : List Value) (n j : Nat) (hX : X.length = n) (v : Value) : (X ++ Z).set (n + j) v = X ++ Z.set j v := by
  subst hX
  rw [List.set_append_right _ _ (by omega)]
  congr 2
  omega
theorem flat_set6 {l : List CuE} {k : Nat} {p : CuE} (h : l[k]? = some p) (q : CuE) (r : List Value) :
    ((((((cCs l ++ r).set (k * 6 + 0) (.int .i64 (q.t : Int))).set (k * 6 + 1) (.int .i64 (q.c : Int))).set (k * 6 + 2) (.int .i64 (q.j : Int))).set (k * 6 + 3) (.int .u64 (q.T : Int))).set (k * 6 + 4) (.int .i64 (q.pl : Int))).set (k * 6 + 5) (.string ⟨q.key.toArray⟩) = cCs (l.set k q) ++ r := by
  obtain ⟨hk, hkp⟩ := List.getElem?_eq_some_iff.1 h
  have hs : l = l.take k ++ p :: l.drop (k + 1) := by
    rw [← hkp]
    exact (List.take_append_drop k l).symm.trans (by rw [List.drop_eq_getElem_cons hk])
  have hA : (l.take k).length = k := by rw [List.length_take]; omega
  have e1 : cCs l ++ r = cCs (l.take k) ++ (cC p ++ (cCs (l.drop (k + 1)) ++ r)) := by
    conv => lhs; rw [hs]
    rw [cCs_append]
    simp [cCs]
  have e2 : cCs (l.set k q) ++ r = cCs (l.take k) ++ (cC q ++ (cCs (l.drop (k + 1)) ++ r)) := by
    have e3 : l.set k q = l.take k ++ q :: l.drop (k + 1) := by
      conv => lhs; rw [hs]
      rw [List.set_append_right _ _ (by omega)]
      simp [hA]
    rw [e3, cCs_append]
    simp [cCs]
  have hl : (cCs (l.take k)).length = k * 6 := by rw [cCs_len, hA]
  rw [e1, e2, set_flat _ _ _ _ hl, set_flat _ _ _ _ hl, set_flat _ _ _ _ hl, set_flat _ _ _ _ hl, set_flat _ _ _ _ hl, set_flat _ _ _ _ hl]
  rfl
theorem Row.set6 {g n cap : Nat} {l : List CuE} (h : Row w (.slice (some ⟨g, 0, none⟩) n cap) n 6 (cCs l)) {k : Nat} {p : CuE} (hp : l[k]? = some p) (q : CuE) {w2 : World}
    (hw2 : w2 = (((((w.setCell ⟨g, k * 6, none⟩ (.int .i64 (q.t : Int))).setCell ⟨g, k * 6 + 1, none⟩ (.int .i64 (q.c : Int))).setCell ⟨g, k * 6 + 2, none⟩ (.int .i64 (q.j : Int))).setCell ⟨g, k * 6 + 3, none⟩ (.int .u64 (q.T : Int))).setCell ⟨g, k * 6 + 4, none⟩ (.int .i64 (q.pl : Int))).setCell ⟨g, k * 6 + 5, none⟩ (.string ⟨q.key.toArray⟩)) :
    Row w2 (.slice (some ⟨g, 0, none⟩) n cap) n 6 (cCs (l.set k q)) ∧ Keeps [g] w w2 := by
  obtain ⟨h1, ⟨h2, _⟩ | ⟨g', cap', rest, h2, hb, h3, h4, h5⟩⟩ := h
  · exact absurd h2 (by simp)
  · injection h2 with e1 _ e2
    injection e1 with e1
    injection e1 with e1 _ _
    subst e1
    subst e2
    have hb6 := (((((hb.set (k * 6 + 0) (.int .i64 (q.t : Int))).set (k * 6 + 1) (.int .i64 (q.c : Int))).set (k * 6 + 2) (.int .i64 (q.j : Int))).set (k * 6 + 3) (.int .u64 (q.T : Int))).set (k * 6 + 4) (.int .i64 (q.pl : Int))).set (k * 6 + 5) (.string ⟨q.key.toArray⟩)
    rw [flat_set6 hp q rest, Nat.add_zero, ← hw2] at hb6
    have hl : (cCs (l.set k q)).length = (cCs l).length := by rw [cCs_len, cCs_len, List.length_set]
    refine ⟨⟨by rw [hl]; exact h1, .inr ⟨g, cap, rest, rfl, hb6, h3, h4, by rw [List.length_append, hl, ← List.length_append]; exact h5⟩⟩, ?_⟩
    rw [hw2]
    exact ((((((Keeps.refl [g] w).setCell _ _ (.inl (by simp))).setCell _ _ (.inl (by simp))).setCell _ _ (.inl (by simp))).setCell _ _ (.inl (by simp))).setCell _ _ (.inl (by simp))).setCell _ _ (.inl (by simp))
end Go.Proofs.YtbcgpjfejpcgnaaGreat
end
section
namespace Go.Proofs.YtbcgpjfejpcgnaaGreat
open Go.RowKit
set_option maxRecDepth 100000
set_option linter.unusedSimpArgs false
set_option linter.unusedVariables false
variable {w w' : World} {base ww : Nat} {bv sv cv : Value} {vs : List Value} {s : WS}
set_option maxHeartbeats 4000000 in
theorem xl7_any (h : WX w base ww bv sv cv vs s) {n : Nat} (hi : Inv n s) (hn : n ≤ 100) (x : RX) (hx : OkX x) (hcd : x.code = 7) :
    Calls Tryz.prog 27 #[.pointer (some ⟨ww, 0, none⟩), .agg #[.int .i64 (x.t : Int), .int .i64 x.ix, .int .i64 x.inv, .int .i64 x.pt, .int .i64 x.rs, .int .i64 (x.code : Int), .string ⟨x.key.toArray⟩, .int .u64 (x.time : Int), .slice x.bA x.b.length x.bc, .int .i64 (x.hd : Int), .int .i64 (x.cu : Int), .int .i64 (x.mo : Int), .int .i64 x.er, .int .u64 (x.at_ : Int), .string ⟨x.ak.toArray⟩, .string ⟨x.av.toArray⟩]] w (LocP w base ww bv sv cv vs (movW s x)) := by
  obtain ⟨r, hr⟩ := SnAt.ex s.Ss x.t x.hd
  obtain ⟨c, hc⟩ := CuAt.ex s.Cs x.t x.cu
  have K := ((((Keeps.refl [] w).alloc (.cells #[.int .i64 (x.t : Int), .int .i64 x.ix, .int .i64 x.inv, .int .i64 x.pt, .int .i64 x.rs, .int .i64 (x.code : Int), .string ⟨x.key.toArray⟩, .int .u64 (x.time : Int), .slice x.bA x.b.length x.bc, .int .i64 (x.hd : Int), .int .i64 (x.cu : Int), .int .i64 (x.mo : Int), .int .i64 x.er, .int .u64 (x.at_ : Int), .string ⟨x.ak.toArray⟩, .string ⟨x.av.toArray⟩] 34)).alloc (.cells #[.int .i64 0, .int .u64 0, .string ⟨#[]⟩, .string ⟨#[]⟩] 32)).alloc (.cells #[.int .i64 (x.code : Int), .string ⟨x.key.toArray⟩, .int .u64 (x.time : Int), .slice x.bA x.b.length x.bc, .int .i64 (x.hd : Int), .int .i64 (x.cu : Int), .int .i64 (x.mo : Int)] 29)).alloc (.cells #[.int .i64 6, .int .u64 0, .string ⟨#[]⟩, .string ⟨#[]⟩] 32)
  have bR := (((Blk.new w [.int .i64 (x.t : Int), .int .i64 x.ix, .int .i64 x.inv, .int .i64 x.pt, .int .i64 x.rs, .int .i64 (x.code : Int), .string ⟨x.key.toArray⟩, .int .u64 (x.time : Int), .slice x.bA x.b.length x.bc, .int .i64 (x.hd : Int), .int .i64 (x.cu : Int), .int .i64 (x.mo : Int), .int .i64 x.er, .int .u64 (x.at_ : Int), .string ⟨x.ak.toArray⟩, .string ⟨x.av.toArray⟩] 34).alloc (.cells #[.int .i64 0, .int .u64 0, .string ⟨#[]⟩, .string ⟨#[]⟩] 32)).alloc (.cells #[.int .i64 (x.code : Int), .string ⟨x.key.toArray⟩, .int .u64 (x.time : Int), .slice x.bA x.b.length x.bc, .int .i64 (x.hd : Int), .int .i64 (x.cu : Int), .int .i64 (x.mo : Int)] 29)).alloc (.cells #[.int .i64 6, .int .u64 0, .string ⟨#[]⟩, .string ⟨#[]⟩] 32)
  have bA := ((Blk.new_at (w.alloc (.cells #[.int .i64 (x.t : Int), .int .i64 x.ix, .int .i64 x.inv, .int .i64 x.pt, .int .i64 x.rs, .int .i64 (x.code : Int), .string ⟨x.key.toArray⟩, .int .u64 (x.time : Int), .slice x.bA x.b.length x.bc, .int .i64 (x.hd : Int), .int .i64 (x.cu : Int), .int .i64 (x.mo : Int), .int .i64 x.er, .int .u64 (x.at_ : Int), .string ⟨x.ak.toArray⟩, .string ⟨x.av.toArray⟩] 34)) (w.heap.size + 1) [.int .i64 0, .int .u64 0, .string ⟨#[]⟩, .string ⟨#[]⟩] 32 (by simp)).alloc (.cells #[.int .i64 (x.code : Int), .string ⟨x.key.toArray⟩, .int .u64 (x.time : Int), .slice x.bA x.b.length x.bc, .int .i64 (x.hd : Int), .int .i64 (x.cu : Int), .int .i64 (x.mo : Int)] 29)).alloc (.cells #[.int .i64 6, .int .u64 0, .string ⟨#[]⟩, .string ⟨#[]⟩] 32)
  have bO := (Blk.new_at ((w.alloc (.cells #[.int .i64 (x.t : Int), .int .i64 x.ix, .int .i64 x.inv, .int .i64 x.pt, .int .i64 x.rs, .int .i64 (x.code : Int), .string ⟨x.key.toArray⟩, .int .u64 (x.time : Int), .slice x.bA x.b.length x.bc, .int .i64 (x.hd : Int), .int .i64 (x.cu : Int), .int .i64 (x.mo : Int), .int .i64 x.er, .int .u64 (x.at_ : Int), .string ⟨x.ak.toArray⟩, .string ⟨x.av.toArray⟩] 34)).alloc (.cells #[.int .i64 0, .int .u64 0, .string ⟨#[]⟩, .string ⟨#[]⟩] 32)) (w.heap.size + 1 + 1) [.int .i64 (x.code : Int), .string ⟨x.key.toArray⟩, .int .u64 (x.time : Int), .slice x.bA x.b.length x.bc, .int .i64 (x.hd : Int), .int .i64 (x.cu : Int), .int .i64 (x.mo : Int)] 29 (by simp)).alloc (.cells #[.int .i64 6, .int .u64 0, .string ⟨#[]⟩, .string ⟨#[]⟩] 32)
  have bC := Blk.new_at (((w.alloc (.cells #[.int .i64 (x.t : Int), .int .i64 x.ix, .int .i64 x.inv, .int .i64 x.pt, .int .i64 x.rs, .int .i64 (x.code : Int), .string ⟨x.key.toArray⟩, .int .u64 (x.time : Int), .slice x.bA x.b.length x.bc, .int .i64 (x.hd : Int), .int .i64 (x.cu : Int), .int .i64 (x.mo : Int), .int .i64 x.er, .int .u64 (x.at_ : Int), .string ⟨x.ak.toArray⟩, .string ⟨x.av.toArray⟩] 34)).alloc (.cells #[.int .i64 0, .int .u64 0, .string ⟨#[]⟩, .string ⟨#[]⟩] 32)).alloc (.cells #[.int .i64 (x.code : Int), .string ⟨x.key.toArray⟩, .int .u64 (x.time : Int), .slice x.bA x.b.length x.bc, .int .i64 (x.hd : Int), .int .i64 (x.cu : Int), .int .i64 (x.mo : Int)] 29)) (w.heap.size + 1 + 1 + 1) [.int .i64 6, .int .u64 0, .string ⟨#[]⟩, .string ⟨#[]⟩] 32 (by simp)
  obtain ⟨W, hW⟩ : ∃ W, W = (((w.alloc (.cells #[.int .i64 (x.t : Int), .int .i64 x.ix, .int .i64 x.inv, .int .i64 x.pt, .int .i64 x.rs, .int .i64 (x.code : Int), .string ⟨x.key.toArray⟩, .int .u64 (x.time : Int), .slice x.bA x.b.length x.bc, .int .i64 (x.hd : Int), .int .i64 (x.cu : Int), .int .i64 (x.mo : Int), .int .i64 x.er, .int .u64 (x.at_ : Int), .string ⟨x.ak.toArray⟩, .string ⟨x.av.toArray⟩] 34)).alloc (.cells #[.int .i64 0, .int .u64 0, .string ⟨#[]⟩, .string ⟨#[]⟩] 32)).alloc (.cells #[.int .i64 (x.code : Int), .string ⟨x.key.toArray⟩, .int .u64 (x.time : Int), .slice x.bA x.b.length x.bc, .int .i64 (x.hd : Int), .int .i64 (x.cu : Int), .int .i64 (x.mo : Int)] 29)).alloc (.cells #[.int .i64 6, .int .u64 0, .string ⟨#[]⟩, .string ⟨#[]⟩] 32) := ⟨_, rfl⟩
  rw [← hW] at K bR bA bO bC
  have hWX := h.keeps K
  have hs1 := xsnap_q hWX (by have := hi.nS; omega) hi.dS hr
  have hc1 := xcur_q hWX (by have := hi.nC; omega) hi.dC hc
  have q0 : W.cell? ⟨w.heap.size, 0, none⟩ = some (.int .i64 (x.t : Int)) := bR.cell 0
  have ql := bR.lt
  have p4 : W.cell? ⟨w.heap.size + 1 + 1, 4, none⟩ = some (.int .i64 (x.hd : Int)) := bO.cell 4
  have p5 : W.cell? ⟨w.heap.size + 1 + 1, 5, none⟩ = some (.int .i64 (x.cu : Int)) := bO.cell 5
  have pl := bO.lt
  have Hr := Lib.hid hr
  have Hc := Lib.hid hc
  have HW := Lib.hid hW
  have HB := Lib.hid (And.intro bR (And.intro bA (And.intro bO (And.intro bC (And.intro K hWX)))))
  obtain ⟨R, hR⟩ : ∃ R, movW s x = R := ⟨_, rfl⟩
  have HR := Lib.hid hR
  have H := Lib.hid h
  have Hcode := Lib.hid hcd
  rw [hR]
  clear hr hc hW bR bA bO bC K h hWX hR hcd
  go_enter Tryz.func27, Tryz.ntmps27
  go_wp2_with fail
  rw [← HW.out]
  clear HW
  go_quiet (first | (go_at_call 25; exact hs1 _) | (go_at_call 38; exact hc1 _))
  clear hs1 hc1 q0 ql p4 p5 pl
  have kd := (Keeps.refl [] W).drewN nq
  have bR := kd.blk HB.out.1 (by simp)
  have bA := kd.blk HB.out.2.1 (by simp)
  have bO := kd.blk HB.out.2.2.1 (by simp)
  have bC := kd.blk HB.out.2.2.2.1 (by simp)
  have K := HB.out.2.2.2.2.1.trans kd (by simp)
  have hWX := HB.out.2.2.2.2.2.keeps kd
  obtain ⟨W2, hW2⟩ : ∃ W2, W2 = W.drewN nq := ⟨_, rfl⟩
  rw [← hW2] at bR bA bO bC K hWX ⊢
  clear hW2 HB kd
  have p0 : W2.cell? ⟨w.heap.size + 1 + 1, 0, none⟩ = some (.int .i64 (x.code : Int)) := bO.cell 0
  have pl := bO.lt
  have e5 : ((x.code : Int) == 5) = false := by rw [beq_eq_false_iff_ne]; have := Hcode.out; omega
  have e6 : ((x.code : Int) == 6) = false := by rw [beq_eq_false_iff_ne]; have := Hcode.out; omega
  have e8 : ((x.code : Int) == 8) = false := by rw [beq_eq_false_iff_ne]; have := Hcode.out; omega
  have p1 : W2.cell? ⟨w.heap.size + 1 + 1, 1, none⟩ = some (.string ⟨x.key.toArray⟩) := bO.cell 1
  rcases Hc.out.fnd hi.dC with ⟨hc1, hcn⟩ | ⟨k, pc, hc1, hpc, hcs, _, hput⟩
  · have hc0 : c < 0 := by omega
    have hRv : R = (errA 6, true, s) := by rw [← HR.out]; unfold movW; rw [hcn]
    clear hc1 hcn HR Hr Hc
    obtain ⟨c0, c1, c2, c3, c4, c5⟩ := bC.o4
    obtain ⟨bS, kS⟩ := bA.set4 (.int .i64 6) (.int .u64 0) (.string ⟨#[]⟩) (.string ⟨#[]⟩)
    obtain ⟨o0, o1, o2, o3, o4, o5⟩ := bA.o4
    have no : ¬ OwnW ww bv sv cv vs (w.heap.size + 1) := fun e => by have := (H.out.oge e).2; omega
    have HX := Lib.hid (And.intro (hWX.beside kS no) ((Ef.refl (O := OwnW ww bv sv cv vs) K).fresh kS (by omega)))
    clear bA bO bC bR K hWX no
    go_wp2_with fail
    refine bodyPost_ret (O.results_blk rfl _ _ (w.heap.size + 1) [.int .i64 6, .int .u64 0, .string ⟨#[]⟩, .string ⟨#[]⟩] _ rfl bS Tryz.underlying32 sizAn) rfl ?_
    refine ⟨?_, ?_, ?_⟩
    · rw [hRv]; rfl
    · rw [hRv]
    · rw [hRv]; exact ⟨_, _, _, _, HX.out.1, HX.out.2⟩
  · subst hc1
    have hc0 : ¬ (k : Int) < 0 := by omega
    have no : ¬ OwnW ww bv sv cv vs (w.heap.size + 1) := fun e => by have := (H.out.oge e).2; omega
    have kA := (Keeps.refl [] W2).alloc (.cells #[.int .i64 (pc.t : Int), .int .i64 (pc.c : Int), .int .i64 (pc.j : Int), .int .u64 (pc.T : Int), .int .i64 (pc.pl : Int), .string ⟨pc.key.toArray⟩] 92)
    have b11 := Blk.new W2 (cC pc) 92
    have hX3 := hWX.keeps kA
    have bA3 := kA.blk bA (by simp)
    have bO3 := kA.blk bO (by simp)
    have K3 := K.trans kA (by simp)
    have hsz := K.size
    obtain ⟨u0, u1, u2, u3, u4, u5⟩ := hWX.hw.o4
    obtain ⟨gq, capq, hvq, x0, x1, x2, x3, x4, x5, xl⟩ := Row.at6 hWX.hc hpc
    have hkl : (k : Int) < (s.Cs.length : Int) := by have := (List.getElem?_eq_some_iff.1 hpc).1; omega
    rw [hvq] at u3
    obtain ⟨W3, hW3⟩ : ∃ W3, W3 = W2.alloc (.cells #[.int .i64 (pc.t : Int), .int .i64 (pc.c : Int), .int .i64 (pc.j : Int), .int .u64 (pc.T : Int), .int .i64 (pc.pl : Int), .string ⟨pc.key.toArray⟩] 92) := ⟨_, rfl⟩
    have b11' : Blk (W2.alloc (.cells #[.int .i64 (pc.t : Int), .int .i64 (pc.c : Int), .int .i64 (pc.j : Int), .int .u64 (pc.T : Int), .int .i64 (pc.pl : Int), .string ⟨pc.key.toArray⟩] 92)) W2.heap.size [.int .i64 (pc.t : Int), .int .i64 (pc.c : Int), .int .i64 (pc.j : Int), .int .u64 (pc.T : Int), .int .i64 (pc.pl : Int), .string ⟨pc.key.toArray⟩] := b11
    rw [← hW3] at hX3 bA3 bO3 K3 b11'
    have p0' : W3.cell? ⟨w.heap.size + 1 + 1, 0, none⟩ = some (.int .i64 (x.code : Int)) := bO3.cell 0
    have p1' : W3.cell? ⟨w.heap.size + 1 + 1, 1, none⟩ = some (.string ⟨x.key.toArray⟩) := bO3.cell 1
    have p6' : W3.cell? ⟨w.heap.size + 1 + 1, 6, none⟩ = some (.int .i64 (x.mo : Int)) := bO3.cell 6
    have pl' := bO3.lt
    obtain ⟨N, hN⟩ : ∃ N, s.Cs.length = N := ⟨_, rfl⟩
    rw [hN] at u3 hkl
    have HN := Lib.hid hN
    have HW3 := Lib.hid hW3
    have HZ := Lib.hid (And.intro hX3 (And.intro bA3 (And.intro K3 (And.intro b11' (And.intro hvq (And.intro hpc (And.intro hput (And.intro hcs (And.intro no hsz)))))))))
    clear bA bO bC bR K hWX kA b11 hX3 bA3 bO3 K3 b11' hW3 hN hvq hpc hput hcs Hr Hc no hsz
    go_wp2_with fail
    rw [← HW3.out]
    refine (validK_any _ _).mono ?_
    rintro e w4 ⟨rfl, hw4⟩
    have hw4' := hw4.symm
    subst hw4'
    clear hw4
    obtain ⟨hX3, bA3, K3, b11, hvq, hpc, hput, hcs, no, hsz⟩ := HZ.out
    by_cases hk : 32 < x.key.length
    · have hRv : R = (errA 8, true, s) := by rw [← HR.out]; unfold movW; rw [hcs]; simp only; rw [if_pos hk]
      have HRv := Lib.hid hRv
      have hk' : decide (x.key.length ≤ 32) = false := decide_eq_false (by omega)
      obtain ⟨bS, kS⟩ := bA3.set4 (.int .i64 8) (.int .u64 0) (.string ⟨#[]⟩) (.string ⟨#[]⟩)
      obtain ⟨o0, o1, o2, o3, o4, o5⟩ := bA3.o4
      have HX := Lib.hid (And.intro (hX3.beside kS no) ((Ef.refl (O := OwnW ww bv sv cv vs) K3).fresh kS (by omega)))
      have HbS := Lib.hid bS
      clear bS kS

      clear hX3 bA3 K3 b11 hvq hpc hput hcs no hsz HR hRv HZ hk
      go_wp2_with fail
      refine bodyPost_ret (O.results_blk rfl _ _ (w.heap.size + 1) [.int .i64 8, .int .u64 0, .string ⟨#[]⟩, .string ⟨#[]⟩] _ rfl HbS.out Tryz.underlying32 sizAn) rfl ?_
      refine ⟨?_, ?_, ?_⟩
      · rw [HRv.out]; rfl
      · rw [HRv.out]
      · rw [HRv.out]; exact ⟨_, _, _, _, HX.out.1, HX.out.2⟩
    · have hk' : decide (x.key.length ≤ 32) = true := decide_eq_true (by omega)
      obtain ⟨m, hm⟩ : ∃ m, m = moved (lstAt s.Bs pc.T) pc.T (spot (lstAt s.Bs pc.T) pc.pl pc.key x.mo x.key) := ⟨_, rfl⟩
      have hRv : R = (m.1, true, ⟨s.Bs, s.F, s.Ss, putC s.Cs x.t x.cu m.2.1 m.2.2⟩) := by rw [← HR.out]; unfold movW; rw [hcs]; simp only; rw [if_neg hk, ← hm]
      rw [hput] at hRv
      have hbC := hi.bC pc (List.mem_of_getElem? hpc)
      have hli := fun u (k : Keeps [] W3 u) => xlist_any (hX3.keeps k) (by have := hi.nB; omega) hi.b16 pc.T (by have := hi.nB; omega)
      have hlen : (lstAt s.Bs pc.T).length ≤ 4000 := by have := (lstAt_len hi.b16 pc.T).1; have := hi.nB; omega
      have hmv := fun (v : Value) (u : World) (hl : Lst u v (lstAt s.Bs pc.T).length (eCs (lstAt s.Bs pc.T))) => xmoved_any (lstAt s.Bs pc.T) hlen pc.T pc.pl hbC.2.2.1 pc.key x.mo hx.mo x.key v u hl
      rw [← hm] at hmv
      obtain ⟨⟨er, tm, ak, av⟩, mp, mk⟩ := m
      have HRv := Lib.hid hRv
      have z3 : W3.cell? ⟨W2.heap.size, 3, none⟩ = some (.int .u64 (pc.T : Int)) := b11.cell 3
      have z4 : W3.cell? ⟨W2.heap.size, 4, none⟩ = some (.int .i64 (pc.pl : Int)) := b11.cell 4
      have z5 : W3.cell? ⟨W2.heap.size, 5, none⟩ = some (.string ⟨pc.key.toArray⟩) := b11.cell 5
      have hS : ∀ w' : World, Keeps [] W3 w' → (w'.cell? ⟨w.heap.size + 1 + 1, 1, none⟩ = some (.string ⟨x.key.toArray⟩) ∧ w'.cell? ⟨w.heap.size + 1 + 1, 6, none⟩ = some (.int .i64 (x.mo : Int)) ∧ w'.cell? ⟨W2.heap.size, 3, none⟩ = some (.int .u64 (pc.T : Int)) ∧ w'.cell? ⟨W2.heap.size, 4, none⟩ = some (.int .i64 (pc.pl : Int)) ∧ w'.cell? ⟨W2.heap.size, 5, none⟩ = some (.string ⟨pc.key.toArray⟩)) := fun w' k => ⟨k.cellEq p1' (by simp), k.cellEq p6' (by simp), k.cellEq z3 (by simp), k.cellEq z4 (by simp), k.cellEq z5 (by simp)⟩
      have zl := b11.lt
      have hzz : W3.heap.size ≤ W3.heap.size := Nat.le_refl _
      have HY := Lib.hid (And.intro hX3 (And.intro bA3 (And.intro K3 (And.intro b11 (And.intro hvq (And.intro hpc (And.intro no hsz)))))))
      clear hX3 bA3 K3 b11 hvq hpc hput hcs no hsz HR hRv HZ hk hm hbC hlen
      go_wp2_with fail
      go_cut [12, 13, 14] from 134 to 152 (fun s12 s13 s14 wx => ∃ g12 : Nat, s12 = .pointer (some ⟨g12, 0, none⟩) ∧ s13 = .int .i64 (mp : Int) ∧ s14 = .string ⟨mk.toArray⟩ ∧ W3.heap.size ≤ g12 ∧ Blk wx g12 [.int .i64 er, .int .u64 (tm : Int), .string ⟨ak.toArray⟩, .string ⟨av.toArray⟩] ∧ Keeps [] W3 wx)
      case first =>
        go_region_held3 (fun w' => w'.cell? ⟨w.heap.size + 1 + 1, 1, none⟩ = some (.string ⟨x.key.toArray⟩) ∧ w'.cell? ⟨w.heap.size + 1 + 1, 6, none⟩ = some (.int .i64 (x.mo : Int)) ∧ w'.cell? ⟨W2.heap.size, 3, none⟩ = some (.int .u64 (pc.T : Int)) ∧ w'.cell? ⟨W2.heap.size, 4, none⟩ = some (.int .i64 (pc.pl : Int)) ∧ w'.cell? ⟨W2.heap.size, 5, none⟩ = some (.string ⟨pc.key.toArray⟩))
          (first
            | (with_reducible exact hS _ ((Keeps.refl [] W3).drew))
            | (with_reducible exact hS _ k56)
            | (with_reducible exact hS _ k5)
            | (with_reducible exact hS _ (((Keeps.refl [] W3).alloc _).drew))
            | (with_reducible exact hS _ (k5.alloc _))
            | (with_reducible exact hS _ (k56.alloc _))
            | (with_reducible exact hS _ (k56.trans bzS.2 (fun i hi => .inr (by simp at hi; subst hi; exact hz))))
            | fail)
          ((first
            | (go_at_call 33; refine (hli _ (by first | exact (Keeps.refl [] W3).drew | exact ((Keeps.refl [] W3).alloc _).drew)).mono ?_; rintro e w5 ⟨v, rfl, hlv, kr5⟩; obtain ⟨lA, lc, lb, lo, rfl, _, _⟩ := id hlv; have k5 : Keeps [] W3 w5 := Keeps.trans (by first | exact (Keeps.refl [] W3).drew | exact ((Keeps.refl [] W3).alloc _).drew) kr5 (by simp); (try (have bz5 := kr5.blk (Blk.drew (Blk.new W3 [.int .i64 0, .int .u64 0, .string ⟨#[]⟩, .string ⟨#[]⟩] 32)) (by simp); have hz : W3.heap.size ≤ W3.heap.size := Nat.le_refl _)))
            | (go_at_call 39; refine (hmv _ _ (by first | exact hlv | exact hlv.keeps ((Keeps.refl [] _).alloc _))).mono ?_; rintro e w6 ⟨m6, rfl, rfl, kr6⟩; have k56 : Keeps [] W3 w6 := Keeps.trans (by first | exact k5 | exact k5.alloc _) kr6 (by simp); (try (have bz6 := kr6.blk bz5 (by simp); have bzS := bz6.set4 (.int .i64 er) (.int .u64 (tm : Int)) (.string ⟨ak.toArray⟩) (.string ⟨av.toArray⟩); have bz6o := bz6.o4)); (try (have bz6 := kr6.blk (Blk.new w5 [.int .i64 0, .int .u64 0, .string ⟨#[]⟩, .string ⟨#[]⟩] 32) (by simp); have bzS := bz6.set4 (.int .i64 er) (.int .u64 (tm : Int)) (.string ⟨ak.toArray⟩) (.string ⟨av.toArray⟩); have bz6o := bz6.o4; have hz : W3.heap.size ≤ w5.heap.size := k5.size)))
            | fail))
        all_goals
          go_wp2_with fail
          go_meet
          first
            | exact ⟨_, rfl, rfl, rfl, k56.size, Blk.new w6 [.int .i64 er, .int .u64 (tm : Int), .string ⟨ak.toArray⟩, .string ⟨av.toArray⟩] 32, k56.alloc _⟩
            | exact ⟨_, rfl, rfl, rfl, hz, bzS.1, k56.trans bzS.2 (fun i hi => .inr (by simp at hi; subst hi; exact hz))⟩
      case rest =>
        obtain ⟨g12, rfl, rfl, rfl, hg12, b12, kc⟩ := hcut
        clear hmv hli hS z3 z4 z5 p0' p1' p6' hk'
        obtain ⟨hX3, bA3, K3, b11, hvq, hpc, no, hsz⟩ := HY.out
        have hXc := hX3.keeps kc
        have bAc := kc.blk bA3 (by simp)
        have b11c := kc.blk b11 (by simp)
        have n11 : ¬ OwnW ww bv sv cv vs W2.heap.size := fun e => by have := (H.out.oge e).2; omega
        have n12 : ¬ OwnW ww bv sv cv vs g12 := fun e => by have := (H.out.oge e).2; omega
        obtain ⟨wD, hwD⟩ : ∃ wD, wD = (wc.setCell ⟨W2.heap.size, 4, none⟩ (.int .i64 (mp : Int))).setCell ⟨W2.heap.size, 5, none⟩ (.string ⟨mk.toArray⟩) := ⟨_, rfl⟩
        have kD : Keeps [W2.heap.size] wc wD := by rw [hwD]; exact ((Keeps.refl [W2.heap.size] wc).setCell _ _ (.inl (by simp))).setCell _ _ (.inl (by simp))
        have b11D : Blk wD W2.heap.size [.int .i64 (pc.t : Int), .int .i64 (pc.c : Int), .int .i64 (pc.j : Int), .int .u64 (pc.T : Int), .int .i64 (mp : Int), .string ⟨mk.toArray⟩] := by rw [hwD]; exact (b11c.set 4 _).set 5 _
        have hXD := hXc.beside kD n11
        have bAD := kD.blk bAc (by simp; omega)
        have b12D := kD.blk b12 (by simp; omega)
        have KD : Keeps [] w wD := (K3.trans kc (by simp)).trans kD (fun i hi => .inr (by simp at hi; omega))
        obtain ⟨i1, hi0, hz0, hz1, hz2⟩ := info_parts infoCU
        have hcR := hXD.hc
        have hCl := hi.nC
        rw [HN.out] at hcR hCl
        obtain ⟨v2, w2, hr2, r2, k2, f2⟩ := row_nil (w := wD) 56 56 92 i1 _ 56 6 Tryz.underlying56 hi0 hz0 hz1 hz2 rfl (by decide) N cv (cCs s.Cs) hcR.lst (by rw [cCs_len, HN.out]) (fun u hu => cCs_one' hu) (by omega) (by decide)
        obtain ⟨_, ⟨hv2, h0⟩ | ⟨g2, cap2, rest2, hv2, -, -, -, -⟩⟩ := id r2
        · omega
        subst hv2
        obtain ⟨hXE, hEE⟩ := hXD.setC (k2.mono (by simp)) (Cs' := s.Cs) (by rw [HN.out]; exact r2) (fun g hg => .inr (f2 g hg))
        obtain ⟨bAE, noE⟩ := hEE.blk (bAD) no
        obtain ⟨b11E, n11E⟩ := hEE.blk b11D n11
        obtain ⟨b12E, n12E⟩ := hEE.blk b12D n12
        have hb2 := k2.blk hXD.hw (by simp)
        have d3 : wD.cell? ⟨ww, 3, none⟩ = some (.slice (some ⟨gq, 0, none⟩) N capq) := by rw [← HN.out, ← hvq]; exact hXD.hw.cell 3
        have dl := hXD.hw.lt
        have d3' : w2.cell? ⟨ww, 3, none⟩ = some (.slice (some ⟨gq, 0, none⟩) N capq) := k2.cellEq d3 (by simp)
        have df := fun j => hb2.frozen j
        have dl' := hb2.lt
        have hr2' : (Builtin.append_ #[56, 56] 56 #[.slice none 0 0, .slice (some ⟨gq, 0, none⟩) N capq]).run Tryz.prog wD = .ok (.slice (some ⟨g2, 0, none⟩) N cap2) w2 := by rw [← HN.out, ← hvq, HN.out]; exact hr2
        obtain ⟨wE, hwE⟩ : ∃ wE, wE = w2.setCell ⟨ww, 3, none⟩ (.slice (some ⟨g2, 0, none⟩) N cap2) := ⟨_, rfl⟩
        rw [← hwE] at hXE hEE bAE b11E b12E
        have hcE := hXE.hc
        simp only at hcE
        rw [HN.out] at hcE
        obtain ⟨wF, hwF⟩ : ∃ wF, wF = (((((wE.setCell ⟨g2, k * 6, none⟩ (.int .i64 (pc.t : Int))).setCell ⟨g2, k * 6 + 1, none⟩ (.int .i64 (pc.c : Int))).setCell ⟨g2, k * 6 + 2, none⟩ (.int .i64 (pc.j : Int))).setCell ⟨g2, k * 6 + 3, none⟩ (.int .u64 (pc.T : Int))).setCell ⟨g2, k * 6 + 4, none⟩ (.int .i64 (mp : Int))).setCell ⟨g2, k * 6 + 5, none⟩ (.string ⟨mk.toArray⟩) := ⟨_, rfl⟩
        obtain ⟨rF, kF⟩ := Row.set6 hcE hpc ⟨pc.t, pc.c, pc.j, pc.T, mp, mk⟩ hwF
        obtain ⟨hXF, hEF⟩ := hXE.rowC (by simpa [Value.ownBlock] using kF) (Cs' := s.Cs.set k ⟨pc.t, pc.c, pc.j, pc.T, mp, mk⟩) (by rw [List.length_set, HN.out]; exact rF)
        obtain ⟨bAF, noF⟩ := hEF.blk bAE noE
        obtain ⟨b12F, n12F⟩ := hEF.blk b12E n12E
        have hEF2 := (Ef.before KD hEE).trans hEF
        have e3 : wE.cell? ⟨ww, 3, none⟩ = some (.slice (some ⟨g2, 0, none⟩) N cap2) := hXE.hw.cell 3
        have el := hXE.hw.lt
        obtain ⟨t0, t1, t2, t3, t4, t5, tf, tl⟩ := b11E.o6
        obtain ⟨gc0, gc1, gc2, gc3, gc4, gc5, gl⟩ := Row.at6' (n := N) (l := s.Cs) (by rw [HN.out]; exact hcE) hpc
        have gf : ∀ j, wE.frozen? ⟨g2, j, none⟩ = false := by
          obtain ⟨_, ⟨h9, _⟩ | ⟨g9, c9, r9, h9, hb9, _⟩⟩ := hcE
          · exact absurd h9 (by simp)
          · injection h9 with h9 _ _
            injection h9 with h9
            injection h9 with h9 _ _
            rw [h9]
            exact hb9.frozen
        have HXF := Lib.hid (And.intro hXF (And.intro hEF2 (And.intro bAF (And.intro noF b12F))))
        have HwE := Lib.hid hwE
        have HwF := Lib.hid hwF
        have HwD := Lib.hid hwD
        have yf := fun j => b11c.frozen j
        have yl := b11c.lt
        have y4 : wc.cell? ⟨W2.heap.size, 4, none⟩ = some (.int .i64 (pc.pl : Int)) := b11c.cell 4
        have y5 : wc.cell? ⟨W2.heap.size, 5, none⟩ = some (.string ⟨pc.key.toArray⟩) := b11c.cell 5
        have hNN : (0 : Int) ≤ (N : Int) := by omega
        clear hX3 bA3 K3 b11 hXc bAc b11c n11 n12 hwD kD b11D hXD bAD b12D KD hi0 hz0 hz1 hz2 hcR hCl r2 k2 f2 hXE hEE bAE noE b11E n11E b12E n12E hb2 hwE hcE hwF rF kF hXF hEF bAF noF b12F n12F hEF2 b12 kc hsz no hvq hr2
        rw [HwD.out] at d3 dl hr2'
        clear HwD
        go_wp2_with (at_builtin; refine list_append_eq rfl _ _ 56 56 rfl _ _ rfl rfl hr2' ?_)
        rw [← HwE.out]
        clear d3 dl hr2' d3' df dl' yf yl y4 y5
        go_cut [165] from 165 to 171 (fun _ wx => ∃ z, wx = wF.drewN z)
        case first =>
          go_region
          all_goals
            go_wp2_with fail
            go_meet
            exact ⟨1, by rw [HwF.out]; rfl⟩
        case rest =>
          obtain ⟨z, rfl⟩ := hcut
          obtain ⟨hXF, hEF2, bAF, noF, b12F⟩ := HXF.out
          have kz := (Keeps.refl [] wF).drewN z
          have bAZ := kz.blk bAF (by simp)
          have hXZ := hXF.keeps kz
          have hEZ := hEF2.after kz
          obtain ⟨m0, m1, m2, m3, mf, ml⟩ := (kz.blk b12F (by simp)).o4
          obtain ⟨bS, kS⟩ := bAZ.set4 (.int .i64 er) (.int .u64 (tm : Int)) (.string ⟨ak.toArray⟩) (.string ⟨av.toArray⟩)
          obtain ⟨o0, o1, o2, o3, o4, o5⟩ := bAZ.o4
          have HX := Lib.hid (And.intro (hXZ.beside kS noF) ((hEZ).fresh kS (by omega)))
          have HbS := Lib.hid bS
          clear bS kS

          clear hXF hEF2 bAF noF b12F kz bAZ hXZ hEZ HXF e3 el t0 t1 t2 t3 t4 t5 tf tl gf gc0 gc1 gc2 gc3 gc4 gc5 gl
          go_wp2_with fail
          refine bodyPost_ret (O.results_blk rfl _ _ (w.heap.size + 1) [.int .i64 er, .int .u64 (tm : Int), .string ⟨ak.toArray⟩, .string ⟨av.toArray⟩] _ rfl HbS.out Tryz.underlying32 sizAn) rfl ?_
          refine ⟨?_, ?_, ?_⟩
          · rw [HRv.out]
          · rw [HRv.out]
          · rw [HRv.out]; exact ⟨_, _, _, _, HX.out.1, HX.out.2⟩
end Go.Proofs.YtbcgpjfejpcgnaaGreat
end
