/- The contract of Decode, given that of engine.Valid. -/
import Derived.Test.YtkgmgnfcmnhhaaaScrJ
import Derived.Deep.CutRange
import Derived.Laws.ResultCell
namespace Go.Proofs.Ytkgmgnfcmnhhaaa
open Go.RowKit
set_option linter.unusedSectionVars false
set_option linter.unusedVariables false
set_option linter.unusedSimpArgs false
set_option maxRecDepth 20000
set_option maxHeartbeats 4000000
/-- Bytes that came in. -/
def InB (w : World) (v : Value) (L : Str) : Prop := ∃ A cap b o, v = .slice A L.length cap ∧ (0 < L.length → A = some ⟨b, o, none⟩) ∧ Arr w b o (L.map vB) ∧ L.length ≤ cap ∧ cap ≤ 9223372036854775807
def DecQ (vld : Scr → Bool) (w : World) (L : Str) (q : Ending) (w' : World) : Prop :=
  Keeps [] w w' ∧ match dec vld L with
    | .error e => q = .returned (.tuple #[.agg #[.int .i64 0, .int .i64 0, .int .i64 0, .int .i64 0, .int .i64 0, .int .i64 0, .int .u64 0, .slice none 0 0, .slice none 0 0], .int .i64 (e : Int)])
    | .ok x => ∃ y : SV, y.scr = x ∧ (0 ≤ y.th ∧ y.th ≤ 64) ∧ OkS w' y ∧ q = .returned (.tuple #[.agg #[.int .i64 y.th, .int .i64 y.sn, .int .i64 y.no, .int .i64 y.ch, .int .i64 y.re, .int .i64 y.fa, .int .u64 (y.cl : Int), .slice y.pA y.ps.length y.pc, .slice y.kA y.pk.length y.kc], .int .i64 0])
/-- The contract of engine.Valid that is asked for. -/
def ValidC (vld : Scr → Bool) : Prop := ∀ (w : World) (y : SV), OkS w y → (0 ≤ y.th ∧ y.th ≤ 64) → ScrOk y.scr → (∀ p ∈ y.ps, p.2.length ≤ 1073741824 ∧ ∀ z ∈ p.2, z.b.length ≤ 1073741824) → y.pk.length ≤ 1073741824 →
  Calls Try.prog 16 #[.agg #[.int .i64 y.th, .int .i64 y.sn, .int .i64 y.no, .int .i64 y.ch, .int .i64 y.re, .int .i64 y.fa, .int .u64 (y.cl : Int), .slice y.pA y.ps.length y.pc, .slice y.kA y.pk.length y.kc]] w fun q w' => q = .returned (.bool (vld y.scr)) ∧ Keeps [] w w'
theorem eOp_wrts {z : Opn} (h : OpnOk z) : z.b.length ≤ (eOp z).length := by
  obtain ⟨c, k, t, b, hh, u, m⟩ := z
  obtain ⟨⟨h1, h9⟩, h2⟩ := h
  simp only at h1 h9 h2 ⊢
  obtain rfl | rfl | rfl | rfl | rfl | rfl | rfl | rfl | rfl : c = 1 ∨ c = 2 ∨ c = 3 ∨ c = 4 ∨ c = 5 ∨ c = 6 ∨ c = 7 ∨ c = 8 ∨ c = 9 := by omega
  case inr.inr.inl =>
    have := length_flatMap_ge (l := b) eWrt fun z _ => eWrt_pos z
    simp only [eOp, eBody, eBatch, List.length_cons, List.length_append]
    omega
  all_goals
    simp only [BodyOk, Opn.mk.injEq, true_and] at h2
    obtain rfl : b = [] := by first | exact h2.1.1 | exact h2.1.2.1 | exact h2.1.2.2.1 | exact h2.2.1 | exact h2.2.2.1 | (have := h2; simp_all)
    simp
theorem scr_bounds {L r : Str} {Y : Scr} {N : Nat} (h : rScr L = .ok (Y, r)) (hn : L.length ≤ N) : ScrOk Y ∧ (∀ p ∈ Y.ps, p.length ≤ N ∧ ∀ z ∈ p, z.b.length ≤ N) ∧ Y.pk.length ≤ N := by
  obtain ⟨h1, h2⟩ := law_scr.bwd _ _ _ h
  have hl : (eScr Y).length ≤ N := by rw [h1, List.length_append] at hn; omega
  refine ⟨h2, fun p hp => ?_, ?_⟩
  · have hpl : (eProg p).length ≤ N := by
      have := length_le_flatMap eProg hp
      simp only [eScr, List.length_append] at hl
      omega
    have hfl : (p.flatMap eOp).length ≤ N := by simp only [eProg, List.length_append] at hpl; omega
    refine ⟨Nat.le_trans (length_flatMap_ge eOp fun z _ => eOp_pos z) hfl, fun z hz => ?_⟩
    have hz1 := Nat.le_trans (length_le_flatMap eOp hz) hfl
    exact Nat.le_trans (eOp_wrts ((h2.2.2.2.2.2.2.2.1.2 p hp).2 z hz)) hz1
  · simp only [eScr, ePicks, List.length_append] at hl
    have := length_flatMap_ge (l := Y.pk) eInt fun z _ => vi_pos _
    omega
theorem Rs.full {w : World} {g : Nat} {s : Except Nat Str} (h : Rs w g s) : ∃ (L : Str) (e : Nat) (v : Value), (Blk w g [v, .int .i64 (e : Int)] ∧ w.cell? ⟨g, 0, none⟩ = some v ∧ w.cell? ⟨g, 1, none⟩ = some (.int .i64 (e : Int)) ∧ (∀ j, w.frozen? ⟨g, j, none⟩ = false) ∧ g < w.heap.size) ∧ (∃ A C, v = .slice A L.length C) ∧ ((s = .ok L ∧ e = 0) ∨ (s = .error e ∧ e ≠ 0)) := by
  cases s with
  | ok L =>
    obtain ⟨v, h1, A, cap, b, o, rfl, _⟩ := h
    exact ⟨L, 0, _, ⟨h1, h1.cell 0, h1.cell 1, h1.frozen, h1.lt⟩, ⟨_, _, rfl⟩, .inl ⟨rfl, rfl⟩⟩
  | error e =>
    obtain ⟨h0, L, v, h1, A, cap, b, o, rfl, _⟩ := h
    exact ⟨L, e, _, ⟨h1, h1.cell 0, h1.cell 1, h1.frozen, h1.lt⟩, ⟨_, _, rfl⟩, .inr ⟨rfl, h0⟩⟩
theorem aft_isok {α : Type} {s : Except Nat Str} {R : Str → Rd α} {L : Str} (h : aft s R = .ok L) : ∃ L0, s = .ok L0 := by
  cases s with
  | error e => simp [aft] at h
  | ok L0 => exact ⟨L0, rfl⟩
theorem IntsAt.isok {s s' : Except Nat Str} {ys : List Int} {L : Str} (h : IntsAt s ys s') (h' : s' = .ok L) : ∃ L0, s = .ok L0 := by
  induction ys generalizing s with
  | nil =>
    simp only [IntsAt] at h
    subst h
    exact ⟨L, h'⟩
  | cons b ys ih =>
    obtain ⟨L1, h1⟩ := ih h.2
    exact aft_isok h1
theorem aft_ok {α : Type} {L L1 : Str} {R : Str → Rd α} {x : α} (h : aft (.ok L) R = .ok L1) (hv : vls (.ok L) R x) : R L = .ok (x, L1) := by
  simp only [aft] at h
  cases hr : R L with
  | error e => simp [hr] at h
  | ok z =>
    obtain ⟨y, r⟩ := z
    simp only [hr, Except.ok.injEq] at h
    subst h
    rw [hv L rfl y r hr]
theorem wrapU (x : Int) (h : IntOk x) (hb : ¬ (0 ≤ x ∧ x ≤ 64)) : (64 : Int) < IntKind.u64.wrap x := by
  unfold IntOk at h
  rw [IntKind.wrap_u64]
  omega
theorem wrapU' (x : Int) (hb : 0 ≤ x ∧ x ≤ 64) : ¬ (64 : Int) < IntKind.u64.wrap x := by
  rw [IntKind.wrap_u64]
  omega
/-- A named result of a struct's type beside a plain one. -/
theorem results_blk2 {fn : Func} {p u : Tmp} {ty : TypeId} (h : fn.results = #[.cell p ty, .tmp u]) (tmps : Array Value) (w : World) (g : Nat) (cs : List Value) (d : Array Field)
    (hp : tmps.getD p undef = .pointer (some ⟨g, 0, none⟩)) (hb : Blk w g cs) (hu : Try.prog.underlying ty = some (.struct d)) (hi : (Try.prog.info? ty).map (·.size) = some cs.length) :
    (results fn tmps).run Try.prog w = .ok (.tuple #[.agg cs.toArray, tmps.getD u undef]) w := by
  obtain ⟨T, ht⟩ := hb
  rw [results_cell_tmp h, hp]
  have := run_loadVar_row (P := Try.prog) w g T ty cs.toArray _ (.struct d) ht hu rfl (by simpa using hi)
  simp [asAddr, Result.andThen, this]
theorem fin9 {wf : World} {g2 : Nat} {y0 y1 y2 y3 y4 y5 y6 y7 y8 : Value} (h : Blk wf g2 [y0, y1, y2, y3, y4, y5, y6, y7, y8]) (x0 x1 x2 x3 x4 x5 x6 x7 x8 : Value) :
    Blk (((((((((wf.setCell ⟨g2, 0, none⟩ x0).setCell ⟨g2, 1, none⟩ x1).setCell ⟨g2, 2, none⟩ x2).setCell ⟨g2, 3, none⟩ x3).setCell ⟨g2, 4, none⟩ x4).setCell ⟨g2, 5, none⟩ x5).setCell ⟨g2, 6, none⟩ x6).setCell ⟨g2, 7, none⟩ x7).setCell ⟨g2, 8, none⟩ x8) g2 [x0, x1, x2, x3, x4, x5, x6, x7, x8] ∧
    Keeps [g2] wf (((((((((wf.setCell ⟨g2, 0, none⟩ x0).setCell ⟨g2, 1, none⟩ x1).setCell ⟨g2, 2, none⟩ x2).setCell ⟨g2, 3, none⟩ x3).setCell ⟨g2, 4, none⟩ x4).setCell ⟨g2, 5, none⟩ x5).setCell ⟨g2, 6, none⟩ x6).setCell ⟨g2, 7, none⟩ x7).setCell ⟨g2, 8, none⟩ x8) := by
  refine ⟨((((((((h.set 0 x0).set 1 x1).set 2 x2).set 3 x3).set 4 x4).set 5 x5).set 6 x6).set 7 x7).set 8 x8, ?_⟩
  exact (((((((((Keeps.refl [g2] wf).setCell ⟨g2, 0, none⟩ x0 (.inl (by simp))).setCell ⟨g2, 1, none⟩ x1 (.inl (by simp))).setCell ⟨g2, 2, none⟩ x2 (.inl (by simp))).setCell ⟨g2, 3, none⟩ x3 (.inl (by simp))).setCell ⟨g2, 4, none⟩ x4 (.inl (by simp))).setCell ⟨g2, 5, none⟩ x5 (.inl (by simp))).setCell ⟨g2, 6, none⟩ x6 (.inl (by simp))).setCell ⟨g2, 7, none⟩ x7 (.inl (by simp))).setCell ⟨g2, 8, none⟩ x8 (.inl (by simp))
def scB (x : Int) (ys : List Int) : List Value := .int .i64 x :: ((ys ++ List.replicate (5 - ys.length) 0).map (fun n => Value.int .i64 n) ++ [.int .u64 0, .slice none 0 0, .slice none 0 0])
theorem Blk.o5' {w : World} {b : Nat} {x0 x1 x2 x3 x4 : Value} (h : Blk w b [x0, x1, x2, x3, x4]) : w.cell? ⟨b, 0, none⟩ = some x0 ∧ w.cell? ⟨b, 1, none⟩ = some x1 ∧ w.cell? ⟨b, 2, none⟩ = some x2 ∧ w.cell? ⟨b, 3, none⟩ = some x3 ∧ w.cell? ⟨b, 4, none⟩ = some x4 ∧ (∀ j, w.frozen? ⟨b, j, none⟩ = false) ∧ b < w.heap.size :=
  ⟨h.cell 0, h.cell 1, h.cell 2, h.cell 3, h.cell 4, h.frozen, h.lt⟩
theorem sizS : (Try.prog.info? 30).map (·.size) = some 9 := by kernel_rfl
theorem dec_any (vld : Scr → Bool) (hval : ValidC vld) (w : World) (L : Str) (v : Value) (hv : InB w v L) (hn : L.length ≤ 1073741824) :
    Calls Try.prog 11 #[v] w (DecQ vld w L) := by
  obtain ⟨A, cap, b, o, rfl, hA, hx, hc, hm⟩ := hv
  have ka := (Keeps.refl [] w).alloc (.cells #[.int .i64 0, .int .i64 0, .int .i64 0, .int .i64 0, .int .i64 0, .int .i64 0, .int .u64 0, .slice none 0 0, .slice none 0 0] 30)
  have kb := ka.alloc (.cells #[.slice A L.length cap, .int .i64 0] 64)
  have kc := kb.alloc (.cells #[.int .i64 0, .int .i64 0, .int .i64 0, .int .i64 0, .int .i64 0, .int .i64 0, .int .u64 0, .slice none 0 0, .slice none 0 0] 30)
  have b2 := ((Blk.new w [.int .i64 0, .int .i64 0, .int .i64 0, .int .i64 0, .int .i64 0, .int .i64 0, .int .u64 0, .slice none 0 0, .slice none 0 0] 30).alloc (.cells #[.slice A L.length cap, .int .i64 0] 64)).alloc (.cells #[.int .i64 0, .int .i64 0, .int .i64 0, .int .i64 0, .int .i64 0, .int .i64 0, .int .u64 0, .slice none 0 0, .slice none 0 0] 30)
  change Blk (((w.alloc (.cells #[.int .i64 0, .int .i64 0, .int .i64 0, .int .i64 0, .int .i64 0, .int .i64 0, .int .u64 0, .slice none 0 0, .slice none 0 0] 30)).alloc (.cells #[.slice A L.length cap, .int .i64 0] 64)).alloc (.cells #[.int .i64 0, .int .i64 0, .int .i64 0, .int .i64 0, .int .i64 0, .int .i64 0, .int .u64 0, .slice none 0 0, .slice none 0 0] 30)) _ _ at b2
  have b4 := (Blk.new (w.alloc (.cells #[.int .i64 0, .int .i64 0, .int .i64 0, .int .i64 0, .int .i64 0, .int .i64 0, .int .u64 0, .slice none 0 0, .slice none 0 0] 30)) [.slice A L.length cap, .int .i64 0] 64).alloc (.cells #[.int .i64 0, .int .i64 0, .int .i64 0, .int .i64 0, .int .i64 0, .int .i64 0, .int .u64 0, .slice none 0 0, .slice none 0 0] 30)
  change Blk (((w.alloc (.cells #[.int .i64 0, .int .i64 0, .int .i64 0, .int .i64 0, .int .i64 0, .int .i64 0, .int .u64 0, .slice none 0 0, .slice none 0 0] 30)).alloc (.cells #[.slice A L.length cap, .int .i64 0] 64)).alloc (.cells #[.int .i64 0, .int .i64 0, .int .i64 0, .int .i64 0, .int .i64 0, .int .i64 0, .int .u64 0, .slice none 0 0, .slice none 0 0] 30)) _ _ at b4
  have b5 := Blk.new ((w.alloc (.cells #[.int .i64 0, .int .i64 0, .int .i64 0, .int .i64 0, .int .i64 0, .int .i64 0, .int .u64 0, .slice none 0 0, .slice none 0 0] 30)).alloc (.cells #[.slice A L.length cap, .int .i64 0] 64)) [.int .i64 0, .int .i64 0, .int .i64 0, .int .i64 0, .int .i64 0, .int .i64 0, .int .u64 0, .slice none 0 0, .slice none 0 0] 30
  change Blk (((w.alloc (.cells #[.int .i64 0, .int .i64 0, .int .i64 0, .int .i64 0, .int .i64 0, .int .i64 0, .int .u64 0, .slice none 0 0, .slice none 0 0] 30)).alloc (.cells #[.slice A L.length cap, .int .i64 0] 64)).alloc (.cells #[.int .i64 0, .int .i64 0, .int .i64 0, .int .i64 0, .int .i64 0, .int .i64 0, .int .u64 0, .slice none 0 0, .slice none 0 0] 30)) _ _ at b5
  have h4 : Rs (((w.alloc (.cells #[.int .i64 0, .int .i64 0, .int .i64 0, .int .i64 0, .int .i64 0, .int .i64 0, .int .u64 0, .slice none 0 0, .slice none 0 0] 30)).alloc (.cells #[.slice A L.length cap, .int .i64 0] 64)).alloc (.cells #[.int .i64 0, .int .i64 0, .int .i64 0, .int .i64 0, .int .i64 0, .int .i64 0, .int .u64 0, .slice none 0 0, .slice none 0 0] 30)) (w.alloc (.cells #[.int .i64 0, .int .i64 0, .int .i64 0, .int .i64 0, .int .i64 0, .int .i64 0, .int .u64 0, .slice none 0 0, .slice none 0 0] 30)).heap.size (.ok L) :=
    ⟨_, b4, A, cap, b, o, rfl, hA, hx.keepsIf kc (by simp), fun h0 => by have := hx.lt (by simpa using h0); simp; omega, hc, hm⟩
  have s1 : (w.alloc (.cells #[.int .i64 0, .int .i64 0, .int .i64 0, .int .i64 0, .int .i64 0, .int .i64 0, .int .u64 0, .slice none 0 0, .slice none 0 0] 30)).heap.size = w.heap.size + 1 := by simp
  have s2 : ((w.alloc (.cells #[.int .i64 0, .int .i64 0, .int .i64 0, .int .i64 0, .int .i64 0, .int .i64 0, .int .u64 0, .slice none 0 0, .slice none 0 0] 30)).alloc (.cells #[.slice A L.length cap, .int .i64 0] 64)).heap.size = w.heap.size + 1 + 1 := by simp
  rw [s1] at h4
  rw [s2] at b5
  obtain ⟨g2, hg2⟩ : ∃ g2, w.heap.size = g2 := ⟨_, rfl⟩
  rw [hg2] at b2 h4 b5
  have hn' := Lib.hid hn
  have hz : Sz (.ok L) 1073741824 := fun L' h => by simp only [Except.ok.injEq] at h; subst h; exact hn
  have hq1 := intQ _ _ h4
  clear b4 ka kb s1 s2 hx hA
  obtain ⟨g, hg⟩ : ∃ g, g2 + 1 = g := ⟨_, rfl⟩
  rw [hg] at h4 hq1 b5
  go_enter Try.func11, Try.ntmps11
  go_wp2_with fail
  refine hq1.mono ?_
  rintro q w1 ⟨x, rfl, K1, h1, v1⟩
  replace b2 := K1.blk b2 (by simp <;> omega)
  replace b5 := K1.blk b5 (by simp <;> omega)
  have KK : Keeps [] w w1 := kc.trans K1 (by simp <;> omega)
  obtain ⟨d0, d1, d2, d3, d4, d5, d6, d7, d8, df, dl⟩ := b2.o9
  obtain ⟨c0, c1, c2, c3, c4, c5, c6, c7, c8, cf, cl⟩ := b5.o9
  obtain ⟨ee, he1, he2⟩ := h1.cell
  clear hq1 h4 kc K1
  have kS := (Keeps.refl [g + 1] w1).setCell ⟨g + 1, 0, none⟩ (.int .i64 x) (.inl (by simp))
  replace h1 := h1.keepsS kS (by simp <;> omega)
  replace b5 := b5.set 0 (.int .i64 x)
  simp only [List.set] at b5
  have b2' := b2
  replace b2 := b2.other ⟨g + 1, 0, none⟩ (.int .i64 x) (by simp <;> omega)
  replace KK := KK.trans kS (by simp <;> omega)
  by_cases hbad : (∃ L1, aft (.ok L) rInt = .ok L1) ∧ ¬ (0 ≤ x ∧ x ≤ 64)
  · obtain ⟨⟨L1, hL1⟩, hx⟩ := hbad
    have hdec : dec vld L = .error 1 := by
      have := thr_bad v1 hL1 hx
      have h2 : vls (.ok L) rScr ⟨0, 0, 0, 0, 0, 0, 0, [], []⟩ := fun L' hL y r hy => by
        simp only [Except.ok.injEq] at hL
        subst hL
        simp [aft, hy] at this
      rw [dec_aft vld h2, this]
    have HD := Lib.hid hdec
    obtain rfl : ee = 0 := he2.2 ⟨L1, hL1⟩
    have hok := (law_int.bwd _ _ _ (aft_ok hL1 v1)).2
    have hwr := wrapU x hok hx
    clear hdec he2 hx v1 hL1 hok
    go_wp2_with fail
    obtain ⟨e1, e2⟩ := fin9 b2 (.int .i64 0) (.int .i64 0) (.int .i64 0) (.int .i64 0) (.int .i64 0) (.int .i64 0) (.int .u64 0) (.slice none 0 0) (.slice none 0 0)
    refine bodyPost_ret (results_blk2 rfl _ _ g2 _ _ rfl e1 Try.underlying30 sizS) rfl ?_
    refine ⟨KK.trans e2 (by simp <;> omega), ?_⟩
    rw [HD.out]
    rfl
  · have hn1 : ∀ L1, aft (.ok L) rInt = .ok L1 → 0 ≤ x ∧ x ≤ 64 := fun L1 h => Classical.byContradiction fun hc => hbad ⟨⟨L1, h⟩, hc⟩
    obtain ⟨T1, T2⟩ := thr_of v1 hn1
    rw [← T1] at h1
    have HT := Lib.hid T2
    have hz1 : Sz (aft (.ok L) rThr) 1073741824 := by rw [T1]; exact hz.aft law_int
    obtain ⟨s1, hs1⟩ : ∃ s1, aft (.ok L) rThr = s1 := ⟨_, rfl⟩
    have he3 : ee = 0 → 0 ≤ x ∧ x ≤ 64 := fun h => by obtain ⟨L1, h⟩ := he2.1 h; exact hn1 L1 h
    rw [T1] at hs1
    have hn2 : ∀ L1, s1 = .ok L1 → 0 ≤ x ∧ x ≤ 64 := by rw [← hs1]; exact hn1
    have hs1' := T1.trans hs1
    rw [hs1'] at h1 hz1
    have HS1 := Lib.hid hs1'
    have HN2 := Lib.hid hn2
    have HVAL := Lib.hid hval
    clear hs1' hs1 T1 T2 v1 hn1 hbad he2 hn2 b2' kS hval hn hz
    go_upto_region 4 with fail
    go_cut [28] from 17 to 29 (fun s wx => s = .bool false ∧ wx = w1.setCell ⟨g + 1, 0, none⟩ (.int .i64 x))
    case first =>
      by_cases h0 : ee = 0
      · subst h0
        have hwr := wrapU' x (he3 rfl)
        have hx64 := (he3 rfl).2
        go_wp2_with fail
        go_meet
        exact ⟨by simp <;> omega, rfl⟩
      · have h0' : ¬ (ee : Int) = 0 := by omega
        go_wp2_with fail
        go_meet
        exact ⟨rfl, rfl⟩
    case rest =>
    obtain ⟨rfl, rfl⟩ := hcut
    clear c0 c1 c2 c3 c4 c5 c6 c7 c8 cf cl d0 d1 d2 d3 d4 d5 d6 d7 d8 df dl he1 he3
    obtain ⟨wm, hwm⟩ : ∃ wm, w1.setCell ⟨g + 1, 0, none⟩ (.int .i64 x) = wm := ⟨_, rfl⟩
    rw [hwm] at h1 b5 b2 KK ⊢
    clear hwm
    have bp := Blk.new wm [.pointer (some ⟨g + 1, 1, none⟩), .pointer (some ⟨g + 1, 2, none⟩), .pointer (some ⟨g + 1, 3, none⟩), .pointer (some ⟨g + 1, 4, none⟩), .pointer (some ⟨g + 1, 5, none⟩)] 66
    obtain ⟨wA, hwA⟩ : ∃ wA, wm.alloc (.cells #[.pointer (some ⟨g + 1, 1, none⟩), .pointer (some ⟨g + 1, 2, none⟩), .pointer (some ⟨g + 1, 3, none⟩), .pointer (some ⟨g + 1, 4, none⟩), .pointer (some ⟨g + 1, 5, none⟩)] 66) = wA := ⟨_, rfl⟩
    have kp := (Keeps.refl [] wm).alloc (.cells #[.pointer (some ⟨g + 1, 1, none⟩), .pointer (some ⟨g + 1, 2, none⟩), .pointer (some ⟨g + 1, 3, none⟩), .pointer (some ⟨g + 1, 4, none⟩), .pointer (some ⟨g + 1, 5, none⟩)] 66)
    change Blk (wm.alloc (.cells #[.pointer (some ⟨g + 1, 1, none⟩), .pointer (some ⟨g + 1, 2, none⟩), .pointer (some ⟨g + 1, 3, none⟩), .pointer (some ⟨g + 1, 4, none⟩), .pointer (some ⟨g + 1, 5, none⟩)] 66)) _ _ at bp
    have hpg : g + 1 < wm.heap.size := b5.lt
    obtain ⟨gp, hgp⟩ : ∃ gp, wm.heap.size = gp := ⟨_, rfl⟩
    rw [hgp] at bp hpg
    rw [hwA] at bp kp
    replace h1 := h1.keeps kp
    replace b5 := kp.blk b5 (by simp)
    replace b2 := kp.blk b2 (by simp)
    replace KK := KK.trans kp (by simp)
    clear kp
    go_upto_block 0 with fail
    clear hwA
    go_cut [42] from 43 to 50 (fun _ wx => ∃ (y1 y2 y3 y4 y5 : Int) (s6 : Except Nat Str), Rs wx g s6 ∧ Blk wx (g + 1) [.int .i64 x, .int .i64 y1, .int .i64 y2, .int .i64 y3, .int .i64 y4, .int .i64 y5, .int .u64 0, .slice none 0 0, .slice none 0 0] ∧ Blk wx g2 [.int .i64 0, .int .i64 0, .int .i64 0, .int .i64 0, .int .i64 0, .int .i64 0, .int .u64 0, .slice none 0 0, .slice none 0 0] ∧ Keeps [] w wx ∧ Hid (IntsAt s1 [y1, y2, y3, y4, y5] s6 ∧ Sz s6 1073741824))
    case first =>
      go_wp2_with fail
      go_loopw [42] (fun i wr => ∃ (ys : List Int) (s' : Except Nat Str), i = .int .i64 (ys.length : Int) ∧ ys.length ≤ 5 ∧ Rs wr g s' ∧ Blk wr (g + 1) (scB x ys) ∧ Blk wr g2 [.int .i64 0, .int .i64 0, .int .i64 0, .int .i64 0, .int .i64 0, .int .i64 0, .int .u64 0, .slice none 0 0, .slice none 0 0] ∧ Blk wr gp [.pointer (some ⟨g + 1, 1, none⟩), .pointer (some ⟨g + 1, 2, none⟩), .pointer (some ⟨g + 1, 3, none⟩), .pointer (some ⟨g + 1, 4, none⟩), .pointer (some ⟨g + 1, 5, none⟩)] ∧ Keeps [] w wr ∧ Hid (IntsAt s1 ys s' ∧ Sz s' 1073741824)) (fun i _ => 5 - (intOf i).toNat)
      case atStart => exact ⟨[], s1, rfl, by simp, h1, b5, b2, bp, KK, Lib.hid ⟨rfl, hz1⟩⟩
      case round =>
        clear h1 b5 b2 bp KK hz1
        obtain ⟨ys, s', rfl, hl, h2, b5, b2, bp, KK, HI⟩ := hrel
        have hq := intQ _ _ h2
        obtain ⟨p0, p1, p2, p3, p4, pf, pl⟩ := bp.o5'
        match ys, hl with
        | [], _ =>
          simp only [scB, List.length_nil, List.length_cons, List.nil_append, List.map, List.replicate, List.cons_append] at b5 ⊢
          go_wp2_with fail
          refine hq.mono ?_
          rintro q w3 ⟨y, rfl, K3, h3, v3⟩
          replace b5 := K3.blk b5 (by simp <;> omega)
          obtain ⟨c0, c1, c2, c3, c4, c5, c6, c7, c8, cf, cl⟩ := b5.o9
          have kS := (Keeps.refl [g + 1] w3).setCell ⟨g + 1, 1, none⟩ (.int .i64 y) (.inl (by simp))
          have b5s := b5.set 1 (.int .i64 y)
          simp only [List.set] at b5s
          have b2s := (K3.blk b2 (by simp <;> omega)).other ⟨g + 1, 1, none⟩ (.int .i64 y) (by simp <;> omega)
          have bps := (K3.blk bp (by simp <;> omega)).other ⟨g + 1, 1, none⟩ (.int .i64 y) (by simp <;> omega)
          have h3s := h3.keepsS kS (by simp <;> omega)
          have KKs := (KK.trans K3 (by simp <;> omega)).trans kS (by simp <;> omega)
          have HIs := Lib.hid (And.intro (HI.out.1.snoc v3) (HI.out.2.aft law_int))
          clear h2 b2 bp KK hq HI K3 h3 v3 kS b5 p0 p1 p2 p3 p4 pf pl
          go_wp2_with fail
          exact ⟨⟨[y], _, by rfl, by simp, h3s, b5s, b2s, bps, KKs, HIs⟩, by simp [intOf] <;> omega⟩
        | [y1], _ =>
          simp only [scB, List.length_nil, List.length_cons, List.nil_append, List.map, List.replicate, List.cons_append] at b5 ⊢
          go_wp2_with fail
          refine hq.mono ?_
          rintro q w3 ⟨y, rfl, K3, h3, v3⟩
          replace b5 := K3.blk b5 (by simp <;> omega)
          obtain ⟨c0, c1, c2, c3, c4, c5, c6, c7, c8, cf, cl⟩ := b5.o9
          have kS := (Keeps.refl [g + 1] w3).setCell ⟨g + 1, 2, none⟩ (.int .i64 y) (.inl (by simp))
          have b5s := b5.set 2 (.int .i64 y)
          simp only [List.set] at b5s
          have b2s := (K3.blk b2 (by simp <;> omega)).other ⟨g + 1, 2, none⟩ (.int .i64 y) (by simp <;> omega)
          have bps := (K3.blk bp (by simp <;> omega)).other ⟨g + 1, 2, none⟩ (.int .i64 y) (by simp <;> omega)
          have h3s := h3.keepsS kS (by simp <;> omega)
          have KKs := (KK.trans K3 (by simp <;> omega)).trans kS (by simp <;> omega)
          have HIs := Lib.hid (And.intro (HI.out.1.snoc v3) (HI.out.2.aft law_int))
          clear h2 b2 bp KK hq HI K3 h3 v3 kS b5 p0 p1 p2 p3 p4 pf pl
          go_wp2_with fail
          exact ⟨⟨[y1, y], _, by rfl, by simp, h3s, b5s, b2s, bps, KKs, HIs⟩, by simp [intOf] <;> omega⟩
        | [y1, y2], _ =>
          simp only [scB, List.length_nil, List.length_cons, List.nil_append, List.map, List.replicate, List.cons_append] at b5 ⊢
          go_wp2_with fail
          refine hq.mono ?_
          rintro q w3 ⟨y, rfl, K3, h3, v3⟩
          replace b5 := K3.blk b5 (by simp <;> omega)
          obtain ⟨c0, c1, c2, c3, c4, c5, c6, c7, c8, cf, cl⟩ := b5.o9
          have kS := (Keeps.refl [g + 1] w3).setCell ⟨g + 1, 3, none⟩ (.int .i64 y) (.inl (by simp))
          have b5s := b5.set 3 (.int .i64 y)
          simp only [List.set] at b5s
          have b2s := (K3.blk b2 (by simp <;> omega)).other ⟨g + 1, 3, none⟩ (.int .i64 y) (by simp <;> omega)
          have bps := (K3.blk bp (by simp <;> omega)).other ⟨g + 1, 3, none⟩ (.int .i64 y) (by simp <;> omega)
          have h3s := h3.keepsS kS (by simp <;> omega)
          have KKs := (KK.trans K3 (by simp <;> omega)).trans kS (by simp <;> omega)
          have HIs := Lib.hid (And.intro (HI.out.1.snoc v3) (HI.out.2.aft law_int))
          clear h2 b2 bp KK hq HI K3 h3 v3 kS b5 p0 p1 p2 p3 p4 pf pl
          go_wp2_with fail
          exact ⟨⟨[y1, y2, y], _, by rfl, by simp, h3s, b5s, b2s, bps, KKs, HIs⟩, by simp [intOf] <;> omega⟩
        | [y1, y2, y3], _ =>
          simp only [scB, List.length_nil, List.length_cons, List.nil_append, List.map, List.replicate, List.cons_append] at b5 ⊢
          go_wp2_with fail
          refine hq.mono ?_
          rintro q w3 ⟨y, rfl, K3, h3, v3⟩
          replace b5 := K3.blk b5 (by simp <;> omega)
          obtain ⟨c0, c1, c2, c3, c4, c5, c6, c7, c8, cf, cl⟩ := b5.o9
          have kS := (Keeps.refl [g + 1] w3).setCell ⟨g + 1, 4, none⟩ (.int .i64 y) (.inl (by simp))
          have b5s := b5.set 4 (.int .i64 y)
          simp only [List.set] at b5s
          have b2s := (K3.blk b2 (by simp <;> omega)).other ⟨g + 1, 4, none⟩ (.int .i64 y) (by simp <;> omega)
          have bps := (K3.blk bp (by simp <;> omega)).other ⟨g + 1, 4, none⟩ (.int .i64 y) (by simp <;> omega)
          have h3s := h3.keepsS kS (by simp <;> omega)
          have KKs := (KK.trans K3 (by simp <;> omega)).trans kS (by simp <;> omega)
          have HIs := Lib.hid (And.intro (HI.out.1.snoc v3) (HI.out.2.aft law_int))
          clear h2 b2 bp KK hq HI K3 h3 v3 kS b5 p0 p1 p2 p3 p4 pf pl
          go_wp2_with fail
          exact ⟨⟨[y1, y2, y3, y], _, by rfl, by simp, h3s, b5s, b2s, bps, KKs, HIs⟩, by simp [intOf] <;> omega⟩
        | [y1, y2, y3, y4], _ =>
          simp only [scB, List.length_nil, List.length_cons, List.nil_append, List.map, List.replicate, List.cons_append] at b5 ⊢
          go_wp2_with fail
          refine hq.mono ?_
          rintro q w3 ⟨y, rfl, K3, h3, v3⟩
          replace b5 := K3.blk b5 (by simp <;> omega)
          obtain ⟨c0, c1, c2, c3, c4, c5, c6, c7, c8, cf, cl⟩ := b5.o9
          have kS := (Keeps.refl [g + 1] w3).setCell ⟨g + 1, 5, none⟩ (.int .i64 y) (.inl (by simp))
          have b5s := b5.set 5 (.int .i64 y)
          simp only [List.set] at b5s
          have b2s := (K3.blk b2 (by simp <;> omega)).other ⟨g + 1, 5, none⟩ (.int .i64 y) (by simp <;> omega)
          have bps := (K3.blk bp (by simp <;> omega)).other ⟨g + 1, 5, none⟩ (.int .i64 y) (by simp <;> omega)
          have h3s := h3.keepsS kS (by simp <;> omega)
          have KKs := (KK.trans K3 (by simp <;> omega)).trans kS (by simp <;> omega)
          have HIs := Lib.hid (And.intro (HI.out.1.snoc v3) (HI.out.2.aft law_int))
          clear h2 b2 bp KK hq HI K3 h3 v3 kS b5 p0 p1 p2 p3 p4 pf pl
          go_wp2_with fail
          exact ⟨⟨[y1, y2, y3, y4, y], _, by rfl, by simp, h3s, b5s, b2s, bps, KKs, HIs⟩, by simp [intOf] <;> omega⟩
        | [y1, y2, y3, y4, y5], _ =>
          simp only [scB, List.length_nil, List.length_cons, List.nil_append, List.map, List.replicate, List.cons_append] at b5 ⊢
          go_wp2_with fail
          go_meet
          exact ⟨y1, y2, y3, y4, y5, s', h2, b5, b2, KK, HI⟩
        | _ :: _ :: _ :: _ :: _ :: _ :: _, hl => simp at hl
    case rest =>
    obtain ⟨y1, y2, y3, y4, y5, s6, h1, b5, b2, KK, HI⟩ := hcut
    have hq := varQ _ _ h1
    go_wp2_with fail
    refine hq.mono ?_
    rintro q w3 ⟨cl, rfl, K3, h3, v3⟩
    replace b5 := K3.blk b5 (by simp <;> omega)
    obtain ⟨c0, c1, c2, c3, c4, c5, c6, c7, c8, cf, cl'⟩ := b5.o9
    have kS := (Keeps.refl [g + 1] w3).setCell ⟨g + 1, 6, none⟩ (.int .u64 (cl : Int)) (.inl (by simp))
    replace b5 := b5.set 6 (.int .u64 (cl : Int))
    simp only [List.set] at b5
    replace b2 := (K3.blk b2 (by simp <;> omega)).other ⟨g + 1, 6, none⟩ (.int .u64 (cl : Int)) (by simp <;> omega)
    replace h3 := h3.keepsS kS (by simp <;> omega)
    replace KK := (KK.trans K3 (by simp <;> omega)).trans kS (by simp <;> omega)
    have hz7 : Sz (aft s6 (rv 0)) 1073741824 := HI.out.2.aft law_num
    have HV3 := Lib.hid v3
    clear h1 hq K3 v3 kS
    obtain ⟨s7, hs7⟩ : ∃ s7, aft s6 (rv 0) = s7 := ⟨_, rfl⟩
    rw [hs7] at h3 hz7
    have HS7 := Lib.hid hs7
    have HN7 : Hid (∀ L', s7 = .ok L' → 0 ≤ x ∧ x ≤ 64) := Lib.hid (fun L' h => by
      rw [← hs7] at h
      obtain ⟨L6, h6⟩ := aft_isok h
      obtain ⟨L1, h1⟩ := HI.out.1.isok h6
      exact HN2.out L1 h1)
    clear hs7 h1 bp hz1
    go_upto_block 2 with fail
    clear c0 c1 c2 c3 c4 c5 c6 c7 c8 cf cl'
    go_cut [8] from 55 to 75 (fun _ wx => ∃ (ys : List (Value × List OV)) (v : Value) (s8 : Except Nat Str), Rs wx g s8 ∧ Blk wx (g + 1) [.int .i64 x, .int .i64 y1, .int .i64 y2, .int .i64 y3, .int .i64 y4, .int .i64 y5, .int .u64 (cl : Int), v, .slice none 0 0] ∧ Blk wx g2 [.int .i64 0, .int .i64 0, .int .i64 0, .int .i64 0, .int .i64 0, .int .i64 0, .int .u64 0, .slice none 0 0, .slice none 0 0] ∧ Keeps [] w wx ∧ Pp wx (g + 2) v ys ∧ Hid (aft s7 (repR rProg x.toNat) = s8 ∧ vls s7 (repR rProg x.toNat) (ys.map fun p => p.2.map OV.op) ∧ Sz s8 1073741824))
    case first =>
      go_wp2_with fail
      go_loopw [8] (fun i wr => ∃ (m : Nat) (ys : List (Value × List OV)) (A : Option Addr) (C : Nat) (s' : Except Nat Str), i = .int .i64 (ys.length : Int) ∧ Rs wr g s' ∧ Blk wr (g + 1) [.int .i64 x, .int .i64 y1, .int .i64 y2, .int .i64 y3, .int .i64 y4, .int .i64 y5, .int .u64 (cl : Int), .slice A ys.length C, .slice none 0 0] ∧ Blk wr g2 [.int .i64 0, .int .i64 0, .int .i64 0, .int .i64 0, .int .i64 0, .int .i64 0, .int .u64 0, .slice none 0 0, .slice none 0 0] ∧ Keeps [] w wr ∧ Pp wr (g + 2) (.slice A ys.length C) ys ∧
        Hid (ys.length + m = x.toNat ∧ aft s7 (repR rProg x.toNat) = aft s' (repR rProg m) ∧ (∀ zs, vls s' (repR rProg m) zs → vls s7 (repR rProg x.toNat) ((ys.map fun p => p.2.map OV.op) ++ zs)) ∧ (∀ L', s' = .ok L' → 0 ≤ x ∧ x ≤ 64) ∧ Sz s' 1073741824)) (fun i _ => x.toNat - (intOf i).toNat)
      case atStart => exact ⟨x.toNat, [], none, 0, s7, rfl, h3, b5, b2, KK, Pp.nil _ _, Lib.hid ⟨by simp, rfl, fun zs hy => hy, HN7.out, hz7⟩⟩
      case round =>
        clear h3 b5 b2 KK hz7
        obtain ⟨m, ys, A7, C7, s', rfl, h2, b5, b2, KK, hp, hsp⟩ := hrel
        obtain ⟨ee, he1, he2⟩ := h2.cell
        obtain ⟨c0, c1, c2, c3, c4, c5, c6, c7, c8, cf, cl'⟩ := b5.o9
        have hmn := hsp.out.1
        cases m with
        | zero =>
          have hE : aft s7 (repR rProg x.toNat) = s' ∧ vls s7 (repR rProg x.toNat) (ys.map fun p => p.2.map OV.op) ∧ Sz s' 1073741824 := by
            obtain ⟨_, q1, q2, _, q4⟩ := hsp.out
            refine ⟨by rw [q1, aft_rep0], ?_, q4⟩
            have := q2 [] (vls_rep0 _ _)
            rwa [List.append_nil] at this
          have HE := Lib.hid hE
          have hlx : ¬ (ys.length : Int) < x := by omega
          obtain ⟨n, hn⟩ : ∃ n, ys.length = n := ⟨_, rfl⟩
          rw [hn] at hlx c7 ⊢
          clear hE hsp hmn
          go_wp2_with fail
          go_meet
          exact ⟨ys, _, s', h2, by rw [hn] at b5; exact b5, b2, KK, by rw [hn] at hp; exact hp, HE⟩
        | succ m =>
          have hlx : (ys.length : Int) < x := by omega
          cases s' with
          | error e =>
            have hee : ¬ (ee : Int) = 0 := by
              intro h0
              obtain ⟨L, hL⟩ := he2.1 (by omega)
              simp at hL
            have hE : aft s7 (repR rProg x.toNat) = .error e ∧ vls s7 (repR rProg x.toNat) (ys.map fun p => p.2.map OV.op) ∧ Sz (.error e) 1073741824 := by
              obtain ⟨_, q1, q2, _, q4⟩ := hsp.out
              refine ⟨by rw [q1]; rfl, ?_, q4⟩
              have := q2 [] (vls_err _ _ _)
              rwa [List.append_nil] at this
            have HE := Lib.hid hE
            obtain ⟨n, hn⟩ : ∃ n, ys.length = n := ⟨_, rfl⟩
            rw [hn] at hlx c7 ⊢
            clear hE hsp hmn
            go_wp2_with fail
            go_meet
            exact ⟨ys, _, .error e, h2, by rw [hn] at b5; exact b5, b2, KK, by rw [hn] at hp; exact hp, HE⟩
          | ok L' =>
            obtain rfl : ee = 0 := he2.2 ⟨L', rfl⟩
            clear he2
            have hx64 := (hsp.out.2.2.2.1 L' rfl).2
            have hl64 : ys.length + 1 ≤ 64 := by omega
            have hw1 : wrap64 ((ys.length : Int) + 1) = (ys.length : Int) + 1 := IntWalk.wrap64_in _ ⟨by omega, by omega⟩
            have HR : Hid (ys.length + 1 ≤ 1073741824) := Lib.hid (Nat.le_trans hl64 (by decide))
            have HW1 := Lib.hid hw1
            have hd2 := h2.keeps ((Keeps.refl [] wr).drew)
            have b5d := b5.drew
            have b2d := b2.drew
            have hpd := hp.keeps ((Keeps.refl [] wr).drew) (by simp)
            have KKd := KK.drew
            obtain ⟨n, hn⟩ : ∃ n, ys.length = n := ⟨_, rfl⟩
            have Hn := Lib.hid hn
            rw [hn] at c7 hlx hl64 hw1 ⊢
            have HSP := Lib.hid hsp.out
            clear hn b5 b2 hp KK h2 hmn hsp
            have mixed : Try.prog.follows .mixedOrders = true := by kernel_rfl
            go_wp2_with fail
            go_region_law_o (first
              | (refine step_append_eq rfl _ _ 27 27 rfl (.slice A7 n C7) (.slice (some ⟨gw, 0, none⟩) 1 1) (by simp [Act.eval, Act.put]) (by simp [Act.eval, Act.put]) (hr _) ?_)
              | (go_simp; go_at_call 26; refine (prgQ _ g _ hd2 HSP.out.2.2.2.2).mono ?_; rintro q w4 ⟨vu, xs, rfl, K4, h4, u4, hx4⟩
                 have b5e := K4.blk b5d (by simp <;> omega)
                 have b2e := K4.blk b2d (by simp <;> omega)
                 have hpe := hpd.keeps K4 (by simp <;> omega)
                 have hxe : Pq w4 (g + 2) vu xs := hx4.mono (by simp <;> omega)
                 obtain ⟨Au, Cu, rfl⟩ := hx4.row.len
                 have hxv : ∀ b, (Value.slice A7 ys.length C7).ownBlock = some b → (Value.slice Au xs.length Cu).ownBlock ≠ some b ∧ ∀ z ∈ xs, z.bv.ownBlock ≠ some b := fun b hb => by
                   have hbl := hpd.row.blk b hb
                   refine ⟨fun he => ?_, fun z hz he => ?_⟩
                   · have := hx4.ge b he
                     omega
                   · have := (hx4.ok z hz).1.2 b he
                     omega
                 have hszg : g + 2 ≤ w4.heap.size := b5e.lt
                 have hvge : ∀ b, (Value.slice A7 ys.length C7).ownBlock = some b → g + 2 ≤ b := hpd.ge
                 obtain ⟨v', w5, hr, hp5, k5⟩ := prg_append hpe hxe hxv hszg HR.out 1
                 have hvn : (Value.slice A7 ys.length C7).ownBlock.toList = (Value.slice A7 ys.length C7).ownBlock.toList := rfl
                 rw [Hn.out] at hr b5e
                 obtain ⟨e0, e1, e2, e3, e4, e5, e6, e7, e8, ef, el⟩ := b5e.o9
                 have e7a := Lib.cell?_alloc_some (.cells #[.slice Au xs.length Cu] 22) e7
                 obtain ⟨gw, hgw⟩ : ∃ gw, w4.heap.size = gw := ⟨_, rfl⟩
                 rw [hgw] at hr
                 obtain ⟨A5, C5, rfl⟩ := hp5.row.len
                 have b5g := k5.blk b5e (fun hm => by have := hvge (g + 1) (by simpa using hm); omega)
                 have b2g := k5.blk b2e (fun hm => by have := hvge g2 (by simpa using hm); omega)
                 obtain ⟨p0, p1, p2, p3, p4, p5, p6, p7, p8, pf, pl⟩ := b5g.o9))
            all_goals
              have hl1 : (ys ++ [(Value.slice Au xs.length Cu, xs)]).length = ys.length + 1 := by simp
              have kS := (Keeps.refl [g + 1] w5).setCell ⟨g + 1, 7, none⟩ (.slice A5 (ys.length + 1) C5) (.inl (by simp))
              have b5h := b5g.set 7 (.slice A5 (ys.length + 1) C5)
              have b2h := b2g.other ⟨g + 1, 7, none⟩ (.slice A5 (ys.length + 1) C5) (by simp <;> omega)
              simp only [List.set] at b5h
              have hw0 : ∀ b, (Value.slice A7 ys.length C7).ownBlock = some b → w.heap.size ≤ b := fun b hb => by have := hvge b hb; omega
              have KZ := ((KKd.trans K4 (by simp <;> omega)).trans k5 (fun b hb => .inr (hw0 b (by simpa using hb)))).trans kS (by simp <;> omega)
              have hZ := (h4.keepsS k5 (fun b hb => by have := hvge b (by simpa using hb); omega)).keepsS kS (by simp <;> omega)
              have hpZ := hp5.keeps kS (by simp <;> omega)
              have hQ : (ys ++ [(Value.slice Au xs.length Cu, xs)]).length + m = x.toNat ∧ aft s7 (repR rProg x.toNat) = aft (aft (.ok L') rProg) (repR rProg m) ∧ (∀ zs, vls (aft (.ok L') rProg) (repR rProg m) zs → vls s7 (repR rProg x.toNat) (((ys ++ [(Value.slice Au xs.length Cu, xs)]).map fun p => p.2.map OV.op) ++ zs)) ∧ (∀ L1, aft (.ok L') rProg = .ok L1 → 0 ≤ x ∧ x ≤ 64) ∧ Sz (aft (.ok L') rProg) 1073741824 := by
                obtain ⟨q0, q1, q2, q3, q4⟩ := HSP.out
                refine ⟨by rw [hl1]; omega, by rw [q1, aft_repS u4], fun zs hy => ?_, fun L1 _ => q3 L' rfl, q4.aft law_prog⟩
                rw [List.map_append, List.append_assoc]
                exact q2 (xs.map OV.op :: zs) (vls_repS u4 hy)
              have HQ := Lib.hid hQ
              have HL1 := Lib.hid hl1
              have hxn : n < x.toNat := by have := HSP.out.1; have := Hn.out; omega
              rw [hl1] at hpZ
              rw [Hn.out] at hpZ b5h hZ b2h KZ ⊢
              clear hQ HSP hvge h4 u4 hx4 hxe hpe hxv hw0 hl1
              go_wp2_with fail
              exact ⟨⟨m, ys ++ [(Value.slice Au xs.length Cu, xs)], A5, C5, _, by rw [HL1.out, Hn.out]; rfl, hZ, by rw [HL1.out, Hn.out]; exact b5h, b2h, KZ, by rw [HL1.out, Hn.out]; exact hpZ, HQ⟩, by simp [intOf] <;> omega⟩
    case rest =>
    obtain ⟨ys, v, s8, h3, b5, b2, KK, hp, HE⟩ := hcut
    have hq := lenQ _ _ h3
    go_wp2_with fail
    refine hq.mono ?_
    rintro q w4 ⟨n0, rfl, K4, h4, u4⟩
    have U4 := Lib.hid u4
    obtain ⟨hz4, hn4⟩ := HE.out.2.2.len u4
    obtain ⟨s9, hs9⟩ : ∃ s9, aft s8 rLen = s9 := ⟨_, rfl⟩
    rw [hs9] at h4 hz4 hn4
    have HS9 := Lib.hid hs9
    have HN9 := Lib.hid hn4
    replace b5 := K4.blk b5 (by simp <;> omega)
    replace b2 := K4.blk b2 (by simp <;> omega)
    replace KK := KK.trans K4 (by simp <;> omega)
    replace hp := hp.keeps K4 (by simp <;> omega)
    have kw := Keeps.refl [g, g + 1] w4
    have hg4 : g + 2 ≤ w4.heap.size := b5.lt
    clear hs9 hn4 u4 hq h3 K4
    go_upto_block 4 with fail
    go_cut [9] from 78 to 95 (fun _ wx => ∃ (ks : List Int) (kv : Value) (s10 : Except Nat Str), Rs wx g s10 ∧ Blk wx (g + 1) [.int .i64 x, .int .i64 y1, .int .i64 y2, .int .i64 y3, .int .i64 y4, .int .i64 y5, .int .u64 (cl : Int), v, kv] ∧ Blk wx g2 [.int .i64 0, .int .i64 0, .int .i64 0, .int .i64 0, .int .i64 0, .int .i64 0, .int .u64 0, .slice none 0 0, .slice none 0 0] ∧ Keeps [] w wx ∧ Keeps [g, g + 1] w4 wx ∧ Ri wx w4.heap.size kv ks ∧ Hid (aft s8 (rList rInt) = s10 ∧ vls s8 (rList rInt) ks))
    case first =>
      go_wp2_with fail
      go_loopw [9] (fun i wr => ∃ (m : Nat) (ks : List Int) (A : Option Addr) (C : Nat) (s' : Except Nat Str), i = .int .i64 (m : Int) ∧ Rs wr g s' ∧ Blk wr (g + 1) [.int .i64 x, .int .i64 y1, .int .i64 y2, .int .i64 y3, .int .i64 y4, .int .i64 y5, .int .u64 (cl : Int), v, .slice A ks.length C] ∧ Blk wr g2 [.int .i64 0, .int .i64 0, .int .i64 0, .int .i64 0, .int .i64 0, .int .i64 0, .int .u64 0, .slice none 0 0, .slice none 0 0] ∧ Keeps [] w wr ∧ Keeps [g, g + 1] w4 wr ∧ Ri wr w4.heap.size (.slice A ks.length C) ks ∧
        Hid (aft s9 (repR rInt n0) = aft s' (repR rInt m) ∧ (∀ zs, vls s' (repR rInt m) zs → vls s9 (repR rInt n0) (ks ++ zs)) ∧ (∀ L', s' = .ok L' → ks.length + m ≤ 1073741824))) (fun i _ => (intOf i).toNat)
      case atStart => exact ⟨n0, [], none, 0, s9, rfl, h4, b5, b2, KK, kw, Ri.nil _ _, Lib.hid ⟨rfl, fun zs hy => hy, fun L' hL => by have := HN9.out L' hL; simp; omega⟩⟩
      case round =>
        clear h4 b5 b2 KK kw hz4 hp
        obtain ⟨m, ks, A8, C8, s', rfl, h2, b5, b2, KK, kw, hp, hsp⟩ := hrel
        obtain ⟨ee, he1, he2⟩ := h2.cell
        obtain ⟨c0, c1, c2, c3, c4, c5, c6, c7, c8, cf, cl'⟩ := b5.o9
        cases m with
        | zero =>
          have hE : aft s8 (rList rInt) = s' ∧ vls s8 (rList rInt) ks := by
            obtain ⟨q1, q2, _⟩ := hsp.out
            refine ⟨by rw [aft_list U4.out, HS9.out, q1, aft_rep0], vls_list U4.out ?_⟩
            have := q2 [] (vls_rep0 _ _)
            rw [HS9.out]
            rwa [List.append_nil] at this
          have HE2 := Lib.hid hE
          clear hE hsp
          go_wp2_with fail
          go_meet
          exact ⟨ks, _, s', h2, b5, b2, KK, kw, hp, HE2⟩
        | succ m =>
          have hmz : (0 : Int) < ((m + 1 : Nat) : Int) := by omega
          cases s' with
          | error e =>
            have hee : ¬ (ee : Int) = 0 := by
              intro h0
              obtain ⟨L, hL⟩ := he2.1 (by omega)
              simp at hL
            have hE : aft s8 (rList rInt) = .error e ∧ vls s8 (rList rInt) ks := by
              obtain ⟨q1, q2, _⟩ := hsp.out
              refine ⟨by rw [aft_list U4.out, HS9.out, q1]; rfl, vls_list U4.out ?_⟩
              have := q2 [] (vls_err _ _ _)
              rw [HS9.out]
              rwa [List.append_nil] at this
            have HE2 := Lib.hid hE
            clear hE hsp
            go_wp2_with fail
            go_meet
            exact ⟨ks, _, .error e, h2, b5, b2, KK, kw, hp, HE2⟩
          | ok L' =>
            obtain rfl : ee = 0 := he2.2 ⟨L', rfl⟩
            clear he2
            have hroom : ks.length + 1 ≤ 1073741824 := by have := hsp.out.2.2 L' rfl; omega
            have hm30 : m ≤ 1073741824 := by have := hsp.out.2.2 L' rfl; omega
            have HR := Lib.hid hroom
            have hwm : wrap64 (m : Int) = (m : Int) := IntWalk.wrap64_in _ ⟨by omega, by omega⟩
            have HWM := Lib.hid hwm
            have hm1 : ((m + 1 : Nat) : Int) - 1 = (m : Int) := by omega
            have hd2 := h2.keeps ((Keeps.refl [] wr).drew)
            have b5d := b5.drew
            have b2d := b2.drew
            have hpd := hp.keeps ((Keeps.refl [] wr).drew) (by simp)
            have KKd := KK.drew
            have kwd := kw.drew
            have hszw : w4.heap.size ≤ wr.drew.heap.size := kwd.size
            obtain ⟨n, hn⟩ : ∃ n, ks.length = n := ⟨_, rfl⟩
            have Hn := Lib.hid hn
            rw [hn] at c8
            have HSP := Lib.hid hsp.out
            clear hn b5 b2 hp KK kw h2 hsp hroom hwm
            have mixed : Try.prog.follows .mixedOrders = true := by kernel_rfl
            go_wp2_with fail
            go_region_law_o (first
              | (refine step_append_eq rfl _ _ 28 28 rfl (.slice A8 n C8) (.slice (some ⟨gw, 0, none⟩) 1 1) (by simp [Act.eval, Act.put]) (by simp [Act.eval, Act.put]) (hr _) ?_)
              | (go_simp; go_at_call 24; refine (intQ _ g hd2).mono ?_; rintro q w6 ⟨z, rfl, K6, h6, u6⟩
                 have b5e := K6.blk b5d (by simp <;> omega)
                 have b2e := K6.blk b2d (by simp <;> omega)
                 have hszg : g + 2 ≤ w4.heap.size := hg4
                 have hpe := hpd.keeps K6 (by simp <;> omega)
                 have hvge : ∀ b, (Value.slice A8 ks.length C8).ownBlock = some b → w4.heap.size ≤ b := hpd.ge
                 have hszw6 : w4.heap.size ≤ w6.heap.size := Nat.le_trans hszw K6.size
                 obtain ⟨v', w7, hr, hp5, k5, f5⟩ := int_append hpe z hszw6 HR.out 1
                 rw [Hn.out] at hr b5e
                 obtain ⟨e0, e1, e2, e3, e4, e5, e6, e7, e8, ef, el⟩ := b5e.o9
                 have e8a := Lib.cell?_alloc_some (.cells #[.int .i64 z] 3) e8
                 obtain ⟨gw, hgw⟩ : ∃ gw, w6.heap.size = gw := ⟨_, rfl⟩
                 rw [hgw] at hr
                 obtain ⟨A5, C5, rfl⟩ := hp5.row.len
                 have b5g := k5.blk b5e (fun hm => by have := hvge (g + 1) (by simpa using hm); omega)
                 have b2g := k5.blk b2e (fun hm => by have := hvge g2 (by simpa using hm); omega)
                 obtain ⟨p0, p1, p2, p3, p4, p5, p6, p7, p8, pf, pl⟩ := b5g.o9))
            all_goals
              have hl1 : (ks ++ [z]).length = ks.length + 1 := by simp
              have kS := (Keeps.refl [g + 1] w7).setCell ⟨g + 1, 8, none⟩ (.slice A5 (ks.length + 1) C5) (.inl (by simp))
              have b5h := b5g.set 8 (.slice A5 (ks.length + 1) C5)
              have b2h := b2g.other ⟨g + 1, 8, none⟩ (.slice A5 (ks.length + 1) C5) (by simp <;> omega)
              simp only [List.set] at b5h
              have hvl : ∀ b, b ∈ (Value.slice A8 ks.length C8).ownBlock.toList → w4.heap.size ≤ b := fun b hb => hvge b (by simpa using hb)
              have KZ := ((KKd.trans K6 (by simp <;> omega)).trans k5 (fun b hb => .inr (by have := hvl b hb; omega))).trans kS (by simp <;> omega)
              have kZ := ((kwd.trans K6 (by simp)).trans k5 (fun b hb => .inr (hvl b hb))).trans kS (by simp)
              have hZ := (h6.keepsS k5 (fun b hb => by have := hvl b hb; omega)).keepsS kS (by simp <;> omega)
              have hpZ := hp5.keeps kS (by simp <;> omega)
              have hQ : aft s9 (repR rInt n0) = aft (aft (.ok L') rInt) (repR rInt m) ∧ (∀ zs, vls (aft (.ok L') rInt) (repR rInt m) zs → vls s9 (repR rInt n0) ((ks ++ [z]) ++ zs)) ∧ (∀ L1, aft (.ok L') rInt = .ok L1 → (ks ++ [z]).length + m ≤ 1073741824) := by
                obtain ⟨q1, q2, q3⟩ := HSP.out
                refine ⟨by rw [q1, aft_repS u6], fun zs hy => ?_, fun L1 _ => by have := q3 L' rfl; rw [hl1]; omega⟩
                rw [List.append_assoc]
                exact q2 (z :: zs) (vls_repS u6 hy)
              have HQ := Lib.hid hQ
              have HL1 := Lib.hid hl1
              rw [hl1] at hpZ
              rw [Hn.out] at hpZ b5h hZ b2h KZ kZ ⊢
              clear hQ HSP hvge hvl h6 u6 hpe hl1
              go_wp2_with fail
              exact ⟨⟨m, ks ++ [z], A5, C5, _, by first | rfl | rw [HWM.out], hZ, by rw [HL1.out, Hn.out]; exact b5h, b2h, KZ, kZ, by rw [HL1.out, Hn.out]; exact hpZ, HQ⟩, by simp [intOf] <;> (try rw [HWM.out]) <;> omega⟩
    case rest =>
    obtain ⟨ks, kv, s10, h5, b5, b2, KK, kw2, hpk, HE2⟩ := hcut
    replace hp := hp.keeps kw2 (by simp <;> omega)
    have hrd := scr_read HT.out (by rw [HS1.out]; exact HI.out.1) HV3.out (by rw [HS7.out]; exact HE.out.1) (by rw [HS7.out]; exact HE.out.2.1) HE2.out.2
    rw [HE2.out.1] at hrd
    obtain ⟨Y, hY⟩ : ∃ Y : Scr, (⟨x.toNat, y1, y2, y3, y4, y5, cl, ys.map fun p => p.2.map OV.op, ks⟩ : Scr) = Y := ⟨_, rfl⟩
    rw [hY] at hrd
    have HRD := Lib.hid hrd
    have hdec := dec_aft vld hrd.2
    rw [hrd.1] at hdec
    have HD := Lib.hid hdec
    have HY := Lib.hid hY
    have HX : Hid (∀ r, s10 = .ok r → 0 ≤ x ∧ x ≤ 64) := Lib.hid fun r hr => by
      obtain ⟨L8, h8⟩ := aft_isok (HE2.out.1.trans hr)
      obtain ⟨L7, h7⟩ := aft_isok (HE.out.1.trans h8)
      exact HN7.out L7 h7
    obtain ⟨L9, ee, v9, hr9, hb9, hcs⟩ := h5.full
    have hl9 := hr9.1
    obtain ⟨k0, k1, kf, kl⟩ := hr9.2
    obtain ⟨A9, C9, rfl⟩ := hb9
    clear hrd hdec hY U4 h4 h3 hz4 hz7 HS9 HN9 kw
    have hfq := failQ wc g h5 12 (by decide)
    go_upto_if 101 with fail
    go_cut [] from 96 to 103 (fun wx => ∃ s11, Rs wx g s11 ∧ Blk wx (g + 1) [.int .i64 x, .int .i64 y1, .int .i64 y2, .int .i64 y3, .int .i64 y4, .int .i64 y5, .int .u64 (cl : Int), v, kv] ∧ Blk wx g2 [.int .i64 0, .int .i64 0, .int .i64 0, .int .i64 0, .int .i64 0, .int .i64 0, .int .u64 0, .slice none 0 0, .slice none 0 0] ∧ Keeps [] w wx ∧ Keeps [g] wc wx ∧ Hid (dec vld L = (match s11 with | .error e => .error e | .ok _ => if vld Y then .ok Y else .error 1) ∧ ∀ r, s11 = .ok r → s10 = .ok r))
    case first =>
      by_cases h0 : 0 < L9.length
      · have h0' : (0 : Int) < (L9.length : Int) := by omega
        go_wp2_with fail
        refine hfq.mono ?_
        rintro q w9 ⟨rfl, K9, h9⟩
        go_wp2_with fail
        go_meet
        refine ⟨fl s10 12, h9, K9.blk b5 (by simp <;> omega), K9.blk b2 (by simp <;> omega), KK.trans K9 (by simp <;> omega), K9, Lib.hid ?_⟩
        rw [HD.out]
        rcases hcs with ⟨rfl, _⟩ | ⟨rfl, _⟩
        · refine ⟨?_, fun r hr => by simp [fl] at hr⟩
          simp only [fl]
          rw [if_pos (by intro h; rw [h] at h0; simp at h0)]
        · exact ⟨rfl, fun r hr => by simp [fl] at hr⟩
      · have h0' : ¬ (0 : Int) < (L9.length : Int) := by omega
        go_wp2_with fail
        go_meet
        refine ⟨s10, h5, b5, b2, KK, Keeps.refl _ _, Lib.hid ⟨?_, fun r hr => hr⟩⟩
        rw [HD.out]
        rcases hcs with ⟨rfl, _⟩ | ⟨rfl, _⟩
        · simp only
          rw [if_neg (by simp; exact List.eq_nil_of_length_eq_zero (by omega))]
        · rfl
    case rest =>
    clear h5 b5 b2 KK hfq k0 k1 kf kl hl9
    obtain ⟨s11, h6, b5, b2, KK, K9, HZ⟩ := hcut
    have hp6 := hp.keeps K9 (by simp <;> omega)
    have hpk6 := hpk.keeps K9 (by simp <;> omega)
    clear hp hpk hr9 hcs kw2
    obtain ⟨d0, d1, d2, d3, d4, d5, d6, d7, d8, df, dl⟩ := b2.o9
    obtain ⟨c0, c1, c2, c3, c4, c5, c6, c7, c8, cf, cl'⟩ := b5.o9
    obtain ⟨e9, he1, he2⟩ := h6.cell
    obtain ⟨pA, pc, rfl⟩ := hp6.row.len
    obtain ⟨kA, kc, rfl⟩ := hpk6.row.len
    cases s11 with
    | error e =>
      have hee : ¬ (e9 : Int) = 0 := by
        intro h0
        obtain ⟨L, hL⟩ := he2.1 (by omega)
        simp at hL
      have heq : e9 = e := by
        obtain ⟨_, L0, hR⟩ := h6
        have := hR.err
        rw [he1] at this
        simp at this
        omega
      subst heq
      clear he2
      have b2d := b2.drew
      have hsz0 : w.heap.size = g2 := hg2
      go_wp2_with fail
      go_region
      all_goals (try go_wp2_with fail)
      all_goals
        obtain ⟨e1, e2⟩ := fin9 b2 (.int .i64 0) (.int .i64 0) (.int .i64 0) (.int .i64 0) (.int .i64 0) (.int .i64 0) (.int .u64 0) (.slice none 0 0) (.slice none 0 0)
        refine bodyPost_ret (results_blk2 rfl _ _ g2 _ _ rfl e1.drew Try.underlying30 sizS) rfl ?_
        refine ⟨(KK.trans e2 (by simp <;> omega)).drew, ?_⟩
        rw [HZ.out.1]
        rfl
    | ok L11 =>
      obtain rfl : e9 = 0 := he2.2 ⟨L11, rfl⟩
      have hx64 := HX.out L11 (HZ.out.2 L11 rfl)
      have hys : OkS wc ⟨x, y1, y2, y3, y4, y5, cl, pA, pc, ys, kA, kc, ks⟩ := ⟨hp6.row.lst, fun p hp => ⟨(hp6.ok p hp).1.row.lst, fun y hy => ((hp6.ok p hp).1.ok y hy).1.1.lst⟩, hpk6.row.lst⟩
      have hscr : (SV.scr ⟨x, y1, y2, y3, y4, y5, cl, pA, pc, ys, kA, kc, ks⟩) = Y := HY.out
      have hbd : ScrOk Y ∧ (∀ p ∈ Y.ps, p.length ≤ 1073741824 ∧ ∀ z ∈ p, z.b.length ≤ 1073741824) ∧ Y.pk.length ≤ 1073741824 := by
        have hr : rScr L = .ok (Y, L11) := aft_ok (by rw [HRD.out.1]; exact HZ.out.2 L11 rfl) HRD.out.2
        exact scr_bounds hr hn'.out
      have hvq := HVAL.out wc _ hys hx64 (by rw [hscr]; exact hbd.1) (fun p hp => by
        have := hbd.2.1 (p.2.map OV.op) (by rw [← hscr]; exact List.mem_map.2 ⟨p, hp, rfl⟩)
        refine ⟨by simpa using this.1, fun z hz => this.2 z.op (List.mem_map.2 ⟨z, hz, rfl⟩)⟩) (by have := hbd.2.2; rw [← hscr] at this; exact this)
      rw [hscr] at hvq
      clear he2
      have hw0 : w.heap.size = g2 := hg2
      go_wp2_with fail
      refine hvq.mono ?_
      rintro q w12 ⟨rfl, K12⟩
      replace b2 := K12.blk b2 (by simp)
      replace b5 := K12.blk b5 (by simp)
      replace KK := KK.trans K12 (by simp)
      obtain ⟨d0, d1, d2, d3, d4, d5, d6, d7, d8, df, dl⟩ := b2.o9
      obtain ⟨c0, c1, c2, c3, c4, c5, c6, c7, c8, cf, cl'⟩ := b5.o9
      have hdv : dec vld L = if vld Y then .ok Y else .error 1 := HZ.out.1
      have HDV := Lib.hid hdv
      clear hdv
      cases hvy : vld Y with
      | false =>
        go_wp2_with fail
        obtain ⟨e1, e2⟩ := fin9 b2 (.int .i64 0) (.int .i64 0) (.int .i64 0) (.int .i64 0) (.int .i64 0) (.int .i64 0) (.int .u64 0) (.slice none 0 0) (.slice none 0 0)
        refine bodyPost_ret (results_blk2 rfl _ _ g2 _ _ rfl e1 Try.underlying30 sizS) rfl ?_
        refine ⟨(KK.trans e2 (by simp <;> omega)), ?_⟩
        rw [HDV.out, hvy]
        rfl
      | true =>
        go_wp2_with fail
        obtain ⟨e1, e2⟩ := fin9 b2 (.int .i64 x) (.int .i64 y1) (.int .i64 y2) (.int .i64 y3) (.int .i64 y4) (.int .i64 y5) (.int .u64 (cl : Int)) (.slice pA ys.length pc) (.slice kA ks.length kc)
        refine bodyPost_ret (results_blk2 rfl _ _ g2 _ _ rfl e1 Try.underlying30 sizS) rfl ?_
        refine ⟨KK.trans e2 (by simp <;> omega), ?_⟩
        rw [HDV.out, hvy]
        have hp7 := (hp6.keeps K12 (by simp)).keeps e2 (by simp <;> omega)
        have hpk7 := (hpk6.keeps K12 (by simp)).keeps e2 (by simp <;> omega)
        exact ⟨_, hscr, hx64, ⟨hp7.row.lst, fun p hp => ⟨(hp7.ok p hp).1.row.lst, fun y hy => ((hp7.ok p hp).1.ok y hy).1.1.lst⟩, hpk7.row.lst⟩, rfl⟩
end Go.Proofs.Ytkgmgnfcmnhhaaa
