/- The reader of package script: the contract of op. -/
import Derived.Test.YtkgmgnfcmnhhaaaScrG
import Derived.Deep.RegionLaw
namespace Go.Proofs.Ytkgmgnfcmnhhaaa
open Go.RowKit
set_option linter.unusedSectionVars false
set_option linter.unusedVariables false
set_option linter.unusedSimpArgs false
set_option maxRecDepth 20000
set_option maxHeartbeats 4000000
/-- A bound on what is left to be read. -/
def Sz (s : Except Nat Str) (N : Nat) : Prop := ∀ L, s = .ok L → L.length ≤ N
theorem Sz.aft {α : Type} {R : Str → Rd α} {e : α → Str} {ok : α → Prop} {s : Except Nat Str} {N : Nat} (hl : Law R e ok) (h : Sz s N) : Sz (aft s R) N := by
  intro L hL
  cases s with
  | error e => simp [Go.Proofs.Ytkgmgnfcmnhhaaa.aft] at hL
  | ok M =>
    simp only [Go.Proofs.Ytkgmgnfcmnhhaaa.aft] at hL
    cases hR : R M with
    | error e => simp [hR] at hL
    | ok z =>
      obtain ⟨x, r⟩ := z
      simp only [hR, Except.ok.injEq] at hL
      subst hL
      have := (hl.bwd _ _ _ hR).1
      have h2 := h M rfl
      rw [this, List.length_append] at h2
      omega
theorem len_law {b : Str} {n : Nat} {r : Str} (h : rLen b = .ok (n, r)) : b = vi n ++ r ∧ n ≤ r.length := by
  unfold rLen at h
  split at h
  · simp at h
  · rename_i u r' hr
    split at h
    · simp at h
    · simp only [Except.ok.injEq, Prod.mk.injEq] at h
      obtain ⟨rfl, rfl⟩ := h
      exact ⟨(law_num.bwd _ _ _ hr).1, by omega⟩
theorem Sz.len {s : Except Nat Str} {N n : Nat} (h : Sz s N) (hv : vls s rLen n) : Sz (Go.Proofs.Ytkgmgnfcmnhhaaa.aft s rLen) N ∧ ∀ L, Go.Proofs.Ytkgmgnfcmnhhaaa.aft s rLen = .ok L → n ≤ N := by
  have key : ∀ L, Go.Proofs.Ytkgmgnfcmnhhaaa.aft s rLen = .ok L → L.length ≤ N ∧ n ≤ N := by
    intro L hL
    cases s with
    | error e => simp [Go.Proofs.Ytkgmgnfcmnhhaaa.aft] at hL
    | ok M =>
      simp only [Go.Proofs.Ytkgmgnfcmnhhaaa.aft] at hL
      cases hR : rLen M with
      | error e => simp [hR] at hL
      | ok z =>
        obtain ⟨x, r⟩ := z
        simp only [hR, Except.ok.injEq] at hL
        subst hL
        have h1 := hv M rfl x r hR
        obtain ⟨h2, h3⟩ := len_law hR
        have h4 := h M rfl
        rw [h2, List.length_append] at h4
        omega
  exact ⟨fun L hL => (key L hL).1, fun L hL => (key L hL).2⟩
theorem infoW : (Try.prog.info? 81).map (fun i => (i.zero, i.size, i.bytes)) = some (some (.agg #[.string ⟨#[]⟩, .string ⟨#[]⟩, .bool false]), 3, 40) := by kernel_rfl
/-- The operation's batch lies in a block of its own, not below base. -/
def Fr (base : Nat) (w : World) (x : OV) : Prop := Row w (.slice x.bA x.b.length x.bc) x.b.length 3 (wCs x.b) ∧ ∀ g, (Value.slice x.bA x.b.length x.bc).ownBlock = some g → base ≤ g
def OpQ (w : World) (g : Nat) (s : Except Nat Str) (q : Ending) (w' : World) : Prop :=
  ∃ x : OV, q = .returned (.agg #[.int .i64 x.c, .string ⟨x.k.toArray⟩, .int .u64 (x.t : Int), .slice x.bA x.b.length x.bc, .int .i64 x.h, .int .i64 x.u, .int .i64 x.m]) ∧ Keeps [g] w w' ∧ Rs w' g (aft s rOp) ∧ vls s rOp x.op ∧ Fr w.heap.size w' x
theorem op_aft {s : Except Nat Str} {c : UInt8} (h : vls s (rB fun _ => true) c) (h1 : 1 ≤ c.toNat ∧ c.toNat ≤ 9) {x : Opn} (h2 : vls (aft s (rB fun _ => true)) (rBody c.toNat) x) :
    aft s rOp = aft (aft s (rB fun _ => true)) (rBody c.toNat) ∧ vls s rOp x := by
  have h3 := vls_byte (fun c => decide (1 ≤ c ∧ c ≤ 9)) h
  have h4 := aft_byte (fun c => decide (1 ≤ c ∧ c ≤ 9)) h
  rw [if_pos (by simpa using h1)] at h4
  refine ⟨?_, ?_⟩
  · unfold rOp
    rw [aft_map, aft_seq h3, h4]
  · have := vls_seq (Q := fun c : UInt8 => rBody c.toNat) h3 (by rw [h4]; exact h2)
    exact vls_map (fun z : UInt8 × Opn => z.2) this
theorem op_bad {s : Except Nat Str} {c : UInt8} (h : vls s (rB fun _ => true) c) (h1 : ¬ (1 ≤ c.toNat ∧ c.toNat ≤ 9)) (x : Opn) :
    aft s rOp = fl (aft s (rB fun _ => true)) 12 ∧ vls s rOp x := by
  have h3 := vls_byte (fun c => decide (1 ≤ c ∧ c ≤ 9)) h
  have h4 := aft_byte (fun c => decide (1 ≤ c ∧ c ≤ 9)) h
  rw [if_neg (by simpa using h1)] at h4
  have h5 : ∃ e, fl (aft s (rB fun _ => true)) 12 = .error e := by
    cases aft s (rB fun _ => true) with
    | ok L => exact ⟨12, rfl⟩
    | error e => exact ⟨e, rfl⟩
  obtain ⟨e, he⟩ := h5
  refine ⟨?_, ?_⟩
  · unfold rOp
    rw [aft_map, aft_seq h3, h4, he]
    rfl
  · have := vls_seq (Q := fun c : UInt8 => rBody c.toNat) (y := x) h3 (by rw [h4, he]; exact vls_err _ _ _)
    exact vls_map (fun z : UInt8 × Opn => z.2) this
/-- The result is copied out. -/
theorem fin7 {wf : World} {g2 : Nat} {y0 y1 y2 y3 y4 y5 y6 : Value} (h : Blk wf g2 [y0, y1, y2, y3, y4, y5, y6]) (x0 x1 x2 x3 x4 x5 x6 : Value) :
    Blk (((((((wf.setCell ⟨g2, 0, none⟩ x0).setCell ⟨g2, 1, none⟩ x1).setCell ⟨g2, 2, none⟩ x2).setCell ⟨g2, 3, none⟩ x3).setCell ⟨g2, 4, none⟩ x4).setCell ⟨g2, 5, none⟩ x5).setCell ⟨g2, 6, none⟩ x6) g2 [x0, x1, x2, x3, x4, x5, x6] ∧
    Keeps [g2] wf (((((((wf.setCell ⟨g2, 0, none⟩ x0).setCell ⟨g2, 1, none⟩ x1).setCell ⟨g2, 2, none⟩ x2).setCell ⟨g2, 3, none⟩ x3).setCell ⟨g2, 4, none⟩ x4).setCell ⟨g2, 5, none⟩ x5).setCell ⟨g2, 6, none⟩ x6) := by
  refine ⟨((((((h.set 0 x0).set 1 x1).set 2 x2).set 3 x3).set 4 x4).set 5 x5).set 6 x6, ?_⟩
  exact (((((((Keeps.refl [g2] wf).setCell ⟨g2, 0, none⟩ x0 (.inl (by simp))).setCell ⟨g2, 1, none⟩ x1 (.inl (by simp))).setCell ⟨g2, 2, none⟩ x2 (.inl (by simp))).setCell ⟨g2, 3, none⟩ x3 (.inl (by simp))).setCell ⟨g2, 4, none⟩ x4 (.inl (by simp))).setCell ⟨g2, 5, none⟩ x5 (.inl (by simp))).setCell ⟨g2, 6, none⟩ x6 (.inl (by simp))
theorem wC_one (x : Wrt) : ∀ u ∈ wC x, u.oneCell' = true := by
  intro u hu
  simp only [wC, List.mem_cons, List.mem_nil_iff, or_false] at hu
  rcases hu with rfl | rfl | rfl <;> rfl
/-- One write more, from a new array of one. -/
theorem wrt_append {w : World} {v : Value} {xs : List Wrt} (h : Row w v xs.length 3 (wCs xs)) (x : Wrt) (hn : xs.length + 1 ≤ 1073741824) (c : Nat) :
    ∃ v' w', (∀ ty, (Builtin.append_ #[43, 43] ty #[v, .slice (some ⟨w.heap.size, 0, none⟩) 1 c]).run Try.prog (w.alloc (.cells #[.string ⟨x.k.toArray⟩, .string ⟨x.v.toArray⟩, .bool x.d] 81)) = .ok v' w') ∧ Row w' v' (xs ++ [x]).length 3 (wCs (xs ++ [x])) ∧ Keeps v.ownBlock.toList w w' ∧ ∀ g, v'.ownBlock = some g → v.ownBlock = some g ∨ w.heap.size ≤ g := by
  obtain ⟨i0, hi0, hz0, hz1, hz2⟩ := info_parts infoW
  have kw := (Keeps.refl [] w).alloc (.cells #[.string ⟨x.k.toArray⟩, .string ⟨x.v.toArray⟩, .bool x.d] 81)
  have hb := Blk.new w [.string ⟨x.k.toArray⟩, .string ⟨x.v.toArray⟩, .bool x.d] 81
  change Blk (w.alloc (.cells #[.string ⟨x.k.toArray⟩, .string ⟨x.v.toArray⟩, .bool x.d] 81)) _ _ at hb
  have hsz : (w.alloc (.cells #[.string ⟨x.k.toArray⟩, .string ⟨x.v.toArray⟩, .bool x.d] 81)).heap.size = w.heap.size + 1 := by simp
  have hsrc : ∀ (j : Nat) (u : Value), (wC x)[j]? = some u → (w.alloc (.cells #[.string ⟨x.k.toArray⟩, .string ⟨x.v.toArray⟩, .bool x.d] 81)).cell? ((⟨w.heap.size, 0, none⟩ : Addr).add j) = some u := fun j u hj => by
    rw [Addr.add_lit, hb.cell, Nat.zero_add]; exact hj
  obtain ⟨v', w', hr, r, k, f⟩ := row_append (h.keeps kw (by simp)) 43 43 81 i0 _ 40 Try.underlying43 hi0 hz0 hz1 hz2 rfl (by decide) ⟨w.heap.size, 0, none⟩ 1 c (wC x) rfl hsrc (wC_one x) hn (by decide)
  refine ⟨v', w', fun ty => ?_, by rw [List.length_append, wCs_append, wCs_one]; exact r, (kw.mono (by simp)).trans k (fun i hi => .inl hi), fun g hg => ?_⟩
  · rw [← hr]; rfl
  · rcases f g hg with h | h
    · exact .inl h
    · exact .inr (by omega)
theorem opQ (w : World) (g : Nat) (s : Except Nat Str) (h : Rs w g s) (hz : Sz s 1073741824) :
    Calls Try.prog 37 #[.pointer (some ⟨g, 0, none⟩)] w (OpQ w g s) := by
  have kw := (Keeps.refl [] w).alloc (.cells #[.int .i64 0, .string ⟨#[]⟩, .int .u64 0, .slice none 0 0, .int .i64 0, .int .i64 0, .int .i64 0] 45)
  have h0 : Rs (w.alloc (.cells #[.int .i64 0, .string ⟨#[]⟩, .int .u64 0, .slice none 0 0, .int .i64 0, .int .i64 0, .int .i64 0] 45)) g s := h.keeps kw
  have b2 := Blk.new w [.int .i64 0, .string ⟨#[]⟩, .int .u64 0, .slice none 0 0, .int .i64 0, .int .i64 0, .int .i64 0] 45
  change Blk (w.alloc (.cells #[.int .i64 0, .string ⟨#[]⟩, .int .u64 0, .slice none 0 0, .int .i64 0, .int .i64 0, .int .i64 0] 45)) _ _ at b2
  have hg := h.lt
  have hc1 := byteQ _ g h0
  obtain ⟨g2, hg2⟩ : ∃ g2, w.heap.size = g2 := ⟨_, rfl⟩
  rw [hg2] at b2 hg
  have kw' := kw.mono (S' := [g]) (by simp)
  go_enter Try.func37, Try.ntmps37
  go_wp2_with fail
  refine hc1.mono ?_
  rintro q w1 ⟨c, rfl, K1, h1, v1, z1⟩
  replace b2 := K1.blk b2 (by simp; omega)
  have KK := kw'.trans K1 (by simp)
  have hcl : c.toNat < 256 := c.toNat_lt
  obtain ⟨m, hm⟩ : ∃ m, c.toNat = m := ⟨_, rfl⟩
  simp only [vB]
  have EQ : m = 1 ∨ m = 2 ∨ m = 3 ∨ m = 4 ∨ m = 5 ∨ m = 6 ∨ m = 7 ∨ m = 8 ∨ m = 9 ∨ ¬ (1 ≤ m ∧ m ≤ 9) := by omega
  rw [hm] at hcl ⊢
  have B2W := Lib.hid b2
  have H1W := Lib.hid h1
  have KKW := Lib.hid KK
  have kw1 := (Keeps.refl [] w1).alloc (.cells #[.int .i64 (m : Int), .string ⟨#[]⟩, .int .u64 0, .slice none 0 0, .int .i64 0, .int .i64 0, .int .i64 0] 45)
  have hs1 := b2.lt
  replace b2 := b2.alloc (.cells #[.int .i64 (m : Int), .string ⟨#[]⟩, .int .u64 0, .slice none 0 0, .int .i64 0, .int .i64 0, .int .i64 0] 45)
  have b3 := Blk.new w1 [.int .i64 (m : Int), .string ⟨#[]⟩, .int .u64 0, .slice none 0 0, .int .i64 0, .int .i64 0, .int .i64 0] 45
  change Blk (w1.alloc (.cells #[.int .i64 (m : Int), .string ⟨#[]⟩, .int .u64 0, .slice none 0 0, .int .i64 0, .int .i64 0, .int .i64 0] 45)) _ _ at b3
  have hg1 := h1.lt
  replace h1 := h1.keeps kw1
  obtain ⟨g3, hg3⟩ : ∃ g3, w1.heap.size = g3 := ⟨_, rfl⟩
  rw [hg3] at b3 hs1 hg1
  replace KK := KK.trans (kw1.mono (S' := [g]) (by simp)) (by simp)
  have hzb : Sz (aft s (rB fun _ => true)) 1073741824 := hz.aft (law_byte fun _ => true)
  clear hc1 h0 h kw kw' K1
  -- CASES
  obtain ⟨s1, hse⟩ : ∃ s1, aft s (rB fun _ => true) = s1 := ⟨_, rfl⟩
  have HS := Lib.hid hse
  rw [hse] at h1 z1 hzb H1W
  have V1 := Lib.hid v1
  have HM := Lib.hid hm
  clear hse v1 hm z1
  rcases EQ with rfl | rfl | rfl | rfl | rfl | rfl | rfl | rfl | rfl | EQ
  · go_wp2_with fail
    refine (txtQ _ g h1).mono ?_
    rintro q w2 ⟨y2, rfl, K2, h2, u2⟩
    have U2 := Lib.hid u2
    replace b2 := K2.blk b2 (by simp; omega)
    replace b3 := K2.blk b3 (by simp; omega)
    replace KK := KK.trans K2 (by simp)
    obtain ⟨c0, c1, c2, c3, c4, c5, c6, hf, hl⟩ := b3.o7
    obtain ⟨d0, d1, d2, d3, d4, d5, d6, df, dl⟩ := b2.o7
    have kA := (Keeps.refl [g3] w2).setCell ⟨g3, 1, none⟩ (.string ⟨y2.toArray⟩) (.inl (by simp))
    replace b2 := b2.other ⟨g3, 1, none⟩ (.string ⟨y2.toArray⟩) (by simp; omega)
    replace b3 := b3.set 1 (.string ⟨y2.toArray⟩)
    simp only [List.set] at b3
    clear h1
    have h1 := h2.keepsS kA (by simp; omega)
    replace KK := KK.trans kA (by simp; omega)
    clear u2 kA K2 h2
    go_wp2_with fail
    try simp only [Exit.inBlock, Exit.then]
    obtain ⟨e1, e2⟩ := fin7 b2 (.int .i64 1) (.string ⟨y2.toArray⟩) (.int .u64 0) (.slice none 0 0) (.int .i64 0) (.int .i64 0) (.int .i64 0)
    refine bodyPost_ret (results_blk rfl _ _ g2 _ _ rfl e1 Try.underlying45 sizO) rfl ?_
    have hv : vls s1 (rBody c.toNat) (OV.op ⟨1, y2, 0, none, 0, [], 0, 0, 0⟩) := by
      rw [HM.out]
      exact vls_map (fun k => ({ c := 1, k := k } : Opn)) U2.out
    have ha : aft s1 (rBody c.toNat) = aft s1 rTxt := by
      rw [HM.out]
      show aft s1 (mapR (fun k => ({ c := 1, k := k } : Opn)) rTxt) = _
      rw [aft_map]
    rw [← HS.out] at hv ha
    obtain ⟨A1, A2⟩ := op_aft V1.out (by rw [HM.out]; omega) hv
    exact ⟨⟨1, y2, 0, none, 0, [], 0, 0, 0⟩, rfl, KK.trans e2 (by simp; omega), by rw [A1, ha, HS.out]; exact h1.keepsS e2 (by simp; omega), A2, Row.nil _ _, fun g hg => by simp [Value.ownBlock] at hg⟩
  · go_wp2_with fail
    refine (txtQ _ g h1).mono ?_
    rintro q w2 ⟨y2, rfl, K2, h2, u2⟩
    have U2 := Lib.hid u2
    replace b2 := K2.blk b2 (by simp; omega)
    replace b3 := K2.blk b3 (by simp; omega)
    replace KK := KK.trans K2 (by simp)
    obtain ⟨c0, c1, c2, c3, c4, c5, c6, hf, hl⟩ := b3.o7
    obtain ⟨d0, d1, d2, d3, d4, d5, d6, df, dl⟩ := b2.o7
    have kA := (Keeps.refl [g3] w2).setCell ⟨g3, 1, none⟩ (.string ⟨y2.toArray⟩) (.inl (by simp))
    replace b2 := b2.other ⟨g3, 1, none⟩ (.string ⟨y2.toArray⟩) (by simp; omega)
    replace b3 := b3.set 1 (.string ⟨y2.toArray⟩)
    simp only [List.set] at b3
    clear h1
    have h1 := h2.keepsS kA (by simp; omega)
    replace KK := KK.trans kA (by simp; omega)
    clear u2 kA K2 h2
    go_wp2_with fail
    refine (varQ _ g h1).mono ?_
    rintro q w3 ⟨y3, rfl, K3, h3, u3⟩
    have U3 := Lib.hid u3
    replace b2 := K3.blk b2 (by simp; omega)
    replace b3 := K3.blk b3 (by simp; omega)
    replace KK := KK.trans K3 (by simp)
    obtain ⟨c0, c1, c2, c3, c4, c5, c6, hf, hl⟩ := b3.o7
    obtain ⟨d0, d1, d2, d3, d4, d5, d6, df, dl⟩ := b2.o7
    have kA := (Keeps.refl [g3] w3).setCell ⟨g3, 2, none⟩ (.int .u64 (y3 : Int)) (.inl (by simp))
    replace b2 := b2.other ⟨g3, 2, none⟩ (.int .u64 (y3 : Int)) (by simp; omega)
    replace b3 := b3.set 2 (.int .u64 (y3 : Int))
    simp only [List.set] at b3
    clear h1
    have h1 := h3.keepsS kA (by simp; omega)
    replace KK := KK.trans kA (by simp; omega)
    clear u3 kA K3 h3
    go_wp2_with fail
    try simp only [Exit.inBlock, Exit.then]
    obtain ⟨e1, e2⟩ := fin7 b2 (.int .i64 2) (.string ⟨y2.toArray⟩) (.int .u64 (y3 : Int)) (.slice none 0 0) (.int .i64 0) (.int .i64 0) (.int .i64 0)
    refine bodyPost_ret (results_blk rfl _ _ g2 _ _ rfl e1 Try.underlying45 sizO) rfl ?_
    have hv : vls s1 (rBody c.toNat) (OV.op ⟨2, y2, y3, none, 0, [], 0, 0, 0⟩) := by
      rw [HM.out]
      exact vls_map (fun z : Str × Nat => ({ c := 2, k := z.1, t := z.2 } : Opn)) (vls_seq (Q := fun _ => rv 0) U2.out U3.out)
    have ha : aft s1 (rBody c.toNat) = aft (aft s1 rTxt) (rv 0) := by
      rw [HM.out]
      show aft s1 (mapR (fun z : Str × Nat => ({ c := 2, k := z.1, t := z.2 } : Opn)) (seqR rTxt fun _ => rv 0)) = _
      rw [aft_map, aft_seq U2.out]
    rw [← HS.out] at hv ha
    obtain ⟨A1, A2⟩ := op_aft V1.out (by rw [HM.out]; omega) hv
    exact ⟨⟨2, y2, y3, none, 0, [], 0, 0, 0⟩, rfl, KK.trans e2 (by simp; omega), by rw [A1, ha, HS.out]; exact h1.keepsS e2 (by simp; omega), A2, Row.nil _ _, fun g hg => by simp [Value.ownBlock] at hg⟩
  · go_wp2_with fail
    refine (lenQ _ g h1).mono ?_
    rintro q w2 ⟨n0, rfl, K2, h2, u2⟩
    have U2 := Lib.hid u2
    obtain ⟨hz2, hn2⟩ := hzb.len u2
    replace b2 := K2.blk b2 (by simp; omega)
    replace b3 := K2.blk b3 (by simp; omega)
    replace KK := KK.trans K2 (by simp)
    obtain ⟨s2, hs2⟩ : ∃ s2, aft s1 rLen = s2 := ⟨_, rfl⟩
    rw [hs2] at h2 hz2 hn2
    have HS2 := Lib.hid hs2
    have HN2 := Lib.hid hn2
    clear hs2 hn2 u2 h1 K2
    go_wp2_with fail
    go_loopw [4] (fun i wr => ∃ (m : Nat) (xs : List Wrt) (bA : Option Addr) (bc : Nat) (s' : Except Nat Str), i = .int .i64 (m : Int) ∧ Rs wr g s' ∧ Blk wr g3 [.int .i64 3, .string ⟨#[]⟩, .int .u64 0, .slice bA xs.length bc, .int .i64 0, .int .i64 0, .int .i64 0] ∧ Blk wr g2 [.int .i64 0, .string ⟨#[]⟩, .int .u64 0, .slice none 0 0, .int .i64 0, .int .i64 0, .int .i64 0] ∧ Keeps [g] w wr ∧ Row wr (.slice bA xs.length bc) xs.length 3 (wCs xs) ∧ Hid (∀ b, (Value.slice bA xs.length bc).ownBlock = some b → g3 < b) ∧
      Hid (aft s2 (repR rWrt n0) = aft s' (repR rWrt m) ∧ (∀ ys, vls s' (repR rWrt m) ys → vls s2 (repR rWrt n0) (xs ++ ys)) ∧ (∀ L, s' = .ok L → xs.length + m ≤ 1073741824))) (fun i _ => (intOf i).toNat)
    case atStart => exact ⟨n0, [], none, 0, s2, rfl, h2, b3, b2, KK, Row.nil _ _, Lib.hid (fun b hb => by simp [Value.ownBlock] at hb), Lib.hid ⟨rfl, fun ys hy => hy, fun L hL => by have := HN2.out L hL; simp; omega⟩⟩
    case round =>
      clear h2 b2 b3 KK
      obtain ⟨m, xs, bA, bc, s', rfl, h2, b3, b2, KK, hrow, hown, hsp⟩ := hrel
      obtain ⟨ee, he1, he2⟩ := h2.cell
      cases m with
      | zero =>
        have hE : aft s2 (repR rWrt n0) = s' ∧ vls s2 (repR rWrt n0) xs := by
          obtain ⟨q1, q2, _⟩ := hsp.out
          refine ⟨by rw [q1, aft_rep0], ?_⟩
          have := q2 [] (vls_rep0 _ _)
          rwa [List.append_nil] at this
        have HE := Lib.hid hE
        clear hE hsp
        obtain ⟨c0, c1, c2, c3, c4, c5, c6, hf, hl⟩ := b3.o7
        obtain ⟨d0, d1, d2, d3, d4, d5, d6, df, dl⟩ := b2.o7
        go_wp2_with fail
        try simp only [Exit.inBlock, Exit.then]
        obtain ⟨e1, e2⟩ := fin7 b2 (.int .i64 3) (.string ⟨#[]⟩) (.int .u64 0) (.slice bA xs.length bc) (.int .i64 0) (.int .i64 0) (.int .i64 0)
        refine bodyPost_ret (results_blk rfl _ _ g2 _ _ rfl e1 Try.underlying45 sizO) rfl ?_
        have hv : vls s1 (rBody c.toNat) (OV.op ⟨3, [], 0, bA, bc, xs, 0, 0, 0⟩) := by
          rw [HM.out]
          exact vls_map (fun b => ({ c := 3, b := b } : Opn)) (vls_list U2.out (by rw [HS2.out]; exact HE.out.2))
        have ha : aft s1 (rBody c.toNat) = s' := by
          rw [HM.out]
          show aft s1 (mapR (fun b => ({ c := 3, b := b } : Opn)) (rList rWrt)) = _
          rw [aft_map, aft_list U2.out, HS2.out, HE.out.1]
        rw [← HS.out] at hv ha
        obtain ⟨A1, A2⟩ := op_aft V1.out (by rw [HM.out]; omega) hv
        exact ⟨⟨3, [], 0, bA, bc, xs, 0, 0, 0⟩, rfl, KK.trans e2 (by simp; omega), by rw [A1, ha]; exact h2.keepsS e2 (by simp; omega), A2, hrow.keeps e2 (fun b hb hm => by have := hown.out b hb; simp at hm; omega), fun b hb => by have := hown.out b hb; omega⟩
      | succ m =>
        cases s' with
        | error e =>
          have hee : ¬ (ee : Int) = 0 := by
            intro h0
            obtain ⟨L, hL⟩ := he2.1 (by omega)
            simp at hL
          have hE : aft s2 (repR rWrt n0) = .error e ∧ vls s2 (repR rWrt n0) xs := by
            obtain ⟨q1, q2, _⟩ := hsp.out
            refine ⟨by rw [q1]; rfl, ?_⟩
            have := q2 [] (vls_err _ _ _)
            rwa [List.append_nil] at this
          have HE := Lib.hid hE
          clear hE hsp
          have hmz : (0 : Int) < ((m + 1 : Nat) : Int) := by omega
          obtain ⟨c0, c1, c2, c3, c4, c5, c6, hf, hl⟩ := b3.o7
          obtain ⟨d0, d1, d2, d3, d4, d5, d6, df, dl⟩ := b2.o7
          go_wp2_with fail
          try simp only [Exit.inBlock, Exit.then]
          obtain ⟨e1, e2⟩ := fin7 b2 (.int .i64 3) (.string ⟨#[]⟩) (.int .u64 0) (.slice bA xs.length bc) (.int .i64 0) (.int .i64 0) (.int .i64 0)
          refine bodyPost_ret (results_blk rfl _ _ g2 _ _ rfl e1 Try.underlying45 sizO) rfl ?_
          have hv : vls s1 (rBody c.toNat) (OV.op ⟨3, [], 0, bA, bc, xs, 0, 0, 0⟩) := by
            rw [HM.out]
            exact vls_map (fun b => ({ c := 3, b := b } : Opn)) (vls_list U2.out (by rw [HS2.out]; exact HE.out.2))
          have ha : aft s1 (rBody c.toNat) = .error e := by
            rw [HM.out]
            show aft s1 (mapR (fun b => ({ c := 3, b := b } : Opn)) (rList rWrt)) = _
            rw [aft_map, aft_list U2.out, HS2.out, HE.out.1]
          rw [← HS.out] at hv ha
          obtain ⟨A1, A2⟩ := op_aft V1.out (by rw [HM.out]; omega) hv
          exact ⟨⟨3, [], 0, bA, bc, xs, 0, 0, 0⟩, rfl, KK.trans e2 (by simp; omega), by rw [A1, ha]; exact h2.keepsS e2 (by simp; omega), A2, hrow.keeps e2 (fun b hb hm => by have := hown.out b hb; simp at hm; omega), fun b hb => by have := hown.out b hb; omega⟩
        | ok L =>
          obtain rfl : ee = 0 := he2.2 ⟨L, rfl⟩
          clear he2
          have hroom : xs.length + 1 ≤ 1073741824 := by have := hsp.out.2.2 L rfl; omega
          have hm30 : m ≤ 1073741824 := by have := hsp.out.2.2 L rfl; omega
          have HR := Lib.hid hroom
          have hwm : wrap64 (m : Int) = (m : Int) := IntWalk.wrap64_in _ ⟨by omega, by omega⟩
          have HWM := Lib.hid hwm
          clear hwm
          clear hroom
          obtain ⟨c0, c1, c2, c3, c4, c5, c6, hf, hl⟩ := b3.o7
          have hmz : (0 : Int) < ((m + 1 : Nat) : Int) := by omega
          have hm1 : ((m + 1 : Nat) : Int) - 1 = (m : Int) := by omega
          have hd2 := h2.keeps ((Keeps.refl [] wr).drew)
          have b3d := b3.drew
          have b2d := b2.drew
          have hrd := hrow.keeps ((Keeps.refl [] wr).drew) (by simp)
          have KKd := KK.drew
          obtain ⟨n, hn⟩ : ∃ n, xs.length = n := ⟨_, rfl⟩
          have Hn := Lib.hid hn
          rw [hn] at c3
          clear hn b3 b2 hrow KK h2
          have mixed : Try.prog.follows .mixedOrders = true := by kernel_rfl
          go_wp2_with fail
          go_region_law_o (first
            | (refine step_append_eq rfl _ _ 43 43 rfl (.slice bA n bc) (.slice (some ⟨gw, 0, none⟩) 1 1) (by simp [Act.eval, Act.put]) (by simp [Act.eval, Act.put]) (hr _) ?_)
            | (go_simp; go_at_call 42; refine (wriQ _ g _ hd2).mono ?_; rintro q w3 ⟨x, rfl, K3, h3, u3⟩
               have b3e := K3.blk b3d (by simp; omega)
               have b2e := K3.blk b2d (by simp; omega)
               have hre := hrd.keeps K3 (fun b hb hm => by have := hown.out b hb; simp at hm; omega)
               obtain ⟨v', w4, hr, r4, k4, f4⟩ := wrt_append hre x HR.out 1
               rw [Hn.out] at hr b3e
               obtain ⟨e0, e1, e2, e3, e4, e5, e6, ef, el⟩ := b3e.o7
               have e3a := Lib.cell?_alloc_some (.cells #[.string ⟨x.k.toArray⟩, .string ⟨x.v.toArray⟩, .bool x.d] 81) e3
               obtain ⟨gw, hgw⟩ : ∃ gw, w3.heap.size = gw := ⟨_, rfl⟩
               rw [hgw] at hr
               obtain ⟨A4, C4, rfl⟩ := r4.len
               have b3g := k4.blk b3e (fun hm => by have := hown.out g3 (by simpa using hm); omega)
               have b2g := k4.blk b2e (fun hm => by have := hown.out g2 (by simpa using hm); omega)
               obtain ⟨p0, p1, p2, p3, p4, p5, p6, pf, pl⟩ := b3g.o7
               simp only [wV]))
          all_goals
            have hl1 : (xs ++ [x]).length = xs.length + 1 := by simp
            have kS := (Keeps.refl [g3] w4).setCell ⟨g3, 3, none⟩ (.slice A4 (xs.length + 1) C4) (.inl (by simp))
            have b3h := b3g.set 3 (.slice A4 (xs.length + 1) C4)
            have b2h := b2g.other ⟨g3, 3, none⟩ (.slice A4 (xs.length + 1) C4) (by simp; omega)
            simp only [List.set] at b3h
            have K4 : Keeps [g] w w4 := (KKd.trans K3 (by simp)).trans k4 (fun b hb => .inr (by have := hown.out b (by simpa using hb); omega))
            have KZ : Keeps [g] w (w4.setCell ⟨g3, 3, none⟩ (.slice A4 (xs.length + 1) C4)) := K4.trans kS (by simp; omega)
            have hZ : Rs (w4.setCell ⟨g3, 3, none⟩ (.slice A4 (xs.length + 1) C4)) g (aft (.ok L) rWrt) :=
              (h3.keepsS k4 (fun b hb => by have := hown.out b (by simpa using hb); omega)).keepsS kS (by simp; omega)
            have hsz3 : g3 < w3.heap.size := el
            have hfo : ∀ b, (Value.slice A4 (xs ++ [x]).length C4).ownBlock = some b → g3 < b := fun b hb => by
              rcases f4 b hb with h | h
              · exact hown.out b h
              · omega
            have hrZ := r4.keeps kS (fun b hb hm => by have := hfo b hb; simp at hm; omega)
            have hQ : aft s2 (repR rWrt n0) = aft (aft (.ok L) rWrt) (repR rWrt m) ∧ (∀ ys, vls (aft (.ok L) rWrt) (repR rWrt m) ys → vls s2 (repR rWrt n0) ((xs ++ [x]) ++ ys)) ∧ (∀ L', aft (.ok L) rWrt = .ok L' → (xs ++ [x]).length + m ≤ 1073741824) := by
              obtain ⟨q1, q2, q3⟩ := hsp.out
              refine ⟨by rw [q1, aft_repS u3], fun ys hy => ?_, fun L' _ => ?_⟩
              · rw [List.append_assoc]
                exact q2 (x :: ys) (vls_repS u3 hy)
              · have := q3 L rfl
                rw [hl1]; omega
            have HQ := Lib.hid hQ
            have HFO := Lib.hid hfo
            clear hQ hfo hsp hown h3 u3
            go_wp2_with fail
            exact ⟨⟨m, xs ++ [x], A4, C4, _, by first | rfl | rw [HWM.out], hZ, by rw [hl1]; exact b3h, b2h, KZ, hrZ, HFO, HQ⟩, by simp [intOf] <;> (try rw [HWM.out]) <;> omega⟩
  · go_wp2_with fail
    refine (intQ _ g h1).mono ?_
    rintro q w2 ⟨y2, rfl, K2, h2, u2⟩
    have U2 := Lib.hid u2
    replace b2 := K2.blk b2 (by simp; omega)
    replace b3 := K2.blk b3 (by simp; omega)
    replace KK := KK.trans K2 (by simp)
    obtain ⟨c0, c1, c2, c3, c4, c5, c6, hf, hl⟩ := b3.o7
    obtain ⟨d0, d1, d2, d3, d4, d5, d6, df, dl⟩ := b2.o7
    have kA := (Keeps.refl [g3] w2).setCell ⟨g3, 4, none⟩ (.int .i64 y2) (.inl (by simp))
    replace b2 := b2.other ⟨g3, 4, none⟩ (.int .i64 y2) (by simp; omega)
    replace b3 := b3.set 4 (.int .i64 y2)
    simp only [List.set] at b3
    clear h1
    have h1 := h2.keepsS kA (by simp; omega)
    replace KK := KK.trans kA (by simp; omega)
    clear u2 kA K2 h2
    go_wp2_with fail
    try simp only [Exit.inBlock, Exit.then]
    obtain ⟨e1, e2⟩ := fin7 b2 (.int .i64 4) (.string ⟨#[]⟩) (.int .u64 0) (.slice none 0 0) (.int .i64 y2) (.int .i64 0) (.int .i64 0)
    refine bodyPost_ret (results_blk rfl _ _ g2 _ _ rfl e1 Try.underlying45 sizO) rfl ?_
    have hv : vls s1 (rBody c.toNat) (OV.op ⟨4, [], 0, none, 0, [], y2, 0, 0⟩) := by
      rw [HM.out]
      exact vls_map (fun h => ({ c := 4, h := h } : Opn)) U2.out
    have ha : aft s1 (rBody c.toNat) = aft s1 rInt := by
      rw [HM.out]
      show aft s1 (mapR (fun h => ({ c := 4, h := h } : Opn)) rInt) = _
      rw [aft_map]
    rw [← HS.out] at hv ha
    obtain ⟨A1, A2⟩ := op_aft V1.out (by rw [HM.out]; omega) hv
    exact ⟨⟨4, [], 0, none, 0, [], y2, 0, 0⟩, rfl, KK.trans e2 (by simp; omega), by rw [A1, ha, HS.out]; exact h1.keepsS e2 (by simp; omega), A2, Row.nil _ _, fun g hg => by simp [Value.ownBlock] at hg⟩
  · go_wp2_with fail
    refine (intQ _ g h1).mono ?_
    rintro q w2 ⟨y2, rfl, K2, h2, u2⟩
    have U2 := Lib.hid u2
    replace b2 := K2.blk b2 (by simp; omega)
    replace b3 := K2.blk b3 (by simp; omega)
    replace KK := KK.trans K2 (by simp)
    obtain ⟨c0, c1, c2, c3, c4, c5, c6, hf, hl⟩ := b3.o7
    obtain ⟨d0, d1, d2, d3, d4, d5, d6, df, dl⟩ := b2.o7
    have kA := (Keeps.refl [g3] w2).setCell ⟨g3, 4, none⟩ (.int .i64 y2) (.inl (by simp))
    replace b2 := b2.other ⟨g3, 4, none⟩ (.int .i64 y2) (by simp; omega)
    replace b3 := b3.set 4 (.int .i64 y2)
    simp only [List.set] at b3
    clear h1
    have h1 := h2.keepsS kA (by simp; omega)
    replace KK := KK.trans kA (by simp; omega)
    clear u2 kA K2 h2
    go_wp2_with fail
    try simp only [Exit.inBlock, Exit.then]
    obtain ⟨e1, e2⟩ := fin7 b2 (.int .i64 5) (.string ⟨#[]⟩) (.int .u64 0) (.slice none 0 0) (.int .i64 y2) (.int .i64 0) (.int .i64 0)
    refine bodyPost_ret (results_blk rfl _ _ g2 _ _ rfl e1 Try.underlying45 sizO) rfl ?_
    have hv : vls s1 (rBody c.toNat) (OV.op ⟨5, [], 0, none, 0, [], y2, 0, 0⟩) := by
      rw [HM.out]
      exact vls_map (fun h => ({ c := 5, h := h } : Opn)) U2.out
    have ha : aft s1 (rBody c.toNat) = aft s1 rInt := by
      rw [HM.out]
      show aft s1 (mapR (fun h => ({ c := 5, h := h } : Opn)) rInt) = _
      rw [aft_map]
    rw [← HS.out] at hv ha
    obtain ⟨A1, A2⟩ := op_aft V1.out (by rw [HM.out]; omega) hv
    exact ⟨⟨5, [], 0, none, 0, [], y2, 0, 0⟩, rfl, KK.trans e2 (by simp; omega), by rw [A1, ha, HS.out]; exact h1.keepsS e2 (by simp; omega), A2, Row.nil _ _, fun g hg => by simp [Value.ownBlock] at hg⟩
  · go_wp2_with fail
    refine (intQ _ g h1).mono ?_
    rintro q w2 ⟨y2, rfl, K2, h2, u2⟩
    have U2 := Lib.hid u2
    replace b2 := K2.blk b2 (by simp; omega)
    replace b3 := K2.blk b3 (by simp; omega)
    replace KK := KK.trans K2 (by simp)
    obtain ⟨c0, c1, c2, c3, c4, c5, c6, hf, hl⟩ := b3.o7
    obtain ⟨d0, d1, d2, d3, d4, d5, d6, df, dl⟩ := b2.o7
    have kA := (Keeps.refl [g3] w2).setCell ⟨g3, 5, none⟩ (.int .i64 y2) (.inl (by simp))
    replace b2 := b2.other ⟨g3, 5, none⟩ (.int .i64 y2) (by simp; omega)
    replace b3 := b3.set 5 (.int .i64 y2)
    simp only [List.set] at b3
    clear h1
    have h1 := h2.keepsS kA (by simp; omega)
    replace KK := KK.trans kA (by simp; omega)
    clear u2 kA K2 h2
    go_wp2_with fail
    refine (intQ _ g h1).mono ?_
    rintro q w3 ⟨y3, rfl, K3, h3, u3⟩
    have U3 := Lib.hid u3
    replace b2 := K3.blk b2 (by simp; omega)
    replace b3 := K3.blk b3 (by simp; omega)
    replace KK := KK.trans K3 (by simp)
    obtain ⟨c0, c1, c2, c3, c4, c5, c6, hf, hl⟩ := b3.o7
    obtain ⟨d0, d1, d2, d3, d4, d5, d6, df, dl⟩ := b2.o7
    have kA := (Keeps.refl [g3] w3).setCell ⟨g3, 4, none⟩ (.int .i64 y3) (.inl (by simp))
    replace b2 := b2.other ⟨g3, 4, none⟩ (.int .i64 y3) (by simp; omega)
    replace b3 := b3.set 4 (.int .i64 y3)
    simp only [List.set] at b3
    clear h1
    have h1 := h3.keepsS kA (by simp; omega)
    replace KK := KK.trans kA (by simp; omega)
    clear u3 kA K3 h3
    go_wp2_with fail
    try simp only [Exit.inBlock, Exit.then]
    obtain ⟨e1, e2⟩ := fin7 b2 (.int .i64 6) (.string ⟨#[]⟩) (.int .u64 0) (.slice none 0 0) (.int .i64 y3) (.int .i64 y2) (.int .i64 0)
    refine bodyPost_ret (results_blk rfl _ _ g2 _ _ rfl e1 Try.underlying45 sizO) rfl ?_
    have hv : vls s1 (rBody c.toNat) (OV.op ⟨6, [], 0, none, 0, [], y3, y2, 0⟩) := by
      rw [HM.out]
      exact vls_map (fun z : Int × Int => ({ c := 6, u := z.1, h := z.2 } : Opn)) (vls_seq (Q := fun _ => rInt) U2.out U3.out)
    have ha : aft s1 (rBody c.toNat) = aft (aft s1 rInt) rInt := by
      rw [HM.out]
      show aft s1 (mapR (fun z : Int × Int => ({ c := 6, u := z.1, h := z.2 } : Opn)) (seqR rInt fun _ => rInt)) = _
      rw [aft_map, aft_seq U2.out]
    rw [← HS.out] at hv ha
    obtain ⟨A1, A2⟩ := op_aft V1.out (by rw [HM.out]; omega) hv
    exact ⟨⟨6, [], 0, none, 0, [], y3, y2, 0⟩, rfl, KK.trans e2 (by simp; omega), by rw [A1, ha, HS.out]; exact h1.keepsS e2 (by simp; omega), A2, Row.nil _ _, fun g hg => by simp [Value.ownBlock] at hg⟩
  · go_wp2_with fail
    refine (intQ _ g h1).mono ?_
    rintro q w2 ⟨y2, rfl, K2, h2, u2⟩
    have U2 := Lib.hid u2
    replace b2 := K2.blk b2 (by simp; omega)
    replace b3 := K2.blk b3 (by simp; omega)
    replace KK := KK.trans K2 (by simp)
    obtain ⟨c0, c1, c2, c3, c4, c5, c6, hf, hl⟩ := b3.o7
    obtain ⟨d0, d1, d2, d3, d4, d5, d6, df, dl⟩ := b2.o7
    have kA := (Keeps.refl [g3] w2).setCell ⟨g3, 5, none⟩ (.int .i64 y2) (.inl (by simp))
    replace b2 := b2.other ⟨g3, 5, none⟩ (.int .i64 y2) (by simp; omega)
    replace b3 := b3.set 5 (.int .i64 y2)
    simp only [List.set] at b3
    clear h1
    have h1 := h2.keepsS kA (by simp; omega)
    replace KK := KK.trans kA (by simp; omega)
    clear u2 kA K2 h2
    go_wp2_with fail
    refine (intQ _ g h1).mono ?_
    rintro q w3 ⟨y3, rfl, K3, h3, u3⟩
    have U3 := Lib.hid u3
    replace b2 := K3.blk b2 (by simp; omega)
    replace b3 := K3.blk b3 (by simp; omega)
    replace KK := KK.trans K3 (by simp)
    obtain ⟨c0, c1, c2, c3, c4, c5, c6, hf, hl⟩ := b3.o7
    obtain ⟨d0, d1, d2, d3, d4, d5, d6, df, dl⟩ := b2.o7
    have kA := (Keeps.refl [g3] w3).setCell ⟨g3, 6, none⟩ (.int .i64 y3) (.inl (by simp))
    replace b2 := b2.other ⟨g3, 6, none⟩ (.int .i64 y3) (by simp; omega)
    replace b3 := b3.set 6 (.int .i64 y3)
    simp only [List.set] at b3
    clear h1
    have h1 := h3.keepsS kA (by simp; omega)
    replace KK := KK.trans kA (by simp; omega)
    clear u3 kA K3 h3
    go_wp2_with fail
    refine (txtQ _ g h1).mono ?_
    rintro q w4 ⟨y4, rfl, K4, h4, u4⟩
    have U4 := Lib.hid u4
    replace b2 := K4.blk b2 (by simp; omega)
    replace b3 := K4.blk b3 (by simp; omega)
    replace KK := KK.trans K4 (by simp)
    obtain ⟨c0, c1, c2, c3, c4, c5, c6, hf, hl⟩ := b3.o7
    obtain ⟨d0, d1, d2, d3, d4, d5, d6, df, dl⟩ := b2.o7
    have kA := (Keeps.refl [g3] w4).setCell ⟨g3, 1, none⟩ (.string ⟨y4.toArray⟩) (.inl (by simp))
    replace b2 := b2.other ⟨g3, 1, none⟩ (.string ⟨y4.toArray⟩) (by simp; omega)
    replace b3 := b3.set 1 (.string ⟨y4.toArray⟩)
    simp only [List.set] at b3
    clear h1
    have h1 := h4.keepsS kA (by simp; omega)
    replace KK := KK.trans kA (by simp; omega)
    clear u4 kA K4 h4
    go_wp2_with fail
    try simp only [Exit.inBlock, Exit.then]
    obtain ⟨e1, e2⟩ := fin7 b2 (.int .i64 7) (.string ⟨y4.toArray⟩) (.int .u64 0) (.slice none 0 0) (.int .i64 0) (.int .i64 y2) (.int .i64 y3)
    refine bodyPost_ret (results_blk rfl _ _ g2 _ _ rfl e1 Try.underlying45 sizO) rfl ?_
    have hv : vls s1 (rBody c.toNat) (OV.op ⟨7, y4, 0, none, 0, [], 0, y2, y3⟩) := by
      rw [HM.out]
      exact vls_map (fun z : Int × Int × Str => ({ c := 7, u := z.1, m := z.2.1, k := z.2.2 } : Opn)) (vls_seq (Q := fun _ => seqR rInt fun _ => rTxt) U2.out (vls_seq (Q := fun _ => rTxt) U3.out U4.out))
    have ha : aft s1 (rBody c.toNat) = aft (aft (aft s1 rInt) rInt) rTxt := by
      rw [HM.out]
      show aft s1 (mapR (fun z : Int × Int × Str => ({ c := 7, u := z.1, m := z.2.1, k := z.2.2 } : Opn)) (seqR rInt fun _ => seqR rInt fun _ => rTxt)) = _
      rw [aft_map, aft_seq U2.out, aft_seq U3.out]
    rw [← HS.out] at hv ha
    obtain ⟨A1, A2⟩ := op_aft V1.out (by rw [HM.out]; omega) hv
    exact ⟨⟨7, y4, 0, none, 0, [], 0, y2, y3⟩, rfl, KK.trans e2 (by simp; omega), by rw [A1, ha, HS.out]; exact h1.keepsS e2 (by simp; omega), A2, Row.nil _ _, fun g hg => by simp [Value.ownBlock] at hg⟩
  · go_wp2_with fail
    refine (intQ _ g h1).mono ?_
    rintro q w2 ⟨y2, rfl, K2, h2, u2⟩
    have U2 := Lib.hid u2
    replace b2 := K2.blk b2 (by simp; omega)
    replace b3 := K2.blk b3 (by simp; omega)
    replace KK := KK.trans K2 (by simp)
    obtain ⟨c0, c1, c2, c3, c4, c5, c6, hf, hl⟩ := b3.o7
    obtain ⟨d0, d1, d2, d3, d4, d5, d6, df, dl⟩ := b2.o7
    have kA := (Keeps.refl [g3] w2).setCell ⟨g3, 5, none⟩ (.int .i64 y2) (.inl (by simp))
    replace b2 := b2.other ⟨g3, 5, none⟩ (.int .i64 y2) (by simp; omega)
    replace b3 := b3.set 5 (.int .i64 y2)
    simp only [List.set] at b3
    clear h1
    have h1 := h2.keepsS kA (by simp; omega)
    replace KK := KK.trans kA (by simp; omega)
    clear u2 kA K2 h2
    go_wp2_with fail
    try simp only [Exit.inBlock, Exit.then]
    obtain ⟨e1, e2⟩ := fin7 b2 (.int .i64 8) (.string ⟨#[]⟩) (.int .u64 0) (.slice none 0 0) (.int .i64 0) (.int .i64 y2) (.int .i64 0)
    refine bodyPost_ret (results_blk rfl _ _ g2 _ _ rfl e1 Try.underlying45 sizO) rfl ?_
    have hv : vls s1 (rBody c.toNat) (OV.op ⟨8, [], 0, none, 0, [], 0, y2, 0⟩) := by
      rw [HM.out]
      exact vls_map (fun u => ({ c := 8, u := u } : Opn)) U2.out
    have ha : aft s1 (rBody c.toNat) = aft s1 rInt := by
      rw [HM.out]
      show aft s1 (mapR (fun u => ({ c := 8, u := u } : Opn)) rInt) = _
      rw [aft_map]
    rw [← HS.out] at hv ha
    obtain ⟨A1, A2⟩ := op_aft V1.out (by rw [HM.out]; omega) hv
    exact ⟨⟨8, [], 0, none, 0, [], 0, y2, 0⟩, rfl, KK.trans e2 (by simp; omega), by rw [A1, ha, HS.out]; exact h1.keepsS e2 (by simp; omega), A2, Row.nil _ _, fun g hg => by simp [Value.ownBlock] at hg⟩
  · have b2 := B2W.out
    have h1 := H1W.out
    have KK := KKW.out
    obtain ⟨d0, d1, d2, d3, d4, d5, d6, df, dl⟩ := b2.o7
    go_wp2_with fail
    try simp only [Exit.inBlock, Exit.then]
    obtain ⟨e1, e2⟩ := fin7 b2 (.int .i64 9) (.string ⟨#[]⟩) (.int .u64 0) (.slice none 0 0) (.int .i64 0) (.int .i64 0) (.int .i64 0)
    refine bodyPost_ret (results_blk rfl _ _ g2 _ _ rfl (e1.alloc _) Try.underlying45 sizO) rfl ?_
    have hv : vls s1 (rBody c.toNat) (OV.op ⟨9, [], 0, none, 0, [], 0, 0, 0⟩) := by
      rw [HM.out]
      exact fun L hL y r hy => by simp only [rBody, Except.ok.injEq, Prod.mk.injEq] at hy; exact hy.1.symm
    have ha : aft s1 (rBody c.toNat) = s1 := by
      rw [HM.out]
      cases s1 <;> rfl
    rw [← HS.out] at hv ha
    obtain ⟨A1, A2⟩ := op_aft V1.out (by rw [HM.out]; omega) hv
    exact ⟨⟨9, [], 0, none, 0, [], 0, 0, 0⟩, rfl, (KK.trans e2 (by simp; omega)).alloc _, by rw [A1, ha, HS.out]; exact (h1.keepsS e2 (by simp; omega)).keeps ((Keeps.refl [] _).alloc _), A2, Row.nil _ _, fun g hg => by simp [Value.ownBlock] at hg⟩
  · have n1 : ¬ (m : Int) = 1 := by omega
    have n2 : ¬ (m : Int) = 2 := by omega
    have n3 : ¬ (m : Int) = 3 := by omega
    have n4 : ¬ (m : Int) = 4 := by omega
    have n5 : ¬ (m : Int) = 5 := by omega
    have n6 : ¬ (m : Int) = 6 := by omega
    have n7 : ¬ (m : Int) = 7 := by omega
    have n8 : ¬ (m : Int) = 8 := by omega
    have n9 : ¬ (m : Int) = 9 := by omega
    have NM := Lib.hid EQ
    clear EQ
    go_wp2_with fail
    refine (failQ _ g h1 12 (by omega)).mono ?_
    rintro q w2 ⟨rfl, K2, h2⟩
    replace b2 := K2.blk b2 (by simp; omega)
    replace b3 := K2.blk b3 (by simp; omega)
    replace KK := KK.trans K2 (by simp)
    obtain ⟨c0, c1, c2, c3, c4, c5, c6, hf, hl⟩ := b3.o7
    obtain ⟨d0, d1, d2, d3, d4, d5, d6, df, dl⟩ := b2.o7
    clear h1
    go_wp2_with fail
    try simp only [Exit.inBlock, Exit.then]
    obtain ⟨e1, e2⟩ := fin7 b2 (.int .i64 (m : Int)) (.string ⟨#[]⟩) (.int .u64 0) (.slice none 0 0) (.int .i64 0) (.int .i64 0) (.int .i64 0)
    refine bodyPost_ret (results_blk rfl _ _ g2 _ _ rfl e1 Try.underlying45 sizO) rfl ?_
    obtain ⟨A1, A2⟩ := op_bad V1.out (by rw [HM.out]; exact NM.out) (OV.op ⟨m, [], 0, none, 0, [], 0, 0, 0⟩)
    exact ⟨⟨m, [], 0, none, 0, [], 0, 0, 0⟩, rfl, KK.trans e2 (by simp; omega), by rw [A1, HS.out]; exact h2.keepsS e2 (by simp; omega), A2, Row.nil _ _, fun g hg => by simp [Value.ownBlock] at hg⟩
end Go.Proofs.Ytkgmgnfcmnhhaaa
