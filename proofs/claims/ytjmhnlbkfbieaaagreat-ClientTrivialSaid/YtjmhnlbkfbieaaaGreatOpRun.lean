/- An Open that runs with nobody else: its phases, and its steps. -/
import Derived.Test.YtjmhnlbkfbieaaaGreatReg2
namespace Go.Proofs.YtjmhnlbkfbieaaaGreat
open Go.RowKit
/-- An Open ahead of its first step, its blocks from lo on. -/
def Op0 (w : World) (ob lo : Nat) (T S N C R F K : Int) (i : Int) : Prop :=
  ∃ nb lb pb, Blk w ob [.func (.func 67) #[.pointer (some ⟨ob, 0, none⟩)] #[], .bool true, .int .i64 i, .pointer (some ⟨nb, 0, none⟩), .int .i64 0] ∧ NowB w nb lb pb T S N C R F K ∧ (lo ≤ ob ∧ lo ≤ nb ∧ lo ≤ lb ∧ lo ≤ pb) ∧ nb ≠ ob ∧ ob ≠ lb ∧ ob ≠ pb
/-- An Open behind its first step. -/
def Op1 (w : World) (ob lo : Nat) (T S N C R F K : Int) (i : Int) : Prop :=
  ∃ nb lb pb xb tb sb hb, OpenB w ob nb lb pb xb tb sb hb i T S N C R F K ∧ (lo ≤ ob ∧ lo ≤ nb ∧ lo ≤ lb ∧ lo ≤ pb ∧ lo ≤ xb ∧ lo ≤ tb ∧ lo ≤ sb ∧ lo ≤ hb) ∧ nb ≠ ob ∧ nb ≠ xb ∧ nb ≠ tb ∧ nb ≠ sb ∧ nb ≠ hb
/-- An Open that knows its time t. -/
def Op2 (w : World) (ob lo : Nat) (i t : Int) : Prop := ∃ nb, OpenC w ob nb (.func (.func 108) #[.pointer (some ⟨ob, 0, none⟩)] #[]) i t ∧ lo ≤ ob ∧ lo ≤ nb ∧ nb ≠ ob
/-- An Open that has finished. -/
def Op3 (w : World) (ob lo : Nat) (i t : Int) : Prop := ∃ nb, OpenC w ob nb .nilFunc i t ∧ lo ≤ ob ∧ lo ≤ nb ∧ nb ≠ ob
theorem op0_new (T S N C R F K : Int) (hc : CfgOK T S N C R F K) (t j : Int) (t0 : 0 ≤ t) (t1 : t < T) (j0 : 0 ≤ j) (j1 : j < S) (w : World) :
    Calls Tryz.prog 40 #[.agg #[.int .i64 T, .int .i64 S, .int .i64 N, .int .i64 C, .int .i64 R, .int .i64 F, .int .u64 K], .int .i64 t, .int .i64 j] w fun e w' => ∃ ob, e = .returned (.pointer (some ⟨ob, 0, none⟩)) ∧ Op0 w' ob w.heap.size T S N C R F K (8 + t * S + j) ∧ Keeps [] w w' := by
  refine (newOpen_any T S N C R F K hc t j t0 t1 j0 j1 w).mono ?_
  rintro e w' ⟨nb, lb, pb, ob, rfl, h1, h2, h3, h4, h5, h6, h7, h8, h9, k⟩
  exact ⟨ob, rfl, ⟨nb, lb, pb, h2, h1, ⟨h6, h3, h4, h5⟩, h7, h8, h9⟩, k⟩
section
variable {wo w : World} {ob m c : Nat} {T S N C R F K : Int} {L : List C3} {n i t : Int}
theorem op0_step (h : Op0 w ob wo.heap.size T S N C R F K i) (hm : MemAt w m c L n) (n0 : 0 ≤ n) (n1 : n ≤ 4611686018427387904) (hmo : m < wo.heap.size) (hco : c < wo.heap.size) {X : List Nat} (hX : m ∈ X ∧ c ∈ X) (K0 : Keeps X wo w) :
    Calls Tryz.prog 347 #[.pointer (some ⟨ob, 0, none⟩), .pointer (some ⟨m, 0, none⟩)] w fun e w' => e = .returned (.bool false) ∧ Op1 w' ob wo.heap.size T S N C R F K i ∧ MemAt w' m c (memSet L i ⟨1, ⟨#[]⟩, 0⟩) (n + 1) ∧ Keeps X wo w' := by
  have hs := K0.size
  obtain ⟨nb, lb, pb, h1, h2, ⟨a1, a2, a3, a4⟩, d1, d2, d3⟩ := h
  have l1 := h1.lt
  have l2 := h2.lt
  refine (openStep1 w ob nb lb pb m c L n i T S N C R F K h1 h2 hm n0 n1 (by omega) (by omega) (by omega)).mono ?_
  rintro e w' ⟨rfl, xb, tb, sb, hb, g1, g2, g3, g4, g5, g6, g7⟩
  exact ⟨rfl, ⟨nb, lb, pb, xb, tb, sb, hb, g1, by omega, d1, by omega, by omega, by omega, by omega⟩, g6, K0.trans g7 (by
    intro j hj
    simp at hj
    rcases hj with rfl | rfl | rfl
    · exact .inl hX.1
    · exact .inl hX.2
    · exact .inr a1)⟩
theorem op1_step (h : Op1 w ob wo.heap.size T S N C R F K i) (hm : MemAt w m c L n) (n0 : 0 ≤ n) (n1 : n ≤ 4611686018427387904) (hmo : m < wo.heap.size) (hco : c < wo.heap.size) {X : List Nat} (hX : m ∈ X ∧ c ∈ X) (K0 : Keeps X wo w) :
    Calls Tryz.prog 347 #[.pointer (some ⟨ob, 0, none⟩), .pointer (some ⟨m, 0, none⟩)] w fun e w' => e = .returned (.bool false) ∧ Op2 w' ob wo.heap.size i (memAt L 2).N ∧ MemAt w' m c L (n + 1) ∧ Keeps X wo w' := by
  obtain ⟨nb, lb, pb, xb, tb, sb, hb, h1, ⟨a1, a2, a3, a4, a5, a6, a7, a8⟩, d1, d2, d3, d4, d5⟩ := h
  refine (openStep2 w ob nb lb pb xb tb sb hb m c L n i T S N C R F K h1 hm n0 n1 (by omega) (by omega) (by omega) ⟨d1, d2, d3, d4, d5⟩).mono ?_
  rintro e w' ⟨rfl, g1, g6, g7⟩
  exact ⟨rfl, ⟨nb, g1, a1, a2, d1⟩, g6, K0.trans g7 (by
    intro j hj
    simp at hj
    rcases hj with rfl | rfl | rfl
    · exact .inl hX.1
    · exact .inr a2
    · exact .inr a1)⟩
theorem op2_step (h : Op2 w ob wo.heap.size i t) (t0 : 0 ≤ t) (t1 : t ≤ 4611686018427387904) (hm : MemAt w m c L n) (n0 : 0 ≤ n) (n1 : n ≤ 4611686018427387904) (hmo : m < wo.heap.size) (hco : c < wo.heap.size) {X : List Nat} (hX : m ∈ X ∧ c ∈ X) (K0 : Keeps X wo w) :
    Calls Tryz.prog 347 #[.pointer (some ⟨ob, 0, none⟩), .pointer (some ⟨m, 0, none⟩)] w fun e w' => e = .returned (.bool true) ∧ Op3 w' ob wo.heap.size i t ∧ MemAt w' m c (memSet L i ⟨t + 1, ⟨#[]⟩, 0⟩) (n + 1) ∧ Keeps X wo w' := by
  obtain ⟨nb, h1, a1, a2, d1⟩ := h
  refine (openStep3 w ob nb m c L n i t h1 t0 t1 hm n0 n1 (by omega) (by omega) d1).mono ?_
  rintro e w' ⟨rfl, g1, g6, g7⟩
  exact ⟨rfl, ⟨nb, g1, a1, a2, d1⟩, g6, K0.trans g7 (by
    intro j hj
    simp at hj
    rcases hj with rfl | rfl | rfl
    · exact .inl hX.1
    · exact .inl hX.2
    · exact .inr a1)⟩
theorem op3_time (h : Op3 w ob wo.heap.size i t) :
    Calls Tryz.prog 350 #[.pointer (some ⟨ob, 0, none⟩)] w fun e w' => e = .returned (.int .u64 t) ∧ w = w' := by
  obtain ⟨nb, h1, _⟩ := h
  exact openTime_done w ob nb i t h1
theorem op0_marks (h : Op0 w ob wo.heap.size T S N C R F K i) :
    Calls Tryz.prog 346 #[.pointer (some ⟨ob, 0, none⟩)] w fun e w' => e = .returned (.int .i64 0) ∧ w = w' := by
  obtain ⟨nb, lb, pb, h1, h2⟩ := h
  have h1o := h1.o5
  clear h2
  go_enter Tryz.func346, Tryz.ntmps346
  go_wp2_with fail
  go_ret
  exact ⟨rfl, rfl⟩
theorem op1_marks (h : Op1 w ob wo.heap.size T S N C R F K i) :
    Calls Tryz.prog 346 #[.pointer (some ⟨ob, 0, none⟩)] w fun e w' => e = .returned (.int .i64 0) ∧ w = w' := by
  obtain ⟨nb, lb, pb, xb, tb, sb, hb, h1, h2⟩ := h
  have h1o := h1.self.o5
  clear h2
  go_enter Tryz.func346, Tryz.ntmps346
  go_wp2_with fail
  go_ret
  exact ⟨rfl, rfl⟩
theorem openC_marks {nb : Nat} {nx : Value} (h : OpenC w ob nb nx i t) :
    Calls Tryz.prog 346 #[.pointer (some ⟨ob, 0, none⟩)] w fun e w' => e = .returned (.int .i64 1) ∧ w = w' := by
  have h1o := h.self.o5
  go_enter Tryz.func346, Tryz.ntmps346
  go_wp2_with fail
  go_ret
  exact ⟨rfl, rfl⟩
theorem op2_marks (h : Op2 w ob wo.heap.size i t) :
    Calls Tryz.prog 346 #[.pointer (some ⟨ob, 0, none⟩)] w fun e w' => e = .returned (.int .i64 1) ∧ w = w' := by
  obtain ⟨nb, h1, _⟩ := h
  exact openC_marks h1
theorem op3_marks (h : Op3 w ob wo.heap.size i t) :
    Calls Tryz.prog 346 #[.pointer (some ⟨ob, 0, none⟩)] w fun e w' => e = .returned (.int .i64 1) ∧ w = w' := by
  obtain ⟨nb, h1, _⟩ := h
  exact openC_marks h1
end
/-- A Release that was just made, and its step. -/
def Rl (w : World) (rb lo : Nat) (T S N C R F K : Int) (t j : Int) : Prop := ∃ lb tb jb, RegRel w rb lb tb jb T S N C R F K t j ∧ lo ≤ rb ∧ lo ≤ lb ∧ lo ≤ tb ∧ lo ≤ jb ∧ rb ≠ lb ∧ rb ≠ tb ∧ rb ≠ jb
theorem rl_new (T S N C R F K : Int) (t j : Int) (w : World) :
    Calls Tryz.prog 41 #[.agg #[.int .i64 T, .int .i64 S, .int .i64 N, .int .i64 C, .int .i64 R, .int .i64 F, .int .u64 K], .int .i64 t, .int .i64 j] w fun e w' => ∃ rb, e = .returned (.pointer (some ⟨rb, 0, none⟩)) ∧ Rl w' rb w.heap.size T S N C R F K t j ∧ Keeps [] w w' := by
  refine (newRegRel_any T S N C R F K t j w).mono ?_
  rintro e w' ⟨rb, lb, tb, jb, rfl, h1, h2, h3, h4, h5, h6, h7, h8, k⟩
  exact ⟨rb, rfl, ⟨lb, tb, jb, h1, h2, h3, h4, h5, h6, h7, h8⟩, k⟩
theorem rl_step {wo w : World} {rb m c : Nat} {T S N C R F K : Int} {L : List C3} {n t j : Int} (hc : CfgOK T S N C R F K) (h : Rl w rb wo.heap.size T S N C R F K t j) (t0 : 0 ≤ t) (t1 : t < T) (j0 : 0 ≤ j) (j1 : j < S)
    (hm : MemAt w m c L n) (n0 : 0 ≤ n) (n1 : n ≤ 4611686018427387904) (hmo : m < wo.heap.size) (hco : c < wo.heap.size) {X : List Nat} (hX : m ∈ X ∧ c ∈ X) (K0 : Keeps X wo w) :
    Calls Tryz.prog 356 #[.pointer (some ⟨rb, 0, none⟩), .pointer (some ⟨m, 0, none⟩)] w fun e w' => e = .returned (.bool true) ∧ MemAt w' m c (memSet L (8 + t * S + j) ⟨0, ⟨#[]⟩, 0⟩) (n + 1) ∧ Keeps X wo w' := by
  obtain ⟨lb, tb, jb, h1, a1, a2, a3, a4, d1, d2, d3⟩ := h
  refine (regRelStep w rb lb tb jb m c L n t j T S N C R F K hc h1 t0 t1 j0 j1 hm n0 n1 (by omega)).mono ?_
  rintro e w' ⟨rfl, g1, g2⟩
  exact ⟨rfl, g1, K0.trans g2 (by
    intro j hj
    simp at hj
    rcases hj with rfl | rfl | rfl
    · exact .inl hX.1
    · exact .inl hX.2
    · exact .inr a1)⟩
end Go.Proofs.YtjmhnlbkfbieaaaGreat
