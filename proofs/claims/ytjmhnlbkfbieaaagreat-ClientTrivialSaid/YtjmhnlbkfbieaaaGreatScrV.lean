/- Which scripts are valid: a plain law. No program. -/
import Derived.Test.YtjmhnlbkfbieaaaGreatScrS
namespace Go.Proofs.YtjmhnlbkfbieaaaGreat
set_option linter.unusedVariables false
set_option linter.unusedSimpArgs false
/-- The fields that an operation's code does not use are zero. -/
def zrB (z : Opn) : Bool := match z.c with
  | 1 => decide (z.t = 0) && decide (z.h = 0) && decide (z.u = 0) && decide (z.m = 0)
  | 2 => decide (z.h = 0) && decide (z.u = 0) && decide (z.m = 0)
  | 3 => decide (z.k = []) && decide (z.t = 0) && decide (z.h = 0) && decide (z.u = 0) && decide (z.m = 0)
  | 4 => decide (z.k = []) && decide (z.t = 0) && decide (z.u = 0) && decide (z.m = 0)
  | 5 => decide (z.k = []) && decide (z.t = 0) && decide (z.u = 0) && decide (z.m = 0)
  | 6 => decide (z.k = []) && decide (z.t = 0) && decide (z.m = 0)
  | 7 => (decide (z.k = []) || decide (z.m = 0)) && decide (z.t = 0) && decide (z.h = 0)
  | 8 => decide (z.k = []) && decide (z.t = 0) && decide (z.h = 0) && decide (z.m = 0)
  | 9 => decide (z.k = []) && decide (z.t = 0) && decide (z.h = 0) && decide (z.u = 0) && decide (z.m = 0)
  | _ => false
def vOp (sn : Int) (z : Opn) : Bool :=
  zrB z && (decide (z.c = 3) || decide (z.b.length = 0)) && (decide (0 ≤ z.h) && decide (z.h < sn)) && (decide (0 ≤ z.u) && decide (z.u < 8)) && (decide (0 ≤ z.m) && decide (z.m < 5))
def vCfg (x : Scr) : Bool :=
  decide ((1 ≤ x.th ∧ x.th ≤ 64) ∧ (1 ≤ x.sn ∧ x.sn ≤ 8) ∧ (1 ≤ x.no ∧ x.no ≤ 4096) ∧ (1 ≤ x.ch ∧ x.ch ≤ 16384) ∧ (1 ≤ x.re ∧ x.re ≤ 65536) ∧ (4 ≤ x.fa ∧ x.fa ≤ 32) ∧ (1 ≤ x.cl ∧ x.cl ≤ 1099511627776))
def vProg (sn : Int) (p : List Opn) : Bool := decide (p.length ≤ 4096) && p.all (vOp sn)
def vPicks (th : Nat) (l : List Int) : Bool := decide (l.length ≤ 1048576) && l.all fun p => decide (0 ≤ p) && decide (p < (th : Int))
def vld (x : Scr) : Bool := vCfg x && decide (x.ps.length = x.th) && x.ps.all (vProg x.sn) && vPicks x.th x.pk
theorem vOp_code {sn : Int} {z : Opn} (h : vOp sn z = true) : 1 ≤ z.c ∧ z.c ≤ 9 := by
  simp only [vOp, Bool.and_eq_true] at h
  have h1 := h.1.1.1.1
  unfold zrB at h1
  split at h1
  all_goals first | omega | (simp at h1)
/-- The numbers and lengths of an operation lie within their types. -/
def OpR (z : Opn) : Prop := z.k.length < 2 ^ 64 ∧ z.t < 2 ^ 64 ∧ z.b.length < 2 ^ 64 ∧ ∀ y ∈ z.b, WrtOk y
theorem vOp_ok {sn : Int} (hs : sn ≤ 8) {z : Opn} (h : vOp sn z = true) (hr : OpR z) : OpnOk z := by
  obtain ⟨hc1, hc9⟩ := vOp_code h
  simp only [vOp, Bool.and_eq_true, Bool.or_eq_true, decide_eq_true_eq] at h
  obtain ⟨⟨⟨⟨h1, h2⟩, h3, h4⟩, h5, h6⟩, h7, h8⟩ := h
  obtain ⟨r1, r2, r3, r4⟩ := hr
  refine ⟨⟨hc1, hc9⟩, ?_⟩
  obtain ⟨c, k, t, b, hh, u, m⟩ := z
  simp only at hc1 hc9 h1 h2 h3 h4 h5 h6 h7 h8 r1 r2 r3 r4 ⊢
  have i1 : IntOk hh := by unfold IntOk; omega
  have i2 : IntOk u := by unfold IntOk; omega
  have i3 : IntOk m := by unfold IntOk; omega
  obtain rfl | rfl | rfl | rfl | rfl | rfl | rfl | rfl | rfl : c = 3 ∨ c = 1 ∨ c = 2 ∨ c = 4 ∨ c = 5 ∨ c = 6 ∨ c = 7 ∨ c = 8 ∨ c = 9 := by omega
  · simp only [zrB, Bool.and_eq_true, decide_eq_true_eq] at h1
    obtain ⟨⟨⟨⟨rfl, rfl⟩, rfl⟩, rfl⟩, rfl⟩ := h1
    exact ⟨rfl, rfl, r3, r4⟩
  all_goals
    obtain rfl : b = [] := by
      rcases h2 with h2 | h2
      · omega
      · exact List.eq_nil_of_length_eq_zero h2
    simp only [zrB, Bool.and_eq_true, Bool.or_eq_true, decide_eq_true_eq] at h1
  · obtain ⟨⟨⟨rfl, rfl⟩, rfl⟩, rfl⟩ := h1
    exact ⟨rfl, rfl, r1⟩
  · obtain ⟨⟨rfl, rfl⟩, rfl⟩ := h1
    exact ⟨rfl, rfl, r1, r2⟩
  · obtain ⟨⟨⟨rfl, rfl⟩, rfl⟩, rfl⟩ := h1
    exact ⟨rfl, rfl, i1⟩
  · obtain ⟨⟨⟨rfl, rfl⟩, rfl⟩, rfl⟩ := h1
    exact ⟨rfl, rfl, i1⟩
  · obtain ⟨⟨rfl, rfl⟩, rfl⟩ := h1
    exact ⟨rfl, rfl, i2, i1⟩
  · obtain ⟨⟨_, rfl⟩, rfl⟩ := h1
    exact ⟨rfl, rfl, i2, i3, r1⟩
  · obtain ⟨⟨⟨rfl, rfl⟩, rfl⟩, rfl⟩ := h1
    exact ⟨rfl, rfl, i2⟩
  · obtain ⟨⟨⟨⟨rfl, rfl⟩, rfl⟩, rfl⟩, rfl⟩ := h1
    exact ⟨rfl, rfl⟩
theorem vld_cfg {x : Scr} (h : vld x = true) : (1 ≤ x.th ∧ x.th ≤ 64) ∧ (1 ≤ x.sn ∧ x.sn ≤ 8) ∧ (1 ≤ x.no ∧ x.no ≤ 4096) ∧ (1 ≤ x.ch ∧ x.ch ≤ 16384) ∧ (1 ≤ x.re ∧ x.re ≤ 65536) ∧ (4 ≤ x.fa ∧ x.fa ≤ 32) ∧ (1 ≤ x.cl ∧ x.cl ≤ 1099511627776) := by
  simp only [vld, vCfg, Bool.and_eq_true, decide_eq_true_eq] at h
  exact h.1.1.1
theorem vld_op {x : Scr} (h : vld x = true) {p : List Opn} (hp : p ∈ x.ps) {z : Opn} (hz : z ∈ p) : vOp x.sn z = true := by
  simp only [vld, vProg, Bool.and_eq_true, List.all_eq_true] at h
  exact (h.1.2 p hp).2 z hz
theorem vld_ok {x : Scr} (h : vld x = true) (hr : ∀ p ∈ x.ps, ∀ z ∈ p, OpR z) : ScrOk x := by
  have hc := vld_cfg h
  have h' := h
  simp only [vld, vProg, vPicks, Bool.and_eq_true, List.all_eq_true, decide_eq_true_eq] at h
  obtain ⟨⟨⟨_, h2⟩, h3⟩, h4, h5⟩ := h
  refine ⟨hc.1.2, by unfold IntOk; omega, by unfold IntOk; omega, by unfold IntOk; omega, by unfold IntOk; omega, by unfold IntOk; omega, by omega, ⟨h2, fun p hp => ⟨by have := (h3 p hp).1; omega, fun z hz => vOp_ok hc.2.1.2 (vld_op h' hp hz) (hr p hp z hz)⟩⟩, ⟨by omega, fun q hq => ?_⟩⟩
  have := h5 q hq
  unfold IntOk
  omega
end Go.Proofs.YtjmhnlbkfbieaaaGreat
