/- ScriptRejects: scripts that are valid but for one thing; plain. -/
import Derived.Test.YtkgmgnfcmnhhaaaRt
namespace Go.Proofs.Ytkgmgnfcmnhhaaa
open Go.RowKit
set_option linter.unusedSectionVars false
set_option linter.unusedVariables false
set_option linter.unusedSimpArgs false
set_option maxRecDepth 20000
/-- What Encode asks of a script beside its validity. -/
structure Fit (w : World) (y : SV) : Prop where
  ok : OkS w y
  sz : SzV y
  t : ∀ p ∈ y.ps, ∀ z ∈ p.2, z.t < 2 ^ 64
  len : (eScr y.scr).length ≤ 1073741824
theorem Fit.keeps {w w' : World} {y : SV} (h : Fit w y) (k : Keeps [] w w') : Fit w' y := ⟨h.ok.keeps k, h.sz, h.t, h.len⟩
/-- An operation whose encoding is at most so long. -/
structure OpL (w : World) (c : Nat) (z : OV) : Prop where
  ok : OkB w z
  t : z.t < 2 ^ 64
  n : z.b.length ≤ 30
  len : (eOp z.op).length ≤ c
theorem OpL.mono {w : World} {c d : Nat} {z : OV} (h : OpL w c z) (hl : c ≤ d) : OpL w d z := ⟨h.ok, h.t, h.n, Nat.le_trans h.len hl⟩
theorem OpL.keeps {w w' : World} {c : Nat} {z : OV} (h : OpL w c z) (k : Keeps [] w w') : OpL w' c z := ⟨h.ok.keeps k, h.t, h.n, h.len⟩
theorem opl_made {w : World} {N : Nat} (hN : N ≤ 1048576) {y : OV} (h : OpF w N y) : OpL w (125 + 9 * N) y := ⟨h.ok, h.t, by have := h.n; omega, by
  have := eOp_len (z := y.op) hN h.b.1 h.t h.b.2 h.n (by omega)
  omega⟩
theorem opl_any {w : World} {N : Nat} (hN : N ≤ 1048576) {y : OV} (h1 : OkB w y) (h2 : OpN y) (h3 : OpB N y) (hb : y.b.length ≤ 30) : OpL w (671 + 61 * N) y := ⟨h1, h2.2.2.2.2.1, hb, by
  have := eOp_len (z := y.op) hN h3.1 h2.2.2.2.2.1 h3.2 hb (by omega)
  omega⟩
theorem progl {w : World} {c m : Nat} {l : List OV} (hm : m ≤ 1000) (hl : l.length ≤ m) (h : ∀ z ∈ l, OpL w c z) : (eProg (l.map OV.op)).length ≤ 10 + m * c :=
  prog_len hm (by rw [List.length_map]; exact hl) fun z hz => by
    obtain ⟨y, hy, rfl⟩ := List.mem_map.1 hz
    exact (h y hy).len
theorem progl_more {w : World} {c d m : Nat} {l : List OV} {o : OV} (hm : m ≤ 900) (hl : l.length ≤ m) (h : ∀ z ∈ l, OpL w c z) (ho : OpL w d o) : (eProg ((l ++ [o]).map OV.op)).length ≤ 10 + m * c + d := by
  have e1 : (l ++ [o]).map OV.op = l.map OV.op ++ [o.op] := by simp
  have e5 : ([o.op].flatMap eOp).length = (eOp o.op).length := by simp
  rw [e1]
  unfold eProg
  rw [List.length_append, List.flatMap_append, List.length_append, List.length_append, e5]
  have a1 := vi_len (u := (l.map OV.op).length + [o.op].length) (by rw [List.length_map]; simp; omega)
  have a2 := flatMap_len_le eOp c (l.map OV.op) fun z hz => by
    obtain ⟨y, hy, rfl⟩ := List.mem_map.1 hz
    exact (h y hy).len
  rw [List.length_map] at a2
  have a3 := Nat.mul_le_mul_right c hl
  have a4 := ho.len
  omega
theorem fit_of {w : World} {y : SV} {P M : Nat} (hok : OkS w y) (hP : y.ps.length ≤ P) (hPM : 80 + P * M + 3010 ≤ 1073741824) (hth : y.th.toNat < 2 ^ 64) (hcl : y.cl < 2 ^ 64) (hpk : y.pk.length ≤ 301) (hP5 : P ≤ 5)
    (hn : ∀ p ∈ y.ps, p.2.length ≤ 21 ∧ ∀ z ∈ p.2, z.t < 2 ^ 64 ∧ z.b.length ≤ 30) (hM : ∀ p ∈ y.ps, (eProg (p.2.map OV.op)).length ≤ M) : Fit w y := by
  refine ⟨hok, ⟨by omega, fun p hp => ⟨by have := (hn p hp).1; omega, fun z hz => by have := ((hn p hp).2 z hz).2; omega⟩, by omega⟩, fun p hp z hz => ((hn p hp).2 z hz).1, ?_⟩
  have := scr_len (x := y.scr) (P := P) (M := M) (K := 301) hth hcl (fun l hl => by
    obtain ⟨p, hp, rfl⟩ := List.mem_map.1 hl
    exact hM p hp) (by show (y.ps.map _).length ≤ P; rw [List.length_map]; exact hP) hpk (by omega)
  omega
/-- The validity of a script in parts. -/
theorem vld_parts (y : SV) : vld y.scr = (cfgB y.th y.sn y.no y.ch y.re y.fa (y.cl : Int) && (decide ((y.ps.length : Int) = y.th) && (y.ps.all fun p => vProg y.sn (p.2.map OV.op)) && accB y.th y.pk)) := by
  rw [← vld_eq]
  unfold engOk
  rw [Bool.and_assoc]
theorem vProg_more (S : Int) (l : List OV) (o : OV) (hl : l.length ≤ 20) (h : vProg S (l.map OV.op) = true) : vProg S ((l ++ [o]).map OV.op) = vOp S o.op := by
  unfold vProg at *
  rw [Bool.and_eq_true] at h
  rw [List.map_append, List.all_append, h.2, Bool.true_and]
  have : decide ((List.map OV.op l ++ List.map OV.op [o]).length ≤ 4096) = true := decide_eq_true (by simp; omega)
  rw [this, Bool.true_and]
  simp
theorem acc_more (th : Int) (l : List Int) (p : Int) (hl : l.length ≤ 300) (h : accB th l = true) : accB th (l ++ [p]) = (decide (0 ≤ p) && decide (p < th)) := by
  unfold accB at *
  rw [Bool.and_eq_true] at h
  rw [List.all_append, h.2, Bool.true_and]
  have : decide ((l ++ [p]).length ≤ 1048576) = true := decide_eq_true (by simp; omega)
  rw [this, Bool.true_and]
  simp
theorem all_set0 {α : Type} (f : α → Bool) (l : List α) (x : α) (hl : 0 < l.length) (h : l.all f = true) : (l.set 0 x).all f = f x := by
  cases l with
  | nil => simp at hl
  | cons a t =>
    simp only [List.set_cons_zero, List.all_cons, Bool.and_eq_true] at h ⊢
    rw [h.2, Bool.and_true]
end Go.Proofs.Ytkgmgnfcmnhhaaa
