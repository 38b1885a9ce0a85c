/- Lemmas on the way to LinearAcceptsSequential. No condition. -/
import Derived.Test.YtbcgpjfejpcgnaaGreatRAa
import Derived.Test.YtbcgpjfejpcgnaaGreatRAi
import Derived.Test.YtbcgpjfejpcgnaaGreatRAr
import Derived.Test.YtbcgpjfejpcgnaaGreatRows
import Derived.SizedLaws
import Derived.Laws.ResultCell
import Derived.Deep.CutRange
import Derived.Deep.CutBlock
import Derived.BigQuiet
set_option linter.unusedSimpArgs false
set_option linter.unusedVariables false
set_option linter.unusedSectionVars false
section
namespace Go.Proofs.YtbcgpjfejpcgnaaGreat.O
open Go.ChangeShapes Go.WideShapes Go.ChangeAt Go.RowKit
set_option linter.unusedSectionVars false
set_option linter.unusedVariables false
set_option linter.unusedSimpArgs false
set_option maxRecDepth 100000
theorem bulk_mem {H : Type} {d : DataW H} {l : List (DataW H)} (h : d ∈ l) : Rows.uptoBulk d ≤ Rows.uptoBulkAll l := by
  induction l with
  | nil => cases h
  | cons x r ih =>
    simp only [Rows.uptoBulkAll]
    cases List.mem_cons.1 h with
    | inl e => subst e; omega
    | inr e => have := ih e; omega
theorem bulk_slice {H : Type} {d : DataW H} {elems spare : List (DataW H)} (h : d ∈ elems) : Rows.uptoBulk d ≤ Rows.uptoBulk (.slice elems spare) := by
  have := bulk_mem h
  simp only [Rows.uptoBulk]
  omega
theorem bulk_agg {H : Type} {d : DataW H} {parts : List (DataW H)} (h : d ∈ parts) : Rows.uptoBulk d ≤ Rows.uptoBulk (.agg parts) := by
  have := bulk_mem h
  simp only [Rows.uptoBulk]
  omega
theorem bulk_str {H : Type} (k : Str) : Rows.uptoBulk (DataW.lit (H := H) (.string k)) = k.length + 1 := by
  simp [Rows.uptoBulk]
theorem cellsW : Tryz.prog.cellsOf 53 = 3 := by kernel_rfl
theorem cellsS : Tryz.prog.cellsOf 9 = 1 := by kernel_rfl
theorem cellsB : Tryz.prog.cellsOf 4 = 1 := by kernel_rfl
theorem cellsI : Tryz.prog.cellsOf 3 = 1 := by kernel_rfl
theorem cellsU : Tryz.prog.cellsOf 22 = 1 := by kernel_rfl
theorem cellsU8 : Tryz.prog.cellsOf 5 = 1 := by kernel_rfl
theorem cellsWS : Tryz.prog.cellsOf 27 = 1 := by kernel_rfl
theorem cellsO : Tryz.prog.cellsOf 29 = 7 := by kernel_rfl
theorem str_of (s : ByteArray) : ∃ k : Str, s = ⟨k.toArray⟩ := ⟨s.data.toList, by cases s; simp⟩
theorem open_rowsB {H : Type} {enc : TypeId × Value → H} {P : Program} {w : World} {t e : TypeId} {v : Value} {d : DataW H} {p : List MemPlace} (sz : Nat) (hsz : 0 < sz) (R : List Value → DataW H → Prop)
    (ht : P.underlying t = some (.slice e)) (hc : P.cellsOf e = sz)
    (hR : ∀ (fuel : Nat) (cs : List Value) (x : DataW H × List MemPlace), DataW.trod enc P w 0 (fun _ => true) true fuel e cs = some x → R cs x.1)
    (hsh : ∃ a0 len cap, v = .slice a0 len cap) (h : DataW.Trod enc P w 0 (fun _ => true) true t v d p) :
    ∃ (A : Option Addr) (cap b o : Nat) (rows : List (List Value)), v = .slice A rows.length cap ∧ (0 < rows.length → A = some ⟨b, o, none⟩) ∧ Arr w b o rows.flatten ∧ rows.length ≤ cap ∧ cap ≤ 9223372036854775807 ∧
      ∀ x, x ∈ rows → x.length = sz ∧ ∃ y, R x y ∧ Rows.uptoBulk y ≤ Rows.uptoBulk d := by
  obtain ⟨a0, len, cap, rfl⟩ := hsh
  obtain ⟨fuel, hf⟩ := h
  rcases Go.Deep.open_slice ht hf with ⟨hcs, _⟩ | ⟨a, len', cap', m, n, D, Pl, hcs, _, hl, hm, hmm, hxx, hel⟩
  · simp [Value.cells] at hcs
    obtain ⟨rfl, rfl, rfl⟩ := hcs
    exact ⟨none, 0, 0, 0, [], rfl, fun h => by simp at h, ⟨fun i hi => absurd hi (Nat.not_lt_zero i), fun h => absurd h (Nat.lt_irrefl 0)⟩, Nat.le_refl _, Nat.zero_le _, by simp⟩
  · simp [Value.cells] at hcs
    obtain ⟨rfl, rfl, rfl⟩ := hcs
    simp only [if_true] at hmm
    subst hmm
    rw [hc] at hel
    have hdd := (congrArg Prod.fst hxx)
    simp only at hdd
    unfold maxLen at hm
    by_cases h0 : 0 < len
    · have hget : ∀ i, i < len → ∃ cs', w.cells? 0 (a.add (i * sz)) sz = some cs' ∧ R cs' (D i) := fun i hi => by
        obtain ⟨cs', h1, h2⟩ := hel i (by omega)
        exact ⟨cs', h1, hR _ _ _ h2⟩
      obtain ⟨f, hf'⟩ : ∃ f : Nat → List Value, ∀ i, i < len → w.cells? 0 (a.add (i * sz)) sz = some (f i) ∧ R (f i) (D i) := by
        refine ⟨fun i => if h : i < len then (hget i h).choose else [], fun i hi => ?_⟩
        simp only [hi, dif_pos]
        exact (hget i hi).choose_spec
      have hlen : ∀ i, i < len → (f i).length = sz := fun i hi => (World.cells?_some (hf' i hi).1).2.1
      have hcell : ∀ i, i < len → ∀ j, j < sz → w.cell? (a.add (i * sz + j)) = (f i)[j]? := fun i hi j hj => by
        have := (World.cells?_some (hf' i hi).1).2.2 j hj
        rwa [Go.Deep.add_add] at this
      obtain ⟨b, off, spot⟩ := a
      have hfirst := hcell 0 h0 0 hsz
      have hsome : w.cell? ⟨b, off, spot⟩ = some ((f 0)[0]'(by rw [hlen 0 h0]; exact hsz)) := by
        rw [List.getElem?_eq_getElem (by rw [hlen 0 h0]; exact hsz)] at hfirst
        simpa [Addr.add] using hfirst
      obtain rfl : spot = none := World.cell?_spot hsome
      have hrl : ((List.range len).map f).length = len := by simp
      have hflen : ∀ k, k ≤ len → ((List.range k).map f).flatten.length = k * sz := by
        intro k
        induction k with
        | zero => simp
        | succ k ih =>
          intro hk
          rw [List.range_succ, List.map_append, List.flatten_append, List.length_append, ih (by omega)]
          simp [hlen k (by omega), Nat.succ_mul]
      have hget2 : ∀ k, k ≤ len → ∀ i, i < k * sz → ((List.range k).map f).flatten[i]? = (f (i / sz))[i % sz]? := by
        intro k
        induction k with
        | zero => intro _ i hi; simp at hi
        | succ k ih =>
          intro hk i hi
          rw [List.range_succ, List.map_append, List.flatten_append]
          by_cases hik : i < k * sz
          · rw [List.getElem?_append_left (by rw [hflen k (by omega)]; exact hik)]
            exact ih (by omega) i hik
          · rw [List.getElem?_append_right (by rw [hflen k (by omega)]; omega), hflen k (by omega)]
            rw [Nat.succ_mul] at hi
            have e1 : i / sz = k := by
              rw [Nat.div_eq_iff hsz]
              omega
            have e2 : i % sz = i - k * sz := by
              have := Nat.div_add_mod i sz
              rw [e1, Nat.mul_comm] at this
              omega
            rw [e1, e2]
            simp
      refine ⟨_, _, b, off, (List.range len).map f, by rw [hrl], fun _ => rfl, ⟨fun i hi => ?_, fun _ => World.block_lt_of_cell? (w := w) (a := ⟨b, off, none⟩) hsome⟩, by rw [hrl]; omega, by omega, ?_⟩
      · rw [hflen len (Nat.le_refl _)] at hi
        rw [hget2 len (Nat.le_refl _) i hi]
        have hd : i / sz < len := by rw [Nat.div_lt_iff_lt_mul hsz]; exact hi
        rw [← hcell (i / sz) hd (i % sz) (Nat.mod_lt _ hsz), ← Go.WideShapes.add_plain]
        have : i / sz * sz + i % sz = i := by rw [Nat.mul_comm]; exact Nat.div_add_mod i sz
        rw [this]
      · intro x hx
        simp only [List.mem_map, List.mem_range] at hx
        obtain ⟨i, hi, rfl⟩ := hx
        refine ⟨hlen i hi, D i, (hf' i hi).2, ?_⟩
        rw [hdd]
        exact bulk_slice (by simp; exact ⟨i, hi, rfl⟩)
    · obtain rfl : len = 0 := by omega
      exact ⟨some a, _, 0, 0, [], rfl, fun h => by simp at h, ⟨fun i hi => absurd hi (Nat.not_lt_zero i), fun h => absurd h (Nat.lt_irrefl 0)⟩, Nat.zero_le _, by omega, by simp⟩
def WrtB (N : Nat) (y : Wrt) : Prop := y.k.length ≤ N ∧ y.v.length ≤ N
def OpB (N : Nat) (o : OV) : Prop := o.k.length ≤ N ∧ ∀ y ∈ o.b, WrtB N y
def I64 (n : Int) : Prop := -9223372036854775808 ≤ n ∧ n ≤ 9223372036854775807
def OpN (o : OV) : Prop := I64 o.c ∧ I64 o.h ∧ I64 o.u ∧ I64 o.m ∧ o.t < 2 ^ 64 ∧ o.b.length ≤ o.bc ∧ o.bc ≤ 9223372036854775807
theorem WrtB.mono {M N : Nat} {y : Wrt} (h : WrtB M y) (hl : M ≤ N) : WrtB N y := ⟨Nat.le_trans h.1 hl, Nat.le_trans h.2 hl⟩
theorem OpB.mono {M N : Nat} {o : OV} (h : OpB M o) (hl : M ≤ N) : OpB N o := ⟨Nat.le_trans h.1 hl, fun y hy => (h.2 y hy).mono hl⟩
theorem read_wrtB {H : Type} {enc : TypeId × Value → H} {w : World} (fuel : Nat) (cs : List Value) (x : DataW H × List MemPlace)
    (h : DataW.trod enc Tryz.prog w 0 (fun _ => true) true fuel 53 cs = some x) : ∃ c : Wrt, cs = wC c ∧ WrtB (Rows.uptoBulk x.1) c := by
  obtain ⟨xs, n, _, hxx, hl, hxl, hf⟩ := DataW.trod_struct Tryz.underlying53 h
  rw [cellsW] at hl
  match cs, hl with
  | [a, b, c], _ =>
    have g0 : DataW.trod enc Tryz.prog w 0 (fun _ => true) true n 9 (([a, b, c].drop 0).take (Tryz.prog.cellsOf 9)) = xs[0]? := hf 0 _ rfl
    rw [cellsS] at g0
    have g1 : DataW.trod enc Tryz.prog w 0 (fun _ => true) true n 9 (([a, b, c].drop 1).take (Tryz.prog.cellsOf 9)) = xs[1]? := hf 1 _ rfl
    rw [cellsS] at g1
    have g2 : DataW.trod enc Tryz.prog w 0 (fun _ => true) true n 4 (([a, b, c].drop 2).take (Tryz.prog.cellsOf 4)) = xs[2]? := hf 2 _ rfl
    rw [cellsB] at g2
    simp only [List.drop_zero, List.drop_succ_cons, List.take_succ_cons, List.take_zero] at g0 g1 g2
    have hx : xs.length = 3 := by rw [hxl]; rfl
    match xs, hx with
    | [y0, y1, y2], _ =>
      simp only [List.getElem?_cons_zero, List.getElem?_cons_succ] at g0 g1 g2
      obtain ⟨N, e0, x0, _⟩ := DataW.trod_string Tryz.underlying9 g0
      obtain ⟨K, e1, x1, _⟩ := DataW.trod_string Tryz.underlying9 g1
      obtain ⟨M, e2, _⟩ := DataW.trod_bool Tryz.underlying4 g2
      simp only [List.cons.injEq, and_true] at e0 e1 e2
      subst e0 e1 e2
      obtain ⟨k, rfl⟩ := str_of N
      obtain ⟨v, rfl⟩ := str_of K
      have b0 : Rows.uptoBulk y0.1 ≤ Rows.uptoBulk x.1 := by rw [congrArg Prod.fst hxx]; exact bulk_agg (by simp)
      have b1 : Rows.uptoBulk y1.1 ≤ Rows.uptoBulk x.1 := by rw [congrArg Prod.fst hxx]; exact bulk_agg (by simp)
      rw [congrArg Prod.fst x0] at b0
      rw [congrArg Prod.fst x1] at b1
      simp only [bulk_str] at b0 b1
      exact ⟨⟨k, v, M⟩, rfl, by show k.length ≤ _; omega, by show v.length ≤ _; omega⟩
theorem read_wrtsB {H : Type} {enc : TypeId × Value → H} {w : World} (fuel : Nat) (cs : List Value) (x : DataW H × List MemPlace)
    (h : DataW.trod enc Tryz.prog w 0 (fun _ => true) true fuel 27 cs = some x) : ∃ (A : Option Addr) (cap : Nat) (X : List Wrt), cs = [.slice A X.length cap] ∧ Lst w (.slice A X.length cap) X.length (wCs X) ∧ X.length ≤ cap ∧ cap ≤ 9223372036854775807 ∧ ∀ y ∈ X, WrtB (Rows.uptoBulk x.1) y := by
  obtain ⟨v, rfl, hsh⟩ : ∃ v, cs = [v] ∧ ∃ a0 len cap, v = .slice a0 len cap := by
    rcases Go.Deep.open_slice Tryz.underlying27 h with ⟨hcs, _⟩ | ⟨a, len', cap', m, n, D, Pl, hcs, _⟩
    · exact ⟨_, hcs, _, _, _, rfl⟩
    · exact ⟨_, hcs, _, _, _, rfl⟩
  have hT : DataW.Trod enc Tryz.prog w 0 (fun _ => true) true 27 v x.1 x.2 := by
    obtain ⟨a0, len, cap, rfl⟩ := hsh
    exact ⟨fuel, h⟩
  obtain ⟨A, cap, b, o, rows, rfl, hA, hx, hl, hm, hr⟩ := open_rowsB 3 (by omega) (fun cs d => ∃ c : Wrt, cs = wC c ∧ WrtB (Rows.uptoBulk d) c) Tryz.underlying27 cellsW (fun fuel cs x h => read_wrtB fuel cs x h) hsh hT
  obtain ⟨X, rfl, hX⟩ := rows_map wC (fun c => WrtB (Rows.uptoBulk x.1) c) rows (fun z hz => by
    obtain ⟨_, y, ⟨c, hc, hb⟩, hy⟩ := hr z hz
    exact ⟨c, hc, hb.mono hy⟩)
  simp only [List.length_map] at *
  exact ⟨A, cap, X, rfl, ⟨A, cap, b, o, rfl, hA, by rw [wCs, List.flatMap_def]; exact hx⟩, hl, hm, hX⟩
theorem read_opB {H : Type} {enc : TypeId × Value → H} {w : World} (fuel : Nat) (cs : List Value) (x : DataW H × List MemPlace)
    (h : DataW.trod enc Tryz.prog w 0 (fun _ => true) true fuel 29 cs = some x) : ∃ o : OV, cs = oC o ∧ OkB w o ∧ OpN o ∧ OpB (Rows.uptoBulk x.1) o := by
  obtain ⟨xs, n, _, hxx, hl, hxl, hf⟩ := DataW.trod_struct Tryz.underlying29 h
  rw [cellsO] at hl
  match cs, hl with
  | [a0, a1, a2, a3, a4, a5, a6], _ =>
    have g0 : DataW.trod enc Tryz.prog w 0 (fun _ => true) true n 3 (([a0, a1, a2, a3, a4, a5, a6].drop 0).take (Tryz.prog.cellsOf 3)) = xs[0]? := hf 0 _ rfl
    rw [cellsI] at g0
    have g1 : DataW.trod enc Tryz.prog w 0 (fun _ => true) true n 9 (([a0, a1, a2, a3, a4, a5, a6].drop 1).take (Tryz.prog.cellsOf 9)) = xs[1]? := hf 1 _ rfl
    rw [cellsS] at g1
    have g2 : DataW.trod enc Tryz.prog w 0 (fun _ => true) true n 22 (([a0, a1, a2, a3, a4, a5, a6].drop 2).take (Tryz.prog.cellsOf 22)) = xs[2]? := hf 2 _ rfl
    rw [cellsU] at g2
    have g3 : DataW.trod enc Tryz.prog w 0 (fun _ => true) true n 27 (([a0, a1, a2, a3, a4, a5, a6].drop 3).take (Tryz.prog.cellsOf 27)) = xs[3]? := hf 3 _ rfl
    rw [cellsWS] at g3
    have g4 : DataW.trod enc Tryz.prog w 0 (fun _ => true) true n 3 (([a0, a1, a2, a3, a4, a5, a6].drop 4).take (Tryz.prog.cellsOf 3)) = xs[4]? := hf 4 _ rfl
    rw [cellsI] at g4
    have g5 : DataW.trod enc Tryz.prog w 0 (fun _ => true) true n 3 (([a0, a1, a2, a3, a4, a5, a6].drop 5).take (Tryz.prog.cellsOf 3)) = xs[5]? := hf 5 _ rfl
    rw [cellsI] at g5
    have g6 : DataW.trod enc Tryz.prog w 0 (fun _ => true) true n 3 (([a0, a1, a2, a3, a4, a5, a6].drop 6).take (Tryz.prog.cellsOf 3)) = xs[6]? := hf 6 _ rfl
    rw [cellsI] at g6
    simp only [List.drop_zero, List.drop_succ_cons, List.take_succ_cons, List.take_zero] at g0 g1 g2 g3 g4 g5 g6
    have hx : xs.length = 7 := by rw [hxl]; rfl
    match xs, hx with
    | [y0, y1, y2, y3, y4, y5, y6], _ =>
      simp only [List.getElem?_cons_zero, List.getElem?_cons_succ] at g0 g1 g2 g3 g4 g5 g6
      obtain ⟨c, e0, _, w0⟩ := DataW.trod_int Tryz.underlying3 g0
      obtain ⟨K, e1, x1, _⟩ := DataW.trod_string Tryz.underlying9 g1
      obtain ⟨t, e2, _, w2⟩ := DataW.trod_int Tryz.underlying22 g2
      obtain ⟨bA, bc, X, e3, hL, hXl, hXm, hXB⟩ := read_wrtsB n _ _ g3
      obtain ⟨hd, e4, _, w4⟩ := DataW.trod_int Tryz.underlying3 g4
      obtain ⟨u, e5, _, w5⟩ := DataW.trod_int Tryz.underlying3 g5
      obtain ⟨m, e6, _, w6⟩ := DataW.trod_int Tryz.underlying3 g6
      simp only [List.cons.injEq, and_true] at e0 e1 e2 e3 e4 e5 e6
      subst e0 e1 e2 e3 e4 e5 e6
      obtain ⟨k, rfl⟩ := str_of K
      have q0 := bounds_i64 w0
      have q2 := bounds_u64 w2
      have q4 := bounds_i64 w4
      have q5 := bounds_i64 w5
      have q6 := bounds_i64 w6
      obtain ⟨t, rfl⟩ : ∃ q : Nat, t = (q : Int) := ⟨t.toNat, by omega⟩
      have b1 : Rows.uptoBulk y1.1 ≤ Rows.uptoBulk x.1 := by rw [congrArg Prod.fst hxx]; exact bulk_agg (by simp)
      have b3 : Rows.uptoBulk y3.1 ≤ Rows.uptoBulk x.1 := by rw [congrArg Prod.fst hxx]; exact bulk_agg (by simp)
      rw [congrArg Prod.fst x1] at b1
      simp only [bulk_str] at b1
      refine ⟨⟨c, k, t, bA, bc, X, hd, u, m⟩, rfl, hL, ⟨⟨q0.1, by show c ≤ _; omega⟩, ⟨q4.1, by show hd ≤ _; omega⟩, ⟨q5.1, by show u ≤ _; omega⟩, ⟨q6.1, by show m ≤ _; omega⟩, by show t < _; omega, hXl, hXm⟩, by show k.length ≤ _; omega, fun y hy => (hXB y hy).mono b3⟩
end Go.Proofs.YtbcgpjfejpcgnaaGreat.O
end
section
namespace Go.Proofs.YtbcgpjfejpcgnaaGreat.O
open Go.RowKit
set_option linter.unusedSectionVars false
set_option linter.unusedVariables false
set_option linter.unusedSimpArgs false
set_option maxRecDepth 20000
theorem results_blk2 {fn : Func} {p u : Tmp} {ty : TypeId} (h : fn.results = #[.cell p ty, .tmp u]) (tmps : Array Value) (w : World) (g : Nat) (cs : List Value) (d : Array Field)
    (hp : tmps.getD p undef = .pointer (some ⟨g, 0, none⟩)) (hb : Blk w g cs) (hu : Tryz.prog.underlying ty = some (.struct d)) (hi : (Tryz.prog.info? ty).map (·.size) = some cs.length) :
    (results fn tmps).run Tryz.prog w = .ok (.tuple #[.agg cs.toArray, tmps.getD u undef]) w := by
  obtain ⟨T, ht⟩ := hb
  rw [results_cell_tmp h, hp]
  have := run_loadVar_row (P := Tryz.prog) w g T ty cs.toArray _ (.struct d) ht hu rfl (by simpa using hi)
  simp [asAddr, Result.andThen, this]
end Go.Proofs.YtbcgpjfejpcgnaaGreat.O
end
section
namespace Go.Proofs.YtbcgpjfejpcgnaaGreat.O
open Go.RowKit
set_option linter.unusedSectionVars false
set_option linter.unusedVariables false
set_option linter.unusedSimpArgs false
set_option maxRecDepth 20000
set_option maxHeartbeats 4000000
def onlyV (x : OV) : OV :=
  if x.c = 1 then ⟨1, x.k, 0, none, 0, [], 0, 0, 0⟩ else
  if x.c = 2 then ⟨2, x.k, x.t, none, 0, [], 0, 0, 0⟩ else
  if x.c = 3 then ⟨3, [], 0, x.bA, x.bc, x.b, 0, 0, 0⟩ else
  if x.c = 4 then ⟨4, [], 0, none, 0, [], x.h, 0, 0⟩ else
  if x.c = 5 then ⟨5, [], 0, none, 0, [], x.h, 0, 0⟩ else
  if x.c = 6 then ⟨6, [], 0, none, 0, [], x.h, x.u, 0⟩ else
  if x.c = 7 then ⟨7, if x.m = 0 then x.k else [], 0, none, 0, [], 0, x.u, x.m⟩ else
  if x.c = 8 then ⟨8, [], 0, none, 0, [], 0, x.u, 0⟩ else
  if x.c = 9 then ⟨9, [], 0, none, 0, [], 0, 0, 0⟩ else ⟨0, [], 0, none, 0, [], 0, 0, 0⟩
def OnlyQ (w : World) (x : OV) (q : Ending) (w' : World) : Prop := Keeps [] w w' ∧ ∃ y, y = onlyV x ∧ q = .returned (.tuple #[.agg #[.int .i64 y.c, .string ⟨y.k.toArray⟩, .int .u64 (y.t : Int), .slice y.bA y.b.length y.bc, .int .i64 y.h, .int .i64 y.u, .int .i64 y.m], .bool (decide (1 ≤ x.c ∧ x.c ≤ 9))])
theorem only_any (x : OV) (w : World) : Calls Tryz.prog 18 #[.agg #[.int .i64 x.c, .string ⟨x.k.toArray⟩, .int .u64 (x.t : Int), .slice x.bA x.b.length x.bc, .int .i64 x.h, .int .i64 x.u, .int .i64 x.m]] w (OnlyQ w x) := by
  by_cases hr : 1 ≤ x.c ∧ x.c ≤ 9
  · have hd : decide (1 ≤ x.c ∧ x.c ≤ 9) = true := decide_eq_true hr
    unfold OnlyQ
    rw [hd]
    obtain hc | hc | hc | hc | hc | hc | hc | hc | hc : x.c = 1 ∨ x.c = 2 ∨ x.c = 3 ∨ x.c = 4 ∨ x.c = 5 ∨ x.c = 6 ∨ x.c = 7 ∨ x.c = 8 ∨ x.c = 9 := by omega
    · have ho : onlyV x = ⟨1, x.k, 0, none, 0, [], 0, 0, 0⟩ := by simp [onlyV, hc]
      clear hr hd
      go_enter Tryz.func18, Tryz.ntmps18
      go_wp2_with fail
      refine bodyPost_ret (results_blk2 (cs := [.int .i64 1, .string ⟨x.k.toArray⟩, .int .u64 0, .slice none 0 0, .int .i64 0, .int .i64 0, .int .i64 0]) rfl _ _ (w.heap.size + 1) _ rfl ((Blk.new_at _ (w.heap.size + 1) _ 29 (by simp)).alloc _) Tryz.underlying29 sizO) rfl ?_
      first | exact ⟨(((Keeps.refl [] w).alloc _).alloc _).alloc _, _, ho.symm, by first | rfl | simp⟩ | exact ⟨((((Keeps.refl [] w).alloc _).alloc _).alloc _).drew, _, ho.symm, by first | rfl | simp⟩
    · have ho : onlyV x = ⟨2, x.k, x.t, none, 0, [], 0, 0, 0⟩ := by simp [onlyV, hc]
      clear hr hd
      go_enter Tryz.func18, Tryz.ntmps18
      go_wp2_with fail
      go_region
      all_goals go_wp2_with fail
      all_goals
        refine bodyPost_ret (results_blk2 (cs := [.int .i64 2, .string ⟨x.k.toArray⟩, .int .u64 (x.t : Int), .slice none 0 0, .int .i64 0, .int .i64 0, .int .i64 0]) rfl _ _ (w.heap.size + 1) _ rfl ((Blk.new_at _ (w.heap.size + 1) _ 29 (by simp)).alloc _) Tryz.underlying29 sizO) rfl ?_
        first | exact ⟨(((Keeps.refl [] w).alloc _).alloc _).alloc _, _, ho.symm, by first | rfl | simp⟩ | exact ⟨((((Keeps.refl [] w).alloc _).alloc _).alloc _).drew, _, ho.symm, by first | rfl | simp⟩
    · have ho : onlyV x = ⟨3, [], 0, x.bA, x.bc, x.b, 0, 0, 0⟩ := by simp [onlyV, hc]
      clear hr hd
      go_enter Tryz.func18, Tryz.ntmps18
      go_wp2_with fail
      refine bodyPost_ret (results_blk2 (cs := [.int .i64 3, .string ⟨#[]⟩, .int .u64 0, .slice x.bA x.b.length x.bc, .int .i64 0, .int .i64 0, .int .i64 0]) rfl _ _ (w.heap.size + 1) _ rfl ((Blk.new_at _ (w.heap.size + 1) _ 29 (by simp)).alloc _) Tryz.underlying29 sizO) rfl ?_
      first | exact ⟨(((Keeps.refl [] w).alloc _).alloc _).alloc _, _, ho.symm, by first | rfl | simp⟩ | exact ⟨((((Keeps.refl [] w).alloc _).alloc _).alloc _).drew, _, ho.symm, by first | rfl | simp⟩
    · have ho : onlyV x = ⟨4, [], 0, none, 0, [], x.h, 0, 0⟩ := by simp [onlyV, hc]
      clear hr hd
      go_enter Tryz.func18, Tryz.ntmps18
      go_wp2_with fail
      refine bodyPost_ret (results_blk2 (cs := [.int .i64 4, .string ⟨#[]⟩, .int .u64 0, .slice none 0 0, .int .i64 x.h, .int .i64 0, .int .i64 0]) rfl _ _ (w.heap.size + 1) _ rfl ((Blk.new_at _ (w.heap.size + 1) _ 29 (by simp)).alloc _) Tryz.underlying29 sizO) rfl ?_
      first | exact ⟨(((Keeps.refl [] w).alloc _).alloc _).alloc _, _, ho.symm, by first | rfl | simp⟩ | exact ⟨((((Keeps.refl [] w).alloc _).alloc _).alloc _).drew, _, ho.symm, by first | rfl | simp⟩
    · have ho : onlyV x = ⟨5, [], 0, none, 0, [], x.h, 0, 0⟩ := by simp [onlyV, hc]
      clear hr hd
      go_enter Tryz.func18, Tryz.ntmps18
      go_wp2_with fail
      refine bodyPost_ret (results_blk2 (cs := [.int .i64 5, .string ⟨#[]⟩, .int .u64 0, .slice none 0 0, .int .i64 x.h, .int .i64 0, .int .i64 0]) rfl _ _ (w.heap.size + 1) _ rfl ((Blk.new_at _ (w.heap.size + 1) _ 29 (by simp)).alloc _) Tryz.underlying29 sizO) rfl ?_
      first | exact ⟨(((Keeps.refl [] w).alloc _).alloc _).alloc _, _, ho.symm, by first | rfl | simp⟩ | exact ⟨((((Keeps.refl [] w).alloc _).alloc _).alloc _).drew, _, ho.symm, by first | rfl | simp⟩
    · have ho : onlyV x = ⟨6, [], 0, none, 0, [], x.h, x.u, 0⟩ := by simp [onlyV, hc]
      clear hr hd
      go_enter Tryz.func18, Tryz.ntmps18
      go_wp2_with fail
      go_region
      all_goals go_wp2_with fail
      all_goals
        refine bodyPost_ret (results_blk2 (cs := [.int .i64 6, .string ⟨#[]⟩, .int .u64 0, .slice none 0 0, .int .i64 x.h, .int .i64 x.u, .int .i64 0]) rfl _ _ (w.heap.size + 1) _ rfl ((Blk.new_at _ (w.heap.size + 1) _ 29 (by simp)).alloc _) Tryz.underlying29 sizO) rfl ?_
        first | exact ⟨(((Keeps.refl [] w).alloc _).alloc _).alloc _, _, ho.symm, by first | rfl | simp⟩ | exact ⟨((((Keeps.refl [] w).alloc _).alloc _).alloc _).drew, _, ho.symm, by first | rfl | simp⟩
    · by_cases hm : x.m = 0
      · have ho : onlyV x = ⟨7, x.k, 0, none, 0, [], 0, x.u, 0⟩ := by simp [onlyV, hc, hm]
        clear hr hd
        go_enter Tryz.func18, Tryz.ntmps18
        go_wp2_with fail
        go_region
        all_goals go_wp2_with fail
        all_goals
          refine bodyPost_ret (results_blk2 (cs := [.int .i64 7, .string ⟨x.k.toArray⟩, .int .u64 0, .slice none 0 0, .int .i64 0, .int .i64 x.u, .int .i64 0]) rfl _ _ (w.heap.size + 1) _ rfl ((Blk.new_at _ (w.heap.size + 1) _ 29 (by simp)).alloc _) Tryz.underlying29 sizO) rfl ?_
          first | exact ⟨(((Keeps.refl [] w).alloc _).alloc _).alloc _, _, ho.symm, by first | rfl | simp⟩ | exact ⟨((((Keeps.refl [] w).alloc _).alloc _).alloc _).drew, _, ho.symm, by first | rfl | simp⟩
      · have ho : onlyV x = ⟨7, [], 0, none, 0, [], 0, x.u, x.m⟩ := by simp [onlyV, hc, hm]
        clear hr hd
        go_enter Tryz.func18, Tryz.ntmps18
        go_wp2_with fail
        go_region
        all_goals go_wp2_with fail
        all_goals
          refine bodyPost_ret (results_blk2 (cs := [.int .i64 7, .string ⟨#[]⟩, .int .u64 0, .slice none 0 0, .int .i64 0, .int .i64 x.u, .int .i64 x.m]) rfl _ _ (w.heap.size + 1) _ rfl ((Blk.new_at _ (w.heap.size + 1) _ 29 (by simp)).alloc _) Tryz.underlying29 sizO) rfl ?_
          first | exact ⟨(((Keeps.refl [] w).alloc _).alloc _).alloc _, _, ho.symm, by first | rfl | simp⟩ | exact ⟨((((Keeps.refl [] w).alloc _).alloc _).alloc _).drew, _, ho.symm, by first | rfl | simp⟩
    · have ho : onlyV x = ⟨8, [], 0, none, 0, [], 0, x.u, 0⟩ := by simp [onlyV, hc]
      clear hr hd
      go_enter Tryz.func18, Tryz.ntmps18
      go_wp2_with fail
      refine bodyPost_ret (results_blk2 (cs := [.int .i64 8, .string ⟨#[]⟩, .int .u64 0, .slice none 0 0, .int .i64 0, .int .i64 x.u, .int .i64 0]) rfl _ _ (w.heap.size + 1) _ rfl ((Blk.new_at _ (w.heap.size + 1) _ 29 (by simp)).alloc _) Tryz.underlying29 sizO) rfl ?_
      first | exact ⟨(((Keeps.refl [] w).alloc _).alloc _).alloc _, _, ho.symm, by first | rfl | simp⟩ | exact ⟨((((Keeps.refl [] w).alloc _).alloc _).alloc _).drew, _, ho.symm, by first | rfl | simp⟩
    · have ho : onlyV x = ⟨9, [], 0, none, 0, [], 0, 0, 0⟩ := by simp [onlyV, hc]
      clear hr hd
      go_enter Tryz.func18, Tryz.ntmps18
      go_wp2_with fail
      refine bodyPost_ret (results_blk2 (cs := [.int .i64 9, .string ⟨#[]⟩, .int .u64 0, .slice none 0 0, .int .i64 0, .int .i64 0, .int .i64 0]) rfl _ _ (w.heap.size + 1) _ rfl ((Blk.new_at _ (w.heap.size + 1) _ 29 (by simp)).alloc _) Tryz.underlying29 sizO) rfl ?_
      first | exact ⟨(((Keeps.refl [] w).alloc _).alloc _).alloc _, _, ho.symm, by first | rfl | simp⟩ | exact ⟨((((Keeps.refl [] w).alloc _).alloc _).alloc _).drew, _, ho.symm, by first | rfl | simp⟩
  · have hd : decide (1 ≤ x.c ∧ x.c ≤ 9) = false := decide_eq_false hr
    unfold OnlyQ
    rw [hd]
    have h1 : ¬ x.c = 1 := by omega
    have h2 : ¬ x.c = 2 := by omega
    have h3 : ¬ x.c = 3 := by omega
    have h4 : ¬ x.c = 4 := by omega
    have h5 : ¬ x.c = 5 := by omega
    have h6 : ¬ x.c = 6 := by omega
    have h7 : ¬ x.c = 7 := by omega
    have h8 : ¬ x.c = 8 := by omega
    have h9 : ¬ x.c = 9 := by omega
    have ho : onlyV x = ⟨0, [], 0, none, 0, [], 0, 0, 0⟩ := by simp [onlyV, *]
    clear hr hd
    go_enter Tryz.func18, Tryz.ntmps18
    go_wp2_with fail
    refine bodyPost_ret (results_blk2 (cs := [.int .i64 0, .string ⟨#[]⟩, .int .u64 0, .slice none 0 0, .int .i64 0, .int .i64 0, .int .i64 0]) rfl _ _ (w.heap.size + 1) _ rfl ((Blk.new_at _ (w.heap.size + 1) _ 29 (by simp)).alloc _) Tryz.underlying29 sizO) rfl ?_
    first | exact ⟨(((Keeps.refl [] w).alloc _).alloc _).alloc _, _, ho.symm, by first | rfl | simp⟩ | exact ⟨((((Keeps.refl [] w).alloc _).alloc _).alloc _).drew, _, ho.symm, by first | rfl | simp⟩
end Go.Proofs.YtbcgpjfejpcgnaaGreat.O
end
section
namespace Go.Proofs.YtbcgpjfejpcgnaaGreat.O
set_option linter.unusedVariables false
set_option linter.unusedSimpArgs false
def zrB (z : Opn) : Bool := match z.c with
  | 1 => decide (z.t = 0) && decide (z.h = 0) && decide (z.u = 0) && decide (z.m = 0)
  | 2 => decide (z.h = 0) && decide (z.u = 0) && decide (z.m = 0)
  | 3 => decide (z.k = []) && decide (z.t = 0) && decide (z.h = 0) && decide (z.u = 0) && decide (z.m = 0)
  | 4 => decide (z.k = []) && decide (z.t = 0) && decide (z.u = 0) && decide (z.m = 0)
  | 5 => decide (z.k = []) && decide (z.t = 0) && decide (z.u = 0) && decide (z.m = 0)
  | 6 => decide (z.k = []) && decide (z.t = 0) && decide (z.m = 0)
  | 7 => (decide (z.k = []) || decide (z.m = 0)) && decide (z.t = 0) && decide (z.h = 0)
  | 8 => decide (z.k = []) && decide (z.t = 0) && decide (z.h = 0) && decide (z.m = 0)
  | 9 => decide (z.k = []) && decide (z.t = 0) && decide (z.h = 0) && decide (z.u = 0) && decide (z.m = 0)
  | _ => false
def vOp (sn : Int) (z : Opn) : Bool :=
  zrB z && (decide (z.c = 3) || decide (z.b.length = 0)) && (decide (0 ≤ z.h) && decide (z.h < sn)) && (decide (0 ≤ z.u) && decide (z.u < 8)) && (decide (0 ≤ z.m) && decide (z.m < 5))
theorem vOp_code {sn : Int} {z : Opn} (h : vOp sn z = true) : 1 ≤ z.c ∧ z.c ≤ 9 := by
  simp only [vOp, Bool.and_eq_true] at h
  have h1 := h.1.1.1.1
  unfold zrB at h1
  split at h1
  all_goals first | omega | (simp at h1)
end Go.Proofs.YtbcgpjfejpcgnaaGreat.O
end
section
namespace Go.Proofs.YtbcgpjfejpcgnaaGreat.O
open Go.RowKit
set_option linter.unusedSectionVars false
set_option linter.unusedVariables false
set_option linter.unusedSimpArgs false
set_option maxRecDepth 20000
set_option maxHeartbeats 4000000
theorem inside_any (n lim : Int) (w : World) : Calls Tryz.prog 57 #[.int .i64 n, .int .i64 lim] w fun q w' => q = .returned (.bool (decide (0 ≤ n) && decide (n < lim))) ∧ w = w' := by
  by_cases h : 0 ≤ n
  · by_cases h2 : n < lim
    · have e : (decide (0 ≤ n) && decide (n < lim)) = true := by simp [h, h2]
      rw [e]
      go_enter Tryz.func57, Tryz.ntmps57
      go_wp2
      go_ret
      exact ⟨rfl, rfl⟩
    · have e : (decide (0 ≤ n) && decide (n < lim)) = false := by simp [h2]
      rw [e]
      go_enter Tryz.func57, Tryz.ntmps57
      go_wp2
      go_ret
      exact ⟨rfl, rfl⟩
  · have e : (decide (0 ≤ n) && decide (n < lim)) = false := by simp [h]
    rw [e]
    go_enter Tryz.func57, Tryz.ntmps57
    go_wp2
    go_ret
    exact ⟨rfl, rfl⟩
theorem cliValid_any (T S N C R F K : Int) (x : OV) (w : World) :
    Calls Tryz.prog 42 #[.agg #[.int .i64 T, .int .i64 S, .int .i64 N, .int .i64 C, .int .i64 R, .int .i64 F, .int .u64 K], .agg #[.int .i64 x.c, .string ⟨x.k.toArray⟩, .int .u64 (x.t : Int), .slice x.bA x.b.length x.bc, .int .i64 x.h, .int .i64 x.u, .int .i64 x.m]] w fun q w' => q = .returned (.bool (vOp S x.op)) ∧ Keeps [] w w' := by
  go_enter Tryz.func42, Tryz.ntmps42
  go_upto_block 0 with fail
  go_cut [1, 4, 6, 8, 16] from 17 to 46 (fun _ s4 s6 _ _ wx => s4 = .bool false ∧ ∃ (k' : Str) (t' : Nat) (h' u' m' : Int) (bb : Bool), s6 = .bool bb ∧ wx = ((w.alloc (.cells #[.int .i64 T, .int .i64 S, .int .i64 N, .int .i64 C, .int .i64 R, .int .i64 F, .int .u64 K] 24)).alloc (.cells #[.int .i64 x.c, .string ⟨x.k.toArray⟩, .int .u64 (x.t : Int), .slice x.bA x.b.length x.bc, .int .i64 x.h, .int .i64 x.u, .int .i64 x.m] 29)).alloc (.cells #[.int .i64 0, .string ⟨k'.toArray⟩, .int .u64 (t' : Int), .slice none 0 0, .int .i64 h', .int .i64 u', .int .i64 m'] 29) ∧
    Hid (vOp S x.op = (decide (k' = []) && decide (t' = 0) && decide (h' = 0) && decide (u' = 0) && decide (m' = 0) && !bb && (decide (0 ≤ x.h) && decide (x.h < S)) && (decide (0 ≤ x.u) && decide (x.u < 8)) && (decide (0 ≤ x.m) && decide (x.m < 5)))))
  case first =>
    by_cases hr : 1 ≤ x.c ∧ x.c ≤ 9
    · obtain hc | hc | hc | hc | hc | hc | hc | hc | hc : x.c = 1 ∨ x.c = 2 ∨ x.c = 3 ∨ x.c = 4 ∨ x.c = 5 ∨ x.c = 6 ∨ x.c = 7 ∨ x.c = 8 ∨ x.c = 9 := by omega
      · have hvm : vOp S x.op = (decide (([] : Str) = []) && decide ((x.t : Nat) = 0) && decide ((x.h : Int) = 0) && decide ((x.u : Int) = 0) && decide ((x.m : Int) = 0) && !(decide (0 < x.b.length)) && (decide (0 ≤ x.h) && decide (x.h < S)) && (decide (0 ≤ x.u) && decide (x.u < 8)) && (decide (0 ≤ x.m) && decide (x.m < 5))) := by
          simp [vOp, zrB, OV.op, hc]
          cases hb : x.b with
          | nil => simp
          | cons a l => simp
        have HV := Lib.hid hvm
        clear hvm
        go_wp2_with fail
        go_meet
        exact ⟨rfl, [], x.t, x.h, x.u, x.m, decide (0 < x.b.length), rfl, by rw [hc] <;> rfl, HV⟩
      · have hvm : vOp S x.op = (decide (([] : Str) = []) && decide ((0 : Nat) = 0) && decide ((x.h : Int) = 0) && decide ((x.u : Int) = 0) && decide ((x.m : Int) = 0) && !(decide (0 < x.b.length)) && (decide (0 ≤ x.h) && decide (x.h < S)) && (decide (0 ≤ x.u) && decide (x.u < 8)) && (decide (0 ≤ x.m) && decide (x.m < 5))) := by
          simp [vOp, zrB, OV.op, hc]
          cases hb : x.b with
          | nil => simp
          | cons a l => simp
        have HV := Lib.hid hvm
        clear hvm
        go_wp2_with fail
        go_meet
        exact ⟨rfl, [], 0, x.h, x.u, x.m, decide (0 < x.b.length), rfl, by rw [hc] <;> rfl, HV⟩
      · have hvm : vOp S x.op = (decide ((x.k : Str) = []) && decide ((x.t : Nat) = 0) && decide ((x.h : Int) = 0) && decide ((x.u : Int) = 0) && decide ((x.m : Int) = 0) && !(false) && (decide (0 ≤ x.h) && decide (x.h < S)) && (decide (0 ≤ x.u) && decide (x.u < 8)) && (decide (0 ≤ x.m) && decide (x.m < 5))) := by
          simp [vOp, zrB, OV.op, hc]
        have HV := Lib.hid hvm
        clear hvm
        go_wp2_with fail
        go_meet
        exact ⟨rfl, x.k, x.t, x.h, x.u, x.m, false, rfl, by rw [hc] <;> rfl, HV⟩
      · have hvm : vOp S x.op = (decide ((x.k : Str) = []) && decide ((x.t : Nat) = 0) && decide ((0 : Int) = 0) && decide ((x.u : Int) = 0) && decide ((x.m : Int) = 0) && !(decide (0 < x.b.length)) && (decide (0 ≤ x.h) && decide (x.h < S)) && (decide (0 ≤ x.u) && decide (x.u < 8)) && (decide (0 ≤ x.m) && decide (x.m < 5))) := by
          simp [vOp, zrB, OV.op, hc]
          cases hb : x.b with
          | nil => simp
          | cons a l => simp
        have HV := Lib.hid hvm
        clear hvm
        go_wp2_with fail
        go_meet
        exact ⟨rfl, x.k, x.t, 0, x.u, x.m, decide (0 < x.b.length), rfl, by rw [hc] <;> rfl, HV⟩
      · have hvm : vOp S x.op = (decide ((x.k : Str) = []) && decide ((x.t : Nat) = 0) && decide ((0 : Int) = 0) && decide ((x.u : Int) = 0) && decide ((x.m : Int) = 0) && !(decide (0 < x.b.length)) && (decide (0 ≤ x.h) && decide (x.h < S)) && (decide (0 ≤ x.u) && decide (x.u < 8)) && (decide (0 ≤ x.m) && decide (x.m < 5))) := by
          simp [vOp, zrB, OV.op, hc]
          cases hb : x.b with
          | nil => simp
          | cons a l => simp
        have HV := Lib.hid hvm
        clear hvm
        go_wp2_with fail
        go_meet
        exact ⟨rfl, x.k, x.t, 0, x.u, x.m, decide (0 < x.b.length), rfl, by rw [hc] <;> rfl, HV⟩
      · have hvm : vOp S x.op = (decide ((x.k : Str) = []) && decide ((x.t : Nat) = 0) && decide ((0 : Int) = 0) && decide ((0 : Int) = 0) && decide ((x.m : Int) = 0) && !(decide (0 < x.b.length)) && (decide (0 ≤ x.h) && decide (x.h < S)) && (decide (0 ≤ x.u) && decide (x.u < 8)) && (decide (0 ≤ x.m) && decide (x.m < 5))) := by
          simp [vOp, zrB, OV.op, hc]
          cases hb : x.b with
          | nil => simp
          | cons a l => simp
        have HV := Lib.hid hvm
        clear hvm
        go_wp2_with fail
        go_meet
        exact ⟨rfl, x.k, x.t, 0, 0, x.m, decide (0 < x.b.length), rfl, by rw [hc] <;> rfl, HV⟩
      · have hvm : vOp S x.op = ((decide (x.k = []) || decide (x.m = 0)) && decide (x.t = 0) && decide (x.h = 0) && !(decide (0 < x.b.length)) && (decide (0 ≤ x.h) && decide (x.h < S)) && (decide (0 ≤ x.u) && decide (x.u < 8)) && (decide (0 ≤ x.m) && decide (x.m < 5))) := by
          simp [vOp, zrB, OV.op, hc]
          cases hb : x.b with
          | nil => simp
          | cons a l => simp
        have HV := Lib.hid hvm
        clear hvm
        by_cases hm : x.m = 0
        · go_wp2_with fail
          go_meet
          refine ⟨rfl, [], x.t, x.h, 0, 0, decide (0 < x.b.length), rfl, by rw [hc, hm] <;> rfl, Lib.hid ?_⟩
          rw [HV.out]
          simp [hm]
        · go_wp2_with fail
          go_meet
          refine ⟨rfl, x.k, x.t, x.h, 0, 0, decide (0 < x.b.length), rfl, by rw [hc], Lib.hid ?_⟩
          rw [HV.out]
          simp [hm]
      · have hvm : vOp S x.op = (decide ((x.k : Str) = []) && decide ((x.t : Nat) = 0) && decide ((x.h : Int) = 0) && decide ((0 : Int) = 0) && decide ((x.m : Int) = 0) && !(decide (0 < x.b.length)) && (decide (0 ≤ x.h) && decide (x.h < S)) && (decide (0 ≤ x.u) && decide (x.u < 8)) && (decide (0 ≤ x.m) && decide (x.m < 5))) := by
          simp [vOp, zrB, OV.op, hc]
          cases hb : x.b with
          | nil => simp
          | cons a l => simp
        have HV := Lib.hid hvm
        clear hvm
        go_wp2_with fail
        go_meet
        exact ⟨rfl, x.k, x.t, x.h, 0, x.m, decide (0 < x.b.length), rfl, by rw [hc] <;> rfl, HV⟩
      · have hvm : vOp S x.op = (decide ((x.k : Str) = []) && decide ((x.t : Nat) = 0) && decide ((x.h : Int) = 0) && decide ((x.u : Int) = 0) && decide ((x.m : Int) = 0) && !(decide (0 < x.b.length)) && (decide (0 ≤ x.h) && decide (x.h < S)) && (decide (0 ≤ x.u) && decide (x.u < 8)) && (decide (0 ≤ x.m) && decide (x.m < 5))) := by
          simp [vOp, zrB, OV.op, hc]
          cases hb : x.b with
          | nil => simp
          | cons a l => simp
        have HV := Lib.hid hvm
        clear hvm
        go_wp2_with fail
        go_meet
        exact ⟨rfl, x.k, x.t, x.h, x.u, x.m, decide (0 < x.b.length), rfl, by rw [hc] <;> rfl, HV⟩
    · have hv : vOp S x.op = false := by
        cases h : vOp S x.op with
        | false => rfl
        | true =>
          have := vOp_code h
          simp only [OV.op] at this
          omega
      have h1 : ¬ x.c = 1 := by omega
      have h2 : ¬ x.c = 2 := by omega
      have h3 : ¬ x.c = 3 := by omega
      have h4 : ¬ x.c = 4 := by omega
      have h5 : ¬ x.c = 5 := by omega
      have h6 : ¬ x.c = 6 := by omega
      have h7 : ¬ x.c = 7 := by omega
      have h8 : ¬ x.c = 8 := by omega
      have h9 : ¬ x.c = 9 := by omega
      clear hr
      go_wp2_with fail
      go_ret
      exact ⟨by first | rfl | (rw [hv]; rfl), (((Keeps.refl [] w).alloc _).alloc _).alloc _⟩
  case rest =>
    obtain ⟨rfl, k', t', h', u', m', bb, rfl, rfl, HV⟩ := hcut
    by_cases hk : k' = []
    · subst hk
      by_cases h1 : t' = 0
      · subst h1
        by_cases h2 : h' = 0
        · subst h2
          by_cases h3 : u' = 0
          · subst h3
            by_cases h4 : m' = 0
            · subst h4
              cases bb with
              | true =>
                have hv : vOp S x.op = false := by rw [HV.out]; simp
                go_wp2_with fail
                go_ret
                exact ⟨by first | rfl | (rw [hv]; rfl), (((Keeps.refl [] w).alloc _).alloc _).alloc _⟩
              | false =>
                go_wp2_with fail
                refine (inside_any x.h S _).mono ?_
                rintro q w1 ⟨rfl, rfl⟩
                by_cases g1 : 0 ≤ x.h ∧ x.h < S
                · have G1 : (decide (0 ≤ x.h) && decide (x.h < S)) = true := by simp [g1.1, g1.2]
                  rw [G1]
                  go_wp2_with fail
                  refine (inside_any x.u 8 _).mono ?_
                  rintro q w1 ⟨rfl, rfl⟩
                  by_cases g2 : 0 ≤ x.u ∧ x.u < 8
                  · have G2 : (decide (0 ≤ x.u) && decide (x.u < 8)) = true := by simp [g2.1, g2.2]
                    rw [G2]
                    go_wp2_with fail
                    refine (inside_any x.m 5 _).mono ?_
                    rintro q w1 ⟨rfl, rfl⟩
                    go_wp2_with fail
                    go_ret
                    exact ⟨by rw [HV.out]; simp [G1, G2, g1.1, g1.2, g2.1, g2.2], (((Keeps.refl [] w).alloc _).alloc _).alloc _⟩
                  · have G2 : (decide (0 ≤ x.u) && decide (x.u < 8)) = false := by simp only [Bool.and_eq_false_iff, decide_eq_false_iff_not]; omega
                    rw [G2]
                    go_wp2_with fail
                    go_ret
                    exact ⟨by rw [HV.out]; simp [G2], (((Keeps.refl [] w).alloc _).alloc _).alloc _⟩
                · have G1 : (decide (0 ≤ x.h) && decide (x.h < S)) = false := by simp only [Bool.and_eq_false_iff, decide_eq_false_iff_not]; omega
                  rw [G1]
                  go_wp2_with fail
                  go_ret
                  exact ⟨by rw [HV.out]; simp [G1], (((Keeps.refl [] w).alloc _).alloc _).alloc _⟩
            · have hv : vOp S x.op = false := by rw [HV.out]; simp [h4]
              go_wp2_with fail
              go_ret
              exact ⟨by first | rfl | (rw [hv]; rfl), (((Keeps.refl [] w).alloc _).alloc _).alloc _⟩
          · have hv : vOp S x.op = false := by rw [HV.out]; simp [h3]
            go_wp2_with fail
            go_ret
            exact ⟨by first | rfl | (rw [hv]; rfl), (((Keeps.refl [] w).alloc _).alloc _).alloc _⟩
        · have hv : vOp S x.op = false := by rw [HV.out]; simp [h2]
          go_wp2_with fail
          go_ret
          exact ⟨by first | rfl | (rw [hv]; rfl), (((Keeps.refl [] w).alloc _).alloc _).alloc _⟩
      · have hv : vOp S x.op = false := by rw [HV.out]; simp [h1]
        go_wp2_with fail
        go_ret
        exact ⟨by first | rfl | (rw [hv]; rfl), (((Keeps.refl [] w).alloc _).alloc _).alloc _⟩
    · have hv : vOp S x.op = false := by rw [HV.out]; simp [hk]
      have hkk : ¬ (⟨k'.toArray⟩ : ByteArray) = ⟨#[]⟩ := fun he => hk (by have := congrArg (fun b => b.data.toList) he; simpa using this)
      go_wp2_with fail
      go_ret
      exact ⟨by first | rfl | (rw [hv]; rfl), (((Keeps.refl [] w).alloc _).alloc _).alloc _⟩
end Go.Proofs.YtbcgpjfejpcgnaaGreat.O
end
section
namespace Go.Proofs.YtbcgpjfejpcgnaaGreat.O
open Go.RowKit
def cfgB (T S N C R F K : Int) : Bool := decide ((1 ≤ T ∧ T ≤ 64) ∧ (1 ≤ S ∧ S ≤ 8) ∧ (1 ≤ N ∧ N ≤ 4096) ∧ (1 ≤ C ∧ C ≤ 16384) ∧ (1 ≤ R ∧ R ≤ 65536) ∧ (4 ≤ F ∧ F ≤ 32) ∧ (1 ≤ K ∧ K ≤ 1099511627776))
theorem cfgB_yes {T S N C R F K : Int} (h : CfgOK T S N C R F K) : cfgB T S N C R F K = true := decide_eq_true ⟨⟨h.T0, h.T1⟩, ⟨h.S0, h.S1⟩, ⟨h.N0, h.N1⟩, ⟨h.C0, h.C1⟩, ⟨h.R0, h.R1⟩, ⟨h.F0, h.F1⟩, h.K0, h.K1⟩
theorem cfgB_no {T S N C R F K : Int} (h : ¬ CfgOK T S N C R F K) : cfgB T S N C R F K = false := decide_eq_false fun ⟨⟨a, b⟩, ⟨c, d⟩, ⟨e, f⟩, ⟨g, i⟩, ⟨j, k⟩, ⟨l, m⟩, n, o⟩ => h ⟨a, b, c, d, e, f, g, i, j, k, l, m, n, o⟩
end Go.Proofs.YtbcgpjfejpcgnaaGreat.O
end
