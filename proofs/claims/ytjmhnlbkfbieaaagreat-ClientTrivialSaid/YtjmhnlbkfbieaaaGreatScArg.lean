/- Arguments of the types []api.Op, api.Op, []uint8 and []byte, opened, with what their bulk says of the strings. -/
import Derived.Test.YtjmhnlbkfbieaaaGreatRows
import Derived.Test.YtjmhnlbkfbieaaaGreatFrame
import Derived.Test.YtjmhnlbkfbieaaaGreatScrJ
import Derived.SizedLaws
namespace Go.Proofs.YtjmhnlbkfbieaaaGreat
open Go.ChangeShapes Go.WideShapes Go.ChangeAt Go.RowKit
set_option linter.unusedSectionVars false
set_option linter.unusedVariables false
set_option linter.unusedSimpArgs false
set_option maxRecDepth 100000
theorem bulk_mem {H : Type} {d : DataW H} {l : List (DataW H)} (h : d ∈ l) : Rows.uptoBulk d ≤ Rows.uptoBulkAll l := by
  induction l with
  | nil => cases h
  | cons x r ih =>
    simp only [Rows.uptoBulkAll]
    cases List.mem_cons.1 h with
    | inl e => subst e; omega
    | inr e => have := ih e; omega
theorem bulk_slice {H : Type} {d : DataW H} {elems spare : List (DataW H)} (h : d ∈ elems) : Rows.uptoBulk d ≤ Rows.uptoBulk (.slice elems spare) := by
  have := bulk_mem h
  simp only [Rows.uptoBulk]
  omega
theorem bulk_agg {H : Type} {d : DataW H} {parts : List (DataW H)} (h : d ∈ parts) : Rows.uptoBulk d ≤ Rows.uptoBulk (.agg parts) := by
  have := bulk_mem h
  simp only [Rows.uptoBulk]
  omega
theorem bulk_str {H : Type} (k : Str) : Rows.uptoBulk (DataW.lit (H := H) (.string k)) = k.length + 1 := by
  simp [Rows.uptoBulk]
theorem cellsW : Tryz.prog.cellsOf 45 = 3 := by kernel_rfl
theorem cellsS : Tryz.prog.cellsOf 9 = 1 := by kernel_rfl
theorem cellsB : Tryz.prog.cellsOf 4 = 1 := by kernel_rfl
theorem cellsI : Tryz.prog.cellsOf 3 = 1 := by kernel_rfl
theorem cellsU : Tryz.prog.cellsOf 22 = 1 := by kernel_rfl
theorem cellsU8 : Tryz.prog.cellsOf 5 = 1 := by kernel_rfl
theorem cellsWS : Tryz.prog.cellsOf 23 = 1 := by kernel_rfl
theorem cellsO : Tryz.prog.cellsOf 25 = 7 := by kernel_rfl
theorem str_of (s : ByteArray) : ∃ k : Str, s = ⟨k.toArray⟩ := ⟨s.data.toList, by cases s; simp⟩
theorem open_rowsB {H : Type} {enc : TypeId × Value → H} {P : Program} {w : World} {t e : TypeId} {v : Value} {d : DataW H} {p : List MemPlace} (sz : Nat) (hsz : 0 < sz) (R : List Value → DataW H → Prop)
    (ht : P.underlying t = some (.slice e)) (hc : P.cellsOf e = sz)
    (hR : ∀ (fuel : Nat) (cs : List Value) (x : DataW H × List MemPlace), DataW.trod enc P w 0 (fun _ => true) true fuel e cs = some x → R cs x.1)
    (hsh : ∃ a0 len cap, v = .slice a0 len cap) (h : DataW.Trod enc P w 0 (fun _ => true) true t v d p) :
    ∃ (A : Option Addr) (cap b o : Nat) (rows : List (List Value)), v = .slice A rows.length cap ∧ (0 < rows.length → A = some ⟨b, o, none⟩) ∧ Arr w b o rows.flatten ∧ rows.length ≤ cap ∧ cap ≤ 9223372036854775807 ∧
      ∀ x, x ∈ rows → x.length = sz ∧ ∃ y, R x y ∧ Rows.uptoBulk y ≤ Rows.uptoBulk d := by
  obtain ⟨a0, len, cap, rfl⟩ := hsh
  obtain ⟨fuel, hf⟩ := h
  rcases Go.Deep.open_slice ht hf with ⟨hcs, _⟩ | ⟨a, len', cap', m, n, D, Pl, hcs, _, hl, hm, hmm, hxx, hel⟩
  · simp [Value.cells] at hcs
    obtain ⟨rfl, rfl, rfl⟩ := hcs
    exact ⟨none, 0, 0, 0, [], rfl, fun h => by simp at h, ⟨fun i hi => absurd hi (Nat.not_lt_zero i), fun h => absurd h (Nat.lt_irrefl 0)⟩, Nat.le_refl _, Nat.zero_le _, by simp⟩
  · simp [Value.cells] at hcs
    obtain ⟨rfl, rfl, rfl⟩ := hcs
    simp only [if_true] at hmm
    subst hmm
    rw [hc] at hel
    have hdd := (congrArg Prod.fst hxx)
    simp only at hdd
    unfold maxLen at hm
    by_cases h0 : 0 < len
    · have hget : ∀ i, i < len → ∃ cs', w.cells? 0 (a.add (i * sz)) sz = some cs' ∧ R cs' (D i) := fun i hi => by
        obtain ⟨cs', h1, h2⟩ := hel i (by omega)
        exact ⟨cs', h1, hR _ _ _ h2⟩
      obtain ⟨f, hf'⟩ : ∃ f : Nat → List Value, ∀ i, i < len → w.cells? 0 (a.add (i * sz)) sz = some (f i) ∧ R (f i) (D i) := by
        refine ⟨fun i => if h : i < len then (hget i h).choose else [], fun i hi => ?_⟩
        simp only [hi, dif_pos]
        exact (hget i hi).choose_spec
      have hlen : ∀ i, i < len → (f i).length = sz := fun i hi => (World.cells?_some (hf' i hi).1).2.1
      have hcell : ∀ i, i < len → ∀ j, j < sz → w.cell? (a.add (i * sz + j)) = (f i)[j]? := fun i hi j hj => by
        have := (World.cells?_some (hf' i hi).1).2.2 j hj
        rwa [Go.Deep.add_add] at this
      obtain ⟨b, off, spot⟩ := a
      have hfirst := hcell 0 h0 0 hsz
      have hsome : w.cell? ⟨b, off, spot⟩ = some ((f 0)[0]'(by rw [hlen 0 h0]; exact hsz)) := by
        rw [List.getElem?_eq_getElem (by rw [hlen 0 h0]; exact hsz)] at hfirst
        simpa [Addr.add] using hfirst
      obtain rfl : spot = none := World.cell?_spot hsome
      have hrl : ((List.range len).map f).length = len := by simp
      have hflen : ∀ k, k ≤ len → ((List.range k).map f).flatten.length = k * sz := by
        intro k
        induction k with
        | zero => simp
        | succ k ih =>
          intro hk
          rw [List.range_succ, List.map_append, List.flatten_append, List.length_append, ih (by omega)]
          simp [hlen k (by omega), Nat.succ_mul]
      have hget2 : ∀ k, k ≤ len → ∀ i, i < k * sz → ((List.range k).map f).flatten[i]? = (f (i / sz))[i % sz]? := by
        intro k
        induction k with
        | zero => intro _ i hi; simp at hi
        | succ k ih =>
          intro hk i hi
          rw [List.range_succ, List.map_append, List.flatten_append]
          by_cases hik : i < k * sz
          · rw [List.getElem?_append_left (by rw [hflen k (by omega)]; exact hik)]
            exact ih (by omega) i hik
          · rw [List.getElem?_append_right (by rw [hflen k (by omega)]; omega), hflen k (by omega)]
            rw [Nat.succ_mul] at hi
            have e1 : i / sz = k := by
              rw [Nat.div_eq_iff hsz]
              omega
            have e2 : i % sz = i - k * sz := by
              have := Nat.div_add_mod i sz
              rw [e1, Nat.mul_comm] at this
              omega
            rw [e1, e2]
            simp
      refine ⟨_, _, b, off, (List.range len).map f, by rw [hrl], fun _ => rfl, ⟨fun i hi => ?_, fun _ => World.block_lt_of_cell? (w := w) (a := ⟨b, off, none⟩) hsome⟩, by rw [hrl]; omega, by omega, ?_⟩
      · rw [hflen len (Nat.le_refl _)] at hi
        rw [hget2 len (Nat.le_refl _) i hi]
        have hd : i / sz < len := by rw [Nat.div_lt_iff_lt_mul hsz]; exact hi
        rw [← hcell (i / sz) hd (i % sz) (Nat.mod_lt _ hsz), ← Go.WideShapes.add_plain]
        have : i / sz * sz + i % sz = i := by rw [Nat.mul_comm]; exact Nat.div_add_mod i sz
        rw [this]
      · intro x hx
        simp only [List.mem_map, List.mem_range] at hx
        obtain ⟨i, hi, rfl⟩ := hx
        refine ⟨hlen i hi, D i, (hf' i hi).2, ?_⟩
        rw [hdd]
        exact bulk_slice (by simp; exact ⟨i, hi, rfl⟩)
    · obtain rfl : len = 0 := by omega
      exact ⟨some a, _, 0, 0, [], rfl, fun h => by simp at h, ⟨fun i hi => absurd hi (Nat.not_lt_zero i), fun h => absurd h (Nat.lt_irrefl 0)⟩, Nat.zero_le _, by omega, by simp⟩
/-- Keys and values of a write are at most N long. -/
def WrtB (N : Nat) (y : Wrt) : Prop := y.k.length ≤ N ∧ y.v.length ≤ N
def OpB (N : Nat) (o : OV) : Prop := o.k.length ≤ N ∧ ∀ y ∈ o.b, WrtB N y
def I64 (n : Int) : Prop := -9223372036854775808 ≤ n ∧ n ≤ 9223372036854775807
def OpN (o : OV) : Prop := I64 o.c ∧ I64 o.h ∧ I64 o.u ∧ I64 o.m ∧ o.t < 2 ^ 64 ∧ o.b.length ≤ o.bc ∧ o.bc ≤ 9223372036854775807
theorem WrtB.mono {M N : Nat} {y : Wrt} (h : WrtB M y) (hl : M ≤ N) : WrtB N y := ⟨Nat.le_trans h.1 hl, Nat.le_trans h.2 hl⟩
theorem OpB.mono {M N : Nat} {o : OV} (h : OpB M o) (hl : M ≤ N) : OpB N o := ⟨Nat.le_trans h.1 hl, fun y hy => (h.2 y hy).mono hl⟩
theorem read_wrtB {H : Type} {enc : TypeId × Value → H} {w : World} (fuel : Nat) (cs : List Value) (x : DataW H × List MemPlace)
    (h : DataW.trod enc Tryz.prog w 0 (fun _ => true) true fuel 45 cs = some x) : ∃ c : Wrt, cs = wC c ∧ WrtB (Rows.uptoBulk x.1) c := by
  obtain ⟨xs, n, _, hxx, hl, hxl, hf⟩ := DataW.trod_struct Tryz.underlying45 h
  rw [cellsW] at hl
  match cs, hl with
  | [a, b, c], _ =>
    have g0 : DataW.trod enc Tryz.prog w 0 (fun _ => true) true n 9 (([a, b, c].drop 0).take (Tryz.prog.cellsOf 9)) = xs[0]? := hf 0 _ rfl
    rw [cellsS] at g0
    have g1 : DataW.trod enc Tryz.prog w 0 (fun _ => true) true n 9 (([a, b, c].drop 1).take (Tryz.prog.cellsOf 9)) = xs[1]? := hf 1 _ rfl
    rw [cellsS] at g1
    have g2 : DataW.trod enc Tryz.prog w 0 (fun _ => true) true n 4 (([a, b, c].drop 2).take (Tryz.prog.cellsOf 4)) = xs[2]? := hf 2 _ rfl
    rw [cellsB] at g2
    simp only [List.drop_zero, List.drop_succ_cons, List.take_succ_cons, List.take_zero] at g0 g1 g2
    have hx : xs.length = 3 := by rw [hxl]; rfl
    match xs, hx with
    | [y0, y1, y2], _ =>
      simp only [List.getElem?_cons_zero, List.getElem?_cons_succ] at g0 g1 g2
      obtain ⟨N, e0, x0, _⟩ := DataW.trod_string Tryz.underlying9 g0
      obtain ⟨K, e1, x1, _⟩ := DataW.trod_string Tryz.underlying9 g1
      obtain ⟨M, e2, _⟩ := DataW.trod_bool Tryz.underlying4 g2
      simp only [List.cons.injEq, and_true] at e0 e1 e2
      subst e0 e1 e2
      obtain ⟨k, rfl⟩ := str_of N
      obtain ⟨v, rfl⟩ := str_of K
      have b0 : Rows.uptoBulk y0.1 ≤ Rows.uptoBulk x.1 := by rw [congrArg Prod.fst hxx]; exact bulk_agg (by simp)
      have b1 : Rows.uptoBulk y1.1 ≤ Rows.uptoBulk x.1 := by rw [congrArg Prod.fst hxx]; exact bulk_agg (by simp)
      rw [congrArg Prod.fst x0] at b0
      rw [congrArg Prod.fst x1] at b1
      simp only [bulk_str] at b0 b1
      exact ⟨⟨k, v, M⟩, rfl, by show k.length ≤ _; omega, by show v.length ≤ _; omega⟩
theorem read_wrtsB {H : Type} {enc : TypeId × Value → H} {w : World} (fuel : Nat) (cs : List Value) (x : DataW H × List MemPlace)
    (h : DataW.trod enc Tryz.prog w 0 (fun _ => true) true fuel 23 cs = some x) : ∃ (A : Option Addr) (cap : Nat) (X : List Wrt), cs = [.slice A X.length cap] ∧ Lst w (.slice A X.length cap) X.length (wCs X) ∧ X.length ≤ cap ∧ cap ≤ 9223372036854775807 ∧ ∀ y ∈ X, WrtB (Rows.uptoBulk x.1) y := by
  obtain ⟨v, rfl, hsh⟩ : ∃ v, cs = [v] ∧ ∃ a0 len cap, v = .slice a0 len cap := by
    rcases Go.Deep.open_slice Tryz.underlying23 h with ⟨hcs, _⟩ | ⟨a, len', cap', m, n, D, Pl, hcs, _⟩
    · exact ⟨_, hcs, _, _, _, rfl⟩
    · exact ⟨_, hcs, _, _, _, rfl⟩
  have hT : DataW.Trod enc Tryz.prog w 0 (fun _ => true) true 23 v x.1 x.2 := by
    obtain ⟨a0, len, cap, rfl⟩ := hsh
    exact ⟨fuel, h⟩
  obtain ⟨A, cap, b, o, rows, rfl, hA, hx, hl, hm, hr⟩ := open_rowsB 3 (by omega) (fun cs d => ∃ c : Wrt, cs = wC c ∧ WrtB (Rows.uptoBulk d) c) Tryz.underlying23 cellsW (fun fuel cs x h => read_wrtB fuel cs x h) hsh hT
  obtain ⟨X, rfl, hX⟩ := rows_map wC (fun c => WrtB (Rows.uptoBulk x.1) c) rows (fun z hz => by
    obtain ⟨_, y, ⟨c, hc, hb⟩, hy⟩ := hr z hz
    exact ⟨c, hc, hb.mono hy⟩)
  simp only [List.length_map] at *
  exact ⟨A, cap, X, rfl, ⟨A, cap, b, o, rfl, hA, by rw [wCs, List.flatMap_def]; exact hx⟩, hl, hm, hX⟩
theorem read_opB {H : Type} {enc : TypeId × Value → H} {w : World} (fuel : Nat) (cs : List Value) (x : DataW H × List MemPlace)
    (h : DataW.trod enc Tryz.prog w 0 (fun _ => true) true fuel 25 cs = some x) : ∃ o : OV, cs = oC o ∧ OkB w o ∧ OpN o ∧ OpB (Rows.uptoBulk x.1) o := by
  obtain ⟨xs, n, _, hxx, hl, hxl, hf⟩ := DataW.trod_struct Tryz.underlying25 h
  rw [cellsO] at hl
  match cs, hl with
  | [a0, a1, a2, a3, a4, a5, a6], _ =>
    have g0 : DataW.trod enc Tryz.prog w 0 (fun _ => true) true n 3 (([a0, a1, a2, a3, a4, a5, a6].drop 0).take (Tryz.prog.cellsOf 3)) = xs[0]? := hf 0 _ rfl
    rw [cellsI] at g0
    have g1 : DataW.trod enc Tryz.prog w 0 (fun _ => true) true n 9 (([a0, a1, a2, a3, a4, a5, a6].drop 1).take (Tryz.prog.cellsOf 9)) = xs[1]? := hf 1 _ rfl
    rw [cellsS] at g1
    have g2 : DataW.trod enc Tryz.prog w 0 (fun _ => true) true n 22 (([a0, a1, a2, a3, a4, a5, a6].drop 2).take (Tryz.prog.cellsOf 22)) = xs[2]? := hf 2 _ rfl
    rw [cellsU] at g2
    have g3 : DataW.trod enc Tryz.prog w 0 (fun _ => true) true n 23 (([a0, a1, a2, a3, a4, a5, a6].drop 3).take (Tryz.prog.cellsOf 23)) = xs[3]? := hf 3 _ rfl
    rw [cellsWS] at g3
    have g4 : DataW.trod enc Tryz.prog w 0 (fun _ => true) true n 3 (([a0, a1, a2, a3, a4, a5, a6].drop 4).take (Tryz.prog.cellsOf 3)) = xs[4]? := hf 4 _ rfl
    rw [cellsI] at g4
    have g5 : DataW.trod enc Tryz.prog w 0 (fun _ => true) true n 3 (([a0, a1, a2, a3, a4, a5, a6].drop 5).take (Tryz.prog.cellsOf 3)) = xs[5]? := hf 5 _ rfl
    rw [cellsI] at g5
    have g6 : DataW.trod enc Tryz.prog w 0 (fun _ => true) true n 3 (([a0, a1, a2, a3, a4, a5, a6].drop 6).take (Tryz.prog.cellsOf 3)) = xs[6]? := hf 6 _ rfl
    rw [cellsI] at g6
    simp only [List.drop_zero, List.drop_succ_cons, List.take_succ_cons, List.take_zero] at g0 g1 g2 g3 g4 g5 g6
    have hx : xs.length = 7 := by rw [hxl]; rfl
    match xs, hx with
    | [y0, y1, y2, y3, y4, y5, y6], _ =>
      simp only [List.getElem?_cons_zero, List.getElem?_cons_succ] at g0 g1 g2 g3 g4 g5 g6
      obtain ⟨c, e0, _, w0⟩ := DataW.trod_int Tryz.underlying3 g0
      obtain ⟨K, e1, x1, _⟩ := DataW.trod_string Tryz.underlying9 g1
      obtain ⟨t, e2, _, w2⟩ := DataW.trod_int Tryz.underlying22 g2
      obtain ⟨bA, bc, X, e3, hL, hXl, hXm, hXB⟩ := read_wrtsB n _ _ g3
      obtain ⟨hd, e4, _, w4⟩ := DataW.trod_int Tryz.underlying3 g4
      obtain ⟨u, e5, _, w5⟩ := DataW.trod_int Tryz.underlying3 g5
      obtain ⟨m, e6, _, w6⟩ := DataW.trod_int Tryz.underlying3 g6
      simp only [List.cons.injEq, and_true] at e0 e1 e2 e3 e4 e5 e6
      subst e0 e1 e2 e3 e4 e5 e6
      obtain ⟨k, rfl⟩ := str_of K
      have q0 := bounds_i64 w0
      have q2 := bounds_u64 w2
      have q4 := bounds_i64 w4
      have q5 := bounds_i64 w5
      have q6 := bounds_i64 w6
      obtain ⟨t, rfl⟩ : ∃ q : Nat, t = (q : Int) := ⟨t.toNat, by omega⟩
      have b1 : Rows.uptoBulk y1.1 ≤ Rows.uptoBulk x.1 := by rw [congrArg Prod.fst hxx]; exact bulk_agg (by simp)
      have b3 : Rows.uptoBulk y3.1 ≤ Rows.uptoBulk x.1 := by rw [congrArg Prod.fst hxx]; exact bulk_agg (by simp)
      rw [congrArg Prod.fst x1] at b1
      simp only [bulk_str] at b1
      refine ⟨⟨c, k, t, bA, bc, X, hd, u, m⟩, rfl, hL, ⟨⟨q0.1, by show c ≤ _; omega⟩, ⟨q4.1, by show hd ≤ _; omega⟩, ⟨q5.1, by show u ≤ _; omega⟩, ⟨q6.1, by show m ≤ _; omega⟩, by show t < _; omega, hXl, hXm⟩, by show k.length ≤ _; omega, fun y hy => (hXB y hy).mono b3⟩
theorem open_op {H : Type} {enc : TypeId × Value → H} {w : World} {r : Reach} {b0 : Nat} {v : Value} {d : DataW H} {p : List MemPlace}
    (hv : Value.okWide Tryz.prog w r b0 25 v) (h : DataW.Trod enc Tryz.prog w 0 (fun _ => true) true 25 v d p) :
    ∃ o : OV, v = .agg #[.int .i64 o.c, .string ⟨o.k.toArray⟩, .int .u64 (o.t : Int), .slice o.bA o.b.length o.bc, .int .i64 o.h, .int .i64 o.u, .int .i64 o.m] ∧ OkB w o ∧ OpN o ∧ OpB (Rows.uptoBulk d) o := by
  obtain ⟨cs, rfl, hsz⟩ := okWide_struct Tryz.underlying25 hv
  obtain ⟨fuel, hf⟩ := h
  obtain ⟨o, hc, h2, h3, h4⟩ := read_opB _ _ _ hf
  refine ⟨o, ?_, h2, h3, h4⟩
  obtain ⟨l⟩ := cs
  simp only [Value.cells, oC] at hc
  rw [hc]
theorem open_ops {H : Type} {enc : TypeId × Value → H} {w : World} {r : Reach} {b0 : Nat} {v : Value} {d : DataW H} {p : List MemPlace}
    (hv : Value.okWide Tryz.prog w r b0 37 v) (h : DataW.Trod enc Tryz.prog w 0 (fun _ => true) true 37 v d p) :
    ∃ (A : Option Addr) (cap : Nat) (X : List OV), v = .slice A X.length cap ∧ Lst w v X.length (oCs X) ∧ X.length ≤ 9223372036854775807 ∧ ∀ x ∈ X, OkB w x ∧ OpN x ∧ OpB (Rows.uptoBulk d) x := by
  obtain ⟨A, cap, b, o, rows, rfl, hA, hx, hl, hm, hr⟩ := open_rowsB 7 (by omega) (fun cs d => ∃ c : OV, cs = oC c ∧ OkB w c ∧ OpN c ∧ OpB (Rows.uptoBulk d) c) Tryz.underlying37 cellsO (fun fuel cs x h => read_opB fuel cs x h) (okWide_slice Tryz.underlying37 hv) h
  obtain ⟨X, rfl, hX⟩ := rows_map oC (fun c => OkB w c ∧ OpN c ∧ OpB (Rows.uptoBulk d) c) rows (fun z hz => by
    obtain ⟨_, y, ⟨c, hc, h1, h2, h3⟩, hy⟩ := hr z hz
    exact ⟨c, hc, h1, h2, h3.mono hy⟩)
  simp only [List.length_map] at *
  exact ⟨A, cap, X, rfl, ⟨A, cap, b, o, rfl, hA, by rw [oCs, List.flatMap_def]; exact hx⟩, by omega, hX⟩
end Go.Proofs.YtjmhnlbkfbieaaaGreat
