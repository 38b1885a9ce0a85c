/- The argument []api.Record, opened with what its batches weigh. -/
import Derived.Test.YtjlgodaiciopaaaHisG
import Derived.SizedLaws
namespace Go.Proofs.Ytjlgodaiciopaaa
open Go.ChangeShapes Go.WideShapes Go.ChangeAt Go.RowKit
set_option linter.unusedSectionVars false
set_option linter.unusedVariables false
set_option linter.unusedSimpArgs false
set_option maxRecDepth 100000
theorem weightsAll_mem {H : Type} {P : Program} {e : TypeId} {k : Nat} : ∀ {l : List (DataW H)} {d : DataW H}, d ∈ l → k ∈ d.weights P e → k ∈ DataW.weightsAll P e l
  | x :: l, d, hd, hk => by
    unfold DataW.weightsAll
    rw [List.mem_append]
    rcases List.mem_cons.1 hd with rfl | hd
    · exact .inl hk
    · exact .inr (weightsAll_mem hd hk)
theorem weights_slice {H : Type} {P : Program} {t e : TypeId} {k : Nat} {elems spare : List (DataW H)} {d : DataW H} (ht : P.underlying t = some (.slice e)) (hd : d ∈ elems) (hk : k ∈ d.weights P e) : k ∈ DataW.weights P t (.slice elems spare) := by
  simp only [DataW.weights, ht, List.mem_cons, List.mem_append]
  exact .inr (.inl (weightsAll_mem hd hk))
theorem weights_struct {H : Type} {P : Program} {t : TypeId} {fs : Array Field} {k j : Nat} {parts : List (DataW H)} {f : Field} {d : DataW H} (ht : P.underlying t = some (.struct fs)) (hf : fs[j]? = some f) (hd : parts[j]? = some d) (hk : k ∈ d.weights P f.type) : k ∈ DataW.weights P t (.agg parts) := by
  simp only [DataW.weights, ht]
  exact DataW.weights_mem_each (j := j) (t := f.type) (by rw [List.getElem?_map, Array.getElem?_toList, hf]; rfl) hd k hk
theorem open_rowsW {H : Type} {enc : TypeId × Value → H} {P : Program} {w : World} {t e : TypeId} {v : Value} {d : DataW H} {p : List MemPlace} (sz : Nat) (hsz : 0 < sz) (R : List Value → DataW H → Prop)
    (ht : P.underlying t = some (.slice e)) (hc : P.cellsOf e = sz)
    (hR : ∀ (fuel : Nat) (cs : List Value) (x : DataW H × List MemPlace), DataW.trod enc P w 0 (fun _ => true) true fuel e cs = some x → R cs x.1)
    (hsh : ∃ a0 len cap, v = .slice a0 len cap) (h : DataW.Trod enc P w 0 (fun _ => true) true t v d p) :
    ∃ (A : Option Addr) (cap b o : Nat) (rows : List (List Value)), v = .slice A rows.length cap ∧ (0 < rows.length → A = some ⟨b, o, none⟩) ∧ Arr w b o rows.flatten ∧ rows.length ≤ 9223372036854775807 ∧
      ∀ x, x ∈ rows → x.length = sz ∧ ∃ y, R x y ∧ ∀ n ∈ y.weights P e, n ∈ d.weights P t := by
  obtain ⟨a0, len, cap, rfl⟩ := hsh
  obtain ⟨fuel, hf⟩ := h
  rcases Go.Deep.open_slice ht hf with ⟨hcs, _⟩ | ⟨a, len', cap', m, n, D, Pl, hcs, _, hl, hm, hmm, hxx, hel⟩
  · simp [Value.cells] at hcs
    obtain ⟨rfl, rfl, rfl⟩ := hcs
    exact ⟨none, 0, 0, 0, [], rfl, fun h => by simp at h, ⟨fun i hi => absurd hi (Nat.not_lt_zero i), fun h => absurd h (Nat.lt_irrefl 0)⟩, Nat.zero_le _, by simp⟩
  · simp [Value.cells] at hcs
    obtain ⟨rfl, rfl, rfl⟩ := hcs
    simp only [if_true] at hmm
    subst hmm
    rw [hc] at hel
    have hdd := (congrArg Prod.fst hxx)
    simp only at hdd
    unfold maxLen at hm
    by_cases h0 : 0 < len
    · have hget : ∀ i, i < len → ∃ cs', w.cells? 0 (a.add (i * sz)) sz = some cs' ∧ R cs' (D i) := fun i hi => by
        obtain ⟨cs', h1, h2⟩ := hel i (by omega)
        exact ⟨cs', h1, hR _ _ _ h2⟩
      obtain ⟨f, hf'⟩ : ∃ f : Nat → List Value, ∀ i, i < len → w.cells? 0 (a.add (i * sz)) sz = some (f i) ∧ R (f i) (D i) := by
        refine ⟨fun i => if h : i < len then (hget i h).choose else [], fun i hi => ?_⟩
        simp only [hi, dif_pos]
        exact (hget i hi).choose_spec
      have hlen : ∀ i, i < len → (f i).length = sz := fun i hi => (World.cells?_some (hf' i hi).1).2.1
      have hcell : ∀ i, i < len → ∀ j, j < sz → w.cell? (a.add (i * sz + j)) = (f i)[j]? := fun i hi j hj => by
        have := (World.cells?_some (hf' i hi).1).2.2 j hj
        rwa [Go.Deep.add_add] at this
      obtain ⟨b, off, spot⟩ := a
      have hfirst := hcell 0 h0 0 hsz
      have hsome : w.cell? ⟨b, off, spot⟩ = some ((f 0)[0]'(by rw [hlen 0 h0]; exact hsz)) := by
        rw [List.getElem?_eq_getElem (by rw [hlen 0 h0]; exact hsz)] at hfirst
        simpa [Addr.add] using hfirst
      obtain rfl : spot = none := World.cell?_spot hsome
      have hrl : ((List.range len).map f).length = len := by simp
      have hflen : ∀ k, k ≤ len → ((List.range k).map f).flatten.length = k * sz := by
        intro k
        induction k with
        | zero => simp
        | succ k ih =>
          intro hk
          rw [List.range_succ, List.map_append, List.flatten_append, List.length_append, ih (by omega)]
          simp [hlen k (by omega), Nat.succ_mul]
      have hget2 : ∀ k, k ≤ len → ∀ i, i < k * sz → ((List.range k).map f).flatten[i]? = (f (i / sz))[i % sz]? := by
        intro k
        induction k with
        | zero => intro _ i hi; simp at hi
        | succ k ih =>
          intro hk i hi
          rw [List.range_succ, List.map_append, List.flatten_append]
          by_cases hik : i < k * sz
          · rw [List.getElem?_append_left (by rw [hflen k (by omega)]; exact hik)]
            exact ih (by omega) i hik
          · rw [List.getElem?_append_right (by rw [hflen k (by omega)]; omega), hflen k (by omega)]
            rw [Nat.succ_mul] at hi
            have e1 : i / sz = k := by
              rw [Nat.div_eq_iff hsz]
              omega
            have e2 : i % sz = i - k * sz := by
              have := Nat.div_add_mod i sz
              rw [e1, Nat.mul_comm] at this
              omega
            rw [e1, e2]
            simp
      refine ⟨_, _, b, off, (List.range len).map f, by rw [hrl], fun _ => rfl, ⟨fun i hi => ?_, fun _ => World.block_lt_of_cell? (w := w) (a := ⟨b, off, none⟩) hsome⟩, by rw [hrl]; omega, ?_⟩
      · rw [hflen len (Nat.le_refl _)] at hi
        rw [hget2 len (Nat.le_refl _) i hi]
        have hd : i / sz < len := by rw [Nat.div_lt_iff_lt_mul hsz]; exact hi
        rw [← hcell (i / sz) hd (i % sz) (Nat.mod_lt _ hsz), ← Go.WideShapes.add_plain]
        have : i / sz * sz + i % sz = i := by rw [Nat.mul_comm]; exact Nat.div_add_mod i sz
        rw [this]
      · intro x hx
        simp only [List.mem_map, List.mem_range] at hx
        obtain ⟨i, hi, rfl⟩ := hx
        refine ⟨hlen i hi, D i, (hf' i hi).2, fun k hk => ?_⟩
        rw [hdd]
        exact weights_slice ht (by simp; exact ⟨i, hi, rfl⟩) hk
    · obtain rfl : len = 0 := by omega
      exact ⟨some a, _, 0, 0, [], rfl, fun h => by simp at h, ⟨fun i hi => absurd hi (Nat.not_lt_zero i), fun h => absurd h (Nat.lt_irrefl 0)⟩, Nat.zero_le _, by simp⟩
theorem bytesW : Try.prog.bytesOf 61 = 40 := by kernel_rfl
theorem read_wrtsW {H : Type} {enc : TypeId × Value → H} {w : World} (fuel : Nat) (cs : List Value) (x : DataW H × List MemPlace)
    (h : DataW.trod enc Try.prog w 0 (fun _ => true) true fuel 29 cs = some x) : ∃ (v : Value) (X : List Wrt), cs = [v] ∧ Lst w v X.length (wCs X) ∧ (X.length = 0 ∨ ∃ k ∈ x.1.weights Try.prog 29, X.length * 40 ≤ k) := by
  obtain ⟨v, X, h1, h2, _⟩ := read_wrts fuel cs x h
  refine ⟨v, X, h1, h2, ?_⟩
  obtain ⟨A, c, b, o, rfl, _, _⟩ := h2
  rcases Go.Deep.open_slice Try.underlying29 h with ⟨hcs, _⟩ | ⟨a, len, cap, m, n, D, Pl, hcs, _, _, _, _, hxx, _⟩
  · left
    rw [h1] at hcs
    simp only [List.cons.injEq, Value.slice.injEq, and_true] at hcs
    exact hcs.2.1
  · right
    rw [h1] at hcs
    simp only [List.cons.injEq, Value.slice.injEq, and_true] at hcs
    refine ⟨(((List.range len).map D).length + ((List.range (m - len)).map fun j => D (len + j)).length) * 40, ?_, ?_⟩
    · rw [congrArg Prod.fst hxx]
      simp only [DataW.weights, Try.underlying29, bytesW, List.mem_cons, true_or]
    · rw [hcs.2.1]
      exact Nat.mul_le_mul_right 40 (by simp)
theorem read_opW {H : Type} {enc : TypeId × Value → H} {w : World} (fuel : Nat) (cs : List Value) (x : DataW H × List MemPlace)
    (h : DataW.trod enc Try.prog w 0 (fun _ => true) true fuel 31 cs = some x) : ∃ (c : Int) (k : ByteArray) (t : Int) (bv : Value) (b : List Wrt) (h u m : Int), cs = [.int .i64 c, .string k, .int .u64 t, bv, .int .i64 h, .int .i64 u, .int .i64 m] ∧ Lst w bv b.length (wCs b) ∧ (b.length = 0 ∨ ∃ k ∈ x.1.weights Try.prog 31, b.length * 40 ≤ k) := by
  obtain ⟨xs, n, _, hxx, hl, hxl, hf⟩ := DataW.trod_struct Try.underlying31 h
  rw [cellsO] at hl
  match cs, hl with
  | [a0, a1, a2, a3, a4, a5, a6], _ =>
    have g0 : DataW.trod enc Try.prog w 0 (fun _ => true) true n 3 (([a0, a1, a2, a3, a4, a5, a6].drop 0).take (Try.prog.cellsOf 3)) = xs[0]? := hf 0 _ rfl
    rw [cellsI] at g0
    have g1 : DataW.trod enc Try.prog w 0 (fun _ => true) true n 9 (([a0, a1, a2, a3, a4, a5, a6].drop 1).take (Try.prog.cellsOf 9)) = xs[1]? := hf 1 _ rfl
    rw [cellsS] at g1
    have g2 : DataW.trod enc Try.prog w 0 (fun _ => true) true n 28 (([a0, a1, a2, a3, a4, a5, a6].drop 2).take (Try.prog.cellsOf 28)) = xs[2]? := hf 2 _ rfl
    rw [cellsU] at g2
    have g3 : DataW.trod enc Try.prog w 0 (fun _ => true) true n 29 (([a0, a1, a2, a3, a4, a5, a6].drop 3).take (Try.prog.cellsOf 29)) = xs[3]? := hf 3 _ rfl
    rw [cellsWS] at g3
    have g4 : DataW.trod enc Try.prog w 0 (fun _ => true) true n 3 (([a0, a1, a2, a3, a4, a5, a6].drop 4).take (Try.prog.cellsOf 3)) = xs[4]? := hf 4 _ rfl
    rw [cellsI] at g4
    have g5 : DataW.trod enc Try.prog w 0 (fun _ => true) true n 3 (([a0, a1, a2, a3, a4, a5, a6].drop 5).take (Try.prog.cellsOf 3)) = xs[5]? := hf 5 _ rfl
    rw [cellsI] at g5
    have g6 : DataW.trod enc Try.prog w 0 (fun _ => true) true n 3 (([a0, a1, a2, a3, a4, a5, a6].drop 6).take (Try.prog.cellsOf 3)) = xs[6]? := hf 6 _ rfl
    rw [cellsI] at g6
    simp only [List.drop_zero, List.drop_succ_cons, List.take_succ_cons, List.take_zero] at g0 g1 g2 g3 g4 g5 g6
    have hx : xs.length = 7 := by rw [hxl]; rfl
    match xs, hx with
    | [y0, y1, y2, y3, y4, y5, y6], _ =>
      simp only [List.getElem?_cons_zero, List.getElem?_cons_succ] at g0 g1 g2 g3 g4 g5 g6
      obtain ⟨c, e0, _, w0⟩ := DataW.trod_int Try.underlying3 g0
      obtain ⟨k, e1, _, _⟩ := DataW.trod_string Try.underlying9 g1
      obtain ⟨t, e2, _, w2⟩ := DataW.trod_int Try.underlying28 g2
      obtain ⟨v, X, e3, hL, hXl⟩ := read_wrtsW n _ _ g3
      obtain ⟨h, e4, _, w4⟩ := DataW.trod_int Try.underlying3 g4
      obtain ⟨u, e5, _, w5⟩ := DataW.trod_int Try.underlying3 g5
      obtain ⟨m, e6, _, w6⟩ := DataW.trod_int Try.underlying3 g6
      simp only [List.cons.injEq, and_true] at e0 e1 e2 e3 e4 e5 e6
      subst e0 e1 e2 e3 e4 e5 e6
      refine ⟨_, _, _, _, X, _, _, _, rfl, hL, ?_⟩
      rcases hXl with h0 | ⟨k, hk, hk2⟩
      · exact .inl h0
      · right
        refine ⟨k, ?_, hk2⟩
        rw [congrArg Prod.fst hxx]
        exact weights_struct (j := 3) Try.underlying31 rfl rfl hk
theorem read_recW {H : Type} {enc : TypeId × Value → H} {w : World} (fuel : Nat) (cs : List Value) (x : DataW H × List MemPlace)
    (h : DataW.trod enc Try.prog w 0 (fun _ => true) true fuel 36 cs = some x) : ∃ c : RV, cs = rC c ∧ (OkB w c ∧ RngA c.n ∧ (c.b.length = 0 ∨ ∃ k ∈ x.1.weights Try.prog 36, c.b.length * 40 ≤ k)) := by
  obtain ⟨xs, n, _, hxx, hl, hxl, hf⟩ := DataW.trod_struct Try.underlying36 h
  rw [cellsR] at hl
  match cs, hl with
  | [a0, a1, a2, a3, a4, a5, a6, a7, a8, a9, a10, a11, a12, a13, a14, a15], _ =>
    have g0 : DataW.trod enc Try.prog w 0 (fun _ => true) true n 3 (([a0, a1, a2, a3, a4, a5, a6, a7, a8, a9, a10, a11, a12, a13, a14, a15].drop 0).take (Try.prog.cellsOf 3)) = xs[0]? := hf 0 _ rfl
    rw [cellsI] at g0
    have g1 : DataW.trod enc Try.prog w 0 (fun _ => true) true n 3 (([a0, a1, a2, a3, a4, a5, a6, a7, a8, a9, a10, a11, a12, a13, a14, a15].drop 1).take (Try.prog.cellsOf 3)) = xs[1]? := hf 1 _ rfl
    rw [cellsI] at g1
    have g2 : DataW.trod enc Try.prog w 0 (fun _ => true) true n 3 (([a0, a1, a2, a3, a4, a5, a6, a7, a8, a9, a10, a11, a12, a13, a14, a15].drop 2).take (Try.prog.cellsOf 3)) = xs[2]? := hf 2 _ rfl
    rw [cellsI] at g2
    have g3 : DataW.trod enc Try.prog w 0 (fun _ => true) true n 3 (([a0, a1, a2, a3, a4, a5, a6, a7, a8, a9, a10, a11, a12, a13, a14, a15].drop 3).take (Try.prog.cellsOf 3)) = xs[3]? := hf 3 _ rfl
    rw [cellsI] at g3
    have g4 : DataW.trod enc Try.prog w 0 (fun _ => true) true n 3 (([a0, a1, a2, a3, a4, a5, a6, a7, a8, a9, a10, a11, a12, a13, a14, a15].drop 4).take (Try.prog.cellsOf 3)) = xs[4]? := hf 4 _ rfl
    rw [cellsI] at g4
    have g5 : DataW.trod enc Try.prog w 0 (fun _ => true) true n 31 (([a0, a1, a2, a3, a4, a5, a6, a7, a8, a9, a10, a11, a12, a13, a14, a15].drop 5).take (Try.prog.cellsOf 31)) = xs[5]? := hf 5 _ rfl
    rw [cellsO] at g5
    have g6 : DataW.trod enc Try.prog w 0 (fun _ => true) true n 34 (([a0, a1, a2, a3, a4, a5, a6, a7, a8, a9, a10, a11, a12, a13, a14, a15].drop 12).take (Try.prog.cellsOf 34)) = xs[6]? := hf 6 _ rfl
    rw [cellsA] at g6
    simp only [List.drop_zero, List.drop_succ_cons, List.take_succ_cons, List.take_zero] at g0 g1 g2 g3 g4 g5 g6
    have hx : xs.length = 7 := by rw [hxl]; rfl
    match xs, hx with
    | [y0, y1, y2, y3, y4, y5, y6], _ =>
      simp only [List.getElem?_cons_zero, List.getElem?_cons_succ] at g0 g1 g2 g3 g4 g5 g6
      obtain ⟨q0, e0, _, w0⟩ := DataW.trod_int Try.underlying3 g0
      obtain ⟨q1, e1, _, w1⟩ := DataW.trod_int Try.underlying3 g1
      obtain ⟨q2, e2, _, w2⟩ := DataW.trod_int Try.underlying3 g2
      obtain ⟨q3, e3, _, w3⟩ := DataW.trod_int Try.underlying3 g3
      obtain ⟨q4, e4, _, w4⟩ := DataW.trod_int Try.underlying3 g4
      obtain ⟨c, k, t, bv, b, hd, u, m, e5, hL, hbw⟩ := read_opW n _ _ g5
      obtain ⟨er, at_, ak, av, e6⟩ := read_ans n _ _ g6
      simp only [List.cons.injEq, and_true] at e0 e1 e2 e3 e4 e5 e6
      subst e0 e1 e2 e3 e4
      obtain ⟨rfl, rfl, rfl, rfl, rfl, rfl, rfl⟩ := e5
      obtain ⟨rfl, rfl, rfl, rfl⟩ := e6
      obtain ⟨bA, bc, bb, bo, rfl, hA, har⟩ := hL
      have b0 := bounds_i64 w0
      have b1 := bounds_i64 w1
      have b3 := bounds_i64 w3
      refine ⟨⟨⟨q0, q1, q2, q3, q4⟩, c, k, t, bA, bc, b, hd, u, m, er, at_, ak, av⟩, rfl, ⟨bA, bc, bb, bo, rfl, hA, har⟩, ⟨⟨b0.1, by show q0 < _; omega⟩, ⟨b1.1, by show q1 < _; omega⟩, ⟨b3.1, by show q3 < _; omega⟩⟩, ?_⟩
      rcases hbw with h0 | ⟨kk, hk, hk2⟩
      · exact .inl h0
      · right
        refine ⟨kk, ?_, hk2⟩
        rw [congrArg Prod.fst hxx]
        exact weights_struct (j := 5) Try.underlying36 rfl rfl hk
theorem open_recsW {H : Type} {enc : TypeId × Value → H} {w : World} {r : Reach} {b0 : Nat} {v : Value} {d : DataW H} {p : List MemPlace}
    (hv : Value.okWide Try.prog w r b0 22 v) (h : DataW.Trod enc Try.prog w 0 (fun _ => true) true 22 v d p) :
    ∃ X : List RV, Lst w v X.length (rCs X) ∧ X.length ≤ 9223372036854775807 ∧ ∀ x ∈ X, OkB w x ∧ RngA x.n ∧ (x.b.length = 0 ∨ ∃ k ∈ d.weights Try.prog 22, x.b.length * 40 ≤ k) := by
  have hsh : ∃ a0 len cap, v = .slice a0 len cap := by
    obtain ⟨X, ⟨A, c, b, o, rfl, _, _⟩, _⟩ := open_recs hv h
    exact ⟨_, _, _, rfl⟩
  obtain ⟨A, cap, b, o, rows, rfl, hA, hx, hl, hr⟩ := open_rowsW 16 (by omega) (fun cs y => ∃ c : RV, cs = rC c ∧ (OkB w c ∧ RngA c.n ∧ (c.b.length = 0 ∨ ∃ k ∈ y.weights Try.prog 36, c.b.length * 40 ≤ k))) Try.underlying22 cellsR (fun fuel cs x h => read_recW fuel cs x h) hsh h
  obtain ⟨X, rfl, hX⟩ := rows_map rC (fun c => OkB w c ∧ RngA c.n ∧ (c.b.length = 0 ∨ ∃ k ∈ d.weights Try.prog 22, c.b.length * 40 ≤ k)) rows (fun x hx => by
    obtain ⟨_, y, ⟨c, h1, h2, h3, h4⟩, h5⟩ := hr x hx
    refine ⟨c, h1, h2, h3, ?_⟩
    rcases h4 with h4 | ⟨k, hk, hk2⟩
    · exact .inl h4
    · exact .inr ⟨k, h5 k hk, hk2⟩)
  simp only [List.length_map] at *
  exact ⟨X, ⟨A, cap, b, o, rfl, hA, by rw [rCs, List.flatMap_def]; exact hx⟩, hl, hX⟩
end Go.Proofs.Ytjlgodaiciopaaa
