/- Arguments of the types [][]Run and []api.Record, opened; Mod. -/
import Derived.Test.YtjlgodaiciopaaaFrame
import Derived.Test.YtjlgodaiciopaaaHisDL
import Derived.Test.YtjlgodaiciopaaaHisK
namespace Go.Proofs.Ytjlgodaiciopaaa
open Go.ChangeShapes Go.WideShapes Go.ChangeAt Go.RowKit
set_option maxRecDepth 100000
theorem cellsW : Try.prog.cellsOf 61 = 3 := by kernel_rfl
theorem cellsS : Try.prog.cellsOf 9 = 1 := by kernel_rfl
theorem cellsB : Try.prog.cellsOf 4 = 1 := by kernel_rfl
theorem cellsI : Try.prog.cellsOf 3 = 1 := by kernel_rfl
theorem cellsU : Try.prog.cellsOf 28 = 1 := by kernel_rfl
theorem cellsU8 : Try.prog.cellsOf 5 = 1 := by kernel_rfl
theorem cellsE : Try.prog.cellsOf 32 = 1 := by kernel_rfl
theorem cellsWS : Try.prog.cellsOf 29 = 1 := by kernel_rfl
theorem cellsRn : Try.prog.cellsOf 51 = 5 := by kernel_rfl
theorem cellsRnS : Try.prog.cellsOf 49 = 1 := by kernel_rfl
theorem cellsR : Try.prog.cellsOf 36 = 16 := by kernel_rfl
theorem cellsO : Try.prog.cellsOf 31 = 7 := by kernel_rfl
theorem cellsA : Try.prog.cellsOf 34 = 4 := by kernel_rfl
theorem str_of (s : ByteArray) : ∃ k : Str, s = ⟨k.toArray⟩ := ⟨s.data.toList, by cases s; simp⟩
theorem read_wrt {H : Type} {enc : TypeId × Value → H} {w : World} {base : Nat} {spare : Nat → Bool} {held : Bool} (fuel : Nat) (cs : List Value) (x : DataW H × List MemPlace)
    (h : DataW.trod enc Try.prog w base spare held fuel 61 cs = some x) : ∃ c : Wrt, cs = wC c := by
  obtain ⟨xs, n, _, _, hl, hxl, hf⟩ := DataW.trod_struct Try.underlying61 h
  rw [cellsW] at hl
  match cs, hl with
  | [a, b, c], _ =>
    have g0 : DataW.trod enc Try.prog w base spare held n 9 (([a, b, c].drop 0).take (Try.prog.cellsOf 9)) = xs[0]? := hf 0 _ rfl
    rw [cellsS] at g0
    have g1 : DataW.trod enc Try.prog w base spare held n 9 (([a, b, c].drop 1).take (Try.prog.cellsOf 9)) = xs[1]? := hf 1 _ rfl
    rw [cellsS] at g1
    have g2 : DataW.trod enc Try.prog w base spare held n 4 (([a, b, c].drop 2).take (Try.prog.cellsOf 4)) = xs[2]? := hf 2 _ rfl
    rw [cellsB] at g2
    simp only [List.drop_zero, List.drop_succ_cons, List.take_succ_cons, List.take_zero] at g0 g1 g2
    have hx : xs.length = 3 := by rw [hxl]; rfl
    match xs, hx with
    | [y0, y1, y2], _ =>
      simp only [List.getElem?_cons_zero, List.getElem?_cons_succ] at g0 g1 g2
      obtain ⟨N, e0, _, _⟩ := DataW.trod_string Try.underlying9 g0
      obtain ⟨K, e1, _, _⟩ := DataW.trod_string Try.underlying9 g1
      obtain ⟨M, e2, _⟩ := DataW.trod_bool Try.underlying4 g2
      simp only [List.cons.injEq, and_true] at e0 e1 e2
      subst e0 e1 e2
      obtain ⟨k, rfl⟩ := str_of N
      obtain ⟨v, rfl⟩ := str_of K
      exact ⟨⟨k, v, M⟩, rfl⟩
theorem open_rowsS {H : Type} {enc : TypeId × Value → H} {P : Program} {w : World} {t e : TypeId} {v : Value} {d : DataW H} {p : List MemPlace} (sz : Nat) (hsz : 0 < sz) (R : List Value → Prop)
    (ht : P.underlying t = some (.slice e)) (hc : P.cellsOf e = sz)
    (hR : ∀ (fuel : Nat) (cs : List Value) (x : DataW H × List MemPlace), DataW.trod enc P w 0 (fun _ => true) true fuel e cs = some x → R cs)
    (hsh : ∃ a0 len cap, v = .slice a0 len cap) (h : DataW.Trod enc P w 0 (fun _ => true) true t v d p) :
    ∃ (A : Option Addr) (cap b o : Nat) (rows : List (List Value)), v = .slice A rows.length cap ∧ (0 < rows.length → A = some ⟨b, o, none⟩) ∧ Arr w b o rows.flatten ∧ rows.length ≤ 9223372036854775807 ∧
      ∀ x, x ∈ rows → x.length = sz ∧ R x := by
  obtain ⟨a0, len, cap, rfl⟩ := hsh
  obtain ⟨fuel, hf⟩ := h
  rcases Go.Deep.open_slice ht hf with ⟨hcs, _⟩ | ⟨a, len', cap', m, n, D, Pl, hcs, _, hl, hm, hmm, _, hel⟩
  · simp [Value.cells] at hcs
    obtain ⟨rfl, rfl, rfl⟩ := hcs
    exact ⟨none, 0, 0, 0, [], rfl, fun h => by simp at h, ⟨fun i hi => absurd hi (Nat.not_lt_zero i), fun h => absurd h (Nat.lt_irrefl 0)⟩, Nat.zero_le _, by simp⟩
  · simp [Value.cells] at hcs
    obtain ⟨rfl, rfl, rfl⟩ := hcs
    simp only [if_true] at hmm
    subst hmm
    rw [hc] at hel
    unfold maxLen at hm
    by_cases h0 : 0 < len
    · have hget : ∀ i, i < len → ∃ cs', w.cells? 0 (a.add (i * sz)) sz = some cs' ∧ R cs' := fun i hi => by
        obtain ⟨cs', h1, h2⟩ := hel i (by omega)
        exact ⟨cs', h1, hR _ _ _ h2⟩
      obtain ⟨f, hf'⟩ : ∃ f : Nat → List Value, ∀ i, i < len → w.cells? 0 (a.add (i * sz)) sz = some (f i) ∧ R (f i) := by
        refine ⟨fun i => if h : i < len then (hget i h).choose else [], fun i hi => ?_⟩
        simp only [hi, dif_pos]
        exact (hget i hi).choose_spec
      have hlen : ∀ i, i < len → (f i).length = sz := fun i hi => (World.cells?_some (hf' i hi).1).2.1
      have hcell : ∀ i, i < len → ∀ j, j < sz → w.cell? (a.add (i * sz + j)) = (f i)[j]? := fun i hi j hj => by
        have := (World.cells?_some (hf' i hi).1).2.2 j hj
        rwa [Go.Deep.add_add] at this
      obtain ⟨b, off, spot⟩ := a
      have hfirst := hcell 0 h0 0 hsz
      have hsome : w.cell? ⟨b, off, spot⟩ = some ((f 0)[0]'(by rw [hlen 0 h0]; exact hsz)) := by
        rw [List.getElem?_eq_getElem (by rw [hlen 0 h0]; exact hsz)] at hfirst
        simpa [Addr.add] using hfirst
      obtain rfl : spot = none := World.cell?_spot hsome
      have hrl : ((List.range len).map f).length = len := by simp
      have hflen : ∀ k, k ≤ len → ((List.range k).map f).flatten.length = k * sz := by
        intro k
        induction k with
        | zero => simp
        | succ k ih =>
          intro hk
          rw [List.range_succ, List.map_append, List.flatten_append, List.length_append, ih (by omega)]
          simp [hlen k (by omega), Nat.succ_mul]
      have hget2 : ∀ k, k ≤ len → ∀ i, i < k * sz → ((List.range k).map f).flatten[i]? = (f (i / sz))[i % sz]? := by
        intro k
        induction k with
        | zero => intro _ i hi; simp at hi
        | succ k ih =>
          intro hk i hi
          rw [List.range_succ, List.map_append, List.flatten_append]
          by_cases hik : i < k * sz
          · rw [List.getElem?_append_left (by rw [hflen k (by omega)]; exact hik)]
            exact ih (by omega) i hik
          · rw [List.getElem?_append_right (by rw [hflen k (by omega)]; omega), hflen k (by omega)]
            rw [Nat.succ_mul] at hi
            have e1 : i / sz = k := by
              rw [Nat.div_eq_iff hsz]
              omega
            have e2 : i % sz = i - k * sz := by
              have := Nat.div_add_mod i sz
              rw [e1, Nat.mul_comm] at this
              omega
            rw [e1, e2]
            simp
      refine ⟨_, _, b, off, (List.range len).map f, by rw [hrl], fun _ => rfl, ⟨fun i hi => ?_, fun _ => World.block_lt_of_cell? (w := w) (a := ⟨b, off, none⟩) hsome⟩, by rw [hrl]; omega, ?_⟩
      · rw [hflen len (Nat.le_refl _)] at hi
        rw [hget2 len (Nat.le_refl _) i hi]
        have hd : i / sz < len := by rw [Nat.div_lt_iff_lt_mul hsz]; exact hi
        rw [← hcell (i / sz) hd (i % sz) (Nat.mod_lt _ hsz), ← Go.WideShapes.add_plain]
        have : i / sz * sz + i % sz = i := by rw [Nat.mul_comm]; exact Nat.div_add_mod i sz
        rw [this]
      · intro x hx
        simp only [List.mem_map, List.mem_range] at hx
        obtain ⟨i, hi, rfl⟩ := hx
        exact ⟨hlen i hi, (hf' i hi).2⟩
    · obtain rfl : len = 0 := by omega
      exact ⟨some a, _, 0, 0, [], rfl, fun h => by simp at h, ⟨fun i hi => absurd hi (Nat.not_lt_zero i), fun h => absurd h (Nat.lt_irrefl 0)⟩, Nat.zero_le _, by simp⟩
theorem read_wrts {H : Type} {enc : TypeId × Value → H} {w : World} (fuel : Nat) (cs : List Value) (x : DataW H × List MemPlace)
    (h : DataW.trod enc Try.prog w 0 (fun _ => true) true fuel 29 cs = some x) : ∃ (v : Value) (X : List Wrt), cs = [v] ∧ Lst w v X.length (wCs X) ∧ X.length ≤ 9223372036854775807 := by
  obtain ⟨v, rfl, hsh⟩ : ∃ v, cs = [v] ∧ ∃ a0 len cap, v = .slice a0 len cap := by
    rcases Go.Deep.open_slice Try.underlying29 h with ⟨hcs, _⟩ | ⟨a, len', cap', m, n, D, Pl, hcs, _⟩
    · exact ⟨_, hcs, _, _, _, rfl⟩
    · exact ⟨_, hcs, _, _, _, rfl⟩
  have hT : DataW.Trod enc Try.prog w 0 (fun _ => true) true 29 v x.1 x.2 := by
    obtain ⟨a0, len, cap, rfl⟩ := hsh
    exact ⟨fuel, h⟩
  obtain ⟨A, cap, b, o, rows, rfl, hA, hx, hl, hr⟩ := open_rowsS 3 (by omega) (fun cs => ∃ c : Wrt, cs = wC c ∧ True) Try.underlying29 cellsW (fun fuel cs x h => by obtain ⟨c, hc⟩ := read_wrt fuel cs x h; exact ⟨c, hc, trivial⟩) hsh hT
  obtain ⟨X, rfl, _⟩ := rows_map wC (fun _ => True) rows (fun x hx => (hr x hx).2)
  simp only [List.length_map] at *
  exact ⟨_, X, rfl, ⟨A, cap, b, o, rfl, hA, by rw [wCs, List.flatMap_def]; exact hx⟩, hl⟩
theorem flat_one {α : Type} (f : α → Value) (L : List α) : (L.map (fun x => [f x])).flatten = L.map f := by
  induction L with
  | nil => rfl
  | cons a l ih => simpa using ih
theorem read_rn {H : Type} {enc : TypeId × Value → H} {w : World} (fuel : Nat) (cs : List Value) (x : DataW H × List MemPlace)
    (h : DataW.trod enc Try.prog w 0 (fun _ => true) true fuel 51 cs = some x) : ∃ c : Rn, cs = rnC c ∧ OkRn c := by
  obtain ⟨xs, n, _, _, hl, hxl, hf⟩ := DataW.trod_struct Try.underlying51 h
  rw [cellsRn] at hl
  match cs, hl with
  | [a0, a1, a2, a3, a4], _ =>
    have g0 : DataW.trod enc Try.prog w 0 (fun _ => true) true n 5 (([a0, a1, a2, a3, a4].drop 0).take (Try.prog.cellsOf 5)) = xs[0]? := hf 0 _ rfl
    rw [cellsU8] at g0
    have g1 : DataW.trod enc Try.prog w 0 (fun _ => true) true n 5 (([a0, a1, a2, a3, a4].drop 1).take (Try.prog.cellsOf 5)) = xs[1]? := hf 1 _ rfl
    rw [cellsU8] at g1
    have g2 : DataW.trod enc Try.prog w 0 (fun _ => true) true n 5 (([a0, a1, a2, a3, a4].drop 2).take (Try.prog.cellsOf 5)) = xs[2]? := hf 2 _ rfl
    rw [cellsU8] at g2
    have g3 : DataW.trod enc Try.prog w 0 (fun _ => true) true n 4 (([a0, a1, a2, a3, a4].drop 3).take (Try.prog.cellsOf 4)) = xs[3]? := hf 3 _ rfl
    rw [cellsB] at g3
    have g4 : DataW.trod enc Try.prog w 0 (fun _ => true) true n 4 (([a0, a1, a2, a3, a4].drop 4).take (Try.prog.cellsOf 4)) = xs[4]? := hf 4 _ rfl
    rw [cellsB] at g4
    simp only [List.drop_zero, List.drop_succ_cons, List.take_succ_cons, List.take_zero] at g0 g1 g2 g3 g4
    have hx : xs.length = 5 := by rw [hxl]; rfl
    match xs, hx with
    | [y0, y1, y2, y3, y4], _ =>
      simp only [List.getElem?_cons_zero, List.getElem?_cons_succ] at g0 g1 g2 g3 g4
      obtain ⟨p, e0, _, w0⟩ := DataW.trod_int Try.underlying5 g0
      obtain ⟨a, e1, _, w1⟩ := DataW.trod_int Try.underlying5 g1
      obtain ⟨r, e2, _, w2⟩ := DataW.trod_int Try.underlying5 g2
      obtain ⟨o, e3, _⟩ := DataW.trod_bool Try.underlying4 g3
      obtain ⟨l, e4, _⟩ := DataW.trod_bool Try.underlying4 g4
      simp only [List.cons.injEq, and_true] at e0 e1 e2 e3 e4
      subst e0 e1 e2 e3 e4
      have b0 := bounds_u8 w0
      have b1 := bounds_u8 w1
      have b2 := bounds_u8 w2
      obtain ⟨p, rfl⟩ : ∃ q : Nat, p = (q : Int) := ⟨p.toNat, by omega⟩
      obtain ⟨a, rfl⟩ : ∃ q : Nat, a = (q : Int) := ⟨a.toNat, by omega⟩
      obtain ⟨r, rfl⟩ : ∃ q : Nat, r = (q : Int) := ⟨r.toNat, by omega⟩
      exact ⟨⟨p, a, r, o, l⟩, rfl, by show p < 256; omega, by show a < 256; omega, by show r < 256; omega⟩
theorem read_rns {H : Type} {enc : TypeId × Value → H} {w : World} (fuel : Nat) (cs : List Value) (x : DataW H × List MemPlace)
    (h : DataW.trod enc Try.prog w 0 (fun _ => true) true fuel 49 cs = some x) : ∃ (v : Value) (X : List Rn), cs = [v] ∧ Lst w v X.length (rnCs X) ∧ X.length ≤ 9223372036854775807 ∧ ∀ r ∈ X, OkRn r := by
  obtain ⟨v, rfl, hsh⟩ : ∃ v, cs = [v] ∧ ∃ a0 len cap, v = .slice a0 len cap := by
    rcases Go.Deep.open_slice Try.underlying49 h with ⟨hcs, _⟩ | ⟨a, len', cap', m, n, D, Pl, hcs, _⟩
    · exact ⟨_, hcs, _, _, _, rfl⟩
    · exact ⟨_, hcs, _, _, _, rfl⟩
  have hT : DataW.Trod enc Try.prog w 0 (fun _ => true) true 49 v x.1 x.2 := by
    obtain ⟨a0, len, cap, rfl⟩ := hsh
    exact ⟨fuel, h⟩
  obtain ⟨A, cap, b, o, rows, rfl, hA, hx, hl, hr⟩ := open_rowsS 5 (by omega) (fun cs => ∃ c : Rn, cs = rnC c ∧ OkRn c) Try.underlying49 cellsRn (fun fuel cs x h => read_rn fuel cs x h) hsh hT
  obtain ⟨X, rfl, hX⟩ := rows_map rnC (fun c => OkRn c) rows (fun x hx => (hr x hx).2)
  simp only [List.length_map] at *
  exact ⟨_, X, rfl, ⟨A, cap, b, o, rfl, hA, by rw [rnCs, List.flatMap_def]; exact hx⟩, hl, hX⟩
theorem open_runs {H : Type} {enc : TypeId × Value → H} {w : World} {r : Reach} {b0 : Nat} {v : Value} {d : DataW H} {p : List MemPlace}
    (hv : Value.okWide Try.prog w r b0 23 v) (h : DataW.Trod enc Try.prog w 0 (fun _ => true) true 23 v d p) : ∃ X : List (Value × List Rn), OkRuns w v X := by
  obtain ⟨A, cap, b, o, rows, rfl, hA, hx, hl, hr⟩ := open_rows 1 (by omega) (fun cs => ∃ c : Value × List Rn, cs = [c.1] ∧ (Lst w c.1 c.2.length (rnCs c.2) ∧ c.2.length ≤ 9223372036854775807 ∧ ∀ r ∈ c.2, OkRn r)) Try.underlying23 cellsRnS
    (fun fuel cs x h => by obtain ⟨v, X, h1, h2, h3, h4⟩ := read_rns fuel cs x h; exact ⟨(v, X), h1, h2, h3, h4⟩) hv h
  obtain ⟨X, rfl, hX⟩ := rows_map (fun c : Value × List Rn => [c.1]) (fun c => Lst w c.1 c.2.length (rnCs c.2) ∧ c.2.length ≤ 9223372036854775807 ∧ ∀ r ∈ c.2, OkRn r) rows (fun x hx => (hr x hx).2)
  simp only [List.length_map] at *
  rw [flat_one (fun c : Value × List Rn => c.1)] at hx
  exact ⟨X, ⟨A, cap, b, o, rfl, hA, hx⟩, hl, hX⟩
theorem read_op {H : Type} {enc : TypeId × Value → H} {w : World} (fuel : Nat) (cs : List Value) (x : DataW H × List MemPlace)
    (h : DataW.trod enc Try.prog w 0 (fun _ => true) true fuel 31 cs = some x) : ∃ (c : Int) (k : ByteArray) (t : Int) (bv : Value) (b : List Wrt) (h u m : Int), cs = [.int .i64 c, .string k, .int .u64 t, bv, .int .i64 h, .int .i64 u, .int .i64 m] ∧ Lst w bv b.length (wCs b) := by
  obtain ⟨xs, n, _, _, hl, hxl, hf⟩ := DataW.trod_struct Try.underlying31 h
  rw [cellsO] at hl
  match cs, hl with
  | [a0, a1, a2, a3, a4, a5, a6], _ =>
    have g0 : DataW.trod enc Try.prog w 0 (fun _ => true) true n 3 (([a0, a1, a2, a3, a4, a5, a6].drop 0).take (Try.prog.cellsOf 3)) = xs[0]? := hf 0 _ rfl
    rw [cellsI] at g0
    have g1 : DataW.trod enc Try.prog w 0 (fun _ => true) true n 9 (([a0, a1, a2, a3, a4, a5, a6].drop 1).take (Try.prog.cellsOf 9)) = xs[1]? := hf 1 _ rfl
    rw [cellsS] at g1
    have g2 : DataW.trod enc Try.prog w 0 (fun _ => true) true n 28 (([a0, a1, a2, a3, a4, a5, a6].drop 2).take (Try.prog.cellsOf 28)) = xs[2]? := hf 2 _ rfl
    rw [cellsU] at g2
    have g3 : DataW.trod enc Try.prog w 0 (fun _ => true) true n 29 (([a0, a1, a2, a3, a4, a5, a6].drop 3).take (Try.prog.cellsOf 29)) = xs[3]? := hf 3 _ rfl
    rw [cellsWS] at g3
    have g4 : DataW.trod enc Try.prog w 0 (fun _ => true) true n 3 (([a0, a1, a2, a3, a4, a5, a6].drop 4).take (Try.prog.cellsOf 3)) = xs[4]? := hf 4 _ rfl
    rw [cellsI] at g4
    have g5 : DataW.trod enc Try.prog w 0 (fun _ => true) true n 3 (([a0, a1, a2, a3, a4, a5, a6].drop 5).take (Try.prog.cellsOf 3)) = xs[5]? := hf 5 _ rfl
    rw [cellsI] at g5
    have g6 : DataW.trod enc Try.prog w 0 (fun _ => true) true n 3 (([a0, a1, a2, a3, a4, a5, a6].drop 6).take (Try.prog.cellsOf 3)) = xs[6]? := hf 6 _ rfl
    rw [cellsI] at g6
    simp only [List.drop_zero, List.drop_succ_cons, List.take_succ_cons, List.take_zero] at g0 g1 g2 g3 g4 g5 g6
    have hx : xs.length = 7 := by rw [hxl]; rfl
    match xs, hx with
    | [y0, y1, y2, y3, y4, y5, y6], _ =>
      simp only [List.getElem?_cons_zero, List.getElem?_cons_succ] at g0 g1 g2 g3 g4 g5 g6
      obtain ⟨c, e0, _, w0⟩ := DataW.trod_int Try.underlying3 g0
      obtain ⟨k, e1, _, _⟩ := DataW.trod_string Try.underlying9 g1
      obtain ⟨t, e2, _, w2⟩ := DataW.trod_int Try.underlying28 g2
      obtain ⟨v, X, e3, hL, hXl⟩ := read_wrts n _ _ g3
      obtain ⟨h, e4, _, w4⟩ := DataW.trod_int Try.underlying3 g4
      obtain ⟨u, e5, _, w5⟩ := DataW.trod_int Try.underlying3 g5
      obtain ⟨m, e6, _, w6⟩ := DataW.trod_int Try.underlying3 g6
      simp only [List.cons.injEq, and_true] at e0 e1 e2 e3 e4 e5 e6
      subst e0 e1 e2 e3 e4 e5 e6
      exact ⟨_, _, _, _, X, _, _, _, rfl, hL⟩
theorem read_ans {H : Type} {enc : TypeId × Value → H} {w : World} (fuel : Nat) (cs : List Value) (x : DataW H × List MemPlace)
    (h : DataW.trod enc Try.prog w 0 (fun _ => true) true fuel 34 cs = some x) : ∃ (c t : Int) (k v : ByteArray), cs = [.int .i64 c, .int .u64 t, .string k, .string v] := by
  obtain ⟨xs, n, _, _, hl, hxl, hf⟩ := DataW.trod_struct Try.underlying34 h
  rw [cellsA] at hl
  match cs, hl with
  | [a0, a1, a2, a3], _ =>
    have g0 : DataW.trod enc Try.prog w 0 (fun _ => true) true n 32 (([a0, a1, a2, a3].drop 0).take (Try.prog.cellsOf 32)) = xs[0]? := hf 0 _ rfl
    rw [cellsE] at g0
    have g1 : DataW.trod enc Try.prog w 0 (fun _ => true) true n 28 (([a0, a1, a2, a3].drop 1).take (Try.prog.cellsOf 28)) = xs[1]? := hf 1 _ rfl
    rw [cellsU] at g1
    have g2 : DataW.trod enc Try.prog w 0 (fun _ => true) true n 9 (([a0, a1, a2, a3].drop 2).take (Try.prog.cellsOf 9)) = xs[2]? := hf 2 _ rfl
    rw [cellsS] at g2
    have g3 : DataW.trod enc Try.prog w 0 (fun _ => true) true n 9 (([a0, a1, a2, a3].drop 3).take (Try.prog.cellsOf 9)) = xs[3]? := hf 3 _ rfl
    rw [cellsS] at g3
    simp only [List.drop_zero, List.drop_succ_cons, List.take_succ_cons, List.take_zero] at g0 g1 g2 g3
    have hx : xs.length = 4 := by rw [hxl]; rfl
    match xs, hx with
    | [y0, y1, y2, y3], _ =>
      simp only [List.getElem?_cons_zero, List.getElem?_cons_succ] at g0 g1 g2 g3
      obtain ⟨c, e0, _, w0⟩ := DataW.trod_int Try.underlying32 g0
      obtain ⟨t, e1, _, w1⟩ := DataW.trod_int Try.underlying28 g1
      obtain ⟨k, e2, _, _⟩ := DataW.trod_string Try.underlying9 g2
      obtain ⟨v, e3, _, _⟩ := DataW.trod_string Try.underlying9 g3
      simp only [List.cons.injEq, and_true] at e0 e1 e2 e3
      subst e0 e1 e2 e3
      exact ⟨_, _, _, _, rfl⟩
theorem read_rec {H : Type} {enc : TypeId × Value → H} {w : World} (fuel : Nat) (cs : List Value) (x : DataW H × List MemPlace)
    (h : DataW.trod enc Try.prog w 0 (fun _ => true) true fuel 36 cs = some x) : ∃ c : RV, cs = rC c ∧ (OkB w c ∧ RngA c.n) := by
  obtain ⟨xs, n, _, _, hl, hxl, hf⟩ := DataW.trod_struct Try.underlying36 h
  rw [cellsR] at hl
  match cs, hl with
  | [a0, a1, a2, a3, a4, a5, a6, a7, a8, a9, a10, a11, a12, a13, a14, a15], _ =>
    have g0 : DataW.trod enc Try.prog w 0 (fun _ => true) true n 3 (([a0, a1, a2, a3, a4, a5, a6, a7, a8, a9, a10, a11, a12, a13, a14, a15].drop 0).take (Try.prog.cellsOf 3)) = xs[0]? := hf 0 _ rfl
    rw [cellsI] at g0
    have g1 : DataW.trod enc Try.prog w 0 (fun _ => true) true n 3 (([a0, a1, a2, a3, a4, a5, a6, a7, a8, a9, a10, a11, a12, a13, a14, a15].drop 1).take (Try.prog.cellsOf 3)) = xs[1]? := hf 1 _ rfl
    rw [cellsI] at g1
    have g2 : DataW.trod enc Try.prog w 0 (fun _ => true) true n 3 (([a0, a1, a2, a3, a4, a5, a6, a7, a8, a9, a10, a11, a12, a13, a14, a15].drop 2).take (Try.prog.cellsOf 3)) = xs[2]? := hf 2 _ rfl
    rw [cellsI] at g2
    have g3 : DataW.trod enc Try.prog w 0 (fun _ => true) true n 3 (([a0, a1, a2, a3, a4, a5, a6, a7, a8, a9, a10, a11, a12, a13, a14, a15].drop 3).take (Try.prog.cellsOf 3)) = xs[3]? := hf 3 _ rfl
    rw [cellsI] at g3
    have g4 : DataW.trod enc Try.prog w 0 (fun _ => true) true n 3 (([a0, a1, a2, a3, a4, a5, a6, a7, a8, a9, a10, a11, a12, a13, a14, a15].drop 4).take (Try.prog.cellsOf 3)) = xs[4]? := hf 4 _ rfl
    rw [cellsI] at g4
    have g5 : DataW.trod enc Try.prog w 0 (fun _ => true) true n 31 (([a0, a1, a2, a3, a4, a5, a6, a7, a8, a9, a10, a11, a12, a13, a14, a15].drop 5).take (Try.prog.cellsOf 31)) = xs[5]? := hf 5 _ rfl
    rw [cellsO] at g5
    have g6 : DataW.trod enc Try.prog w 0 (fun _ => true) true n 34 (([a0, a1, a2, a3, a4, a5, a6, a7, a8, a9, a10, a11, a12, a13, a14, a15].drop 12).take (Try.prog.cellsOf 34)) = xs[6]? := hf 6 _ rfl
    rw [cellsA] at g6
    simp only [List.drop_zero, List.drop_succ_cons, List.take_succ_cons, List.take_zero] at g0 g1 g2 g3 g4 g5 g6
    have hx : xs.length = 7 := by rw [hxl]; rfl
    match xs, hx with
    | [y0, y1, y2, y3, y4, y5, y6], _ =>
      simp only [List.getElem?_cons_zero, List.getElem?_cons_succ] at g0 g1 g2 g3 g4 g5 g6
      obtain ⟨q0, e0, _, w0⟩ := DataW.trod_int Try.underlying3 g0
      obtain ⟨q1, e1, _, w1⟩ := DataW.trod_int Try.underlying3 g1
      obtain ⟨q2, e2, _, w2⟩ := DataW.trod_int Try.underlying3 g2
      obtain ⟨q3, e3, _, w3⟩ := DataW.trod_int Try.underlying3 g3
      obtain ⟨q4, e4, _, w4⟩ := DataW.trod_int Try.underlying3 g4
      obtain ⟨c, k, t, bv, b, hd, u, m, e5, hL⟩ := read_op n _ _ g5
      obtain ⟨er, at_, ak, av, e6⟩ := read_ans n _ _ g6
      simp only [List.cons.injEq, and_true] at e0 e1 e2 e3 e4 e5 e6
      subst e0 e1 e2 e3 e4
      obtain ⟨rfl, rfl, rfl, rfl, rfl, rfl, rfl⟩ := e5
      obtain ⟨rfl, rfl, rfl, rfl⟩ := e6
      obtain ⟨bA, bc, bb, bo, rfl, hA, har⟩ := hL
      have b0 := bounds_i64 w0
      have b1 := bounds_i64 w1
      have b3 := bounds_i64 w3
      exact ⟨⟨⟨q0, q1, q2, q3, q4⟩, c, k, t, bA, bc, b, hd, u, m, er, at_, ak, av⟩, rfl, ⟨bA, bc, bb, bo, rfl, hA, har⟩, ⟨b0.1, by show q0 < _; omega⟩, ⟨b1.1, by show q1 < _; omega⟩, ⟨b3.1, by show q3 < _; omega⟩⟩
theorem open_recs {H : Type} {enc : TypeId × Value → H} {w : World} {r : Reach} {b0 : Nat} {v : Value} {d : DataW H} {p : List MemPlace}
    (hv : Value.okWide Try.prog w r b0 22 v) (h : DataW.Trod enc Try.prog w 0 (fun _ => true) true 22 v d p) :
    ∃ X : List RV, Lst w v X.length (rCs X) ∧ X.length ≤ 9223372036854775807 ∧ ∀ x ∈ X, OkB w x ∧ RngA x.n := by
  obtain ⟨A, cap, b, o, rows, rfl, hA, hx, hl, hr⟩ := open_rows 16 (by omega) (fun cs => ∃ c : RV, cs = rC c ∧ (OkB w c ∧ RngA c.n)) Try.underlying22 cellsR (fun fuel cs x h => read_rec fuel cs x h) hv h
  obtain ⟨X, rfl, hX⟩ := rows_map rC (fun c => OkB w c ∧ RngA c.n) rows (fun x hx => (hr x hx).2)
  simp only [List.length_map] at *
  exact ⟨X, ⟨A, cap, b, o, rfl, hA, by rw [rCs, List.flatMap_def]; exact hx⟩, hl, hX⟩
theorem tmod_neg (k n : Int) (hn : 1 ≤ n) (hk : k < 0) : (k.tmod n < 0 → k.tmod n + n = k % n) ∧ (0 ≤ k.tmod n → k.tmod n = k % n) ∧ -n < k.tmod n := by
  have e : k.tmod n = -((-k) % n) := by
    have := Int.neg_tmod (-k) n
    rw [Int.neg_neg] at this
    rw [this, Int.tmod_eq_emod_of_nonneg (by omega)]
  have a0 := Int.emod_nonneg k (show n ≠ 0 by omega)
  have a1 := Int.emod_lt_of_pos k (show 0 < n by omega)
  have b0 := Int.emod_nonneg (-k) (show n ≠ 0 by omega)
  have b1 := Int.emod_lt_of_pos (-k) (show 0 < n by omega)
  have d1 := Int.mul_ediv_add_emod k n
  have d2 := Int.mul_ediv_add_emod (-k) n
  rw [e]
  generalize hr : (-k) % n = r at *
  generalize hs : k % n = s at *
  generalize (-k) / n = u at *
  generalize k / n = v at *
  have hsum : n * (u + v) + (r + s) = 0 := by rw [Int.mul_add]; omega
  have ht : u + v = 0 ∨ u + v = -1 := by
    by_cases h : u + v < -1
    · have := Int.mul_le_mul_of_nonneg_left (show u + v ≤ -2 by omega) (show 0 ≤ n by omega)
      omega
    · by_cases h' : 0 < u + v
      · have := Int.mul_le_mul_of_nonneg_left (show 1 ≤ u + v by omega) (show 0 ≤ n by omega)
        omega
      · omega
  rcases ht with ht | ht <;> rw [ht] at hsum
  · refine ⟨fun h => by omega, fun h => by omega, by omega⟩
  · refine ⟨fun h => by omega, fun h => by omega, by omega⟩
theorem mod_any (k n : Int) (hk : -9223372036854775808 ≤ k) (hk' : k ≤ 9223372036854775807) (hn : 1 ≤ n) (hn' : n ≤ 4611686018427387904) (w : World) :
    Calls Try.prog 12 #[.int .i64 k, .int .i64 n] w fun e w' => e = .returned (.int .i64 (k % n)) ∧ w = w' := by
  have hm0 := Int.emod_nonneg k (show n ≠ 0 by omega)
  have hm1 := Int.emod_lt_of_pos k (show 0 < n by omega)
  by_cases h0 : 0 ≤ k
  · have e : k.tmod n = k % n := Int.tmod_eq_emod_of_nonneg h0
    go_enter Try.func12, Try.ntmps12
    go_wp2
    go_ret
    exact ⟨rfl, rfl⟩
  · obtain ⟨t1, t2, t3⟩ := tmod_neg k n hn (by omega)
    have T1 := Lib.hid t1
    have T2 := Lib.hid t2
    clear t1 t2
    go_enter Try.func12, Try.ntmps12
    go_wp2
    · have hl : k.tmod n < 0 := by assumption
      go_ret
      exact ⟨by simp [T1.out hl], rfl⟩
    · have hl : 0 ≤ k.tmod n := by assumption
      go_ret
      exact ⟨by simp [T2.out hl], rfl⟩
end Go.Proofs.Ytjlgodaiciopaaa
