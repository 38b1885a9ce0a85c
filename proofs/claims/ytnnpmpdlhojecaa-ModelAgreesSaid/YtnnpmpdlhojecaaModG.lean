/- Arguments of the types [][]api.Write and []blinktreelaw21.Step, opened. -/
import Derived.Test.YtnnpmpdlhojecaaBatArg
namespace Go.Proofs.Ytnnpmpdlhojecaa
open Go.ChangeShapes Go.WideShapes Go.ChangeAt Go.RowKit
set_option maxRecDepth 100000
theorem open_rowsS {H : Type} {enc : TypeId × Value → H} {P : Program} {w : World} {t e : TypeId} {v : Value} {d : DataW H} {p : List MemPlace} (sz : Nat) (hsz : 0 < sz) (R : List Value → Prop)
    (ht : P.underlying t = some (.slice e)) (hc : P.cellsOf e = sz)
    (hR : ∀ (fuel : Nat) (cs : List Value) (x : DataW H × List MemPlace), DataW.trod enc P w 0 (fun _ => true) true fuel e cs = some x → R cs)
    (hsh : ∃ a0 len cap, v = .slice a0 len cap) (h : DataW.Trod enc P w 0 (fun _ => true) true t v d p) :
    ∃ (A : Option Addr) (cap b o : Nat) (rows : List (List Value)), v = .slice A rows.length cap ∧ (0 < rows.length → A = some ⟨b, o, none⟩) ∧ Arr w b o rows.flatten ∧ rows.length ≤ 9223372036854775807 ∧
      ∀ x, x ∈ rows → x.length = sz ∧ R x := by
  obtain ⟨a0, len, cap, rfl⟩ := hsh
  obtain ⟨fuel, hf⟩ := h
  rcases Go.Deep.open_slice ht hf with ⟨hcs, _⟩ | ⟨a, len', cap', m, n, D, Pl, hcs, _, hl, hm, hmm, _, hel⟩
  · simp [Value.cells] at hcs
    obtain ⟨rfl, rfl, rfl⟩ := hcs
    exact ⟨none, 0, 0, 0, [], rfl, fun h => by simp at h, ⟨fun i hi => absurd hi (Nat.not_lt_zero i), fun h => absurd h (Nat.lt_irrefl 0)⟩, Nat.zero_le _, by simp⟩
  · simp [Value.cells] at hcs
    obtain ⟨rfl, rfl, rfl⟩ := hcs
    simp only [if_true] at hmm
    subst hmm
    rw [hc] at hel
    unfold maxLen at hm
    by_cases h0 : 0 < len
    · have hget : ∀ i, i < len → ∃ cs', w.cells? 0 (a.add (i * sz)) sz = some cs' ∧ R cs' := fun i hi => by
        obtain ⟨cs', h1, h2⟩ := hel i (by omega)
        exact ⟨cs', h1, hR _ _ _ h2⟩
      obtain ⟨f, hf'⟩ : ∃ f : Nat → List Value, ∀ i, i < len → w.cells? 0 (a.add (i * sz)) sz = some (f i) ∧ R (f i) := by
        refine ⟨fun i => if h : i < len then (hget i h).choose else [], fun i hi => ?_⟩
        simp only [hi, dif_pos]
        exact (hget i hi).choose_spec
      have hlen : ∀ i, i < len → (f i).length = sz := fun i hi => (World.cells?_some (hf' i hi).1).2.1
      have hcell : ∀ i, i < len → ∀ j, j < sz → w.cell? (a.add (i * sz + j)) = (f i)[j]? := fun i hi j hj => by
        have := (World.cells?_some (hf' i hi).1).2.2 j hj
        rwa [Go.Deep.add_add] at this
      obtain ⟨b, off, spot⟩ := a
      have hfirst := hcell 0 h0 0 hsz
      have hsome : w.cell? ⟨b, off, spot⟩ = some ((f 0)[0]'(by rw [hlen 0 h0]; exact hsz)) := by
        rw [List.getElem?_eq_getElem (by rw [hlen 0 h0]; exact hsz)] at hfirst
        simpa [Addr.add] using hfirst
      obtain rfl : spot = none := World.cell?_spot hsome
      have hrl : ((List.range len).map f).length = len := by simp
      have hflen : ∀ k, k ≤ len → ((List.range k).map f).flatten.length = k * sz := by
        intro k
        induction k with
        | zero => simp
        | succ k ih =>
          intro hk
          rw [List.range_succ, List.map_append, List.flatten_append, List.length_append, ih (by omega)]
          simp [hlen k (by omega), Nat.succ_mul]
      have hget2 : ∀ k, k ≤ len → ∀ i, i < k * sz → ((List.range k).map f).flatten[i]? = (f (i / sz))[i % sz]? := by
        intro k
        induction k with
        | zero => intro _ i hi; simp at hi
        | succ k ih =>
          intro hk i hi
          rw [List.range_succ, List.map_append, List.flatten_append]
          by_cases hik : i < k * sz
          · rw [List.getElem?_append_left (by rw [hflen k (by omega)]; exact hik)]
            exact ih (by omega) i hik
          · rw [List.getElem?_append_right (by rw [hflen k (by omega)]; omega), hflen k (by omega)]
            rw [Nat.succ_mul] at hi
            have e1 : i / sz = k := by
              rw [Nat.div_eq_iff hsz]
              omega
            have e2 : i % sz = i - k * sz := by
              have := Nat.div_add_mod i sz
              rw [e1, Nat.mul_comm] at this
              omega
            rw [e1, e2]
            simp
      refine ⟨_, _, b, off, (List.range len).map f, by rw [hrl], fun _ => rfl, ⟨fun i hi => ?_, fun _ => World.block_lt_of_cell? (w := w) (a := ⟨b, off, none⟩) hsome⟩, by rw [hrl]; omega, ?_⟩
      · rw [hflen len (Nat.le_refl _)] at hi
        rw [hget2 len (Nat.le_refl _) i hi]
        have hd : i / sz < len := by rw [Nat.div_lt_iff_lt_mul hsz]; exact hi
        rw [← hcell (i / sz) hd (i % sz) (Nat.mod_lt _ hsz), ← Go.WideShapes.add_plain]
        have : i / sz * sz + i % sz = i := by rw [Nat.mul_comm]; exact Nat.div_add_mod i sz
        rw [this]
      · intro x hx
        simp only [List.mem_map, List.mem_range] at hx
        obtain ⟨i, hi, rfl⟩ := hx
        exact ⟨hlen i hi, (hf' i hi).2⟩
    · obtain rfl : len = 0 := by omega
      exact ⟨some a, _, 0, 0, [], rfl, fun h => by simp at h, ⟨fun i hi => absurd hi (Nat.not_lt_zero i), fun h => absurd h (Nat.lt_irrefl 0)⟩, Nat.zero_le _, by simp⟩
theorem cellsWS : Try.prog.cellsOf 28 = 1 := by kernel_rfl
theorem cellsStep : Try.prog.cellsOf 42 = 5 := by kernel_rfl
theorem cellsI : Try.prog.cellsOf 3 = 1 := by kernel_rfl
theorem cellsU : Try.prog.cellsOf 23 = 1 := by kernel_rfl
theorem read_wrts {H : Type} {enc : TypeId × Value → H} {w : World} (fuel : Nat) (cs : List Value) (x : DataW H × List MemPlace)
    (h : DataW.trod enc Try.prog w 0 (fun _ => true) true fuel 28 cs = some x) : ∃ (v : Value) (X : List Wrt), cs = [v] ∧ Lst w v X.length (wCs X) ∧ X.length ≤ 9223372036854775807 := by
  obtain ⟨v, rfl, hsh⟩ : ∃ v, cs = [v] ∧ ∃ a0 len cap, v = .slice a0 len cap := by
    rcases Go.Deep.open_slice Try.underlying28 h with ⟨hcs, _⟩ | ⟨a, len', cap', m, n, D, Pl, hcs, _⟩
    · exact ⟨_, hcs, _, _, _, rfl⟩
    · exact ⟨_, hcs, _, _, _, rfl⟩
  have hT : DataW.Trod enc Try.prog w 0 (fun _ => true) true 28 v x.1 x.2 := by
    obtain ⟨a0, len, cap, rfl⟩ := hsh
    exact ⟨fuel, h⟩
  obtain ⟨A, cap, b, o, rows, rfl, hA, hx, hl, hr⟩ := open_rowsS 3 (by omega) (fun cs => ∃ c : Wrt, cs = wC c ∧ True) Try.underlying28 cellsW (fun fuel cs x h => by obtain ⟨c, hc⟩ := read_wrt fuel cs x h; exact ⟨c, hc, trivial⟩) hsh hT
  obtain ⟨X, rfl, _⟩ := rows_map wC (fun _ => True) rows (fun x hx => (hr x hx).2)
  simp only [List.length_map] at *
  exact ⟨_, X, rfl, ⟨A, cap, b, o, rfl, hA, by rw [wCs, List.flatMap_def]; exact hx⟩, hl⟩
theorem flat_one {α : Type} (f : α → Value) (L : List α) : (L.map (fun x => [f x])).flatten = L.map f := by
  induction L with
  | nil => rfl
  | cons a l ih => simpa using ih
theorem open_wrtss {H : Type} {enc : TypeId × Value → H} {w : World} {r : Reach} {b0 : Nat} {v : Value} {d : DataW H} {p : List MemPlace}
    (hv : Value.okWide Try.prog w r b0 22 v) (h : DataW.Trod enc Try.prog w 0 (fun _ => true) true 22 v d p) :
    ∃ X : List (Value × List Wrt), Lst w v X.length (X.map (·.1)) ∧ X.length ≤ 9223372036854775807 ∧ ∀ p ∈ X, Lst w p.1 p.2.length (wCs p.2) ∧ p.2.length ≤ 9223372036854775807 := by
  obtain ⟨A, cap, b, o, rows, rfl, hA, hx, hl, hr⟩ := open_rows 1 (by omega) (fun cs => ∃ c : Value × List Wrt, cs = [c.1] ∧ (Lst w c.1 c.2.length (wCs c.2) ∧ c.2.length ≤ 9223372036854775807)) Try.underlying22 cellsWS (fun fuel cs x h => by obtain ⟨v, X, h1, h2, h3⟩ := read_wrts fuel cs x h; exact ⟨(v, X), h1, h2, h3⟩) hv h
  obtain ⟨X, rfl, hX⟩ := rows_map (fun c : Value × List Wrt => [c.1]) (fun c => Lst w c.1 c.2.length (wCs c.2) ∧ c.2.length ≤ 9223372036854775807) rows (fun x hx => (hr x hx).2)
  simp only [List.length_map] at *
  rw [flat_one (fun c : Value × List Wrt => c.1)] at hx
  exact ⟨X, ⟨A, cap, b, o, rfl, hA, hx⟩, hl, hX⟩
structure Stp where
  kind : Int
  bv : Value
  b : List Wrt
  t : Int
  j : Int
  too : Int
def sC (s : Stp) : List Value := [.int .i64 s.kind, s.bv, .int .i64 s.t, .int .i64 s.j, .int .u64 s.too]
def OkS (w : World) (s : Stp) : Prop := Lst w s.bv s.b.length (wCs s.b) ∧ s.b.length ≤ 9223372036854775807 ∧ (-9223372036854775808 ≤ s.kind ∧ s.kind ≤ 9223372036854775807) ∧ (-9223372036854775808 ≤ s.t ∧ s.t ≤ 9223372036854775807) ∧ (-9223372036854775808 ≤ s.j ∧ s.j ≤ 9223372036854775807) ∧ (0 ≤ s.too ∧ s.too ≤ 18446744073709551615)
theorem read_step {H : Type} {enc : TypeId × Value → H} {w : World} (fuel : Nat) (cs : List Value) (x : DataW H × List MemPlace)
    (h : DataW.trod enc Try.prog w 0 (fun _ => true) true fuel 42 cs = some x) : ∃ c : Stp, cs = sC c ∧ OkS w c := by
  obtain ⟨xs, n, _, _, hl, hxl, hf⟩ := DataW.trod_struct Try.underlying42 h
  rw [cellsStep] at hl
  match cs, hl with
  | [a, b, c, d, e], _ =>
    have g0 : DataW.trod enc Try.prog w 0 (fun _ => true) true n 3 (([a, b, c, d, e].drop 0).take (Try.prog.cellsOf 3)) = xs[0]? := hf 0 _ rfl
    rw [cellsI] at g0
    have g1 : DataW.trod enc Try.prog w 0 (fun _ => true) true n 28 (([a, b, c, d, e].drop 1).take (Try.prog.cellsOf 28)) = xs[1]? := hf 1 _ rfl
    rw [cellsWS] at g1
    have g2 : DataW.trod enc Try.prog w 0 (fun _ => true) true n 3 (([a, b, c, d, e].drop 2).take (Try.prog.cellsOf 3)) = xs[2]? := hf 2 _ rfl
    rw [cellsI] at g2
    have g3 : DataW.trod enc Try.prog w 0 (fun _ => true) true n 3 (([a, b, c, d, e].drop 3).take (Try.prog.cellsOf 3)) = xs[3]? := hf 3 _ rfl
    rw [cellsI] at g3
    have g4 : DataW.trod enc Try.prog w 0 (fun _ => true) true n 23 (([a, b, c, d, e].drop 4).take (Try.prog.cellsOf 23)) = xs[4]? := hf 4 _ rfl
    rw [cellsU] at g4
    simp only [List.drop_zero, List.drop_succ_cons, List.take_succ_cons, List.take_zero] at g0 g1 g2 g3 g4
    have hx : xs.length = 5 := by rw [hxl]; rfl
    match xs, hx with
    | [y0, y1, y2, y3, y4], _ =>
      simp only [List.getElem?_cons_zero, List.getElem?_cons_succ] at g0 g1 g2 g3 g4
      obtain ⟨K, e0, _, w0⟩ := DataW.trod_int Try.underlying3 g0
      obtain ⟨v, X, e1, hL, hXl⟩ := read_wrts n _ _ g1
      obtain ⟨T, e2, _, w2⟩ := DataW.trod_int Try.underlying3 g2
      obtain ⟨J, e3, _, w3⟩ := DataW.trod_int Try.underlying3 g3
      obtain ⟨U, e4, _, w4⟩ := DataW.trod_int Try.underlying23 g4
      simp only [List.cons.injEq, and_true] at e0 e1 e2 e3 e4
      subst e0 e1 e2 e3 e4
      exact ⟨⟨K, b, X, T, J, U⟩, rfl, hL, hXl, bounds_i64 w0, bounds_i64 w2, bounds_i64 w3, bounds_u64 w4⟩
theorem open_steps {H : Type} {enc : TypeId × Value → H} {w : World} {r : Reach} {b0 : Nat} {v : Value} {d : DataW H} {p : List MemPlace}
    (hv : Value.okWide Try.prog w r b0 37 v) (h : DataW.Trod enc Try.prog w 0 (fun _ => true) true 37 v d p) :
    ∃ X : List Stp, Lst w v X.length (X.flatMap sC) ∧ X.length ≤ 9223372036854775807 ∧ ∀ p ∈ X, OkS w p := by
  obtain ⟨A, cap, b, o, rows, rfl, hA, hx, hl, hr⟩ := open_rows 5 (by omega) (fun cs => ∃ c : Stp, cs = sC c ∧ OkS w c) Try.underlying37 cellsStep (fun fuel cs x h => read_step fuel cs x h) hv h
  obtain ⟨X, rfl, hX⟩ := rows_map sC (fun c => OkS w c) rows (fun x hx => (hr x hx).2)
  simp only [List.length_map] at *
  exact ⟨X, ⟨A, cap, b, o, rfl, hA, by rw [List.flatMap_def]; exact hx⟩, hl, hX⟩
end Go.Proofs.Ytnnpmpdlhojecaa
