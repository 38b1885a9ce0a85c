/- Arguments of the types []api.Write, []api.Entry and string, opened. -/
import Derived.Test.YtnnpmpdlhojecaaFrame
import Derived.Test.YtnnpmpdlhojecaaBatL
import Derived.Test.YtnnpmpdlhojecaaProg
namespace Go.Proofs.Ytnnpmpdlhojecaa
open Go.ChangeShapes Go.WideShapes Go.ChangeAt Go.RowKit
theorem cellsW : Try.prog.cellsOf 57 = 3 := by kernel_rfl
theorem cellsE : Try.prog.cellsOf 35 = 2 := by kernel_rfl
theorem cellsS : Try.prog.cellsOf 9 = 1 := by kernel_rfl
theorem cellsB : Try.prog.cellsOf 4 = 1 := by kernel_rfl
theorem str_of (s : ByteArray) : ∃ k : Str, s = ⟨k.toArray⟩ := ⟨s.data.toList, by cases s; simp⟩
set_option maxRecDepth 100000 in
theorem read_wrt {H : Type} {enc : TypeId × Value → H} {w : World} {base : Nat} {spare : Nat → Bool} {held : Bool} (fuel : Nat) (cs : List Value) (x : DataW H × List MemPlace)
    (h : DataW.trod enc Try.prog w base spare held fuel 57 cs = some x) : ∃ c : Wrt, cs = wC c := by
  obtain ⟨xs, n, _, _, hl, hxl, hf⟩ := DataW.trod_struct Try.underlying57 h
  rw [cellsW] at hl
  match cs, hl with
  | [a, b, c], _ =>
    have g0 : DataW.trod enc Try.prog w base spare held n 9 (([a, b, c].drop 0).take (Try.prog.cellsOf 9)) = xs[0]? := hf 0 _ rfl
    rw [cellsS] at g0
    have g1 : DataW.trod enc Try.prog w base spare held n 9 (([a, b, c].drop 1).take (Try.prog.cellsOf 9)) = xs[1]? := hf 1 _ rfl
    rw [cellsS] at g1
    have g2 : DataW.trod enc Try.prog w base spare held n 4 (([a, b, c].drop 2).take (Try.prog.cellsOf 4)) = xs[2]? := hf 2 _ rfl
    rw [cellsB] at g2
    simp only [List.drop_zero, List.drop_succ_cons, List.take_succ_cons, List.take_zero] at g0 g1 g2
    have hx : xs.length = 3 := by rw [hxl]; rfl
    match xs, hx with
    | [y0, y1, y2], _ =>
      simp only [List.getElem?_cons_zero, List.getElem?_cons_succ] at g0 g1 g2
      obtain ⟨N, e0, _, _⟩ := DataW.trod_string Try.underlying9 g0
      obtain ⟨K, e1, _, _⟩ := DataW.trod_string Try.underlying9 g1
      obtain ⟨M, e2, _⟩ := DataW.trod_bool Try.underlying4 g2
      simp only [List.cons.injEq, and_true] at e0 e1 e2
      subst e0 e1 e2
      obtain ⟨k, rfl⟩ := str_of N
      obtain ⟨v, rfl⟩ := str_of K
      exact ⟨⟨k, v, M⟩, rfl⟩
set_option maxRecDepth 100000 in
theorem read_ent {H : Type} {enc : TypeId × Value → H} {w : World} {base : Nat} {spare : Nat → Bool} {held : Bool} (fuel : Nat) (cs : List Value) (x : DataW H × List MemPlace)
    (h : DataW.trod enc Try.prog w base spare held fuel 35 cs = some x) : ∃ c : Ent, cs = eC c := by
  obtain ⟨xs, n, _, _, hl, hxl, hf⟩ := DataW.trod_struct Try.underlying35 h
  rw [cellsE] at hl
  match cs, hl with
  | [a, b], _ =>
    have g0 : DataW.trod enc Try.prog w base spare held n 9 (([a, b].drop 0).take (Try.prog.cellsOf 9)) = xs[0]? := hf 0 _ rfl
    rw [cellsS] at g0
    have g1 : DataW.trod enc Try.prog w base spare held n 9 (([a, b].drop 1).take (Try.prog.cellsOf 9)) = xs[1]? := hf 1 _ rfl
    rw [cellsS] at g1
    simp only [List.drop_zero, List.drop_succ_cons, List.take_succ_cons, List.take_zero] at g0 g1
    have hx : xs.length = 2 := by rw [hxl]; rfl
    match xs, hx with
    | [y0, y1], _ =>
      simp only [List.getElem?_cons_zero, List.getElem?_cons_succ] at g0 g1
      obtain ⟨N, e0, _, _⟩ := DataW.trod_string Try.underlying9 g0
      obtain ⟨K, e1, _, _⟩ := DataW.trod_string Try.underlying9 g1
      simp only [List.cons.injEq, and_true] at e0 e1
      subst e0 e1
      obtain ⟨k, rfl⟩ := str_of N
      obtain ⟨v, rfl⟩ := str_of K
      exact ⟨⟨k, v⟩, rfl⟩
set_option maxRecDepth 100000 in
theorem open_wrts {H : Type} {enc : TypeId × Value → H} {w : World} {r : Reach} {b0 : Nat} {v : Value} {d : DataW H} {p : List MemPlace}
    (hv : Value.okWide Try.prog w r b0 28 v) (h : DataW.Trod enc Try.prog w 0 (fun _ => true) true 28 v d p) :
    ∃ X : List Wrt, Lst w v X.length (wCs X) ∧ X.length ≤ 9223372036854775807 := by
  obtain ⟨A, cap, b, o, rows, rfl, hA, hx, hl, hr⟩ := open_rows 3 (by omega) (fun cs => ∃ c : Wrt, cs = wC c ∧ True) Try.underlying28 cellsW (fun fuel cs x h => by obtain ⟨c, hc⟩ := read_wrt fuel cs x h; exact ⟨c, hc, trivial⟩) hv h
  obtain ⟨X, rfl, _⟩ := rows_map wC (fun _ => True) rows (fun x hx => (hr x hx).2)
  simp only [List.length_map] at *
  exact ⟨X, ⟨A, cap, b, o, rfl, hA, by rw [wCs, List.flatMap_def]; exact hx⟩, hl⟩
set_option maxRecDepth 100000 in
theorem open_ents {H : Type} {enc : TypeId × Value → H} {w : World} {r : Reach} {b0 : Nat} {v : Value} {d : DataW H} {p : List MemPlace}
    (hv : Value.okWide Try.prog w r b0 30 v) (h : DataW.Trod enc Try.prog w 0 (fun _ => true) true 30 v d p) :
    ∃ X : List Ent, Lst w v X.length (eCs X) ∧ X.length ≤ 9223372036854775807 := by
  obtain ⟨A, cap, b, o, rows, rfl, hA, hx, hl, hr⟩ := open_rows 2 (by omega) (fun cs => ∃ c : Ent, cs = eC c ∧ True) Try.underlying30 cellsE (fun fuel cs x h => by obtain ⟨c, hc⟩ := read_ent fuel cs x h; exact ⟨c, hc, trivial⟩) hv h
  obtain ⟨X, rfl, _⟩ := rows_map eC (fun _ => True) rows (fun x hx => (hr x hx).2)
  simp only [List.length_map] at *
  exact ⟨X, ⟨A, cap, b, o, rfl, hA, by rw [eCs, List.flatMap_def]; exact hx⟩, hl⟩
set_option maxRecDepth 100000 in
theorem open_str {H : Type} {enc : TypeId × Value → H} {w : World} {r : Reach} {b0 : Nat} {v : Value} {d : DataW H} {p : List MemPlace}
    (hv : Value.okWide Try.prog w r b0 9 v) (h : DataW.Trod enc Try.prog w 0 (fun _ => true) true 9 v d p) : ∃ k : Str, v = .string ⟨k.toArray⟩ := by
  obtain ⟨s, rfl, _⟩ := Go.ChangeMaps.open_string Try.underlying9 hv h
  obtain ⟨k, rfl⟩ := str_of s
  exact ⟨k, rfl⟩
end Go.Proofs.Ytnnpmpdlhojecaa
