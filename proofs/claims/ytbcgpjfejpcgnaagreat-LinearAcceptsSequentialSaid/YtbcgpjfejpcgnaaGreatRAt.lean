/- Lemmas on the way to LinearAcceptsSequential. No condition. -/
import Derived.Test.YtbcgpjfejpcgnaaGreatRAc
import Derived.Test.YtbcgpjfejpcgnaaGreatRAd
import Derived.Test.YtbcgpjfejpcgnaaGreatRAn
import Derived.Test.YtbcgpjfejpcgnaaGreatRAo
import Derived.Test.YtbcgpjfejpcgnaaGreatRAr
import Derived.Test.YtbcgpjfejpcgnaaGreatRAs
import Derived.SizedLaws
import Derived.BigQuiet
import Derived.Deep.CutBlock
import Derived.Deep.RegionHeld3
import Derived.Deep.CutRange
import Derived.Deep.RegionLaw
import Derived.StillTailTactics
set_option linter.unusedSimpArgs false
set_option linter.unusedVariables false
set_option linter.unusedSectionVars false
section
namespace Go.Proofs.YtbcgpjfejpcgnaaGreat
open Go.RowKit
set_option linter.unusedVariables false
def s0 : WS := ⟨[], 0, [], []⟩
def rxO (x : RV) : RX := ⟨x.n.th.toNat, x.n.ix, x.n.inv, x.n.pt, x.n.rs, x.code.toNat, x.key.data.toList, x.time.toNat, x.bA, x.bc, x.b, x.hd.toNat, x.cu.toNat, x.mo.toNat, x.er, x.at_.toNat, x.ak.data.toList, x.av.data.toList⟩
def ovO (x : RV) : O.OV := ⟨x.code, x.key.data.toList, x.time.toNat, x.bA, x.bc, x.b, x.hd, x.cu, x.mo⟩
def NatX (x : RV) : Prop := (0 ≤ x.time ∧ x.time ≤ 18446744073709551615) ∧ 0 ≤ x.at_
def okR (T S : Int) (x : RV) : Prop := x.n.th < T ∧ O.vOp S (ovO x).op = true
def exOk (T S N C R F K : Int) (xs : List RV) : Prop := O.cfgB T S N C R F K = true ∧ Good (xs.map (·.n)) ∧ ∀ x ∈ xs, okR T S x
open Classical in
noncomputable def exE (T S N C R F K : Int) (xs : List RV) : Int := if exOk T S N C R F K xs then (if (explW s0 ((ordL xs).map rxO)).1 = true then 0 else 13) else 1
theorem exE_bad {T S N C R F K : Int} {xs : List RV} (h : ¬ exOk T S N C R F K xs) : exE T S N C R F K xs = 1 := by unfold exE; rw [if_neg h]
theorem exE_good {T S N C R F K : Int} {xs : List RV} (h : exOk T S N C R F K xs) : exE T S N C R F K xs = if (explW s0 ((ordL xs).map rxO)).1 = true then 0 else 13 := by unfold exE; rw [if_pos h]
theorem key_back (k : ByteArray) : (⟨k.data.toList.toArray⟩ : ByteArray) = k := by
  cases k
  simp
structure OkXN (x : RV) : Prop where
  th : 0 ≤ x.n.th ∧ x.n.th < 64
  code : 1 ≤ x.code ∧ x.code ≤ 9
  hd : 0 ≤ x.hd ∧ x.hd < 8
  cu : 0 ≤ x.cu ∧ x.cu < 8
  mo : 0 ≤ x.mo ∧ x.mo ≤ 4
  rs : -1 ≤ x.n.rs
  nt : NatX x
theorem OkXN.of {T S N C R F K : Int} {xs : List RV} (h : exOk T S N C R F K xs) {x : RV} (hx : x ∈ xs) (hn : NatX x) : OkXN x := by
  obtain ⟨h1, h2, h3⟩ := h
  have hs := h2.snd x.n (List.mem_map.2 ⟨x, hx, rfl⟩)
  obtain ⟨h4, h5⟩ := h3 x hx
  obtain ⟨⟨c1, c2⟩, ⟨c3, c4⟩, _⟩ := of_decide_eq_true h1
  have hc := O.vOp_code h5
  simp only [O.vOp, Bool.and_eq_true, Bool.or_eq_true, decide_eq_true_eq] at h5
  obtain ⟨⟨⟨⟨q1, q2⟩, q3, q4⟩, q5, q6⟩, q7, q8⟩ := h5
  simp only [O.OV.op, ovO] at hc q3 q4 q5 q6 q7 q8
  exact ⟨⟨hs.1, by omega⟩, by omega, ⟨q3, by omega⟩, ⟨q5, q6⟩, ⟨q7, by omega⟩, hs.2.2.2.2.2.1, hn⟩
theorem OkXN.back {x : RV} (h : OkXN x) : rvX (rxO x) = x := by
  obtain ⟨⟨th, ix, inv, pt, rs⟩, code, key, time, bA, bc, b, hd, cu, mo, er, at_, ak, av⟩ := x
  obtain ⟨h1, h2, h3, h4, h5, h6, h7, h8⟩ := h
  simp only at h1 h2 h3 h4 h5 h7 h8
  have t1 := Int.toNat_of_nonneg h1.1
  have t2 := Int.toNat_of_nonneg (a := code) (by omega)
  have t3 := Int.toNat_of_nonneg h3.1
  have t4 := Int.toNat_of_nonneg h4.1
  have t5 := Int.toNat_of_nonneg h5.1
  have t6 := Int.toNat_of_nonneg h7.1
  have t7 := Int.toNat_of_nonneg h8
  simp only [rvX, rxO, t1, t2, t3, t4, t5, t6, t7, key_back]
theorem OkXN.ok {x : RV} (h : OkXN x) : OkX (rxO x) := by
  obtain ⟨h1, h2, h3, h4, h5, h6, h7, h8⟩ := h
  refine ⟨?_, ?_, ?_, ?_, ?_, h6⟩ <;> simp only [rxO] <;> omega
theorem OkXN.tm {x : RV} (h : OkXN x) : (rxO x).time ≤ 18446744073709551615 := by
  have := h.nt.1
  simp only [rxO]; omega
theorem ordL_mem {xs : List RV} {x : RV} (h : x ∈ ordL xs) : x ∈ xs ∧ x.n.pt ≠ -1 := by
  unfold ordL at h
  rw [stab_mem] at h
  obtain ⟨h1, h2⟩ := List.mem_filter.1 h
  exact ⟨h1, by simpa using h2⟩
theorem ordL_len (xs : List RV) : (ordL xs).length ≤ xs.length := by
  unfold ordL
  rw [stab_len]
  exact List.length_filter_le _ _
theorem explW_cons {s : WS} {x : RX} {l : List RX} : explW s (x :: l) = if fitsW (perfW s x) x then explW (perfW s x).2.2 l else (false, (perfW s x).2.2) := rfl
end Go.Proofs.YtbcgpjfejpcgnaaGreat
end
section
namespace Go.Proofs.YtbcgpjfejpcgnaaGreat
open Go.RowKit Go.ChangeShapes Go.WideShapes Go.ChangeAt
set_option maxRecDepth 100000
set_option linter.unusedVariables false
structure SpV where
  o : O.OV
  g : Nat
  a : Nat
  r : Nat
def spC (x : SpV) : List Value := O.oC x.o ++ [.int .u8 (x.g : Int), .int .u8 (x.a : Int), .int .u8 (x.r : Int)]
def spCs (l : List SpV) : List Value := l.flatMap spC
def SpN (w : World) (x : SpV) : Prop := (O.OkB w x.o ∧ O.OpN x.o) ∧ x.g ≤ 255 ∧ x.a ≤ 255 ∧ x.r ≤ 255
theorem cellsSt : Tryz.prog.cellsOf 46 = 10 := by kernel_rfl
theorem read_step {H : Type} {enc : TypeId × Value → H} {w : World} (fuel : Nat) (cs : List Value) (x : DataW H × List MemPlace)
    (h : DataW.trod enc Tryz.prog w 0 (fun _ => true) true fuel 46 cs = some x) : ∃ c : SpV, cs = spC c ∧ SpN w c := by
  obtain ⟨xs, n, _, _, hl, hxl, hf⟩ := DataW.trod_struct Tryz.underlying46 h
  rw [cellsSt] at hl
  match cs, hl with
  | [a0, a1, a2, a3, a4, a5, a6, a7, a8, a9], _ =>
    have g0 : DataW.trod enc Tryz.prog w 0 (fun _ => true) true n 29 (([a0, a1, a2, a3, a4, a5, a6, a7, a8, a9].drop 0).take (Tryz.prog.cellsOf 29)) = xs[0]? := hf 0 _ rfl
    rw [cellsO] at g0
    have g1 : DataW.trod enc Tryz.prog w 0 (fun _ => true) true n 5 (([a0, a1, a2, a3, a4, a5, a6, a7, a8, a9].drop 7).take (Tryz.prog.cellsOf 5)) = xs[1]? := hf 1 _ rfl
    rw [cellsU8] at g1
    have g2 : DataW.trod enc Tryz.prog w 0 (fun _ => true) true n 5 (([a0, a1, a2, a3, a4, a5, a6, a7, a8, a9].drop 8).take (Tryz.prog.cellsOf 5)) = xs[2]? := hf 2 _ rfl
    rw [cellsU8] at g2
    have g3 : DataW.trod enc Tryz.prog w 0 (fun _ => true) true n 5 (([a0, a1, a2, a3, a4, a5, a6, a7, a8, a9].drop 9).take (Tryz.prog.cellsOf 5)) = xs[3]? := hf 3 _ rfl
    rw [cellsU8] at g3
    simp only [List.drop_zero, List.drop_succ_cons, List.take_succ_cons, List.take_zero] at g0 g1 g2 g3
    have hx : xs.length = 4 := by rw [hxl]; rfl
    match xs, hx with
    | [y0, y1, y2, y3], _ =>
      simp only [List.getElem?_cons_zero, List.getElem?_cons_succ] at g0 g1 g2 g3
      obtain ⟨o, e0, hO, hN, _⟩ := O.read_opB n _ _ g0
      obtain ⟨q1, e1, _, w1⟩ := DataW.trod_int Tryz.underlying5 g1
      obtain ⟨q2, e2, _, w2⟩ := DataW.trod_int Tryz.underlying5 g2
      obtain ⟨q3, e3, _, w3⟩ := DataW.trod_int Tryz.underlying5 g3
      have b1 := bounds_u8 w1
      have b2 := bounds_u8 w2
      have b3 := bounds_u8 w3
      simp only [O.oC, List.cons.injEq, and_true] at e0 e1 e2 e3
      obtain ⟨rfl, rfl, rfl, rfl, rfl, rfl, rfl⟩ := e0
      subst e1 e2 e3
      refine ⟨⟨o, q1.toNat, q2.toNat, q3.toNat⟩, ?_, ⟨hO, hN⟩, by show q1.toNat ≤ 255; omega, by show q2.toNat ≤ 255; omega, by show q3.toNat ≤ 255; omega⟩
      simp only [spC, O.oC, List.cons_append, List.nil_append, Int.toNat_of_nonneg b1.1, Int.toNat_of_nonneg b2.1, Int.toNat_of_nonneg b3.1]
theorem open_stepsL {H : Type} {enc : TypeId × Value → H} {w : World} {r : Reach} {b0 : Nat} {v : Value} {d : DataW H} {p : List MemPlace}
    (hv : Value.okWide Tryz.prog w r b0 42 v) (h : DataW.Trod enc Tryz.prog w 0 (fun _ => true) true 42 v d p) :
    ∃ X : List SpV, Lst w v X.length (spCs X) ∧ X.length ≤ 9223372036854775807 ∧ ∀ x ∈ X, SpN w x := by
  obtain ⟨A, cap, b, o, rows, rfl, hA, hx, hl, hr⟩ := open_rows 10 (by omega) (fun cs => ∃ c : SpV, cs = spC c ∧ SpN w c) Tryz.underlying42 cellsSt (fun fuel cs x h => read_step fuel cs x h) hv h
  obtain ⟨X, rfl, hX⟩ := rows_map spC (fun c => SpN w c) rows (fun x hx => (hr x hx).2)
  simp only [List.length_map] at *
  exact ⟨X, ⟨A, cap, b, o, rfl, hA, by rw [spCs, List.flatMap_def]; exact hx⟩, hl, hX⟩
end Go.Proofs.YtbcgpjfejpcgnaaGreat
end
section
namespace Go.Proofs.YtbcgpjfejpcgnaaGreat
open Go.RowKit
set_option maxRecDepth 100000
set_option linter.unusedSimpArgs false
set_option linter.unusedVariables false
theorem WX.zero {w : World} {g : Nat} (b : Blk w g [.slice none 0 0, .int .u64 0, .slice none 0 0, .slice none 0 0]) {base : Nat} (hb : base ≤ g) : WX w base g (.slice none 0 0) (.slice none 0 0) (.slice none 0 0) [] s0 :=
  ⟨b, Row.nil _ _, fun i v b h => by simp at h, Row.nil _ _, Row.nil _ _, ⟨hb, fun g h => by simp [Value.ownBlock] at h⟩, fun g h => by simp [Value.ownBlock] at h, fun g h => by simp [Value.ownBlock] at h⟩
def Left (L : List RX) (k : Nat) (s : WS) : Prop := explW s0 L = explW s (L.drop k)
theorem Left.step {L : List RX} {k : Nat} {s : WS} {x : RX} (h : Left L k s) (hx : L[k]? = some x) : (fitsW (perfW s x) x = true → Left L (k + 1) (perfW s x).2.2) ∧ (fitsW (perfW s x) x = false → (explW s0 L).1 = false) := by
  unfold Left at h ⊢
  obtain ⟨hk, he⟩ := List.getElem?_eq_some_iff.1 hx
  rw [h, List.drop_eq_getElem_cons hk, he, explW_cons]
  constructor
  · intro h1; rw [if_pos h1]
  · intro h1; rw [if_neg (by rw [h1]; simp)]
theorem Left.done {L : List RX} {k : Nat} {s : WS} (h : Left L k s) (hk : L.length ≤ k) : explW s0 L = (true, s) := by
  unfold Left at h
  rw [h, List.drop_of_length_le hk]
  rfl
theorem exOk_not {T S N C R F K : Int} {xs : List RV} {x : RV} (hx : x ∈ xs) (h : ¬ okR T S x) : ¬ exOk T S N C R F K xs := fun hh => h (hh.2.2 x hx)
end Go.Proofs.YtbcgpjfejpcgnaaGreat
end
section
namespace Go.Proofs.YtbcgpjfejpcgnaaGreat
open Go.RowKit
set_option maxRecDepth 100000
set_option linter.unusedSimpArgs false
set_option linter.unusedVariables false
def ansL : WS → An → List RX → An × Bool
  | _, a, [] => (a, true)
  | s, _, x :: l => if (perfW s x).2.1 = true then ansL (perfW s x).2.2 (perfW s x).1 l else ((perfW s x).1, false)
def a0 : An := ⟨0, 0, [], []⟩
def answW (L : List RX) : An × Bool := if L = [] then (a0, false) else ansL s0 a0 L
def LeftA (L : List RX) (k : Nat) (s : WS) (a : An) (ok : Bool) : Prop := (answW L).1 = (if ok = true then (ansL s a (L.drop k)).1 else a) ∧ (answW L).2 = (if ok = true then (ansL s a (L.drop k)).2 else false)
theorem LeftA.step {L : List RX} {k : Nat} {s : WS} {a : An} {x : RX} (h : LeftA L k s a true) (hx : L[k]? = some x) {a' : An} {rb : Bool} {s' : WS} (hr : perfW s x = (a', rb, s')) : LeftA L (k + 1) s' a' rb := by
  unfold LeftA at h ⊢
  obtain ⟨hk, he⟩ := List.getElem?_eq_some_iff.1 hx
  rw [List.drop_eq_getElem_cons hk, he] at h
  simp only [ansL, hr, if_true] at h
  cases rb
  · simpa using h
  · simpa using h
set_option maxHeartbeats 4000000 in
theorem xanswer_any (xs : List RV) (hn : xs.length ≤ 99) (v : Value) (w : World) (hv : Lst w v xs.length (rCs xs)) (hN : ∀ x ∈ xs, OkXN x ∧ OkB w x ∧ x.b.length ≤ 1000) :
    Calls Tryz.prog 11 #[v] w (fun e w' => e = .returned (.tuple #[ansV (answW (xs.map rxO)).1, .bool (answW (xs.map rxO)).2]) ∧ Keeps [] w w') := by
  have kB := (((Keeps.refl [] w).alloc (.cells #[.int .i64 0, .int .u64 0, .string ⟨#[]⟩, .string ⟨#[]⟩] 32)).alloc (.cells #[.slice none 0 0, .int .u64 0, .slice none 0 0, .slice none 0 0] 58)).alloc (.cells #[.int .i64 0, .int .u64 0, .string ⟨#[]⟩, .string ⟨#[]⟩] 32)
  have b2 := ((Blk.new w [.int .i64 0, .int .u64 0, .string ⟨#[]⟩, .string ⟨#[]⟩] 32).alloc (.cells #[.slice none 0 0, .int .u64 0, .slice none 0 0, .slice none 0 0] 58)).alloc (.cells #[.int .i64 0, .int .u64 0, .string ⟨#[]⟩, .string ⟨#[]⟩] 32)
  have bw := (Blk.new_at (w.alloc (.cells #[.int .i64 0, .int .u64 0, .string ⟨#[]⟩, .string ⟨#[]⟩] 32)) (w.heap.size + 1) [.slice none 0 0, .int .u64 0, .slice none 0 0, .slice none 0 0] 58 (by simp)).alloc (.cells #[.int .i64 0, .int .u64 0, .string ⟨#[]⟩, .string ⟨#[]⟩] 32)
  have b5 := Blk.new_at ((w.alloc (.cells #[.int .i64 0, .int .u64 0, .string ⟨#[]⟩, .string ⟨#[]⟩] 32)).alloc (.cells #[.slice none 0 0, .int .u64 0, .slice none 0 0, .slice none 0 0] 58)) (w.heap.size + 1 + 1) [.int .i64 0, .int .u64 0, .string ⟨#[]⟩, .string ⟨#[]⟩] 32 (by simp)
  obtain ⟨W, hW⟩ : ∃ W, W = ((w.alloc (.cells #[.int .i64 0, .int .u64 0, .string ⟨#[]⟩, .string ⟨#[]⟩] 32)).alloc (.cells #[.slice none 0 0, .int .u64 0, .slice none 0 0, .slice none 0 0] 58)).alloc (.cells #[.int .i64 0, .int .u64 0, .string ⟨#[]⟩, .string ⟨#[]⟩] 32) := ⟨_, rfl⟩
  rw [← hW] at kB b2 bw b5
  have hX := WX.zero bw (base := w.heap.size) (by omega)
  have HW := Lib.hid hW
  have n2 : ¬ OwnW (w.heap.size + 1) (.slice none 0 0) (.slice none 0 0) (.slice none 0 0) [] w.heap.size := by
    rintro (h | h | h | h | ⟨v, h, _⟩)
    · omega
    · simp [Value.ownBlock] at h
    · simp [Value.ownBlock] at h
    · simp [Value.ownBlock] at h
    · simp at h
  have n5 : ¬ OwnW (w.heap.size + 1) (.slice none 0 0) (.slice none 0 0) (.slice none 0 0) [] (w.heap.size + 1 + 1) := by
    rintro (h | h | h | h | ⟨v, h, _⟩)
    · omega
    · simp [Value.ownBlock] at h
    · simp [Value.ownBlock] at h
    · simp [Value.ownBlock] at h
    · simp at h
  have HB := Lib.hid (And.intro kB (And.intro b2 (And.intro b5 (And.intro hX (And.intro n2 n5)))))
  have HV := Lib.hid hv
  obtain ⟨n, hn'⟩ : ∃ n, xs.length = n := ⟨_, rfl⟩
  obtain ⟨A, cap, bv_, ov_, rfl, hA, _⟩ := hv
  rw [hn'] at hn HV hA ⊢
  have Hn := Lib.hid hn'
  by_cases hn0 : n = 0
  · obtain rfl : xs = [] := List.eq_nil_of_length_eq_zero (by omega)
    subst hn0
    clear kB b2 bw b5 hX hW hA hn' n2 n5
    go_enter Tryz.func11, Tryz.ntmps11
    go_wp2_with fail
    rw [← HW.out]
    go_loopw [6, 7] (fun ok i wr => ok = .bool false ∧ i = .int .i64 0 ∧ wr = W) (fun _ _ _ => 0)
    case atStart => exact ⟨rfl, rfl, rfl⟩
    case round =>
      obtain ⟨rfl, rfl, rfl⟩ := hrel
      obtain ⟨o0, o1, o2, o3, o4, o5⟩ := HB.out.2.1.o4
      obtain ⟨p0, p1, p2, p3, p4, p5⟩ := HB.out.2.2.1.o4
      have bS := HB.out.2.1.set4 (.int .i64 0) (.int .u64 0) (.string ⟨#[]⟩) (.string ⟨#[]⟩)
      have HS := Lib.hid (And.intro bS.1 (Keeps.fresh (w := w) HB.out.1 bS.2 (Nat.le_refl _)))
      clear bS
      go_wp2_with fail
      refine bodyPost_ret (results_ct rfl _ _ w.heap.size [.int .i64 0, .int .u64 0, .string ⟨#[]⟩, .string ⟨#[]⟩] _ rfl HS.out.1 Tryz.underlying32 sizAn) rfl ?_
      exact ⟨rfl, HS.out.2⟩
  · obtain rfl := hA (by omega)
    have hnil : (xs.map rxO) ≠ [] := fun h => by
      have : (xs.map rxO).length = 0 := by rw [h]; rfl
      rw [List.length_map] at this; omega
    have hL0 : LeftA (xs.map rxO) 0 s0 a0 true := by
      unfold LeftA answW
      rw [if_neg hnil]
      simp
    have HL0 := Lib.hid hL0
    have hpos : (0 : Int) < (n : Int) := by omega
    clear kB b2 bw b5 hX hW hn' hA n2 n5 hL0 hnil
    go_enter Tryz.func11, Tryz.ntmps11
    go_wp2_with fail
    rw [← HW.out]
    clear hpos
    go_loopw [6, 7] (fun okv i wr => ∃ (k : Nat) (s : WS) (a : An) (ok : Bool) (bv sv cv : Value) (vs : List Value), k ≤ n ∧ okv = .bool ok ∧ i = .int .i64 k ∧ WX wr w.heap.size (w.heap.size + 1) bv sv cv vs s ∧ Keeps [] w wr ∧ Blk wr w.heap.size [.int .i64 0, .int .u64 0, .string ⟨#[]⟩, .string ⟨#[]⟩] ∧ Blk wr (w.heap.size + 1 + 1) [.int .i64 a.er, .int .u64 (a.tm : Int), .string ⟨a.k.toArray⟩, .string ⟨a.v.toArray⟩] ∧ ¬ OwnW (w.heap.size + 1) bv sv cv vs w.heap.size ∧ ¬ OwnW (w.heap.size + 1) bv sv cv vs (w.heap.size + 1 + 1) ∧ Inv k s ∧ Hid (LeftA (xs.map rxO) k s a ok)) (fun _ i _ => n - (intOf i).toNat)
    case atStart => exact ⟨0, s0, a0, true, _, _, _, _, by omega, by rw [decide_eq_true (by omega : 0 < n)], rfl, HB.out.2.2.2.1, HB.out.1, HB.out.2.1, HB.out.2.2.1, HB.out.2.2.2.2.1, HB.out.2.2.2.2.2, Inv.zero, HL0⟩
    case round =>
      obtain ⟨k, s, a, ok, bv, sv, cv, vs, hk, rfl, rfl, hX, kk, b2, b5, n2, n5, hinv, HL⟩ := hrel
      clear HB HL0 HW
      obtain ⟨o0, o1, o2, o3, o4, o5⟩ := b2.o4
      obtain ⟨p0, p1, p2, p3, p4, p5⟩ := b5.o4
      have bS := b2.set4 (.int .i64 a.er) (.int .u64 (a.tm : Int)) (.string ⟨a.k.toArray⟩) (.string ⟨a.v.toArray⟩)
      have HS := Lib.hid (And.intro bS.1 (Keeps.fresh (w := w) kk bS.2 (Nat.le_refl _)))
      have HZ := Lib.hid (And.intro hX (And.intro kk (And.intro b2 (And.intro b5 (And.intro n2 (And.intro n5 hinv))))))
      by_cases hgo : k < n ∧ ok = true
      · obtain ⟨hlt, rfl⟩ := hgo
        obtain ⟨y, hy⟩ : ∃ y, xs[k]? = some y := ⟨_, List.getElem?_eq_getElem (by rw [Hn.out]; exact hlt)⟩
        obtain ⟨hok, hob, hbl⟩ := hN y (List.mem_of_getElem? hy)
        obtain ⟨g', o', hgo, hc, hg⟩ := (HV.out.keeps kk).atS Hn.out hy
        have e1 : g' = bv_ := by simp at hgo; exact hgo.1.symm
        have e2 : o' = ov_ := by simp at hgo; exact hgo.2.symm
        rw [e1, e2] at hc
        clear hgo e1 e2 hg
        have hback := hok.back
        have hokx := hok.ok
        have htm := hok.tm
        have hLk : (xs.map rxO)[k]? = some (rxO y) := by rw [List.getElem?_map, hy]; rfl
        obtain ⟨x, hx⟩ : ∃ x, rxO y = x := ⟨_, rfl⟩
        rw [hx] at hback hokx htm hLk
        subst hback
        have hl0 : (loadVar 34 ⟨bv_, ov_ + k * 16, none⟩).run Tryz.prog wr = .ok (.agg #[.int .i64 (x.t : Int), .int .i64 x.ix, .int .i64 x.inv, .int .i64 x.pt, .int .i64 x.rs, .int .i64 (x.code : Int), .string ⟨x.key.toArray⟩, .int .u64 (x.time : Int), .slice x.bA x.b.length x.bc, .int .i64 (x.hd : Int), .int .i64 (x.cu : Int), .int .i64 (x.mo : Int), .int .i64 x.er, .int .u64 (x.at_ : Int), .string ⟨x.ak.toArray⟩, .string ⟨x.av.toArray⟩]) wr := hc.load
        have hbox : OkX' wr x := Lst.keeps hob kk
        have hpf := xperf_any hX hinv (by omega) x hokx hbox htm hbl
        obtain ⟨⟨a5, rb, s'⟩, hr⟩ : ∃ r, perfW s x = r := ⟨_, rfl⟩
        have hstep := hinv.step hokx
        have hLs := Lib.hid (HL.out.step hLk hr)
        rw [hr] at hpf hstep
        have Hst := Lib.hid hstep
        have hkn : (k : Int) < (n : Int) := by omega
        clear hy hok hob hbl hc hx hokx htm hLk hbox hr hstep hX kk b2 b5 n2 n5 hinv HL bS HS o0 o1 o2 o3 o4 o5 p0 p1 p2 p3 p4 p5
        go_wp2_with (first
          | (refine list_load_eq rfl 34 _ rfl _ rfl _ hl0 ?_))
        refine hpf.mono ?_
        rintro e w5 ⟨rfl, bv5, sv5, cv5, vs5, hX5, hE5⟩
        obtain ⟨hX, kk, b2, b5, n2, n5, hinv⟩ := HZ.out
        have kk5 := hE5.gr kk (fun i hi => (hX.oge hi).1)
        obtain ⟨b25, n25⟩ := hE5.blk b2 n2
        obtain ⟨b55, n55⟩ := hE5.blk b5 n5
        obtain ⟨p0, p1, p2, p3, p4, p5⟩ := b55.o4
        obtain ⟨bS, kS⟩ := b55.set4 (.int .i64 a5.er) (.int .u64 (a5.tm : Int)) (.string ⟨a5.k.toArray⟩) (.string ⟨a5.v.toArray⟩)
        have HY := Lib.hid (And.intro (hX5.beside kS n55) (And.intro (Keeps.fresh (w := w) kk5 kS (by omega)) (And.intro (kS.blk b25 (by simp; omega)) (And.intro bS (And.intro n25 n55)))))
        clear hX kk b2 b5 n2 n5 hinv kk5 b25 n25 b55 n55 bS kS hX5 hE5 hpf hl0
        go_wp2_with fail
        exact ⟨⟨k + 1, s', a5, rb, _, _, _, _, by omega, rfl, by go_num, HY.out.1, HY.out.2.1, HY.out.2.2.1, HY.out.2.2.2.1, HY.out.2.2.2.2.1, HY.out.2.2.2.2.2, Hst.out, hLs⟩, by simp [intOf]; omega⟩
      · have hres : Hid (answW (xs.map rxO) = (a, ok)) := Lib.hid (by
          obtain ⟨h1, h2⟩ := HL.out
          cases ok with
          | false => simp at h1 h2; exact Prod.ext h1 h2
          | true =>
            have hkn : k = n := by have : ¬ k < n := fun h => hgo ⟨h, rfl⟩; omega
            rw [List.drop_of_length_le (by rw [List.length_map, Hn.out, hkn]; exact Nat.le_refl _)] at h1 h2
            simp [ansL] at h1 h2
            exact Prod.ext h1 h2)
        clear hX kk b2 b5 n2 n5 hinv bS HL
        cases ok with
        | false =>
          clear hgo
          by_cases hlt : k < n
          · have hkn : (k : Int) < (n : Int) := by omega
            clear hlt
            go_wp2_with fail
            refine bodyPost_ret (results_ct rfl _ _ w.heap.size [.int .i64 a.er, .int .u64 (a.tm : Int), .string ⟨a.k.toArray⟩, .string ⟨a.v.toArray⟩] _ rfl HS.out.1 Tryz.underlying32 sizAn) rfl ?_
            exact ⟨by rw [hres.out]; rfl, HS.out.2⟩
          · have hkn : ¬ (k : Int) < (n : Int) := by omega
            clear hlt
            go_wp2_with fail
            refine bodyPost_ret (results_ct rfl _ _ w.heap.size [.int .i64 a.er, .int .u64 (a.tm : Int), .string ⟨a.k.toArray⟩, .string ⟨a.v.toArray⟩] _ rfl HS.out.1 Tryz.underlying32 sizAn) rfl ?_
            exact ⟨by rw [hres.out]; rfl, HS.out.2⟩
        | true =>
          have hkn : ¬ (k : Int) < (n : Int) := by have : ¬ k < n := fun h => hgo ⟨h, rfl⟩; omega
          clear hgo
          go_wp2_with fail
          refine bodyPost_ret (results_ct rfl _ _ w.heap.size [.int .i64 a.er, .int .u64 (a.tm : Int), .string ⟨a.k.toArray⟩, .string ⟨a.v.toArray⟩] _ rfl HS.out.1 Tryz.underlying32 sizAn) rfl ?_
          exact ⟨by rw [hres.out]; rfl, HS.out.2⟩
end Go.Proofs.YtbcgpjfejpcgnaaGreat
end
section
namespace Go.Proofs.YtbcgpjfejpcgnaaGreat.O
open Go.RowKit
set_option linter.unusedSectionVars false
set_option linter.unusedVariables false
set_option linter.unusedSimpArgs false
set_option maxRecDepth 20000
set_option maxHeartbeats 4000000
theorem config_kit (t f : Int) (f0 : -9223372036854775808 ≤ f) (f1 : f ≤ 9223372036854775807) (w : World) :
    Calls Tryz.prog 7 #[.int .i64 t, .int .i64 f] w fun e w' => e = .returned (.agg #[.int .i64 t, .int .i64 2, .int .i64 100, .int .i64 100, .int .i64 200, .int .i64 (4 + f % 3), .int .u64 1000]) ∧ Keeps [] w w' := by
  have hm0 := Int.emod_nonneg f (show (3 : Int) ≠ 0 by omega)
  have hm1 := Int.emod_lt_of_pos f (show (0 : Int) < 3 by omega)
  go_enter Tryz.func7, Tryz.ntmps7
  go_wp2_with fail
  refine (mod_any f 3 f0 f1 (by omega) (by omega) _).mono ?_
  rintro e w' ⟨rfl, rfl⟩
  go_wp2_with fail
  exact bodyPost_ret (v := .agg #[.int .i64 t, .int .i64 2, .int .i64 100, .int .i64 100, .int .i64 200, .int .i64 (4 + f % 3), .int .u64 1000]) (by simp [results, Tryz.results7, go_sem]) rfl ⟨rfl, (Keeps.refl _ _).alloc _⟩
def normV (S : Int) (x : OV) : OV := ⟨1 + x.c % 9, x.k, x.t % 12, x.bA, x.bc, x.b.take 4, x.h % S, x.u % 2, x.m % 5⟩
theorem kon_any (T S N C R F K : Int) (hS : 1 ≤ S ∧ S ≤ 8) (x : OV) (w : World) (hx : OkB w x) (hn : OpN x) :
    Calls Tryz.prog 10 #[.agg #[.int .i64 T, .int .i64 S, .int .i64 N, .int .i64 C, .int .i64 R, .int .i64 F, .int .u64 K], .agg #[.int .i64 x.c, .string ⟨x.k.toArray⟩, .int .u64 (x.t : Int), .slice x.bA x.b.length x.bc, .int .i64 x.h, .int .i64 x.u, .int .i64 x.m]] w fun q w' => Keeps [] w w' ∧ ∃ y, y = onlyV (normV S x) ∧ q = .returned (.agg #[.int .i64 y.c, .string ⟨y.k.toArray⟩, .int .u64 (y.t : Int), .slice y.bA y.b.length y.bc, .int .i64 y.h, .int .i64 y.u, .int .i64 y.m]) := by
  obtain ⟨hc, hh, hu, hm, ht, hb, hbm⟩ := hn
  have m1 := fun w => mod_any x.c 9 hc.1 hc.2 (by omega) (by omega) w
  have m2 := fun w => mod_any x.h S hh.1 hh.2 (by omega) (by omega) w
  have m3 := fun w => mod_any x.u 2 hu.1 hu.2 (by omega) (by omega) w
  have m4 := fun w => mod_any x.m 5 hm.1 hm.2 (by omega) (by omega) w
  have n2 := fun w => (m2 w).mono fun e w' h => (⟨h.1, h.2.symm⟩ : e = Ending.returned (.int .i64 (x.h % S)) ∧ w' = w)
  have n3 := fun w => (m3 w).mono fun e w' h => (⟨h.1, h.2.symm⟩ : e = Ending.returned (.int .i64 (x.u % 2)) ∧ w' = w)
  have n4 := fun w => (m4 w).mono fun e w' h => (⟨h.1, h.2.symm⟩ : e = Ending.returned (.int .i64 (x.m % 5)) ∧ w' = w)
  clear m2 m3 m4
  have e0 := Int.emod_nonneg x.c (show (9 : Int) ≠ 0 by omega)
  have e1 := Int.emod_lt_of_pos x.c (show (0 : Int) < 9 by omega)
  obtain ⟨c1, hc1⟩ : ∃ c1, c1 = x.c % 9 := ⟨_, rfl⟩
  obtain ⟨h1, hh1⟩ : ∃ h1, h1 = x.h % S := ⟨_, rfl⟩
  obtain ⟨u1, hu1⟩ : ∃ u1, u1 = x.u % 2 := ⟨_, rfl⟩
  obtain ⟨q1, hq1⟩ : ∃ q1, q1 = x.m % 5 := ⟨_, rfl⟩
  have E1 := Lib.hid (And.intro hc1 (And.intro hh1 (And.intro hu1 hq1)))
  rw [← hc1] at m1 e0 e1
  rw [← hh1] at n2
  rw [← hu1] at n3
  rw [← hq1] at n4
  go_enter Tryz.func10, Tryz.ntmps10
  go_wp2_with fail
  refine (m1 _).mono ?_
  rintro q w1 ⟨rfl, rfl⟩
  clear hc1 hh1 hu1 hq1
  go_upto_region 2 with fail
  have kw := (((Keeps.refl [] w).alloc (.cells #[.int .i64 T, .int .i64 S, .int .i64 N, .int .i64 C, .int .i64 R, .int .i64 F, .int .u64 K] 24)).alloc (.cells #[.int .i64 (1 + c1), .string ⟨x.k.toArray⟩, .int .u64 (x.t : Int), .slice x.bA x.b.length x.bc, .int .i64 x.h, .int .i64 x.u, .int .i64 x.m] 29)).alloc (.cells #[.int .i64 0, .string ⟨#[]⟩, .int .u64 0, .slice none 0 0, .int .i64 0, .int .i64 0, .int .i64 0] 29)
  have b1 := ((Blk.new w [.int .i64 T, .int .i64 S, .int .i64 N, .int .i64 C, .int .i64 R, .int .i64 F, .int .u64 K] 24).alloc (.cells #[.int .i64 (1 + c1), .string ⟨x.k.toArray⟩, .int .u64 (x.t : Int), .slice x.bA x.b.length x.bc, .int .i64 x.h, .int .i64 x.u, .int .i64 x.m] 29)).alloc (.cells #[.int .i64 0, .string ⟨#[]⟩, .int .u64 0, .slice none 0 0, .int .i64 0, .int .i64 0, .int .i64 0] 29)
  have b2 := (Blk.new_at (w.alloc (.cells #[.int .i64 T, .int .i64 S, .int .i64 N, .int .i64 C, .int .i64 R, .int .i64 F, .int .u64 K] 24)) (w.heap.size + 1) [.int .i64 (1 + c1), .string ⟨x.k.toArray⟩, .int .u64 (x.t : Int), .slice x.bA x.b.length x.bc, .int .i64 x.h, .int .i64 x.u, .int .i64 x.m] 29 (by simp)).alloc (.cells #[.int .i64 0, .string ⟨#[]⟩, .int .u64 0, .slice none 0 0, .int .i64 0, .int .i64 0, .int .i64 0] 29)
  have b3 := Blk.new_at ((w.alloc (.cells #[.int .i64 T, .int .i64 S, .int .i64 N, .int .i64 C, .int .i64 R, .int .i64 F, .int .u64 K] 24)).alloc (.cells #[.int .i64 (1 + c1), .string ⟨x.k.toArray⟩, .int .u64 (x.t : Int), .slice x.bA x.b.length x.bc, .int .i64 x.h, .int .i64 x.u, .int .i64 x.m] 29)) (w.heap.size + 1 + 1) [.int .i64 0, .string ⟨#[]⟩, .int .u64 0, .slice none 0 0, .int .i64 0, .int .i64 0, .int .i64 0] 29 (by simp)
  obtain ⟨W, hW⟩ : ∃ W, (((w.alloc (.cells #[.int .i64 T, .int .i64 S, .int .i64 N, .int .i64 C, .int .i64 R, .int .i64 F, .int .u64 K] 24)).alloc (.cells #[.int .i64 (1 + c1), .string ⟨x.k.toArray⟩, .int .u64 (x.t : Int), .slice x.bA x.b.length x.bc, .int .i64 x.h, .int .i64 x.u, .int .i64 x.m] 29)).alloc (.cells #[.int .i64 0, .string ⟨#[]⟩, .int .u64 0, .slice none 0 0, .int .i64 0, .int .i64 0, .int .i64 0] 29)) = W := ⟨_, rfl⟩
  change Blk (((w.alloc (.cells #[.int .i64 T, .int .i64 S, .int .i64 N, .int .i64 C, .int .i64 R, .int .i64 F, .int .u64 K] 24)).alloc (.cells #[.int .i64 (1 + c1), .string ⟨x.k.toArray⟩, .int .u64 (x.t : Int), .slice x.bA x.b.length x.bc, .int .i64 x.h, .int .i64 x.u, .int .i64 x.m] 29)).alloc (.cells #[.int .i64 0, .string ⟨#[]⟩, .int .u64 0, .slice none 0 0, .int .i64 0, .int .i64 0, .int .i64 0] 29)) _ _ at b1 b2 b3
  rw [hW] at b1 b2 b3 kw ⊢
  obtain ⟨g1, hg1⟩ : ∃ g1, w.heap.size = g1 := ⟨_, rfl⟩
  obtain ⟨g2, hg2⟩ : ∃ g2, w.heap.size + 1 = g2 := ⟨_, rfl⟩
  obtain ⟨g3, hg3⟩ : ∃ g3, w.heap.size + 1 + 1 = g3 := ⟨_, rfl⟩
  rw [hg3] at b3 ⊢
  rw [hg2] at b2 ⊢
  rw [hg1] at b1 ⊢
  have hne : g1 ≠ g2 ∧ g1 ≠ g3 ∧ g2 ≠ g3 ∧ w.heap.size ≤ g1 ∧ w.heap.size ≤ g2 ∧ w.heap.size ≤ g3 := by omega
  have HN := Lib.hid hne
  have HKW := Lib.hid kw
  clear hW hg1 hg2 hg3 kw hne
  go_cut [] from 12 to 25 (fun wx => Blk wx g1 [.int .i64 T, .int .i64 S, .int .i64 N, .int .i64 C, .int .i64 R, .int .i64 F, .int .u64 K] ∧ Blk wx g2 [.int .i64 (1 + c1), .string ⟨x.k.toArray⟩, .int .u64 (x.t : Int), .slice x.bA x.b.length x.bc, .int .i64 h1, .int .i64 u1, .int .i64 q1] ∧ Blk wx g3 [.int .i64 0, .string ⟨#[]⟩, .int .u64 0, .slice none 0 0, .int .i64 0, .int .i64 0, .int .i64 0] ∧ Keeps [] w wx)
  case first =>
    obtain ⟨d0, d1, d2, d3, d4, d5, d6, df, dl⟩ := b1.o7
    obtain ⟨p0, p1, p2, p3, p4, p5, p6, pf, pl⟩ := b2.o7
    go_still_tail 12, (by kernel_rfl)
    still_call (n2 _)
    repeat still_step
    still_call (n3 _)
    repeat still_step
    still_call (n4 _)
    repeat still_step
    try refine wpStill_nil ?_
    change wpList _ _ _ _ _ W.drew
    have KD := ((((Keeps.refl [g2] W).drew).setCell ⟨g2, 4, none⟩ (.int .i64 h1) (.inl (by simp))).setCell ⟨g2, 5, none⟩ (.int .i64 u1) (.inl (by simp))).setCell ⟨g2, 6, none⟩ (.int .i64 q1) (.inl (by simp))
    go_wp2_with fail
    go_meet
    obtain ⟨n1, n2', n3', l1, l2, l3⟩ := HN.out
    exact ⟨KD.blk b1 (by simp; exact n1), ((b2.drew.set 4 _).set 5 _).set 6 _, KD.blk b3 (by simp; exact fun h => n3' h.symm), HKW.out.trans KD (by simp; omega)⟩
  case rest =>
    obtain ⟨b1, b2, b3, kw⟩ := hcut
    clear b1
    obtain ⟨p0, p1, p2, p3, p4, p5, p6, pf, pl⟩ := b2.o7
    obtain ⟨n4l, hn4⟩ : ∃ n4l, (x.b.take 4).length = n4l := ⟨_, rfl⟩
    have hmin : min (x.b.length : Int) 4 = (n4l : Int) := by rw [← hn4, List.length_take]; omega
    have hle : n4l ≤ x.b.length := by rw [← hn4, List.length_take]; omega
    obtain ⟨bn, hbn⟩ : ∃ bn, x.b.length = bn := ⟨_, rfl⟩
    rw [hbn] at p3 hb hmin hle
    have HB4 := Lib.hid hn4
    have HBN := Lib.hid hbn
    clear hn4 hbn
    obtain ⟨y, hy⟩ : ∃ y, y = normV S x := ⟨_, rfl⟩
    cases hA : x.bA with
    | none =>
      rw [hA] at p3
      have ks := ((Keeps.refl [g2] wc).setCell ⟨g2, 2, none⟩ (.int .u64 ((x.t : Int) % 12)) (.inl (by simp))).setCell ⟨g2, 3, none⟩ (.slice none n4l x.bc) (.inl (by simp))
      have bz : Blk ((wc.setCell ⟨g2, 2, none⟩ (.int .u64 ((x.t : Int) % 12))).setCell ⟨g2, 3, none⟩ (.slice none n4l x.bc)) g2 [.int .i64 y.c, .string ⟨y.k.toArray⟩, .int .u64 (y.t : Int), .slice y.bA y.b.length y.bc, .int .i64 y.h, .int .i64 y.u, .int .i64 y.m] := by
        have h := (b2.set 2 (.int .u64 ((x.t : Int) % 12))).set 3 (.slice none n4l x.bc)
        obtain ⟨q0, q1, q2, q3⟩ := E1.out
        rw [hy]
        simp only [normV, HB4.out, ← q0, ← q1, ← q2, ← q3, hA]
        simpa using h
      have kz := kw.trans ks (by simp; have := HN.out; omega)
      go_upto_region 5 with fail
      obtain ⟨wz, hwz⟩ : ∃ wz, (wc.setCell ⟨g2, 2, none⟩ (.int .u64 ((x.t : Int) % 12))).setCell ⟨g2, 3, none⟩ (.slice none n4l x.bc) = wz := ⟨_, rfl⟩
      rw [hwz] at bz kz ⊢
      have b3z := ks.blk b3 (by simp; have := HN.out; omega)
      rw [hwz] at b3z
      obtain ⟨t0, t1, t2, t3, t4, t5, t6, tf, tl⟩ := bz.o7
      obtain ⟨z0, z1, z2, z3, z4, z5, z6, zf, zl⟩ := b3z.o7
      have HY := Lib.hid hy
      have HA := Lib.hid hA
      clear hy hA hx hc hh hu hm ht hbm m1 n2 n3 n4
      clear hwz b2 b3 p0 p1 p2 p3 p4 p5 p6 pf pl ks bz
      have ho := only_any y wz
      go_wp2_with fail
      refine ho.mono ?_
      rintro q w6 ⟨k6, r, hr, rfl⟩
      have b36 := k6.blk b3z (by simp)
      have kz6 := kz.trans k6 (by simp)
      obtain ⟨v0, v1, v2, v3, v4, v5, v6, vf, vl⟩ := b36.o7
      clear t0 t1 t2 t3 t4 t5 t6 tf tl z0 z1 z2 z3 z4 z5 z6 zf zl b3z k6 kz ho
      have HR := Lib.hid hr
      clear hr
      have hgs : Hid (w.heap.size ≤ g3) := Lib.hid HN.out.2.2.2.2.2
      go_wp2_with fail
      have k7 := (((((((Keeps.refl [g3] w6).setCell ⟨g3, 0, none⟩ (.int .i64 r.c) (.inl (by simp))).setCell ⟨g3, 1, none⟩ (.string ⟨r.k.toArray⟩) (.inl (by simp))).setCell ⟨g3, 2, none⟩ (.int .u64 (r.t : Int)) (.inl (by simp))).setCell ⟨g3, 3, none⟩ (.slice r.bA r.b.length r.bc) (.inl (by simp))).setCell ⟨g3, 4, none⟩ (.int .i64 r.h) (.inl (by simp))).setCell ⟨g3, 5, none⟩ (.int .i64 r.u) (.inl (by simp))).setCell ⟨g3, 6, none⟩ (.int .i64 r.m) (.inl (by simp))
      have b7 := ((((((b36.set 0 (.int .i64 r.c)).set 1 (.string ⟨r.k.toArray⟩)).set 2 (.int .u64 (r.t : Int))).set 3 (.slice r.bA r.b.length r.bc)).set 4 (.int .i64 r.h)).set 5 (.int .i64 r.u)).set 6 (.int .i64 r.m)
      simp only [List.set_cons_zero, List.set_cons_succ] at b7
      have b8 := b7.alloc (.cells #[.int .i64 r.c, .string ⟨r.k.toArray⟩, .int .u64 (r.t : Int), .slice r.bA r.b.length r.bc, .int .i64 r.h, .int .i64 r.u, .int .i64 r.m] 29)
      have K8 := (kz6.trans k7 (by simp; exact hgs.out)).alloc (.cells #[.int .i64 r.c, .string ⟨r.k.toArray⟩, .int .u64 (r.t : Int), .slice r.bA r.b.length r.bc, .int .i64 r.h, .int .i64 r.u, .int .i64 r.m] 29)
      clear v0 v1 v2 v3 v4 v5 v6 vf vl b36 kz6 k7 b7
      first
        | refine bodyPost_ret (results_blk (cs := [.int .i64 r.c, .string ⟨r.k.toArray⟩, .int .u64 (r.t : Int), .slice r.bA r.b.length r.bc, .int .i64 r.h, .int .i64 r.u, .int .i64 r.m]) rfl _ _ g3 _ rfl b8 Tryz.underlying29 sizO) rfl ?_
        | refine bodyPost_ret (results_blk (cs := [.int .i64 r.c, .string ⟨r.k.toArray⟩, .int .u64 (r.t : Int), .slice r.bA r.b.length r.bc, .int .i64 r.h, .int .i64 r.u, .int .i64 r.m]) rfl _ _ g3 _ rfl ?_ Tryz.underlying29 sizO) rfl ?_
      exact ⟨K8, r, by rw [HR.out, HY.out], rfl⟩
    | some ad =>
      rw [hA] at p3
      have ks := ((Keeps.refl [g2] wc).setCell ⟨g2, 2, none⟩ (.int .u64 ((x.t : Int) % 12)) (.inl (by simp))).setCell ⟨g2, 3, none⟩ (.slice (some ad) n4l x.bc) (.inl (by simp))
      have bz : Blk ((wc.setCell ⟨g2, 2, none⟩ (.int .u64 ((x.t : Int) % 12))).setCell ⟨g2, 3, none⟩ (.slice (some ad) n4l x.bc)) g2 [.int .i64 y.c, .string ⟨y.k.toArray⟩, .int .u64 (y.t : Int), .slice y.bA y.b.length y.bc, .int .i64 y.h, .int .i64 y.u, .int .i64 y.m] := by
        have h := (b2.set 2 (.int .u64 ((x.t : Int) % 12))).set 3 (.slice (some ad) n4l x.bc)
        obtain ⟨q0, q1, q2, q3⟩ := E1.out
        rw [hy]
        simp only [normV, HB4.out, ← q0, ← q1, ← q2, ← q3, hA]
        simpa using h
      have kz := kw.trans ks (by simp; have := HN.out; omega)
      go_upto_region 5 with fail
      obtain ⟨wz, hwz⟩ : ∃ wz, (wc.setCell ⟨g2, 2, none⟩ (.int .u64 ((x.t : Int) % 12))).setCell ⟨g2, 3, none⟩ (.slice (some ad) n4l x.bc) = wz := ⟨_, rfl⟩
      rw [hwz] at bz kz ⊢
      have b3z := ks.blk b3 (by simp; have := HN.out; omega)
      rw [hwz] at b3z
      obtain ⟨t0, t1, t2, t3, t4, t5, t6, tf, tl⟩ := bz.o7
      obtain ⟨z0, z1, z2, z3, z4, z5, z6, zf, zl⟩ := b3z.o7
      have HY := Lib.hid hy
      have HA := Lib.hid hA
      clear hy hA hx hc hh hu hm ht hbm m1 n2 n3 n4
      clear hwz b2 b3 p0 p1 p2 p3 p4 p5 p6 pf pl ks bz
      have ho := only_any y wz
      go_wp2_with fail
      refine ho.mono ?_
      rintro q w6 ⟨k6, r, hr, rfl⟩
      have b36 := k6.blk b3z (by simp)
      have kz6 := kz.trans k6 (by simp)
      obtain ⟨v0, v1, v2, v3, v4, v5, v6, vf, vl⟩ := b36.o7
      clear t0 t1 t2 t3 t4 t5 t6 tf tl z0 z1 z2 z3 z4 z5 z6 zf zl b3z k6 kz ho
      have HR := Lib.hid hr
      clear hr
      have hgs : Hid (w.heap.size ≤ g3) := Lib.hid HN.out.2.2.2.2.2
      go_wp2_with fail
      have k7 := (((((((Keeps.refl [g3] w6).setCell ⟨g3, 0, none⟩ (.int .i64 r.c) (.inl (by simp))).setCell ⟨g3, 1, none⟩ (.string ⟨r.k.toArray⟩) (.inl (by simp))).setCell ⟨g3, 2, none⟩ (.int .u64 (r.t : Int)) (.inl (by simp))).setCell ⟨g3, 3, none⟩ (.slice r.bA r.b.length r.bc) (.inl (by simp))).setCell ⟨g3, 4, none⟩ (.int .i64 r.h) (.inl (by simp))).setCell ⟨g3, 5, none⟩ (.int .i64 r.u) (.inl (by simp))).setCell ⟨g3, 6, none⟩ (.int .i64 r.m) (.inl (by simp))
      have b7 := ((((((b36.set 0 (.int .i64 r.c)).set 1 (.string ⟨r.k.toArray⟩)).set 2 (.int .u64 (r.t : Int))).set 3 (.slice r.bA r.b.length r.bc)).set 4 (.int .i64 r.h)).set 5 (.int .i64 r.u)).set 6 (.int .i64 r.m)
      simp only [List.set_cons_zero, List.set_cons_succ] at b7
      have b8 := b7.alloc (.cells #[.int .i64 r.c, .string ⟨r.k.toArray⟩, .int .u64 (r.t : Int), .slice r.bA r.b.length r.bc, .int .i64 r.h, .int .i64 r.u, .int .i64 r.m] 29)
      have K8 := (kz6.trans k7 (by simp; exact hgs.out)).alloc (.cells #[.int .i64 r.c, .string ⟨r.k.toArray⟩, .int .u64 (r.t : Int), .slice r.bA r.b.length r.bc, .int .i64 r.h, .int .i64 r.u, .int .i64 r.m] 29)
      clear v0 v1 v2 v3 v4 v5 v6 vf vl b36 kz6 k7 b7
      first
        | refine bodyPost_ret (results_blk (cs := [.int .i64 r.c, .string ⟨r.k.toArray⟩, .int .u64 (r.t : Int), .slice r.bA r.b.length r.bc, .int .i64 r.h, .int .i64 r.u, .int .i64 r.m]) rfl _ _ g3 _ rfl b8 Tryz.underlying29 sizO) rfl ?_
        | refine bodyPost_ret (results_blk (cs := [.int .i64 r.c, .string ⟨r.k.toArray⟩, .int .u64 (r.t : Int), .slice r.bA r.b.length r.bc, .int .i64 r.h, .int .i64 r.u, .int .i64 r.m]) rfl _ _ g3 _ rfl ?_ Tryz.underlying29 sizO) rfl ?_
      exact ⟨K8, r, by rw [HR.out, HY.out], rfl⟩
end Go.Proofs.YtbcgpjfejpcgnaaGreat.O
end
