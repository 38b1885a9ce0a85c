/- Rows in memory and operations: their cells, their lists; the builtins append and copy on rows. -/
import Derived.Test.YtjmhnlbkfbieaaaGreatBatL
import Derived.Test.YtjmhnlbkfbieaaaGreatScrS
import Derived.Test.YtjmhnlbkfbieaaaGreatProg
import Derived.Deep.RegionHeld3
import Derived.Deep.QuietTactic
import Derived.BigQuiet
import Derived.Deep.CutBlock
import Derived.Lib.Overlaps
import Derived.Lib.AppendZerosOnto
import Derived.Laws.Externs
import Derived.Deep.RegionLaw
import Derived.Lib.SliceRun
import Derived.Shelf.RegionOpenPlain
import Derived.Shelf.SlicesQ.Load
namespace Go.Proofs.YtjmhnlbkfbieaaaGreat
open Go.RowKit
theorem step_append_eq {P : Program} {ops : Array Oper} {o : Oper} {a : Act} {w : World} {K : Act → World → Prop} {Q : Exit → Act → World → Prop} {E : Prop}
    (hg : o.guard = none) (d x : Operand) (t t' : TypeId) (hop : o.op = Op.call { callee := Callee.builtin Builtin.append, args := #[d, x], argTypes := #[t, t'] })
    (v u : Value) (hd : a.eval d = v) (hx : a.eval x = u) {v' : Value} {w' : World} (hr : (Builtin.append_ #[t, t'] o.type #[v, u]).run P w = .ok v' w') (hK : K (a.put o.dst v') w') :
    if Region.wanted o (yielded ops a.tmps) = true then Oper.wp P o a w K Q else E := by
  rw [if_pos (by simp [Region.wanted, hg])]
  unfold Oper.wp
  simp [execOp, hop, resolve, invoke, builtin, hd, hx, hr, Result.andThen]
  exact hK
theorem list_append_eq {P : Program} {w : World} {ops : Array Oper} {rest : List Oper} {o : Oper} {a : Act} {Q : Exit → Act → World → Prop} (hgd : o.guard = none) (d s : Operand) (t t' : TypeId)
    (ho : o.op = .call { callee := .builtin .append, args := #[d, s], argTypes := #[t, t'] }) (v u : Value) (hd : a.eval d = v) (hs : a.eval s = u) {v' : Value} {w' : World}
    (hr : (Builtin.append_ #[t, t'] o.type #[v, u]).run P w = .ok v' w') (h : wpList P ops Q rest (a.put o.dst v') w') : wpList P ops Q (o :: rest) a w :=
  wpList_plain hgd fun K hK => by
    unfold Oper.wp execOp
    simp only [ho, resolve, invoke, builtin, Sem.run_bind, Sem.run_pure, Result.andThen_ok, List.map_toArray, List.map_cons, List.map_nil, hd, hs, hr]
    exact hK _ _ h
theorem list_copy_eq {P : Program} {w : World} {ops : Array Oper} {rest : List Oper} {o : Oper} {a : Act} {Q : Exit → Act → World → Prop} (hgd : o.guard = none) (d s : Operand) (t t' : TypeId)
    (ho : o.op = .call { callee := .builtin .copy, args := #[d, s], argTypes := #[t, t'] }) (v u : Value) (hd : a.eval d = v) (hs : a.eval s = u) {v' : Value} {w' : World}
    (hr : (Builtin.copy_ #[t, t'] o.type #[v, u]).run P w = .ok v' w') (h : wpList P ops Q rest (a.put o.dst v') w') : wpList P ops Q (o :: rest) a w :=
  wpList_plain hgd fun K hK => by
    unfold Oper.wp execOp
    simp only [ho, resolve, invoke, builtin, Sem.run_bind, Sem.run_pure, Result.andThen_ok, List.map_toArray, List.map_cons, List.map_nil, hd, hs, hr]
    exact hK _ _ h
theorem Arr.src {w : World} {b o n k : Nat} {a : Addr} {cs : List Value} (hA : 0 < n → some a = some ⟨b, o, none⟩) (h : Arr w b o cs) (hl : cs.length = n * k) : ∀ j u, cs[j]? = some u → w.cell? (a.add j) = some u := by
  intro j u hj
  have hjl : j < cs.length := (List.getElem?_eq_some_iff.1 hj).1
  have hn : 0 < n := by
    rcases Nat.eq_zero_or_pos n with h0 | h0
    · rw [hl, h0, Nat.zero_mul] at hjl; omega
    · exact h0
  obtain rfl := Option.some.inj (hA hn)
  rw [Addr.add_lit, h.cells j hjl, hj]
theorem spl_take {cs news : List Value} {o k : Nat} (hk : k ≤ o) (hf : o ≤ cs.length) : (spl cs o news).take k = cs.take k := by
  unfold spl
  rw [List.append_assoc, List.take_append_of_le_length (by simp; omega), List.take_take, Nat.min_eq_left hk]
theorem spl_length {cs news : List Value} {o : Nat} (hf : o + news.length ≤ cs.length) : (spl cs o news).length = cs.length := by
  unfold spl; simp; omega
theorem spl_take_in {cs news : List Value} {o : Nat} (hf : o ≤ cs.length) : (spl cs o news).take (o + news.length) = cs.take o ++ news := by
  unfold spl
  rw [List.take_append_of_le_length (by simp; omega), List.take_of_length_le (by simp; omega)]
theorem Blk.cut {w : World} {g k : Nat} {cs X : List Value} (h : Blk w g cs) (hX : cs.take k = X) : Blk w g (X ++ cs.drop k) := by
  rw [← hX, List.take_append_drop]; exact h
theorem new_blk (w : World) (cs : List Value) (zs : Array Value) (T : TypeId) : Blk (w.drew.alloc (.cells (cs.toArray ++ zs) T)) w.heap.size (cs ++ zs.toList) := by
  have e : (cs ++ zs.toList).toArray = cs.toArray ++ zs := by apply Array.ext'; simp
  refine ⟨T, ?_⟩
  rw [e]
  exact heap_alloc_new w.drew _
theorem Lst.src {w : World} {v : Value} {n k : Nat} {cs : List Value} (h : Lst w v n cs) (hl : cs.length = n * k) : (v = .slice none 0 0 ∧ n = 0) ∨ (∃ cap, v = .slice none 0 cap ∧ n = 0) ∨ ∃ a cap, v = .slice (some a) n cap ∧ ∀ j u, cs[j]? = some u → w.cell? (a.add j) = some u := by
  obtain ⟨A, cap, b, o, rfl, hA, har⟩ := h
  cases A with
  | none =>
    have h0 : n = 0 := by
      rcases Nat.eq_zero_or_pos n with h | h
      · exact h
      · exact absurd (hA h) (by simp)
    subst h0
    exact .inr (.inl ⟨cap, rfl, rfl⟩)
  | some a => exact .inr (.inr ⟨a, cap, rfl, Arr.src hA har hl⟩)
/-- v is a slice with a block of its own, or nil: n elements of k cells, together xs. -/
def Row (w : World) (v : Value) (n k : Nat) (xs : List Value) : Prop :=
  xs.length = n * k ∧ ((v = .slice none 0 0 ∧ n = 0) ∨ ∃ g cap rest, v = .slice (some ⟨g, 0, none⟩) n cap ∧ Blk w g (xs ++ rest) ∧ n ≤ cap ∧ cap ≤ maxLen ∧ (xs ++ rest).length = cap * k)
variable {w w' : World} {v : Value} {n k : Nat} {xs : List Value}
theorem Row.of {base e : Nat} (h : w.ownsRow base e k v n xs) : Row w v n k xs := by
  obtain ⟨h1, h2⟩ := h
  refine ⟨h1, ?_⟩
  rcases h2 with h2 | ⟨g, cap, cur, hv, hg, hh, hnc, hcm, hcs, ht⟩
  · exact .inl h2
  · refine .inr ⟨g, cap, cur.toList.drop (n * k), hv, ⟨e, ?_⟩, hnc, hcm, ?_⟩
    · rw [hh, ← ht, List.take_append_drop]
    · rw [← ht, List.take_append_drop, Array.length_toList, hcs]
theorem Row.nil (w : World) (k : Nat) : Row w (.slice none 0 0) 0 k [] := ⟨by simp, .inl ⟨rfl, rfl⟩⟩
theorem Row.keeps {S : List Nat} (h : Row w v n k xs) (kk : Keeps S w w') (hS : ∀ g, v.ownBlock = some g → g ∉ S) : Row w' v n k xs := by
  obtain ⟨h1, h | ⟨g, cap, rest, rfl, hb, h2, h3, h4⟩⟩ := h
  · exact ⟨h1, .inl h⟩
  · exact ⟨h1, .inr ⟨g, cap, rest, rfl, kk.blk hb (hS g rfl), h2, h3, h4⟩⟩
theorem Row.blk (h : Row w v n k xs) : ∀ g, v.ownBlock = some g → g < w.heap.size := by
  obtain ⟨h1, ⟨rfl, _⟩ | ⟨g, cap, rest, rfl, hb, h2, h3, h4⟩⟩ := h
  · intro g hg; simp [Value.ownBlock] at hg
  · intro g' hg
    have : g = g' := by simpa [Value.ownBlock] using hg
    subst this; exact hb.lt
theorem Row.lst (h : Row w v n k xs) : Lst w v n xs := by
  obtain ⟨h1, ⟨rfl, rfl⟩ | ⟨g, cap, rest, rfl, hb, h2, h3, h4⟩⟩ := h
  · have : xs = [] := by simpa using h1
    subst this
    exact Lst.nil w
  · exact Lst.blk hb
theorem Row.len (h : Row w v n k xs) : ∃ A cap, v = .slice A n cap := by
  obtain ⟨h1, ⟨rfl, rfl⟩ | ⟨g, cap, rest, rfl, hb, h2, h3, h4⟩⟩ := h
  · exact ⟨_, _, rfl⟩
  · exact ⟨_, _, rfl⟩
set_option maxRecDepth 100000 in
theorem row_append (h : Row w v n k xs) (t ty e : TypeId) (i : TypeInfo) (z : Value) (bytes : Nat) (hu : Tryz.prog.underlying t = some (.slice e)) (hi : Tryz.prog.info? e = some i) (hz : i.zero = some z) (hs : i.size = k) (hby : i.bytes = bytes) (hzs : z.cells.size = k) (hk : 0 < k)
    (a : Addr) (m c : Nat) (news : List Value) (hl : news.length = m * k) (hsrc : ∀ (j : Nat) (u : Value), news[j]? = some u → w.cell? (a.add j) = some u) (hone : ∀ u ∈ news, u.oneCell' = true) (hn : n + m ≤ 1073741824) (hb1 : bytes ≤ 1000) :
    ∃ v' w', (Builtin.append_ #[t, t] ty #[v, .slice (some a) m c]).run Tryz.prog w = .ok v' w' ∧ Row w' v' (n + m) k (xs ++ news) ∧ Keeps v.ownBlock.toList w w' ∧ ∀ g, v'.ownBlock = some g → v.ownBlock = some g ∨ w.heap.size ≤ g := by
  have hbb : (n + m) * bytes ≤ 140737488355328 := by
    have := Nat.mul_le_mul hn hb1
    omega
  obtain ⟨h1, ⟨rfl, rfl⟩ | ⟨g, cap, rest, rfl, hb, h2, h3, h4⟩⟩ := h
  · have hx : xs = [] := by simpa using h1
    subst hx
    obtain ⟨v', w', hr, ho, hg, _⟩ := run_append_own (P := Tryz.prog) w w.heap.size t ty e i z k bytes hu hi hz hs hby hzs hk _ 0 [] (World.ownsRow_nil _ _ _ _) a m c news hl hsrc hone (by unfold maxLen; omega) hbb (Nat.le_refl _)
    exact ⟨v', w', hr, .of ho, Keeps.of_grownBy hg _ (by simp [Value.ownBlock]), fun g hg => .inr (World.ownsRow.lt ho g hg).1⟩
  · by_cases hroom : n + m ≤ cap
    · have hmk : (n + m) * k ≤ cap * k := Nat.mul_le_mul_right k hroom
      rw [Nat.add_mul] at hmk
      obtain ⟨w', hr, hb', kk⟩ := run_appendK (P := Tryz.prog) w t e k hu (by rw [hi]; simp [hs]) g n cap _ hb a m c news hl hsrc hone hroom (by rw [h4, hl]; exact hmk)
      have hX : (spl (xs ++ rest) (n * k) news).take (n * k + news.length) = xs ++ news := by
        rw [spl_take_in (by rw [h4]; omega), List.take_append_of_le_length (by omega), List.take_of_length_le (by omega)]
      refine ⟨_, w', hr ty, ⟨by rw [List.length_append, h1, hl, Nat.add_mul], .inr ⟨g, cap, _, rfl, hb'.cut hX, hroom, h3, ?_⟩⟩, by simpa [Value.ownBlock] using kk, fun g' hg => .inl hg⟩
      rw [← hX, List.take_append_drop, spl_length (by rw [h4, hl]; exact hmk), h4]
    · have hr := run_append_grow (P := Tryz.prog) w t ty e i z hu hi hz ⟨g, 0, none⟩ n cap xs (by rw [hs]; exact h1)
        (fun j x hj => by rw [Addr.add_lit, hb.cell, Nat.zero_add, List.getElem?_append_left (List.getElem?_eq_some_iff.1 hj).1, hj]) a m c news (by rw [hs]; exact hl) hsrc (by omega) (by omega) (growslice_fits (by omega) (by rw [hby]; exact hbb))
      have hg := grownCap_ge w (n + m) cap e
      have hgm := grownCap_le_maxLen w (n + m) cap e (by unfold maxLen; omega)
      obtain ⟨G, hG⟩ : ∃ G, G = grownCap w (n + m) cap e := ⟨_, rfl⟩
      rw [← hG] at hr hg hgm
      have hnb := new_blk w (xs ++ news) (Builtin.zeroCells z.cells (G - (n + m))) e
      have eA : (xs.toArray ++ news.toArray ++ Builtin.zeroCells z.cells (G - (n + m))) = (xs ++ news).toArray ++ Builtin.zeroCells z.cells (G - (n + m)) := by simp
      rw [eA] at hr
      refine ⟨_, _, hr, ⟨by rw [List.length_append, h1, hl, Nat.add_mul], .inr ⟨w.heap.size, G, _, rfl, hnb, hg, hgm, ?_⟩⟩, (((Keeps.refl [] w).drew).alloc _).mono (by simp), fun g' hg' => .inr ?_⟩
      · rw [List.length_append, List.length_append, h1, hl, Array.length_toList, size_zeroCells, hzs, ← Nat.add_mul, ← Nat.add_mul]
        congr 1; omega
      · have : w.heap.size = g' := by simpa [Value.ownBlock] using hg'
        omega
set_option maxRecDepth 100000 in
theorem row_nil (t ty e : TypeId) (i : TypeInfo) (z : Value) (bytes k : Nat) (hu : Tryz.prog.underlying t = some (.slice e)) (hi : Tryz.prog.info? e = some i) (hz : i.zero = some z) (hs : i.size = k) (hby : i.bytes = bytes) (hzs : z.cells.size = k) (hk : 0 < k)
    (m : Nat) (xv : Value) (cs : List Value) (hx : Lst w xv m cs) (hl : cs.length = m * k) (hone : ∀ u ∈ cs, u.oneCell' = true) (hn : m ≤ 1073741824) (hb1 : bytes ≤ 1000) :
    ∃ v' w', (Builtin.append_ #[t, t] ty #[.slice none 0 0, xv]).run Tryz.prog w = .ok v' w' ∧ Row w' v' m k cs ∧ Keeps [] w w' ∧ ∀ g, v'.ownBlock = some g → w.heap.size ≤ g := by
  rcases hx.src hl with ⟨rfl, rfl⟩ | ⟨cap, rfl, rfl⟩ | ⟨a, cap, rfl, hsrc⟩
  · have : cs = [] := by simpa using hl
    subst this
    refine ⟨.slice none 0 0, w, ?_, Row.nil _ _, Keeps.refl _ _, fun g hg => by simp [Value.ownBlock] at hg⟩
    simp [Builtin.append_, run_underlying (P := Tryz.prog) hu, sizeOf, typeInfo, hi, Builtin.lenOf, Builtin.firstCells]
  · have : cs = [] := by simpa using hl
    subst this
    refine ⟨.slice none 0 0, w, ?_, Row.nil _ _, Keeps.refl _ _, fun g hg => by simp [Value.ownBlock] at hg⟩
    simp [Builtin.append_, run_underlying (P := Tryz.prog) hu, sizeOf, typeInfo, hi, Builtin.lenOf, Builtin.firstCells]
  · have hbb : (0 + m) * bytes ≤ 140737488355328 := by
      have := Nat.mul_le_mul hn hb1
      rw [Nat.zero_add]; omega
    obtain ⟨v', w', hr, h2, h3, _⟩ := run_append_own (P := Tryz.prog) w w.heap.size t ty e i z k bytes hu hi hz hs hby hzs hk (.slice none 0 0) 0 [] (World.ownsRow_nil _ _ _ _) a m cap cs hl hsrc hone (by unfold maxLen; omega) hbb (Nat.le_refl _)
    exact ⟨v', w', hr, by have := Row.of h2; rwa [Nat.zero_add, List.nil_append] at this, Keeps.of_grownBy h3 [] (by simp [Value.ownBlock]), fun g hg => (World.ownsRow.lt h2 g hg).1⟩

/-- An operation in memory: its batch's place bA and capacity bc. -/
structure OV where
  c : Int
  k : Str
  t : Nat
  bA : Option Addr
  bc : Nat
  b : List Wrt
  h : Int
  u : Int
  m : Int
instance : Inhabited OV := ⟨⟨0, [], 0, none, 0, [], 0, 0, 0⟩⟩
def OV.op (x : OV) : Opn := ⟨x.c.toNat, x.k, x.t, x.b, x.h, x.u, x.m⟩
def oC (x : OV) : List Value := [.int .i64 x.c, .string ⟨x.k.toArray⟩, .int .u64 (x.t : Int), .slice x.bA x.b.length x.bc, .int .i64 x.h, .int .i64 x.u, .int .i64 x.m]
def oCs (l : List OV) : List Value := l.flatMap oC
theorem oC_len (x : OV) : (oC x).length = 7 := rfl
theorem oCs_append (l m : List OV) : oCs (l ++ m) = oCs l ++ oCs m := by simp [oCs]
theorem oCs_one (e : OV) : oCs [e] = oC e := by simp [oCs]
theorem oCs_cons (e : OV) (l : List OV) : oCs (e :: l) = oC e ++ oCs l := by simp [oCs]
theorem oCs_len (l : List OV) : (oCs l).length = l.length * 7 := by
  induction l with
  | nil => rfl
  | cons e l ih => rw [oCs_cons, List.length_append, ih, List.length_cons, oC_len]; omega
theorem oCs_cells (l : List OV) (r : List Value) (i : Nat) (p : OV) (h : l[i]? = some p) (j : Nat) (hj : j < 7) : (oCs l ++ r)[i * 7 + j]? = (oC p)[j]? := by
  induction l generalizing i with
  | nil => simp at h
  | cons x l ih =>
    cases i with
    | zero =>
      simp at h; subst h
      rw [oCs_cons, Nat.zero_mul, Nat.zero_add, List.append_assoc, List.getElem?_append_left (by rw [oC_len]; omega)]
    | succ i =>
      rw [oCs_cons, List.append_assoc, List.getElem?_append_right (by rw [oC_len]; omega)]
      rw [← ih i (by simpa using h)]
      congr 1
      rw [oC_len]; omega
/-- The operation's batch lies in w as it should. -/
def OkB (w : World) (x : OV) : Prop := Lst w (.slice x.bA x.b.length x.bc) x.b.length (wCs x.b)
theorem OkB.keeps {w w' : World} {x : OV} (h : OkB w x) (k : Keeps [] w w') : OkB w' x := Lst.keeps h k
theorem oC_one (x : OV) : ∀ u ∈ oC x, u.oneCell' = true := by
  intro u hu
  simp only [oC, List.mem_cons, List.mem_nil_iff, or_false] at hu
  rcases hu with rfl | rfl | rfl | rfl | rfl | rfl | rfl <;> rfl
/-- The whole operation at place i of a list: its cells. -/
theorem Lst.rec {w : World} {v : Value} {l : List OV} (h : Lst w v l.length (oCs l)) {i : Nat} {x : OV} (hx : l[i]? = some x) :
    ∃ g o cap, v = .slice (some ⟨g, o, none⟩) l.length cap ∧ (∀ (j : Nat) (u : Value), (oC x)[j]? = some u → w.cell? ⟨g, o + (i * 7 + j), none⟩ = some u) ∧ g < w.heap.size := by
  have hi := (List.getElem?_eq_some_iff.1 hx).1
  obtain ⟨A, cap, b, o, rfl, hA, har⟩ := h
  obtain rfl := hA (by omega)
  refine ⟨b, o, cap, rfl, fun j u hj => ?_, har.lt (by rw [oCs_len]; omega)⟩
  have hj7 : j < 7 := by have := (List.getElem?_eq_some_iff.1 hj).1; rwa [oC_len] at this
  rw [har.cells _ (by rw [oCs_len]; omega)]
  have := oCs_cells l [] i x hx j hj7
  rw [List.append_nil] at this
  rw [this, hj]
/-- The operation's cells, one by one. -/
def Cel (w : World) (g o : Nat) (x : OV) : Prop := ∀ (j : Nat) (u : Value), (oC x)[j]? = some u → w.cell? ⟨g, o + j, none⟩ = some u
theorem Cel.all {w : World} {g o : Nat} {x : OV} (h : Cel w g o x) : w.cell? ⟨g, o, none⟩ = some (.int .i64 x.c) ∧ w.cell? ⟨g, o + 1, none⟩ = some (.string ⟨x.k.toArray⟩) ∧ w.cell? ⟨g, o + 2, none⟩ = some (.int .u64 (x.t : Int)) ∧ w.cell? ⟨g, o + 3, none⟩ = some (.slice x.bA x.b.length x.bc) ∧ w.cell? ⟨g, o + 4, none⟩ = some (.int .i64 x.h) ∧ w.cell? ⟨g, o + 5, none⟩ = some (.int .i64 x.u) ∧ w.cell? ⟨g, o + 6, none⟩ = some (.int .i64 x.m) :=
  ⟨h 0 _ rfl, h 1 _ rfl, h 2 _ rfl, h 3 _ rfl, h 4 _ rfl, h 5 _ rfl, h 6 _ rfl⟩
theorem Lst.at {w : World} {v : Value} {l : List OV} (h : Lst w v l.length (oCs l)) {i : Nat} {x : OV} (hx : l[i]? = some x) :
    ∃ g o cap, v = .slice (some ⟨g, o, none⟩) l.length cap ∧ Cel w g (o + i * 7) x ∧ g < w.heap.size := by
  obtain ⟨g, o, cap, h1, h2, h3⟩ := h.rec hx
  exact ⟨g, o, cap, h1, fun j u hj => by rw [Nat.add_assoc]; exact h2 j u hj, h3⟩
theorem Lst.atS {w : World} {A : Option Addr} {n cap : Nat} {l : List OV} (h : Lst w (.slice A n cap) n (oCs l)) (hn : l.length = n) {i : Nat} {x : OV} (hx : l[i]? = some x) :
    ∃ g o, A = some ⟨g, o, none⟩ ∧ Cel w g (o + i * 7) x ∧ g < w.heap.size := by
  subst hn
  obtain ⟨g, o, cap', h1, h2, h3⟩ := h.at hx
  injection h1 with e1 _ _
  exact ⟨g, o, e1, h2, h3⟩
theorem list_load_eq {P : Program} {ops : Array Oper} {rest : List Oper} {o : Oper} {a : Act} {w : World} {Q : Exit → Act → World → Prop} (hgd : o.guard = none) (ty : TypeId) (x : Operand) (ho : o.op = .load ty x)
    (p : Addr) (hx : a.eval x = .pointer (some p)) (v : Value) (hr : (loadVar ty p).run P w = .ok v w) (h : wpList P ops Q rest (a.put o.dst v) w) : wpList P ops Q (o :: rest) a w :=
  wpList_plain hgd fun K hK => by
    unfold Oper.wp execOp
    simp only [ho, hx, Instr.loadAt, Instr.sureAddr, Sem.run_bind, Sem.run_pure, Result.andThen_ok, hr]
    exact hK _ _ h
theorem list_store_eq {P : Program} {ops : Array Oper} {rest : List Oper} {o : Oper} {a : Act} {w : World} {Q : Exit → Act → World → Prop} (hgd : o.guard = none) (ty : TypeId) (x y : Operand) (ho : o.op = .store ty x y)
    (p : Addr) (hx : a.eval x = .pointer (some p)) (v : Value) (hy : a.eval y = v) {w' : World} (hr : (storeVar ty p v).run P w = .ok () w') (h : wpList P ops Q rest (a.put o.dst undef) w') : wpList P ops Q (o :: rest) a w :=
  wpList_plain hgd fun K hK => by
    unfold Oper.wp execOp
    simp only [ho, hx, hy, Instr.storeAt, Instr.sureAddr, Sem.run_bind, Sem.run_pure, Result.andThen_ok, hr]
    exact hK _ _ h
theorem sizO : (Tryz.prog.info? 25).map (·.size) = some 7 := by kernel_rfl
theorem Cel.load {w : World} {g o : Nat} {x : OV} (h : Cel w g o x) : (loadVar 25 ⟨g, o, none⟩).run Tryz.prog w = .ok (.agg #[.int .i64 x.c, .string ⟨x.k.toArray⟩, .int .u64 (x.t : Int), .slice x.bA x.b.length x.bc, .int .i64 x.h, .int .i64 x.u, .int .i64 x.m]) w := by
  have hl := run_loadCells_list (P := Tryz.prog) w ⟨g, o, none⟩ (oC x) (fun j u hj => by rw [Addr.add_lit]; exact h j u hj)
  rw [oC_len] at hl
  simp only [loadVar, Sem.run_bind, Tryz.isAgg25, Tryz.sizeOf25, Result.andThen_ok, if_true, hl]
  rfl
theorem Blk.cel {w : World} {b : Nat} {x : OV} (h : Blk w b [.int .i64 x.c, .string ⟨x.k.toArray⟩, .int .u64 (x.t : Int), .slice x.bA x.b.length x.bc, .int .i64 x.h, .int .i64 x.u, .int .i64 x.m]) : Cel w b 0 x := fun j u hj => by rw [h.cell, Nat.zero_add]; exact hj
theorem Blk.load {w : World} {b : Nat} {x : OV} (h : Blk w b [.int .i64 x.c, .string ⟨x.k.toArray⟩, .int .u64 (x.t : Int), .slice x.bA x.b.length x.bc, .int .i64 x.h, .int .i64 x.u, .int .i64 x.m]) : (loadVar 25 ⟨b, 0, none⟩).run Tryz.prog w = .ok (.agg #[.int .i64 x.c, .string ⟨x.k.toArray⟩, .int .u64 (x.t : Int), .slice x.bA x.b.length x.bc, .int .i64 x.h, .int .i64 x.u, .int .i64 x.m]) w := h.cel.load
theorem setRow_new (w : World) (cs ds : Array Value) (t : TypeId) : (w.alloc (.cells cs t)).setRow w.heap.size ds = w.alloc (.cells ds t) := by
  have h1 : ∀ f : Obj → Obj, (w.heap.push (.cells cs t)).modify w.heap.size f = w.heap.push (f (.cells cs t)) := fun f => by
    apply Array.ext
    · simp
    · intro i h1 h2
      rw [Array.getElem_modify, Array.getElem_push, Array.getElem_push]
      by_cases hi : i < w.heap.size
      · rw [dif_pos hi, dif_pos hi, if_neg (by omega)]
      · rw [dif_neg hi, dif_neg hi, if_pos (by simp at h2; omega)]
  unfold World.setRow
  show ({ w with heap := (w.heap.push (.cells cs t)).modify w.heap.size _ } : World) = { w with heap := w.heap.push (.cells ds t) }
  rw [h1]
theorem store_new (w : World) (x : OV) (old : Array Value) (ho : old.size = 7) : (storeVar 25 ⟨w.heap.size, 0, none⟩ (.agg #[.int .i64 x.c, .string ⟨x.k.toArray⟩, .int .u64 (x.t : Int), .slice x.bA x.b.length x.bc, .int .i64 x.h, .int .i64 x.u, .int .i64 x.m])).run Tryz.prog (w.alloc (.cells old 25)) = .ok () (w.alloc (.cells #[.int .i64 x.c, .string ⟨x.k.toArray⟩, .int .u64 (x.t : Int), .slice x.bA x.b.length x.bc, .int .i64 x.h, .int .i64 x.u, .int .i64 x.m] 25)) := by
  rw [run_storeVar_row (P := Tryz.prog) (w.alloc (.cells old 25)) w.heap.size 25 25 old #[.int .i64 x.c, .string ⟨x.k.toArray⟩, .int .u64 (x.t : Int), .slice x.bA x.b.length x.bc, .int .i64 x.h, .int .i64 x.u, .int .i64 x.m] (heap_alloc_new _ _) (by rw [sizO]; rfl) ho (by rw [Array.all_eq_true_iff_forall_mem]; exact fun u hu => oC_one x u (by simpa [oC] using hu)), setRow_new]
theorem new_op (w : World) (x : OV) : Blk (w.alloc (.cells #[.int .i64 x.c, .string ⟨x.k.toArray⟩, .int .u64 (x.t : Int), .slice x.bA x.b.length x.bc, .int .i64 x.h, .int .i64 x.u, .int .i64 x.m] 25)) w.heap.size [.int .i64 x.c, .string ⟨x.k.toArray⟩, .int .u64 (x.t : Int), .slice x.bA x.b.length x.bc, .int .i64 x.h, .int .i64 x.u, .int .i64 x.m] := Blk.new w [.int .i64 x.c, .string ⟨x.k.toArray⟩, .int .u64 (x.t : Int), .slice x.bA x.b.length x.bc, .int .i64 x.h, .int .i64 x.u, .int .i64 x.m] 25
theorem Cel.keeps {S : List Nat} {w w' : World} {g o : Nat} {x : OV} (h : Cel w g o x) (k : Keeps S w w') (hn : g ∉ S) : Cel w' g o x := fun j u hj => k.cellEq (h j u hj) hn
/-- A named result of a struct's type, in a block of its own. -/
theorem results_blk {fn : Func} {p : Tmp} {ty : TypeId} (h : fn.results = #[.cell p ty]) (tmps : Array Value) (w : World) (g : Nat) (cs : List Value) (d : Array Field)
    (hp : tmps.getD p undef = .pointer (some ⟨g, 0, none⟩)) (hb : Blk w g cs) (hu : Tryz.prog.underlying ty = some (.struct d)) (hi : (Tryz.prog.info? ty).map (·.size) = some cs.length) :
    (results fn tmps).run Tryz.prog w = .ok (.agg cs.toArray) w := by
  obtain ⟨T, ht⟩ := hb
  exact results_cell_row h tmps w g T cs.toArray _ (.struct d) hp ht hu rfl (by simpa using hi)
end Go.Proofs.YtjmhnlbkfbieaaaGreat
