/- Lemmas on the way to LinearAcceptsSequential. No condition. -/
import Derived.Test.YtbcgpjfejpcgnaaGreatRAb
import Derived.Deep.RegionHeld3
import Derived.Deep.QuietTactic
import Derived.BigQuiet
import Derived.Deep.CutBlock
import Derived.Lib.Overlaps
import Derived.Lib.AppendZerosOnto
import Derived.Laws.Externs
import Derived.Deep.RegionLaw
import Derived.Lib.SliceRun
import Derived.Shelf.RegionOpenPlain
import Derived.Shelf.SlicesQ.Load
import Derived.Sort.Grow
import Derived.Shelf.SlSortCmp.Insertion
set_option linter.unusedSimpArgs false
set_option linter.unusedVariables false
set_option linter.unusedSectionVars false
section
namespace Go.Proofs.YtbcgpjfejpcgnaaGreat
open Go.RowKit
theorem Lst.src {w : World} {v : Value} {n k : Nat} {cs : List Value} (h : Lst w v n cs) (hl : cs.length = n * k) : (v = .slice none 0 0 ∧ n = 0) ∨ (∃ cap, v = .slice none 0 cap ∧ n = 0) ∨ ∃ a cap, v = .slice (some a) n cap ∧ ∀ j u, cs[j]? = some u → w.cell? (a.add j) = some u := by
  obtain ⟨A, cap, b, o, rfl, hA, har⟩ := h
  cases A with
  | none =>
    have h0 : n = 0 := by
      rcases Nat.eq_zero_or_pos n with h | h
      · exact h
      · exact absurd (hA h) (by simp)
    subst h0
    exact .inr (.inl ⟨cap, rfl, rfl⟩)
  | some a => exact .inr (.inr ⟨a, cap, rfl, Arr.src hA har hl⟩)
def Row (w : World) (v : Value) (n k : Nat) (xs : List Value) : Prop :=
  xs.length = n * k ∧ ((v = .slice none 0 0 ∧ n = 0) ∨ ∃ g cap rest, v = .slice (some ⟨g, 0, none⟩) n cap ∧ Blk w g (xs ++ rest) ∧ n ≤ cap ∧ cap ≤ maxLen ∧ (xs ++ rest).length = cap * k)
variable {w w' : World} {v : Value} {n k : Nat} {xs : List Value}
theorem Row.of {base e : Nat} (h : w.ownsRow base e k v n xs) : Row w v n k xs := by
  obtain ⟨h1, h2⟩ := h
  refine ⟨h1, ?_⟩
  rcases h2 with h2 | ⟨g, cap, cur, hv, hg, hh, hnc, hcm, hcs, ht⟩
  · exact .inl h2
  · refine .inr ⟨g, cap, cur.toList.drop (n * k), hv, ⟨e, ?_⟩, hnc, hcm, ?_⟩
    · rw [hh, ← ht, List.take_append_drop]
    · rw [← ht, List.take_append_drop, Array.length_toList, hcs]
theorem Row.nil (w : World) (k : Nat) : Row w (.slice none 0 0) 0 k [] := ⟨by simp, .inl ⟨rfl, rfl⟩⟩
theorem Row.keeps {S : List Nat} (h : Row w v n k xs) (kk : Keeps S w w') (hS : ∀ g, v.ownBlock = some g → g ∉ S) : Row w' v n k xs := by
  obtain ⟨h1, h | ⟨g, cap, rest, rfl, hb, h2, h3, h4⟩⟩ := h
  · exact ⟨h1, .inl h⟩
  · exact ⟨h1, .inr ⟨g, cap, rest, rfl, kk.blk hb (hS g rfl), h2, h3, h4⟩⟩
theorem Row.blk (h : Row w v n k xs) : ∀ g, v.ownBlock = some g → g < w.heap.size := by
  obtain ⟨h1, ⟨rfl, _⟩ | ⟨g, cap, rest, rfl, hb, h2, h3, h4⟩⟩ := h
  · intro g hg; simp [Value.ownBlock] at hg
  · intro g' hg
    have : g = g' := by simpa [Value.ownBlock] using hg
    subst this; exact hb.lt
theorem Row.lst (h : Row w v n k xs) : Lst w v n xs := by
  obtain ⟨h1, ⟨rfl, rfl⟩ | ⟨g, cap, rest, rfl, hb, h2, h3, h4⟩⟩ := h
  · have : xs = [] := by simpa using h1
    subst this
    exact Lst.nil w
  · exact Lst.blk hb
theorem Row.len (h : Row w v n k xs) : ∃ A cap, v = .slice A n cap := by
  obtain ⟨h1, ⟨rfl, rfl⟩ | ⟨g, cap, rest, rfl, hb, h2, h3, h4⟩⟩ := h
  · exact ⟨_, _, rfl⟩
  · exact ⟨_, _, rfl⟩
set_option maxRecDepth 100000 in
theorem row_append (h : Row w v n k xs) (t ty e : TypeId) (i : TypeInfo) (z : Value) (bytes : Nat) (hu : Tryz.prog.underlying t = some (.slice e)) (hi : Tryz.prog.info? e = some i) (hz : i.zero = some z) (hs : i.size = k) (hby : i.bytes = bytes) (hzs : z.cells.size = k) (hk : 0 < k)
    (a : Addr) (m c : Nat) (news : List Value) (hl : news.length = m * k) (hsrc : ∀ (j : Nat) (u : Value), news[j]? = some u → w.cell? (a.add j) = some u) (hone : ∀ u ∈ news, u.oneCell' = true) (hn : n + m ≤ 100000) (hb1 : bytes ≤ 1000) :
    ∃ v' w', (Builtin.append_ #[t, t] ty #[v, .slice (some a) m c]).run Tryz.prog w = .ok v' w' ∧ Row w' v' (n + m) k (xs ++ news) ∧ Keeps v.ownBlock.toList w w' ∧ ∀ g, v'.ownBlock = some g → v.ownBlock = some g ∨ w.heap.size ≤ g := by
  have hbb : (n + m) * bytes ≤ 140737488355328 := by
    have := Nat.mul_le_mul hn hb1
    omega
  obtain ⟨h1, ⟨rfl, rfl⟩ | ⟨g, cap, rest, rfl, hb, h2, h3, h4⟩⟩ := h
  · have hx : xs = [] := by simpa using h1
    subst hx
    obtain ⟨v', w', hr, ho, hg, _⟩ := run_append_own (P := Tryz.prog) w w.heap.size t ty e i z k bytes hu hi hz hs hby hzs hk _ 0 [] (World.ownsRow_nil _ _ _ _) a m c news hl hsrc hone (by unfold maxLen; omega) hbb (Nat.le_refl _)
    exact ⟨v', w', hr, .of ho, Keeps.of_grownBy hg _ (by simp [Value.ownBlock]), fun g hg => .inr (World.ownsRow.lt ho g hg).1⟩
  · by_cases hroom : n + m ≤ cap
    · have hmk : (n + m) * k ≤ cap * k := Nat.mul_le_mul_right k hroom
      rw [Nat.add_mul] at hmk
      obtain ⟨w', hr, hb', kk⟩ := run_appendK (P := Tryz.prog) w t e k hu (by rw [hi]; simp [hs]) g n cap _ hb a m c news hl hsrc hone hroom (by rw [h4, hl]; exact hmk)
      have hX : (spl (xs ++ rest) (n * k) news).take (n * k + news.length) = xs ++ news := by
        rw [spl_take_in (by rw [h4]; omega), List.take_append_of_le_length (by omega), List.take_of_length_le (by omega)]
      refine ⟨_, w', hr ty, ⟨by rw [List.length_append, h1, hl, Nat.add_mul], .inr ⟨g, cap, _, rfl, hb'.cut hX, hroom, h3, ?_⟩⟩, by simpa [Value.ownBlock] using kk, fun g' hg => .inl hg⟩
      rw [← hX, List.take_append_drop, spl_length (by rw [h4, hl]; exact hmk), h4]
    · have hr := run_append_grow (P := Tryz.prog) w t ty e i z hu hi hz ⟨g, 0, none⟩ n cap xs (by rw [hs]; exact h1)
        (fun j x hj => by rw [Addr.add_lit, hb.cell, Nat.zero_add, List.getElem?_append_left (List.getElem?_eq_some_iff.1 hj).1, hj]) a m c news (by rw [hs]; exact hl) hsrc (by omega) (by omega) (growslice_fits (by omega) (by rw [hby]; exact hbb))
      have hg := grownCap_ge w (n + m) cap e
      have hgm := grownCap_le_maxLen w (n + m) cap e (by unfold maxLen; omega)
      obtain ⟨G, hG⟩ : ∃ G, G = grownCap w (n + m) cap e := ⟨_, rfl⟩
      rw [← hG] at hr hg hgm
      have hnb := new_blk w (xs ++ news) (Builtin.zeroCells z.cells (G - (n + m))) e
      have eA : (xs.toArray ++ news.toArray ++ Builtin.zeroCells z.cells (G - (n + m))) = (xs ++ news).toArray ++ Builtin.zeroCells z.cells (G - (n + m)) := by simp
      rw [eA] at hr
      refine ⟨_, _, hr, ⟨by rw [List.length_append, h1, hl, Nat.add_mul], .inr ⟨w.heap.size, G, _, rfl, hnb, hg, hgm, ?_⟩⟩, (((Keeps.refl [] w).drew).alloc _).mono (by simp), fun g' hg' => .inr ?_⟩
      · rw [List.length_append, List.length_append, h1, hl, Array.length_toList, size_zeroCells, hzs, ← Nat.add_mul, ← Nat.add_mul]
        congr 1; omega
      · have : w.heap.size = g' := by simpa [Value.ownBlock] using hg'
        omega
set_option maxRecDepth 100000 in
theorem row_nil (t ty e : TypeId) (i : TypeInfo) (z : Value) (bytes k : Nat) (hu : Tryz.prog.underlying t = some (.slice e)) (hi : Tryz.prog.info? e = some i) (hz : i.zero = some z) (hs : i.size = k) (hby : i.bytes = bytes) (hzs : z.cells.size = k) (hk : 0 < k)
    (m : Nat) (xv : Value) (cs : List Value) (hx : Lst w xv m cs) (hl : cs.length = m * k) (hone : ∀ u ∈ cs, u.oneCell' = true) (hn : m ≤ 100000) (hb1 : bytes ≤ 1000) :
    ∃ v' w', (Builtin.append_ #[t, t] ty #[.slice none 0 0, xv]).run Tryz.prog w = .ok v' w' ∧ Row w' v' m k cs ∧ Keeps [] w w' ∧ ∀ g, v'.ownBlock = some g → w.heap.size ≤ g := by
  rcases hx.src hl with ⟨rfl, rfl⟩ | ⟨cap, rfl, rfl⟩ | ⟨a, cap, rfl, hsrc⟩
  · have : cs = [] := by simpa using hl
    subst this
    refine ⟨.slice none 0 0, w, ?_, Row.nil _ _, Keeps.refl _ _, fun g hg => by simp [Value.ownBlock] at hg⟩
    simp [Builtin.append_, run_underlying (P := Tryz.prog) hu, sizeOf, typeInfo, hi, Builtin.lenOf, Builtin.firstCells]
  · have : cs = [] := by simpa using hl
    subst this
    refine ⟨.slice none 0 0, w, ?_, Row.nil _ _, Keeps.refl _ _, fun g hg => by simp [Value.ownBlock] at hg⟩
    simp [Builtin.append_, run_underlying (P := Tryz.prog) hu, sizeOf, typeInfo, hi, Builtin.lenOf, Builtin.firstCells]
  · have hbb : (0 + m) * bytes ≤ 140737488355328 := by
      have := Nat.mul_le_mul hn hb1
      rw [Nat.zero_add]; omega
    obtain ⟨v', w', hr, h2, h3, _⟩ := run_append_own (P := Tryz.prog) w w.heap.size t ty e i z k bytes hu hi hz hs hby hzs hk (.slice none 0 0) 0 [] (World.ownsRow_nil _ _ _ _) a m cap cs hl hsrc hone (by unfold maxLen; omega) hbb (Nat.le_refl _)
    exact ⟨v', w', hr, by have := Row.of h2; rwa [Nat.zero_add, List.nil_append] at this, Keeps.of_grownBy h3 [] (by simp [Value.ownBlock]), fun g hg => (World.ownsRow.lt h2 g hg).1⟩
structure RV where
  n : Rec
  code : Int
  key : ByteArray
  time : Int
  bA : Option Addr
  bc : Nat
  b : List Wrt
  hd : Int
  cu : Int
  mo : Int
  er : Int
  at_ : Int
  ak : ByteArray
  av : ByteArray
instance : Inhabited RV := ⟨⟨⟨0, 0, 0, 0, 0⟩, 0, ⟨#[]⟩, 0, none, 0, [], 0, 0, 0, 0, 0, ⟨#[]⟩, ⟨#[]⟩⟩⟩
def rC (x : RV) : List Value := [.int .i64 x.n.th, .int .i64 x.n.ix, .int .i64 x.n.inv, .int .i64 x.n.pt, .int .i64 x.n.rs, .int .i64 x.code, .string x.key, .int .u64 x.time, .slice x.bA x.b.length x.bc, .int .i64 x.hd, .int .i64 x.cu, .int .i64 x.mo, .int .i64 x.er, .int .u64 x.at_, .string x.ak, .string x.av]
def rCs (l : List RV) : List Value := l.flatMap rC
theorem rC_len (x : RV) : (rC x).length = 16 := rfl
theorem rCs_append (l m : List RV) : rCs (l ++ m) = rCs l ++ rCs m := by simp [rCs]
theorem rCs_one (e : RV) : rCs [e] = rC e := by simp [rCs]
theorem rCs_cons (e : RV) (l : List RV) : rCs (e :: l) = rC e ++ rCs l := by simp [rCs]
theorem rCs_len (l : List RV) : (rCs l).length = l.length * 16 := by
  induction l with
  | nil => rfl
  | cons e l ih => rw [rCs_cons, List.length_append, ih, List.length_cons, rC_len]; omega
theorem rCs_cells (l : List RV) (r : List Value) (i : Nat) (p : RV) (h : l[i]? = some p) (j : Nat) (hj : j < 16) : (rCs l ++ r)[i * 16 + j]? = (rC p)[j]? := by
  induction l generalizing i with
  | nil => simp at h
  | cons x l ih =>
    cases i with
    | zero =>
      simp at h; subst h
      rw [rCs_cons, Nat.zero_mul, Nat.zero_add, List.append_assoc, List.getElem?_append_left (by rw [rC_len]; omega)]
    | succ i =>
      rw [rCs_cons, List.append_assoc, List.getElem?_append_right (by rw [rC_len]; omega)]
      rw [← ih i (by simpa using h)]
      congr 1
      rw [rC_len]; omega
def OkB (w : World) (x : RV) : Prop := Lst w (.slice x.bA x.b.length x.bc) x.b.length (wCs x.b)
theorem OkB.keeps {w w' : World} {x : RV} (h : OkB w x) (k : Keeps [] w w') : OkB w' x := Lst.keeps h k
theorem rC_one (x : RV) : ∀ u ∈ rC x, u.oneCell' = true := by
  intro u hu
  simp only [rC, List.mem_cons, List.mem_nil_iff, or_false] at hu
  rcases hu with rfl | rfl | rfl | rfl | rfl | rfl | rfl | rfl | rfl | rfl | rfl | rfl | rfl | rfl | rfl | rfl <;> rfl
theorem Lst.rec {w : World} {v : Value} {l : List RV} (h : Lst w v l.length (rCs l)) {i : Nat} {x : RV} (hx : l[i]? = some x) :
    ∃ g o cap, v = .slice (some ⟨g, o, none⟩) l.length cap ∧ (∀ (j : Nat) (u : Value), (rC x)[j]? = some u → w.cell? ⟨g, o + (i * 16 + j), none⟩ = some u) ∧ g < w.heap.size := by
  have hi := (List.getElem?_eq_some_iff.1 hx).1
  obtain ⟨A, cap, b, o, rfl, hA, har⟩ := h
  obtain rfl := hA (by omega)
  refine ⟨b, o, cap, rfl, fun j u hj => ?_, har.lt (by rw [rCs_len]; omega)⟩
  have hj16 : j < 16 := by have := (List.getElem?_eq_some_iff.1 hj).1; rwa [rC_len] at this
  rw [har.cells _ (by rw [rCs_len]; omega)]
  have := rCs_cells l [] i x hx j hj16
  rw [List.append_nil] at this
  rw [this, hj]
def Cel (w : World) (g o : Nat) (x : RV) : Prop := ∀ (j : Nat) (u : Value), (rC x)[j]? = some u → w.cell? ⟨g, o + j, none⟩ = some u
theorem Cel.all {w : World} {g o : Nat} {x : RV} (h : Cel w g o x) : w.cell? ⟨g, o, none⟩ = some (.int .i64 x.n.th) ∧ w.cell? ⟨g, o + 1, none⟩ = some (.int .i64 x.n.ix) ∧ w.cell? ⟨g, o + 2, none⟩ = some (.int .i64 x.n.inv) ∧ w.cell? ⟨g, o + 3, none⟩ = some (.int .i64 x.n.pt) ∧ w.cell? ⟨g, o + 4, none⟩ = some (.int .i64 x.n.rs) ∧ w.cell? ⟨g, o + 5, none⟩ = some (.int .i64 x.code) ∧ w.cell? ⟨g, o + 6, none⟩ = some (.string x.key) ∧ w.cell? ⟨g, o + 7, none⟩ = some (.int .u64 x.time) ∧ w.cell? ⟨g, o + 8, none⟩ = some (.slice x.bA x.b.length x.bc) ∧ w.cell? ⟨g, o + 9, none⟩ = some (.int .i64 x.hd) ∧ w.cell? ⟨g, o + 10, none⟩ = some (.int .i64 x.cu) ∧ w.cell? ⟨g, o + 11, none⟩ = some (.int .i64 x.mo) ∧ w.cell? ⟨g, o + 12, none⟩ = some (.int .i64 x.er) ∧ w.cell? ⟨g, o + 13, none⟩ = some (.int .u64 x.at_) ∧ w.cell? ⟨g, o + 14, none⟩ = some (.string x.ak) ∧ w.cell? ⟨g, o + 15, none⟩ = some (.string x.av) :=
  ⟨h 0 _ rfl, h 1 _ rfl, h 2 _ rfl, h 3 _ rfl, h 4 _ rfl, h 5 _ rfl, h 6 _ rfl, h 7 _ rfl, h 8 _ rfl, h 9 _ rfl, h 10 _ rfl, h 11 _ rfl, h 12 _ rfl, h 13 _ rfl, h 14 _ rfl, h 15 _ rfl⟩
theorem Cel.num {w : World} {g o : Nat} {x : RV} (h : Cel w g o x) : w.cell? ⟨g, o, none⟩ = some (.int .i64 x.n.th) ∧ w.cell? ⟨g, o + 1, none⟩ = some (.int .i64 x.n.ix) ∧ w.cell? ⟨g, o + 2, none⟩ = some (.int .i64 x.n.inv) ∧ w.cell? ⟨g, o + 3, none⟩ = some (.int .i64 x.n.pt) ∧ w.cell? ⟨g, o + 4, none⟩ = some (.int .i64 x.n.rs) :=
  ⟨h 0 _ rfl, h 1 _ rfl, h 2 _ rfl, h 3 _ rfl, h 4 _ rfl⟩
theorem Lst.at {w : World} {v : Value} {l : List RV} (h : Lst w v l.length (rCs l)) {i : Nat} {x : RV} (hx : l[i]? = some x) :
    ∃ g o cap, v = .slice (some ⟨g, o, none⟩) l.length cap ∧ Cel w g (o + i * 16) x ∧ g < w.heap.size := by
  obtain ⟨g, o, cap, h1, h2, h3⟩ := h.rec hx
  exact ⟨g, o, cap, h1, fun j u hj => by rw [Nat.add_assoc]; exact h2 j u hj, h3⟩
theorem Lst.atS {w : World} {A : Option Addr} {n cap : Nat} {l : List RV} (h : Lst w (.slice A n cap) n (rCs l)) (hn : l.length = n) {i : Nat} {x : RV} (hx : l[i]? = some x) :
    ∃ g o, A = some ⟨g, o, none⟩ ∧ Cel w g (o + i * 16) x ∧ g < w.heap.size := by
  subst hn
  obtain ⟨g, o, cap', h1, h2, h3⟩ := h.at hx
  injection h1 with e1 _ _
  exact ⟨g, o, e1, h2, h3⟩
theorem list_load_eq {P : Program} {ops : Array Oper} {rest : List Oper} {o : Oper} {a : Act} {w : World} {Q : Exit → Act → World → Prop} (hgd : o.guard = none) (ty : TypeId) (x : Operand) (ho : o.op = .load ty x)
    (p : Addr) (hx : a.eval x = .pointer (some p)) (v : Value) (hr : (loadVar ty p).run P w = .ok v w) (h : wpList P ops Q rest (a.put o.dst v) w) : wpList P ops Q (o :: rest) a w :=
  wpList_plain hgd fun K hK => by
    unfold Oper.wp execOp
    simp only [ho, hx, Instr.loadAt, Instr.sureAddr, Sem.run_bind, Sem.run_pure, Result.andThen_ok, hr]
    exact hK _ _ h
theorem list_store_eq {P : Program} {ops : Array Oper} {rest : List Oper} {o : Oper} {a : Act} {w : World} {Q : Exit → Act → World → Prop} (hgd : o.guard = none) (ty : TypeId) (x y : Operand) (ho : o.op = .store ty x y)
    (p : Addr) (hx : a.eval x = .pointer (some p)) (v : Value) (hy : a.eval y = v) {w' : World} (hr : (storeVar ty p v).run P w = .ok () w') (h : wpList P ops Q rest (a.put o.dst undef) w') : wpList P ops Q (o :: rest) a w :=
  wpList_plain hgd fun K hK => by
    unfold Oper.wp execOp
    simp only [ho, hx, hy, Instr.storeAt, Instr.sureAddr, Sem.run_bind, Sem.run_pure, Result.andThen_ok, hr]
    exact hK _ _ h
theorem sizR : (Tryz.prog.info? 34).map (·.size) = some 16 := by kernel_rfl
theorem Cel.load {w : World} {g o : Nat} {x : RV} (h : Cel w g o x) : (loadVar 34 ⟨g, o, none⟩).run Tryz.prog w = .ok (.agg #[.int .i64 x.n.th, .int .i64 x.n.ix, .int .i64 x.n.inv, .int .i64 x.n.pt, .int .i64 x.n.rs, .int .i64 x.code, .string x.key, .int .u64 x.time, .slice x.bA x.b.length x.bc, .int .i64 x.hd, .int .i64 x.cu, .int .i64 x.mo, .int .i64 x.er, .int .u64 x.at_, .string x.ak, .string x.av]) w := by
  have hl := run_loadCells_list (P := Tryz.prog) w ⟨g, o, none⟩ (rC x) (fun j u hj => by rw [Addr.add_lit]; exact h j u hj)
  rw [rC_len] at hl
  simp only [loadVar, Sem.run_bind, Tryz.isAgg34, Tryz.sizeOf34, Result.andThen_ok, if_true, hl]
  rfl
theorem Blk.cel {w : World} {b : Nat} {x : RV} (h : Blk w b [.int .i64 x.n.th, .int .i64 x.n.ix, .int .i64 x.n.inv, .int .i64 x.n.pt, .int .i64 x.n.rs, .int .i64 x.code, .string x.key, .int .u64 x.time, .slice x.bA x.b.length x.bc, .int .i64 x.hd, .int .i64 x.cu, .int .i64 x.mo, .int .i64 x.er, .int .u64 x.at_, .string x.ak, .string x.av]) : Cel w b 0 x := fun j u hj => by rw [h.cell, Nat.zero_add]; exact hj
theorem Blk.load {w : World} {b : Nat} {x : RV} (h : Blk w b [.int .i64 x.n.th, .int .i64 x.n.ix, .int .i64 x.n.inv, .int .i64 x.n.pt, .int .i64 x.n.rs, .int .i64 x.code, .string x.key, .int .u64 x.time, .slice x.bA x.b.length x.bc, .int .i64 x.hd, .int .i64 x.cu, .int .i64 x.mo, .int .i64 x.er, .int .u64 x.at_, .string x.ak, .string x.av]) : (loadVar 34 ⟨b, 0, none⟩).run Tryz.prog w = .ok (.agg #[.int .i64 x.n.th, .int .i64 x.n.ix, .int .i64 x.n.inv, .int .i64 x.n.pt, .int .i64 x.n.rs, .int .i64 x.code, .string x.key, .int .u64 x.time, .slice x.bA x.b.length x.bc, .int .i64 x.hd, .int .i64 x.cu, .int .i64 x.mo, .int .i64 x.er, .int .u64 x.at_, .string x.ak, .string x.av]) w := h.cel.load
theorem setRow_new (w : World) (cs ds : Array Value) (t : TypeId) : (w.alloc (.cells cs t)).setRow w.heap.size ds = w.alloc (.cells ds t) := by
  have h1 : ∀ f : Obj → Obj, (w.heap.push (.cells cs t)).modify w.heap.size f = w.heap.push (f (.cells cs t)) := fun f => by
    apply Array.ext
    · simp
    · intro i h1 h2
      rw [Array.getElem_modify, Array.getElem_push, Array.getElem_push]
      by_cases hi : i < w.heap.size
      · rw [dif_pos hi, dif_pos hi, if_neg (by omega)]
      · rw [dif_neg hi, dif_neg hi, if_pos (by simp at h2; omega)]
  unfold World.setRow
  show ({ w with heap := (w.heap.push (.cells cs t)).modify w.heap.size _ } : World) = { w with heap := w.heap.push (.cells ds t) }
  rw [h1]
theorem store_new (w : World) (x : RV) (old : Array Value) (ho : old.size = 16) : (storeVar 34 ⟨w.heap.size, 0, none⟩ (.agg #[.int .i64 x.n.th, .int .i64 x.n.ix, .int .i64 x.n.inv, .int .i64 x.n.pt, .int .i64 x.n.rs, .int .i64 x.code, .string x.key, .int .u64 x.time, .slice x.bA x.b.length x.bc, .int .i64 x.hd, .int .i64 x.cu, .int .i64 x.mo, .int .i64 x.er, .int .u64 x.at_, .string x.ak, .string x.av])).run Tryz.prog (w.alloc (.cells old 34)) = .ok () (w.alloc (.cells #[.int .i64 x.n.th, .int .i64 x.n.ix, .int .i64 x.n.inv, .int .i64 x.n.pt, .int .i64 x.n.rs, .int .i64 x.code, .string x.key, .int .u64 x.time, .slice x.bA x.b.length x.bc, .int .i64 x.hd, .int .i64 x.cu, .int .i64 x.mo, .int .i64 x.er, .int .u64 x.at_, .string x.ak, .string x.av] 34)) := by
  rw [run_storeVar_row (P := Tryz.prog) (w.alloc (.cells old 34)) w.heap.size 34 34 old #[.int .i64 x.n.th, .int .i64 x.n.ix, .int .i64 x.n.inv, .int .i64 x.n.pt, .int .i64 x.n.rs, .int .i64 x.code, .string x.key, .int .u64 x.time, .slice x.bA x.b.length x.bc, .int .i64 x.hd, .int .i64 x.cu, .int .i64 x.mo, .int .i64 x.er, .int .u64 x.at_, .string x.ak, .string x.av] (heap_alloc_new _ _) (by rw [sizR]; rfl) ho (by rw [Array.all_eq_true_iff_forall_mem]; exact fun u hu => rC_one x u (by simpa [rC] using hu)), setRow_new]
theorem new_rec (w : World) (x : RV) : Blk (w.alloc (.cells #[.int .i64 x.n.th, .int .i64 x.n.ix, .int .i64 x.n.inv, .int .i64 x.n.pt, .int .i64 x.n.rs, .int .i64 x.code, .string x.key, .int .u64 x.time, .slice x.bA x.b.length x.bc, .int .i64 x.hd, .int .i64 x.cu, .int .i64 x.mo, .int .i64 x.er, .int .u64 x.at_, .string x.ak, .string x.av] 34)) w.heap.size [.int .i64 x.n.th, .int .i64 x.n.ix, .int .i64 x.n.inv, .int .i64 x.n.pt, .int .i64 x.n.rs, .int .i64 x.code, .string x.key, .int .u64 x.time, .slice x.bA x.b.length x.bc, .int .i64 x.hd, .int .i64 x.cu, .int .i64 x.mo, .int .i64 x.er, .int .u64 x.at_, .string x.ak, .string x.av] := Blk.new w [.int .i64 x.n.th, .int .i64 x.n.ix, .int .i64 x.n.inv, .int .i64 x.n.pt, .int .i64 x.n.rs, .int .i64 x.code, .string x.key, .int .u64 x.time, .slice x.bA x.b.length x.bc, .int .i64 x.hd, .int .i64 x.cu, .int .i64 x.mo, .int .i64 x.er, .int .u64 x.at_, .string x.ak, .string x.av] 34
theorem Cel.keeps {S : List Nat} {w w' : World} {g o : Nat} {x : RV} (h : Cel w g o x) (k : Keeps S w w') (hn : g ∉ S) : Cel w' g o x := fun j u hj => k.cellEq (h j u hj) hn
end Go.Proofs.YtbcgpjfejpcgnaaGreat
end
section
namespace Go.Proofs.YtbcgpjfejpcgnaaGreat
open Go.RowKit
set_option maxRecDepth 100000
set_option linter.unusedSimpArgs false
set_option maxHeartbeats 1000000
theorem prec_any (x y : RV) (w : World) : Calls Tryz.prog 56 #[.agg #[.int .i64 x.n.th, .int .i64 x.n.ix, .int .i64 x.n.inv, .int .i64 x.n.pt, .int .i64 x.n.rs, .int .i64 x.code, .string x.key, .int .u64 x.time, .slice x.bA x.b.length x.bc, .int .i64 x.hd, .int .i64 x.cu, .int .i64 x.mo, .int .i64 x.er, .int .u64 x.at_, .string x.ak, .string x.av], .agg #[.int .i64 y.n.th, .int .i64 y.n.ix, .int .i64 y.n.inv, .int .i64 y.n.pt, .int .i64 y.n.rs, .int .i64 y.code, .string y.key, .int .u64 y.time, .slice y.bA y.b.length y.bc, .int .i64 y.hd, .int .i64 y.cu, .int .i64 y.mo, .int .i64 y.er, .int .u64 y.at_, .string y.ak, .string y.av]] w fun e w' => e = .returned (.bool (prec x.n y.n)) ∧ Keeps [] w w' := by
  have kk := ((Keeps.refl [] w).alloc (.cells #[.int .i64 x.n.th, .int .i64 x.n.ix, .int .i64 x.n.inv, .int .i64 x.n.pt, .int .i64 x.n.rs, .int .i64 x.code, .string x.key, .int .u64 x.time, .slice x.bA x.b.length x.bc, .int .i64 x.hd, .int .i64 x.cu, .int .i64 x.mo, .int .i64 x.er, .int .u64 x.at_, .string x.ak, .string x.av] 34)).alloc (.cells #[.int .i64 y.n.th, .int .i64 y.n.ix, .int .i64 y.n.inv, .int .i64 y.n.pt, .int .i64 y.n.rs, .int .i64 y.code, .string y.key, .int .u64 y.time, .slice y.bA y.b.length y.bc, .int .i64 y.hd, .int .i64 y.cu, .int .i64 y.mo, .int .i64 y.er, .int .u64 y.at_, .string y.ak, .string y.av] 34)
  by_cases h : x.n.rs = -1
  · have h1 : (x.n.rs != -1) = false := by simp [h]
    have hp : prec x.n y.n = false := by simp [prec, h]
    rw [hp]
    clear h hp
    go_enter Tryz.func56, Tryz.ntmps56
    go_wp2
    go_ret
    exact ⟨rfl, kk⟩
  · have h1 : (x.n.rs != -1) = true := by simp [h]
    have hp : prec x.n y.n = decide (x.n.rs < y.n.inv) := by simp [prec, h]
    rw [hp]
    clear h hp
    go_enter Tryz.func56, Tryz.ntmps56
    go_wp2
    go_ret
    exact ⟨rfl, kk⟩
theorem o1_any (x : RV) (w : World) : Calls Tryz.prog 44 #[.agg #[.int .i64 x.n.th, .int .i64 x.n.ix, .int .i64 x.n.inv, .int .i64 x.n.pt, .int .i64 x.n.rs, .int .i64 x.code, .string x.key, .int .u64 x.time, .slice x.bA x.b.length x.bc, .int .i64 x.hd, .int .i64 x.cu, .int .i64 x.mo, .int .i64 x.er, .int .u64 x.at_, .string x.ak, .string x.av]] w fun e w' => e = .returned (.bool (x.n.pt != -1)) ∧ Keeps [] w w' := by
  have kk := ((Keeps.refl [] w).alloc (.cells #[.int .i64 x.n.th, .int .i64 x.n.ix, .int .i64 x.n.inv, .int .i64 x.n.pt, .int .i64 x.n.rs, .int .i64 x.code, .string x.key, .int .u64 x.time, .slice x.bA x.b.length x.bc, .int .i64 x.hd, .int .i64 x.cu, .int .i64 x.mo, .int .i64 x.er, .int .u64 x.at_, .string x.ak, .string x.av] 34))
  go_enter Tryz.func44, Tryz.ntmps44
  go_wp2
  go_ret
  exact ⟨rfl, kk⟩
theorem nan_any (x : Int) (w : World) : Calls Tryz.prog 60 #[.int .i64 x] w fun e w' => e = .returned (.bool false) ∧ w' = w := by
  have h : (x != x) = false := by simp
  go_enter Tryz.func60, Tryz.ntmps60
  go_wp2
  go_ret
  exact ⟨rfl, rfl⟩
def cmpI (x y : Int) : Int := if x < y then -1 else if y < x then 1 else 0
theorem cmp_any (x y : Int) (w : World) : Calls Tryz.prog 47 #[.int .i64 x, .int .i64 y] w fun e w' => e = .returned (.int .i64 (cmpI x y)) ∧ w' = w := by
  by_cases h : x < y
  · have hc : cmpI x y = -1 := if_pos h
    rw [hc]
    go_enter Tryz.func47, Tryz.ntmps47
    go_wp2_with fail
    refine (nan_any _ _).mono ?_
    rintro e w1 ⟨rfl, rfl⟩
    go_wp2_with fail
    refine (nan_any _ _).mono ?_
    rintro e w2 ⟨rfl, rfl⟩
    go_wp2_with fail
    go_ret
    exact ⟨rfl, rfl⟩
  · by_cases h' : y < x
    · have hc : cmpI x y = 1 := by rw [cmpI, if_neg h, if_pos h']
      rw [hc]
      go_enter Tryz.func47, Tryz.ntmps47
      go_wp2_with fail
      refine (nan_any _ _).mono ?_
      rintro e w1 ⟨rfl, rfl⟩
      go_wp2_with fail
      refine (nan_any _ _).mono ?_
      rintro e w2 ⟨rfl, rfl⟩
      go_wp2_with fail
      go_ret
      exact ⟨rfl, rfl⟩
    · have hc : cmpI x y = 0 := by rw [cmpI, if_neg h, if_neg h']
      rw [hc]
      go_enter Tryz.func47, Tryz.ntmps47
      go_wp2_with fail
      refine (nan_any _ _).mono ?_
      rintro e w1 ⟨rfl, rfl⟩
      go_wp2_with fail
      refine (nan_any _ _).mono ?_
      rintro e w2 ⟨rfl, rfl⟩
      go_wp2_with fail
      go_ret
      exact ⟨rfl, rfl⟩
theorem o2_any (x y : RV) (w : World) : Calls Tryz.prog 46 #[.agg #[.int .i64 x.n.th, .int .i64 x.n.ix, .int .i64 x.n.inv, .int .i64 x.n.pt, .int .i64 x.n.rs, .int .i64 x.code, .string x.key, .int .u64 x.time, .slice x.bA x.b.length x.bc, .int .i64 x.hd, .int .i64 x.cu, .int .i64 x.mo, .int .i64 x.er, .int .u64 x.at_, .string x.ak, .string x.av], .agg #[.int .i64 y.n.th, .int .i64 y.n.ix, .int .i64 y.n.inv, .int .i64 y.n.pt, .int .i64 y.n.rs, .int .i64 y.code, .string y.key, .int .u64 y.time, .slice y.bA y.b.length y.bc, .int .i64 y.hd, .int .i64 y.cu, .int .i64 y.mo, .int .i64 y.er, .int .u64 y.at_, .string y.ak, .string y.av]] w fun e w' => e = .returned (.int .i64 (cmpI x.n.pt y.n.pt)) ∧ ∃ os, w' = Go.Sort.grow w os := by
  go_enter Tryz.func46, Tryz.ntmps46
  go_wp2_with fail
  refine (cmp_any _ _ _).mono ?_
  rintro e w1 ⟨rfl, rfl⟩
  go_wp2_with fail
  go_ret
  exact ⟨rfl, _, by rw [Go.Sort.alloc_eq_grow, Go.Sort.alloc_eq_grow, Go.Sort.grow_grow]⟩
def sndB (r : Rec) : Bool := !(decide (r.th < 0) || decide (r.ix < 0) || decide (r.inv < 0) || (r.pt != -1 && decide (r.pt < r.inv))) && (r.rs == -1 || (r.pt != -1 && decide (r.pt ≤ r.rs)))
end Go.Proofs.YtbcgpjfejpcgnaaGreat
end
section
namespace Go.Proofs.YtbcgpjfejpcgnaaGreat
open Go.RowKit
set_option maxRecDepth 100000
set_option maxHeartbeats 1000000
theorem recs_at {xs : List RV} {k : Nat} {x : RV} (h : xs[k]? = some x) : (xs.map (·.n))[k]? = some x.n := by rw [List.getElem?_map, h]; rfl
end Go.Proofs.YtbcgpjfejpcgnaaGreat
end
section
namespace Go.Proofs.YtbcgpjfejpcgnaaGreat
open Go.RowKit
set_option maxRecDepth 100000
set_option maxHeartbeats 1000000
set_option linter.unusedSimpArgs false
theorem infoW : (Tryz.prog.info? 53).map (fun i => (i.zero, i.size, i.bytes)) = some (some (.agg #[.string ⟨#[]⟩, .string ⟨#[]⟩, .bool false]), 3, 40) := by kernel_rfl
theorem infoR : (Tryz.prog.info? 34).map (fun i => (i.zero, i.size, i.bytes)) = some (some (.agg (rC default).toArray), 16, 168) := by kernel_rfl
def CloPost (b : List Wrt) (w : World) (x : Ending) (w' : World) : Prop := ∃ A' cap' bb, x = .returned (.slice A' b.length cap') ∧ (0 < b.length → A' = some ⟨bb, 0, none⟩ ∧ w.heap.size ≤ bb) ∧ Arr w' bb 0 (wCs b) ∧ Keeps [] w w'
theorem clonew_any (b : List Wrt) (hn : b.length * 40 ≤ 140737488355328) (A : Option Addr) (cap : Nat) (w : World) (hv : Lst w (.slice A b.length cap) b.length (wCs b)) :
    Calls Tryz.prog 58 #[.slice A b.length cap] w fun x w' => CloPost b w x w' := by
  obtain ⟨A0, cap0, bb, o, he, hA, har⟩ := hv
  injection he with e1 _ e2
  subst e1; subst e2
  obtain ⟨i0, hi, hz0, hz1, hz2⟩ := info_parts infoW
  have q30 : ∀ (w : World) (a : Option Addr) (n c n' c' : Nat), (binOp .eql 27 (.slice a n c) (.slice none n' c')).run Tryz.prog w = .ok (.bool a.isNone) w := fun w a n c n' c' => Lib.run_eql_slice_nil w _ _ a n c n' c' Tryz.underlying27
  cases A with
  | none =>
    have h0 : b.length = 0 := by
      rcases Nat.eq_zero_or_pos b.length with h | h
      · exact h
      · exact absurd (hA h) (by simp)
    have H0 := Lib.hid h0
    clear h0 hA har
    go_enter Tryz.func58, Tryz.ntmps58
    go_wp2
    go_ret
    exact ⟨none, 0, 0, by rw [H0.out]; rfl, fun h => by have := H0.out; omega, by rw [List.eq_nil_of_length_eq_zero H0.out]; exact Arr.nil _, Keeps.refl _ _⟩
  | some a =>
    have hsrc := Lib.hid (Arr.src hA har (by rw [wCs_length]))
    clear har
    go_enter Tryz.func58, Tryz.ntmps58
    go_wp2_with (at_builtin; refine wpList_append_own _ rfl _ _ 27 rfl w.heap.size 53 i0 _ 3 40 Tryz.underlying27 hi hz0 hz1 hz2 rfl (by decide) _ 0 [] rfl (World.ownsRow_made w #[] 0 (Nat.le_refl _) (Nat.zero_le _) (by simp)) a b.length cap (wCs b) rfl (wCs_length b) ?qc2 (fun u hu => wCs_one' hu) ?qc4 ?qc5 ?qc6 ?_)
    case qc2 => exact fun j u hj => Lib.cell?_alloc_some _ (hsrc.out j u hj)
    case qc4 => unfold maxLen; omega
    intro v' w1 hown hgrow _
    have hlt := World.ownsRow.lt hown
    have hr := Row.of hown
    obtain ⟨A2, c2, bb, o2, h1, h2, h3⟩ := hr.lst
    have hbb : 0 < b.length → o2 = 0 ∧ w.heap.size ≤ bb := fun h0 => by
      obtain ⟨_, ⟨_, h⟩ | ⟨g, cap', rest, h, _⟩⟩ := hr
      · omega
      · have := hlt g (by rw [h]; rfl)
        rw [h1] at h
        injection h with e1 _ _
        rw [h2 h0] at e1
        injection e1 with e1
        injection e1 with e1 e2 _
        exact ⟨e2, by omega⟩
    subst h1
    have harr : Arr w1 bb 0 (wCs b) := by
      rcases Nat.eq_zero_or_pos b.length with h0 | h0
      · have := List.eq_nil_of_length_eq_zero h0
        rw [this]; exact ⟨fun i hi => absurd hi (Nat.not_lt_zero i), fun h => absurd h (Nat.lt_irrefl 0)⟩
      · rw [← (hbb h0).1]; exact h3
    have hA2 : 0 < b.length → A2 = some ⟨bb, 0, none⟩ ∧ w.heap.size ≤ bb := fun h0 => by
      obtain ⟨q1, q2⟩ := hbb h0
      subst q1
      exact ⟨h2 h0, q2⟩
    clear h2 h3 hbb hlt hr
    go_wp2
    go_ret
    exact ⟨_, _, bb, rfl, hA2, harr, ((Keeps.refl [] w).alloc _).trans (Keeps.of_grownBy hgrow [w.heap.size] (by simp [Value.ownBlock])) (by simp)⟩
def OkN (w : World) (N : List Nat) (x : RV) : Prop := ∃ bb o, (0 < x.b.length → x.bA = some ⟨bb, o, none⟩ ∧ bb ∉ N) ∧ Arr w bb o (wCs x.b)
theorem OkN.keeps {w w' : World} {S N : List Nat} {x : RV} (h : OkN w N x) (k : Keeps S w w') (hS : ∀ s ∈ S, s ∈ N ∨ w.heap.size ≤ s) : OkN w' N x := by
  obtain ⟨bb, o, h2, h3⟩ := h
  rcases Nat.eq_zero_or_pos x.b.length with h0 | h0
  · refine ⟨0, 0, fun h => by omega, ?_⟩
    have := List.eq_nil_of_length_eq_zero h0
    rw [this]; exact Arr.nil _
  · exact ⟨bb, o, h2, h3.keeps k (fun hm => by
      rcases hS bb hm with h | h
      · exact (h2 h0).2 h
      · have := h3.lt (by rw [wCs_length]; omega); omega)⟩
theorem OkN.mono {w : World} {N N' : List Nat} {x : RV} (h : OkN w N x) (hN : ∀ s ∈ N', s ∈ N ∨ w.heap.size ≤ s) : OkN w N' x := by
  obtain ⟨bb, o, h2, h3⟩ := h
  refine ⟨bb, o, fun h0 => ⟨(h2 h0).1, fun hm => ?_⟩, h3⟩
  rcases hN bb hm with h | h
  · exact (h2 h0).2 h
  · have := h3.lt (by rw [wCs_length]; omega); omega
def strip (x : RV) : RV := { x with bA := none, bc := 0 }
structure Pk (w : World) (base : Nat) (v : Value) (ys : List RV) : Prop where
  row : Row w v ys.length 16 (rCs ys)
  ok : ∀ y ∈ ys, OkN w v.ownBlock.toList y
  ge : ∀ g, v.ownBlock = some g → base ≤ g
theorem Pk.keeps {w w' : World} {base : Nat} {v : Value} {ys : List RV} (h : Pk w base v ys) (k : Keeps [] w w') : Pk w' base v ys :=
  ⟨h.row.keeps k (by simp), fun y hy => (h.ok y hy).keeps k (by simp), h.ge⟩
theorem Pk.nil (w : World) (base : Nat) : Pk w base (.slice none 0 0) [] := ⟨Row.nil _ _, by simp, fun g hg => by simp [Value.ownBlock] at hg⟩
theorem pk_append {w : World} {base : Nat} {v : Value} {ys : List RV} (h : Pk w base v ys) (x : RV) (hx : OkN w v.ownBlock.toList x) (hn : ys.length < 1000) (hb : base ≤ w.heap.size) (a : Addr) (c : Nat) (hsrc : ∀ (j : Nat) (u : Value), (rC x)[j]? = some u → w.cell? (a.add j) = some u) (ty : TypeId) :
    ∃ v' w', (Builtin.append_ #[25, 25] ty #[v, .slice (some a) 1 c]).run Tryz.prog w = .ok v' w' ∧ Pk w' base v' (ys ++ [x]) ∧ Keeps v.ownBlock.toList w w' := by
  obtain ⟨i0, hi0, hz0, hz1, hz2⟩ := info_parts infoR
  obtain ⟨v', w', hr, r, k, f⟩ := row_append h.row 25 ty 34 i0 _ 168 Tryz.underlying25 hi0 hz0 hz1 hz2 rfl (by decide) a 1 c (rC x) rfl hsrc (rC_one x) (by omega) (by decide)
  refine ⟨v', w', hr, ⟨?_, fun y hy => ?_, fun g hg => ?_⟩, k⟩
  · rw [List.length_append, rCs_append, rCs_one]; exact r
  · have hy' : OkN w v.ownBlock.toList y := by
      rcases List.mem_append.1 hy with hy | hy
      · exact h.ok y hy
      · simp at hy; subst hy; exact hx
    have h1 : OkN w (v.ownBlock.toList ++ v'.ownBlock.toList) y := hy'.mono (fun s hs => by
      rcases List.mem_append.1 hs with hs | hs
      · exact .inl hs
      · rcases f s (by simpa using hs) with h | h
        · exact .inl (by simp [h])
        · exact .inr h)
    exact (h1.keeps k (fun s hs => .inl (List.mem_append_left _ hs))).mono (fun s hs => .inl (List.mem_append_right _ hs))
  · rcases f g hg with h1 | h1
    · exact h.ge g h1
    · omega
theorem pick_any (xs : List RV) (hn : xs.length ≤ 100) (v : Value) (w : World) (hv : Lst w v xs.length (rCs xs)) (hb : ∀ x ∈ xs, OkB w x ∧ x.b.length * 40 ≤ 140737488355328)
    (p : Rec → Bool) (G : Nat) (caps : Array Value) (eg : ∀ args w, (callFunc G args).run Tryz.prog w = .ok (.enter G args) w)
    (hp : ∀ (x : RV) (w1 : World), Keeps [] w w1 → Calls Tryz.prog G (#[.agg #[.int .i64 x.n.th, .int .i64 x.n.ix, .int .i64 x.n.inv, .int .i64 x.n.pt, .int .i64 x.n.rs, .int .i64 x.code, .string x.key, .int .u64 x.time, .slice x.bA x.b.length x.bc, .int .i64 x.hd, .int .i64 x.cu, .int .i64 x.mo, .int .i64 x.er, .int .u64 x.at_, .string x.ak, .string x.av]] ++ caps) w1 fun e w' => e = .returned (.bool (p x.n)) ∧ Keeps [] w1 w') :
    Calls Tryz.prog 43 #[v, .func (.func G) #[] caps] w fun e w' => ∃ u ys, e = .returned u ∧ Pk w' w.heap.size u ys ∧ ys.map strip = (xs.filter (fun x => p x.n)).map strip ∧ Keeps [] w w' := by
  have HV := Lib.hid hv
  have HB := Lib.hid hb
  have HP := Lib.hid hp
  obtain ⟨n, hn'⟩ : ∃ n, xs.length = n := ⟨_, rfl⟩
  obtain ⟨A, cap, b, o, rfl, _, _⟩ := hv
  rw [hn'] at hn HV ⊢
  have Hn := Lib.hid hn'
  clear hb hp hn'
  go_enter Tryz.func43, Tryz.ntmps43
  go_wp2_with fail
  go_loopw [5, 10] (fun u i wr => ∃ (k : Nat) (ys : List RV), k ≤ n ∧ i = .int .i64 k ∧ Pk wr w.heap.size u ys ∧ Hid (ys.map strip = ((xs.take k).filter (fun x => p x.n)).map strip ∧ ys.length ≤ k) ∧ Keeps [] w wr) (fun _ i _ => n - (intOf i).toNat)
  case atStart => exact ⟨0, [], by omega, rfl, Pk.nil _ _, Lib.hid (by simp), Keeps.refl _ _⟩
  case round =>
    obtain ⟨k, ys, hk, rfl, hpk, hys, kk⟩ := hrel
    obtain ⟨A5, c5, h5⟩ := hpk.row.len
    obtain ⟨m5, hm5⟩ : ∃ m5, ys.length = m5 := ⟨_, rfl⟩
    rw [hm5] at h5
    subst h5
    have Hm5 := Lib.hid hm5
    clear hm5
    by_cases hlt : k < n
    · obtain ⟨x, hx⟩ : ∃ x, xs[k]? = some x := ⟨_, List.getElem?_eq_getElem (by rw [Hn.out]; exact hlt)⟩
      obtain ⟨g, o', rfl, hc, hg⟩ := (HV.out.keeps kk).atS Hn.out hx
      have hl0 := hc.load
      have hst := store_new wr x
      have hbk := new_rec wr x
      have hl1 := hbk.load
      have kn : Keeps [] wr (wr.alloc (.cells #[.int .i64 x.n.th, .int .i64 x.n.ix, .int .i64 x.n.inv, .int .i64 x.n.pt, .int .i64 x.n.rs, .int .i64 x.code, .string x.key, .int .u64 x.time, .slice x.bA x.b.length x.bc, .int .i64 x.hd, .int .i64 x.cu, .int .i64 x.mo, .int .i64 x.er, .int .u64 x.at_, .string x.ak, .string x.av] 34)) := (Keeps.refl [] wr).alloc _
      have hkn : (k : Int) < (n : Int) := by omega
      have Hx := Lib.hid hx
      have Hc := Lib.hid hc
      clear hx hc
      go_wp2_with (first
        | (refine list_load_eq rfl 34 _ rfl _ rfl _ hl0 ?_)
        | (refine list_store_eq rfl 34 _ _ rfl _ rfl _ rfl (hst _ rfl) ?_)
        | (refine list_load_eq rfl 34 _ rfl _ rfl _ hl1 ?_))
      refine (HP.out x _ (kk.trans kn (by simp))).mono ?_
      rintro e w2 ⟨rfl, k2⟩
      have K2 := kn.trans k2 (by simp)
      have hpk2 := hpk.keeps K2
      have hbk2 := k2.blk hbk (by simp)
      have hgs : wr.heap.size < w2.heap.size := hbk2.lt
      have c8 := hbk2.cell 8
      have f8 := hbk2.frozen 8
      simp only [List.getElem?_cons_succ, List.getElem?_cons_zero] at c8
      clear hl0 hst hl1 hbk
      by_cases hp : p x.n = true
      · have hB := HB.out x (List.mem_of_getElem? Hx.out)
        have hclo := clonew_any x.b hB.2 x.bA x.bc w2 ((hB.1.keeps kk).keeps K2)
        have Hp := Lib.hid hp
        have Hbk2 := Lib.hid hbk2
        rw [hp]
        clear hp hB hbk2
        go_wp2_with fail
        refine hclo.mono ?_
        rintro e w3 ⟨A', c', bb, rfl, hA', har, k3⟩
        have hbk3 := k3.blk Hbk2.out (by simp)
        have f8 := hbk3.frozen 8
        have c8 := hbk3.cell 8
        simp only [List.getElem?_cons_succ, List.getElem?_cons_zero] at c8
        obtain ⟨x', hx'⟩ : ∃ x' : RV, x' = { x with bA := A', bc := c' } := ⟨_, rfl⟩
        have hbk4 : Blk (w3.setCell ⟨wr.heap.size, 8, none⟩ (.slice A' x.b.length c')) wr.heap.size [.int .i64 x'.n.th, .int .i64 x'.n.ix, .int .i64 x'.n.inv, .int .i64 x'.n.pt, .int .i64 x'.n.rs, .int .i64 x'.code, .string x'.key, .int .u64 x'.time, .slice x'.bA x'.b.length x'.bc, .int .i64 x'.hd, .int .i64 x'.cu, .int .i64 x'.mo, .int .i64 x'.er, .int .u64 x'.at_, .string x'.ak, .string x'.av] := by rw [hx']; exact hbk3.set 8 _
        have k34 : Keeps [] wr (w3.setCell ⟨wr.heap.size, 8, none⟩ (.slice A' x.b.length c')) := (K2.trans k3 (by simp)).setCell _ _ (.inr (Nat.le_refl _))
        have hl4 := hbk4.load
        have hok : OkN w3 (Value.slice A5 m5 c5).ownBlock.toList x' := by
          rw [hx']
          refine ⟨bb, 0, fun h0 => ⟨(hA' h0).1, fun hm => ?_⟩, har⟩
          have h1 := hpk.row.blk bb (by simpa using hm)
          have h2 := (hA' h0).2
          omega
        have k3s : Keeps [wr.heap.size] w3 (w3.setCell ⟨wr.heap.size, 8, none⟩ (.slice A' x.b.length c')) := (Keeps.refl [wr.heap.size] w3).setCell _ _ (.inl (by simp))
        have hok4 : OkN (w3.setCell ⟨wr.heap.size, 8, none⟩ (.slice A' x.b.length c')) (Value.slice A5 m5 c5).ownBlock.toList x' := by
          have h1 : OkN w3 (wr.heap.size :: (Value.slice A5 m5 c5).ownBlock.toList) x' := by
            rw [hx']
            refine ⟨bb, 0, fun h0 => ⟨(hA' h0).1, fun hm => ?_⟩, har⟩
            have h2 := (hA' h0).2
            rcases List.mem_cons.1 hm with h | hm
            · omega
            · have h1 := hpk.row.blk bb (by simpa using hm)
              omega
          exact (h1.keeps k3s (fun s hs => .inl (by simp at hs; subst hs; simp))).mono (fun s hs => .inl (List.mem_cons_of_mem _ hs))
        have hpk4 := hpk.keeps k34
        have k5 : Keeps [] (w3.setCell ⟨wr.heap.size, 8, none⟩ (.slice A' x.b.length c')) ((w3.setCell ⟨wr.heap.size, 8, none⟩ (.slice A' x.b.length c')).alloc (.cells #[.int .i64 x'.n.th, .int .i64 x'.n.ix, .int .i64 x'.n.inv, .int .i64 x'.n.pt, .int .i64 x'.n.rs, .int .i64 x'.code, .string x'.key, .int .u64 x'.time, .slice x'.bA x'.b.length x'.bc, .int .i64 x'.hd, .int .i64 x'.cu, .int .i64 x'.mo, .int .i64 x'.er, .int .u64 x'.at_, .string x'.ak, .string x'.av] 34)) := (Keeps.refl [] (w3.setCell ⟨wr.heap.size, 8, none⟩ (.slice A' x.b.length c'))).alloc _
        obtain ⟨u', w6, hr, hpk6, k6⟩ := pk_append (hpk4.keeps k5) x' (hok4.keeps k5 (by simp)) (by have := hys.out.2; omega) (Nat.le_trans (kk.trans k34 (by simp)).size k5.size) ⟨w3.heap.size, 0, none⟩ 1 (fun j u hj => by rw [Addr.add_lit]; exact (Blk.new_at (w3.setCell ⟨wr.heap.size, 8, none⟩ (.slice A' x.b.length c')) w3.heap.size [.int .i64 x'.n.th, .int .i64 x'.n.ix, .int .i64 x'.n.inv, .int .i64 x'.n.pt, .int .i64 x'.n.rs, .int .i64 x'.code, .string x'.key, .int .u64 x'.time, .slice x'.bA x'.b.length x'.bc, .int .i64 x'.hd, .int .i64 x'.cu, .int .i64 x'.mo, .int .i64 x'.er, .int .u64 x'.at_, .string x'.ak, .string x'.av] 34 (by simp)).cel j u hj) 25
        have K6 : Keeps [] w w6 := ((kk.trans k34 (by simp)).trans k5 (by simp)).trans k6 (fun s hs => .inr (hpk.ge s (by simpa using hs)))
        have Hx' := Lib.hid hx'
        clear hx' hpk4 k34 hok4 hok hbk4 hbk3 hpk2
        go_wp2_with (first
          | (refine list_load_eq rfl 34 _ rfl _ rfl _ hl4 ?_)
          | (at_builtin; refine list_append_eq rfl _ _ 25 25 rfl _ _ rfl rfl hr ?_))
        refine ⟨⟨k + 1, ys ++ [x'], by omega, by go_num, hpk6, Lib.hid ⟨?_, by rw [List.length_append]; have := hys.out.2; simp; omega⟩, K6⟩, by simp [intOf]; omega⟩
        rw [List.take_add_one, Hx.out, List.filter_append, List.map_append, List.map_append, hys.out.1]
        simp [Hp.out, Hx'.out, strip]
      · have hp' : p x.n = false := by simpa using hp
        have Hp := Lib.hid hp'
        rw [hp']
        clear hp hp' hbk2
        go_wp2_with fail
        refine ⟨⟨k + 1, ys, by omega, by go_num, hpk2, Lib.hid ⟨?_, by have := hys.out.2; omega⟩, kk.trans K2 (by simp)⟩, by simp [intOf]; omega⟩
        rw [List.take_add_one, Hx.out, List.filter_append, hys.out.1]
        simp [Hp.out]
    · obtain rfl : k = n := by omega
      have e := hys.out.1
      rw [List.take_of_length_le (by rw [Hn.out]; omega)] at e
      have He := Lib.hid e
      clear e hys
      go_wp2_with fail
      go_ret
      exact ⟨_, ys, rfl, hpk, He.out, kk⟩
end Go.Proofs.YtbcgpjfejpcgnaaGreat
end
