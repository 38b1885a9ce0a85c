/- Lemmas on the way to LinearRejects. No condition. -/
import Derived.Test.YtbcgpjfejpcgnaaGreatQAb
import Derived.Deep.RegionHeld3
import Derived.Deep.QuietTactic
import Derived.BigQuiet
import Derived.Deep.CutBlock
import Derived.Lib.Overlaps
import Derived.Lib.AppendZerosOnto
import Derived.Laws.Externs
import Derived.Deep.RegionLaw
import Derived.Lib.SliceRun
import Derived.Shelf.RegionOpenPlain
import Derived.Shelf.SlicesQ.Load
set_option linter.unusedSimpArgs false
set_option linter.unusedVariables false
set_option linter.unusedSectionVars false
section
namespace Go.Proofs.YtbcgpjfejpcgnaaGreat
open Go.RowKit
theorem Lst.src {w : World} {v : Value} {n k : Nat} {cs : List Value} (h : Lst w v n cs) (hl : cs.length = n * k) : (v = .slice none 0 0 ∧ n = 0) ∨ (∃ cap, v = .slice none 0 cap ∧ n = 0) ∨ ∃ a cap, v = .slice (some a) n cap ∧ ∀ j u, cs[j]? = some u → w.cell? (a.add j) = some u := by
  obtain ⟨A, cap, b, o, rfl, hA, har⟩ := h
  cases A with
  | none =>
    have h0 : n = 0 := by
      rcases Nat.eq_zero_or_pos n with h | h
      · exact h
      · exact absurd (hA h) (by simp)
    subst h0
    exact .inr (.inl ⟨cap, rfl, rfl⟩)
  | some a => exact .inr (.inr ⟨a, cap, rfl, Arr.src hA har hl⟩)
def Row (w : World) (v : Value) (n k : Nat) (xs : List Value) : Prop :=
  xs.length = n * k ∧ ((v = .slice none 0 0 ∧ n = 0) ∨ ∃ g cap rest, v = .slice (some ⟨g, 0, none⟩) n cap ∧ Blk w g (xs ++ rest) ∧ n ≤ cap ∧ cap ≤ maxLen ∧ (xs ++ rest).length = cap * k)
variable {w w' : World} {v : Value} {n k : Nat} {xs : List Value}
theorem Row.of {base e : Nat} (h : w.ownsRow base e k v n xs) : Row w v n k xs := by
  obtain ⟨h1, h2⟩ := h
  refine ⟨h1, ?_⟩
  rcases h2 with h2 | ⟨g, cap, cur, hv, hg, hh, hnc, hcm, hcs, ht⟩
  · exact .inl h2
  · refine .inr ⟨g, cap, cur.toList.drop (n * k), hv, ⟨e, ?_⟩, hnc, hcm, ?_⟩
    · rw [hh, ← ht, List.take_append_drop]
    · rw [← ht, List.take_append_drop, Array.length_toList, hcs]
theorem Row.nil (w : World) (k : Nat) : Row w (.slice none 0 0) 0 k [] := ⟨by simp, .inl ⟨rfl, rfl⟩⟩
theorem Row.keeps {S : List Nat} (h : Row w v n k xs) (kk : Keeps S w w') (hS : ∀ g, v.ownBlock = some g → g ∉ S) : Row w' v n k xs := by
  obtain ⟨h1, h | ⟨g, cap, rest, rfl, hb, h2, h3, h4⟩⟩ := h
  · exact ⟨h1, .inl h⟩
  · exact ⟨h1, .inr ⟨g, cap, rest, rfl, kk.blk hb (hS g rfl), h2, h3, h4⟩⟩
theorem Row.blk (h : Row w v n k xs) : ∀ g, v.ownBlock = some g → g < w.heap.size := by
  obtain ⟨h1, ⟨rfl, _⟩ | ⟨g, cap, rest, rfl, hb, h2, h3, h4⟩⟩ := h
  · intro g hg; simp [Value.ownBlock] at hg
  · intro g' hg
    have : g = g' := by simpa [Value.ownBlock] using hg
    subst this; exact hb.lt
theorem Row.lst (h : Row w v n k xs) : Lst w v n xs := by
  obtain ⟨h1, ⟨rfl, rfl⟩ | ⟨g, cap, rest, rfl, hb, h2, h3, h4⟩⟩ := h
  · have : xs = [] := by simpa using h1
    subst this
    exact Lst.nil w
  · exact Lst.blk hb
theorem Row.len (h : Row w v n k xs) : ∃ A cap, v = .slice A n cap := by
  obtain ⟨h1, ⟨rfl, rfl⟩ | ⟨g, cap, rest, rfl, hb, h2, h3, h4⟩⟩ := h
  · exact ⟨_, _, rfl⟩
  · exact ⟨_, _, rfl⟩
set_option maxRecDepth 100000 in
theorem row_append (h : Row w v n k xs) (t ty e : TypeId) (i : TypeInfo) (z : Value) (bytes : Nat) (hu : Tryz.prog.underlying t = some (.slice e)) (hi : Tryz.prog.info? e = some i) (hz : i.zero = some z) (hs : i.size = k) (hby : i.bytes = bytes) (hzs : z.cells.size = k) (hk : 0 < k)
    (a : Addr) (m c : Nat) (news : List Value) (hl : news.length = m * k) (hsrc : ∀ (j : Nat) (u : Value), news[j]? = some u → w.cell? (a.add j) = some u) (hone : ∀ u ∈ news, u.oneCell' = true) (hn : n + m ≤ 100000) (hb1 : bytes ≤ 1000) :
    ∃ v' w', (Builtin.append_ #[t, t] ty #[v, .slice (some a) m c]).run Tryz.prog w = .ok v' w' ∧ Row w' v' (n + m) k (xs ++ news) ∧ Keeps v.ownBlock.toList w w' ∧ ∀ g, v'.ownBlock = some g → v.ownBlock = some g ∨ w.heap.size ≤ g := by
  have hbb : (n + m) * bytes ≤ 140737488355328 := by
    have := Nat.mul_le_mul hn hb1
    omega
  obtain ⟨h1, ⟨rfl, rfl⟩ | ⟨g, cap, rest, rfl, hb, h2, h3, h4⟩⟩ := h
  · have hx : xs = [] := by simpa using h1
    subst hx
    obtain ⟨v', w', hr, ho, hg, _⟩ := run_append_own (P := Tryz.prog) w w.heap.size t ty e i z k bytes hu hi hz hs hby hzs hk _ 0 [] (World.ownsRow_nil _ _ _ _) a m c news hl hsrc hone (by unfold maxLen; omega) hbb (Nat.le_refl _)
    exact ⟨v', w', hr, .of ho, Keeps.of_grownBy hg _ (by simp [Value.ownBlock]), fun g hg => .inr (World.ownsRow.lt ho g hg).1⟩
  · by_cases hroom : n + m ≤ cap
    · have hmk : (n + m) * k ≤ cap * k := Nat.mul_le_mul_right k hroom
      rw [Nat.add_mul] at hmk
      obtain ⟨w', hr, hb', kk⟩ := run_appendK (P := Tryz.prog) w t e k hu (by rw [hi]; simp [hs]) g n cap _ hb a m c news hl hsrc hone hroom (by rw [h4, hl]; exact hmk)
      have hX : (spl (xs ++ rest) (n * k) news).take (n * k + news.length) = xs ++ news := by
        rw [spl_take_in (by rw [h4]; omega), List.take_append_of_le_length (by omega), List.take_of_length_le (by omega)]
      refine ⟨_, w', hr ty, ⟨by rw [List.length_append, h1, hl, Nat.add_mul], .inr ⟨g, cap, _, rfl, hb'.cut hX, hroom, h3, ?_⟩⟩, by simpa [Value.ownBlock] using kk, fun g' hg => .inl hg⟩
      rw [← hX, List.take_append_drop, spl_length (by rw [h4, hl]; exact hmk), h4]
    · have hr := run_append_grow (P := Tryz.prog) w t ty e i z hu hi hz ⟨g, 0, none⟩ n cap xs (by rw [hs]; exact h1)
        (fun j x hj => by rw [Addr.add_lit, hb.cell, Nat.zero_add, List.getElem?_append_left (List.getElem?_eq_some_iff.1 hj).1, hj]) a m c news (by rw [hs]; exact hl) hsrc (by omega) (by omega) (growslice_fits (by omega) (by rw [hby]; exact hbb))
      have hg := grownCap_ge w (n + m) cap e
      have hgm := grownCap_le_maxLen w (n + m) cap e (by unfold maxLen; omega)
      obtain ⟨G, hG⟩ : ∃ G, G = grownCap w (n + m) cap e := ⟨_, rfl⟩
      rw [← hG] at hr hg hgm
      have hnb := new_blk w (xs ++ news) (Builtin.zeroCells z.cells (G - (n + m))) e
      have eA : (xs.toArray ++ news.toArray ++ Builtin.zeroCells z.cells (G - (n + m))) = (xs ++ news).toArray ++ Builtin.zeroCells z.cells (G - (n + m)) := by simp
      rw [eA] at hr
      refine ⟨_, _, hr, ⟨by rw [List.length_append, h1, hl, Nat.add_mul], .inr ⟨w.heap.size, G, _, rfl, hnb, hg, hgm, ?_⟩⟩, (((Keeps.refl [] w).drew).alloc _).mono (by simp), fun g' hg' => .inr ?_⟩
      · rw [List.length_append, List.length_append, h1, hl, Array.length_toList, size_zeroCells, hzs, ← Nat.add_mul, ← Nat.add_mul]
        congr 1; omega
      · have : w.heap.size = g' := by simpa [Value.ownBlock] using hg'
        omega
set_option maxRecDepth 100000 in
theorem row_nil (t ty e : TypeId) (i : TypeInfo) (z : Value) (bytes k : Nat) (hu : Tryz.prog.underlying t = some (.slice e)) (hi : Tryz.prog.info? e = some i) (hz : i.zero = some z) (hs : i.size = k) (hby : i.bytes = bytes) (hzs : z.cells.size = k) (hk : 0 < k)
    (m : Nat) (xv : Value) (cs : List Value) (hx : Lst w xv m cs) (hl : cs.length = m * k) (hone : ∀ u ∈ cs, u.oneCell' = true) (hn : m ≤ 100000) (hb1 : bytes ≤ 1000) :
    ∃ v' w', (Builtin.append_ #[t, t] ty #[.slice none 0 0, xv]).run Tryz.prog w = .ok v' w' ∧ Row w' v' m k cs ∧ Keeps [] w w' ∧ ∀ g, v'.ownBlock = some g → w.heap.size ≤ g := by
  rcases hx.src hl with ⟨rfl, rfl⟩ | ⟨cap, rfl, rfl⟩ | ⟨a, cap, rfl, hsrc⟩
  · have : cs = [] := by simpa using hl
    subst this
    refine ⟨.slice none 0 0, w, ?_, Row.nil _ _, Keeps.refl _ _, fun g hg => by simp [Value.ownBlock] at hg⟩
    simp [Builtin.append_, run_underlying (P := Tryz.prog) hu, sizeOf, typeInfo, hi, Builtin.lenOf, Builtin.firstCells]
  · have : cs = [] := by simpa using hl
    subst this
    refine ⟨.slice none 0 0, w, ?_, Row.nil _ _, Keeps.refl _ _, fun g hg => by simp [Value.ownBlock] at hg⟩
    simp [Builtin.append_, run_underlying (P := Tryz.prog) hu, sizeOf, typeInfo, hi, Builtin.lenOf, Builtin.firstCells]
  · have hbb : (0 + m) * bytes ≤ 140737488355328 := by
      have := Nat.mul_le_mul hn hb1
      rw [Nat.zero_add]; omega
    obtain ⟨v', w', hr, h2, h3, _⟩ := run_append_own (P := Tryz.prog) w w.heap.size t ty e i z k bytes hu hi hz hs hby hzs hk (.slice none 0 0) 0 [] (World.ownsRow_nil _ _ _ _) a m cap cs hl hsrc hone (by unfold maxLen; omega) hbb (Nat.le_refl _)
    exact ⟨v', w', hr, by have := Row.of h2; rwa [Nat.zero_add, List.nil_append] at this, Keeps.of_grownBy h3 [] (by simp [Value.ownBlock]), fun g hg => (World.ownsRow.lt h2 g hg).1⟩
structure RV where
  n : Rec
  code : Int
  key : ByteArray
  time : Int
  bA : Option Addr
  bc : Nat
  b : List Wrt
  hd : Int
  cu : Int
  mo : Int
  er : Int
  at_ : Int
  ak : ByteArray
  av : ByteArray
instance : Inhabited RV := ⟨⟨⟨0, 0, 0, 0, 0⟩, 0, ⟨#[]⟩, 0, none, 0, [], 0, 0, 0, 0, 0, ⟨#[]⟩, ⟨#[]⟩⟩⟩
def rC (x : RV) : List Value := [.int .i64 x.n.th, .int .i64 x.n.ix, .int .i64 x.n.inv, .int .i64 x.n.pt, .int .i64 x.n.rs, .int .i64 x.code, .string x.key, .int .u64 x.time, .slice x.bA x.b.length x.bc, .int .i64 x.hd, .int .i64 x.cu, .int .i64 x.mo, .int .i64 x.er, .int .u64 x.at_, .string x.ak, .string x.av]
def rCs (l : List RV) : List Value := l.flatMap rC
theorem rC_len (x : RV) : (rC x).length = 16 := rfl
theorem rCs_append (l m : List RV) : rCs (l ++ m) = rCs l ++ rCs m := by simp [rCs]
theorem rCs_one (e : RV) : rCs [e] = rC e := by simp [rCs]
theorem rCs_cons (e : RV) (l : List RV) : rCs (e :: l) = rC e ++ rCs l := by simp [rCs]
theorem rCs_len (l : List RV) : (rCs l).length = l.length * 16 := by
  induction l with
  | nil => rfl
  | cons e l ih => rw [rCs_cons, List.length_append, ih, List.length_cons, rC_len]; omega
theorem rCs_cells (l : List RV) (r : List Value) (i : Nat) (p : RV) (h : l[i]? = some p) (j : Nat) (hj : j < 16) : (rCs l ++ r)[i * 16 + j]? = (rC p)[j]? := by
  induction l generalizing i with
  | nil => simp at h
  | cons x l ih =>
    cases i with
    | zero =>
      simp at h; subst h
      rw [rCs_cons, Nat.zero_mul, Nat.zero_add, List.append_assoc, List.getElem?_append_left (by rw [rC_len]; omega)]
    | succ i =>
      rw [rCs_cons, List.append_assoc, List.getElem?_append_right (by rw [rC_len]; omega)]
      rw [← ih i (by simpa using h)]
      congr 1
      rw [rC_len]; omega
def OkB (w : World) (x : RV) : Prop := Lst w (.slice x.bA x.b.length x.bc) x.b.length (wCs x.b)
theorem OkB.keeps {w w' : World} {x : RV} (h : OkB w x) (k : Keeps [] w w') : OkB w' x := Lst.keeps h k
theorem rC_one (x : RV) : ∀ u ∈ rC x, u.oneCell' = true := by
  intro u hu
  simp only [rC, List.mem_cons, List.mem_nil_iff, or_false] at hu
  rcases hu with rfl | rfl | rfl | rfl | rfl | rfl | rfl | rfl | rfl | rfl | rfl | rfl | rfl | rfl | rfl | rfl <;> rfl
theorem Lst.rec {w : World} {v : Value} {l : List RV} (h : Lst w v l.length (rCs l)) {i : Nat} {x : RV} (hx : l[i]? = some x) :
    ∃ g o cap, v = .slice (some ⟨g, o, none⟩) l.length cap ∧ (∀ (j : Nat) (u : Value), (rC x)[j]? = some u → w.cell? ⟨g, o + (i * 16 + j), none⟩ = some u) ∧ g < w.heap.size := by
  have hi := (List.getElem?_eq_some_iff.1 hx).1
  obtain ⟨A, cap, b, o, rfl, hA, har⟩ := h
  obtain rfl := hA (by omega)
  refine ⟨b, o, cap, rfl, fun j u hj => ?_, har.lt (by rw [rCs_len]; omega)⟩
  have hj16 : j < 16 := by have := (List.getElem?_eq_some_iff.1 hj).1; rwa [rC_len] at this
  rw [har.cells _ (by rw [rCs_len]; omega)]
  have := rCs_cells l [] i x hx j hj16
  rw [List.append_nil] at this
  rw [this, hj]
def Cel (w : World) (g o : Nat) (x : RV) : Prop := ∀ (j : Nat) (u : Value), (rC x)[j]? = some u → w.cell? ⟨g, o + j, none⟩ = some u
theorem Cel.all {w : World} {g o : Nat} {x : RV} (h : Cel w g o x) : w.cell? ⟨g, o, none⟩ = some (.int .i64 x.n.th) ∧ w.cell? ⟨g, o + 1, none⟩ = some (.int .i64 x.n.ix) ∧ w.cell? ⟨g, o + 2, none⟩ = some (.int .i64 x.n.inv) ∧ w.cell? ⟨g, o + 3, none⟩ = some (.int .i64 x.n.pt) ∧ w.cell? ⟨g, o + 4, none⟩ = some (.int .i64 x.n.rs) ∧ w.cell? ⟨g, o + 5, none⟩ = some (.int .i64 x.code) ∧ w.cell? ⟨g, o + 6, none⟩ = some (.string x.key) ∧ w.cell? ⟨g, o + 7, none⟩ = some (.int .u64 x.time) ∧ w.cell? ⟨g, o + 8, none⟩ = some (.slice x.bA x.b.length x.bc) ∧ w.cell? ⟨g, o + 9, none⟩ = some (.int .i64 x.hd) ∧ w.cell? ⟨g, o + 10, none⟩ = some (.int .i64 x.cu) ∧ w.cell? ⟨g, o + 11, none⟩ = some (.int .i64 x.mo) ∧ w.cell? ⟨g, o + 12, none⟩ = some (.int .i64 x.er) ∧ w.cell? ⟨g, o + 13, none⟩ = some (.int .u64 x.at_) ∧ w.cell? ⟨g, o + 14, none⟩ = some (.string x.ak) ∧ w.cell? ⟨g, o + 15, none⟩ = some (.string x.av) :=
  ⟨h 0 _ rfl, h 1 _ rfl, h 2 _ rfl, h 3 _ rfl, h 4 _ rfl, h 5 _ rfl, h 6 _ rfl, h 7 _ rfl, h 8 _ rfl, h 9 _ rfl, h 10 _ rfl, h 11 _ rfl, h 12 _ rfl, h 13 _ rfl, h 14 _ rfl, h 15 _ rfl⟩
theorem Cel.num {w : World} {g o : Nat} {x : RV} (h : Cel w g o x) : w.cell? ⟨g, o, none⟩ = some (.int .i64 x.n.th) ∧ w.cell? ⟨g, o + 1, none⟩ = some (.int .i64 x.n.ix) ∧ w.cell? ⟨g, o + 2, none⟩ = some (.int .i64 x.n.inv) ∧ w.cell? ⟨g, o + 3, none⟩ = some (.int .i64 x.n.pt) ∧ w.cell? ⟨g, o + 4, none⟩ = some (.int .i64 x.n.rs) :=
  ⟨h 0 _ rfl, h 1 _ rfl, h 2 _ rfl, h 3 _ rfl, h 4 _ rfl⟩
theorem Lst.at {w : World} {v : Value} {l : List RV} (h : Lst w v l.length (rCs l)) {i : Nat} {x : RV} (hx : l[i]? = some x) :
    ∃ g o cap, v = .slice (some ⟨g, o, none⟩) l.length cap ∧ Cel w g (o + i * 16) x ∧ g < w.heap.size := by
  obtain ⟨g, o, cap, h1, h2, h3⟩ := h.rec hx
  exact ⟨g, o, cap, h1, fun j u hj => by rw [Nat.add_assoc]; exact h2 j u hj, h3⟩
theorem Lst.atS {w : World} {A : Option Addr} {n cap : Nat} {l : List RV} (h : Lst w (.slice A n cap) n (rCs l)) (hn : l.length = n) {i : Nat} {x : RV} (hx : l[i]? = some x) :
    ∃ g o, A = some ⟨g, o, none⟩ ∧ Cel w g (o + i * 16) x ∧ g < w.heap.size := by
  subst hn
  obtain ⟨g, o, cap', h1, h2, h3⟩ := h.at hx
  injection h1 with e1 _ _
  exact ⟨g, o, e1, h2, h3⟩
theorem list_load_eq {P : Program} {ops : Array Oper} {rest : List Oper} {o : Oper} {a : Act} {w : World} {Q : Exit → Act → World → Prop} (hgd : o.guard = none) (ty : TypeId) (x : Operand) (ho : o.op = .load ty x)
    (p : Addr) (hx : a.eval x = .pointer (some p)) (v : Value) (hr : (loadVar ty p).run P w = .ok v w) (h : wpList P ops Q rest (a.put o.dst v) w) : wpList P ops Q (o :: rest) a w :=
  wpList_plain hgd fun K hK => by
    unfold Oper.wp execOp
    simp only [ho, hx, Instr.loadAt, Instr.sureAddr, Sem.run_bind, Sem.run_pure, Result.andThen_ok, hr]
    exact hK _ _ h
theorem list_store_eq {P : Program} {ops : Array Oper} {rest : List Oper} {o : Oper} {a : Act} {w : World} {Q : Exit → Act → World → Prop} (hgd : o.guard = none) (ty : TypeId) (x y : Operand) (ho : o.op = .store ty x y)
    (p : Addr) (hx : a.eval x = .pointer (some p)) (v : Value) (hy : a.eval y = v) {w' : World} (hr : (storeVar ty p v).run P w = .ok () w') (h : wpList P ops Q rest (a.put o.dst undef) w') : wpList P ops Q (o :: rest) a w :=
  wpList_plain hgd fun K hK => by
    unfold Oper.wp execOp
    simp only [ho, hx, hy, Instr.storeAt, Instr.sureAddr, Sem.run_bind, Sem.run_pure, Result.andThen_ok, hr]
    exact hK _ _ h
theorem sizR : (Tryz.prog.info? 34).map (·.size) = some 16 := by kernel_rfl
theorem Cel.load {w : World} {g o : Nat} {x : RV} (h : Cel w g o x) : (loadVar 34 ⟨g, o, none⟩).run Tryz.prog w = .ok (.agg #[.int .i64 x.n.th, .int .i64 x.n.ix, .int .i64 x.n.inv, .int .i64 x.n.pt, .int .i64 x.n.rs, .int .i64 x.code, .string x.key, .int .u64 x.time, .slice x.bA x.b.length x.bc, .int .i64 x.hd, .int .i64 x.cu, .int .i64 x.mo, .int .i64 x.er, .int .u64 x.at_, .string x.ak, .string x.av]) w := by
  have hl := run_loadCells_list (P := Tryz.prog) w ⟨g, o, none⟩ (rC x) (fun j u hj => by rw [Addr.add_lit]; exact h j u hj)
  rw [rC_len] at hl
  simp only [loadVar, Sem.run_bind, Tryz.isAgg34, Tryz.sizeOf34, Result.andThen_ok, if_true, hl]
  rfl
theorem Blk.cel {w : World} {b : Nat} {x : RV} (h : Blk w b [.int .i64 x.n.th, .int .i64 x.n.ix, .int .i64 x.n.inv, .int .i64 x.n.pt, .int .i64 x.n.rs, .int .i64 x.code, .string x.key, .int .u64 x.time, .slice x.bA x.b.length x.bc, .int .i64 x.hd, .int .i64 x.cu, .int .i64 x.mo, .int .i64 x.er, .int .u64 x.at_, .string x.ak, .string x.av]) : Cel w b 0 x := fun j u hj => by rw [h.cell, Nat.zero_add]; exact hj
theorem Blk.load {w : World} {b : Nat} {x : RV} (h : Blk w b [.int .i64 x.n.th, .int .i64 x.n.ix, .int .i64 x.n.inv, .int .i64 x.n.pt, .int .i64 x.n.rs, .int .i64 x.code, .string x.key, .int .u64 x.time, .slice x.bA x.b.length x.bc, .int .i64 x.hd, .int .i64 x.cu, .int .i64 x.mo, .int .i64 x.er, .int .u64 x.at_, .string x.ak, .string x.av]) : (loadVar 34 ⟨b, 0, none⟩).run Tryz.prog w = .ok (.agg #[.int .i64 x.n.th, .int .i64 x.n.ix, .int .i64 x.n.inv, .int .i64 x.n.pt, .int .i64 x.n.rs, .int .i64 x.code, .string x.key, .int .u64 x.time, .slice x.bA x.b.length x.bc, .int .i64 x.hd, .int .i64 x.cu, .int .i64 x.mo, .int .i64 x.er, .int .u64 x.at_, .string x.ak, .string x.av]) w := h.cel.load
theorem setRow_new (w : World) (cs ds : Array Value) (t : TypeId) : (w.alloc (.cells cs t)).setRow w.heap.size ds = w.alloc (.cells ds t) := by
  have h1 : ∀ f : Obj → Obj, (w.heap.push (.cells cs t)).modify w.heap.size f = w.heap.push (f (.cells cs t)) := fun f => by
    apply Array.ext
    · simp
    · intro i h1 h2
      rw [Array.getElem_modify, Array.getElem_push, Array.getElem_push]
      by_cases hi : i < w.heap.size
      · rw [dif_pos hi, dif_pos hi, if_neg (by omega)]
      · rw [dif_neg hi, dif_neg hi, if_pos (by simp at h2; omega)]
  unfold World.setRow
  show ({ w with heap := (w.heap.push (.cells cs t)).modify w.heap.size _ } : World) = { w with heap := w.heap.push (.cells ds t) }
  rw [h1]
theorem store_new (w : World) (x : RV) (old : Array Value) (ho : old.size = 16) : (storeVar 34 ⟨w.heap.size, 0, none⟩ (.agg #[.int .i64 x.n.th, .int .i64 x.n.ix, .int .i64 x.n.inv, .int .i64 x.n.pt, .int .i64 x.n.rs, .int .i64 x.code, .string x.key, .int .u64 x.time, .slice x.bA x.b.length x.bc, .int .i64 x.hd, .int .i64 x.cu, .int .i64 x.mo, .int .i64 x.er, .int .u64 x.at_, .string x.ak, .string x.av])).run Tryz.prog (w.alloc (.cells old 34)) = .ok () (w.alloc (.cells #[.int .i64 x.n.th, .int .i64 x.n.ix, .int .i64 x.n.inv, .int .i64 x.n.pt, .int .i64 x.n.rs, .int .i64 x.code, .string x.key, .int .u64 x.time, .slice x.bA x.b.length x.bc, .int .i64 x.hd, .int .i64 x.cu, .int .i64 x.mo, .int .i64 x.er, .int .u64 x.at_, .string x.ak, .string x.av] 34)) := by
  rw [run_storeVar_row (P := Tryz.prog) (w.alloc (.cells old 34)) w.heap.size 34 34 old #[.int .i64 x.n.th, .int .i64 x.n.ix, .int .i64 x.n.inv, .int .i64 x.n.pt, .int .i64 x.n.rs, .int .i64 x.code, .string x.key, .int .u64 x.time, .slice x.bA x.b.length x.bc, .int .i64 x.hd, .int .i64 x.cu, .int .i64 x.mo, .int .i64 x.er, .int .u64 x.at_, .string x.ak, .string x.av] (heap_alloc_new _ _) (by rw [sizR]; rfl) ho (by rw [Array.all_eq_true_iff_forall_mem]; exact fun u hu => rC_one x u (by simpa [rC] using hu)), setRow_new]
theorem new_rec (w : World) (x : RV) : Blk (w.alloc (.cells #[.int .i64 x.n.th, .int .i64 x.n.ix, .int .i64 x.n.inv, .int .i64 x.n.pt, .int .i64 x.n.rs, .int .i64 x.code, .string x.key, .int .u64 x.time, .slice x.bA x.b.length x.bc, .int .i64 x.hd, .int .i64 x.cu, .int .i64 x.mo, .int .i64 x.er, .int .u64 x.at_, .string x.ak, .string x.av] 34)) w.heap.size [.int .i64 x.n.th, .int .i64 x.n.ix, .int .i64 x.n.inv, .int .i64 x.n.pt, .int .i64 x.n.rs, .int .i64 x.code, .string x.key, .int .u64 x.time, .slice x.bA x.b.length x.bc, .int .i64 x.hd, .int .i64 x.cu, .int .i64 x.mo, .int .i64 x.er, .int .u64 x.at_, .string x.ak, .string x.av] := Blk.new w [.int .i64 x.n.th, .int .i64 x.n.ix, .int .i64 x.n.inv, .int .i64 x.n.pt, .int .i64 x.n.rs, .int .i64 x.code, .string x.key, .int .u64 x.time, .slice x.bA x.b.length x.bc, .int .i64 x.hd, .int .i64 x.cu, .int .i64 x.mo, .int .i64 x.er, .int .u64 x.at_, .string x.ak, .string x.av] 34
theorem Cel.keeps {S : List Nat} {w w' : World} {g o : Nat} {x : RV} (h : Cel w g o x) (k : Keeps S w w') (hn : g ∉ S) : Cel w' g o x := fun j u hj => k.cellEq (h j u hj) hn
end Go.Proofs.YtbcgpjfejpcgnaaGreat
end
section
namespace Go.Proofs.YtbcgpjfejpcgnaaGreat
open Go.RowKit
structure SnE where
  t : Nat
  j : Nat
  T : Nat
structure CuE where
  t : Nat
  c : Nat
  j : Nat
  T : Nat
  pl : Nat
  key : Str
structure WS where
  Bs : List (List Wrt)
  F : Nat
  Ss : List SnE
  Cs : List CuE
structure An where
  er : Int
  tm : Nat
  k : Str
  v : Str
structure RX where
  t : Nat
  ix : Int
  inv : Int
  pt : Int
  rs : Int
  code : Nat
  key : Str
  time : Nat
  bA : Option Addr
  bc : Nat
  b : List Wrt
  hd : Nat
  cu : Nat
  mo : Nat
  er : Int
  at_ : Nat
  ak : Str
  av : Str
def rvX (x : RX) : RV := ⟨⟨(x.t : Int), x.ix, x.inv, x.pt, x.rs⟩, (x.code : Int), ⟨x.key.toArray⟩, (x.time : Int), x.bA, x.bc, x.b, (x.hd : Int), (x.cu : Int), (x.mo : Int), x.er, (x.at_ : Int), ⟨x.ak.toArray⟩, ⟨x.av.toArray⟩⟩
def ansX (x : RX) : An := ⟨x.er, x.at_, x.ak, x.av⟩
def errA (e : Int) : An := ⟨e, 0, [], []⟩
def okA (T : Nat) : An := ⟨0, T, [], []⟩
def anB (a b : An) : Bool := decide (a.er = b.er) && decide (a.tm = b.tm) && decide (a.k = b.k) && decide (a.v = b.v)
theorem anB_iff (a b : An) : anB a b = true ↔ a = b := by
  obtain ⟨a1, a2, a3, a4⟩ := a
  obtain ⟨b1, b2, b3, b4⟩ := b
  simp [anB, and_assoc]
def lstAt (Bs : List (List Wrt)) (T : Nat) : List Ent := (Bs.take T).foldl applyR []
theorem lstAt_succ {Bs : List (List Wrt)} {k : Nat} {b : List Wrt} (h : Bs[k]? = some b) : lstAt Bs (k + 1) = applyR (lstAt Bs k) b := by
  unfold lstAt
  rw [List.take_add_one, h, List.foldl_append]
  rfl
theorem lstAt_over {Bs : List (List Wrt)} {T : Nat} (h : Bs.length ≤ T) : lstAt Bs T = lstAt Bs Bs.length := by
  unfold lstAt
  rw [List.take_of_length_le h, List.take_length]
theorem lstAt_snoc {Bs : List (List Wrt)} {b : List Wrt} {T : Nat} (h : T ≤ Bs.length) : lstAt (Bs ++ [b]) T = lstAt Bs T := by
  unfold lstAt
  rw [List.take_append_of_le_length h]
theorem lstAt_asc (Bs : List (List Wrt)) : ∀ T, Asc (lstAt Bs T) := by
  intro T
  induction T with
  | zero => exact List.Pairwise.nil
  | succ T ih =>
    by_cases h : T < Bs.length
    · rw [lstAt_succ (List.getElem?_eq_getElem h)]
      exact asc_applyR _ ih
    · rw [lstAt_over (by omega), ← lstAt_over (T := T) (by omega)]
      exact ih
theorem putR_len (e : Ent) : ∀ l : List Ent, (putR e l).length ≤ l.length + 1
  | [] => by simp [putR]
  | x :: l => by
    rw [putR]
    split
    · have := putR_len e l
      simp only [List.length_cons]; omega
    · simp only [List.length_cons]
      have := List.length_filter_le (fun y => decide (y.k ≠ e.k)) (x :: l)
      simp only [List.length_cons] at this
      first | omega | (have h2 := this; simp at *; omega)
theorem stepR_len (w : Wrt) (l : List Ent) : (stepR l w).length ≤ l.length + 1 := by
  unfold stepR
  split
  · unfold dropR
    exact Nat.le_succ_of_le (List.length_filter_le _ _)
  · exact putR_len _ _
theorem applyR_len (b : List Wrt) : ∀ l : List Ent, (applyR l b).length ≤ l.length + b.length := by
  unfold applyR
  induction b with
  | nil => intro l; simp
  | cons w b ih =>
    intro l
    have h1 := ih (stepR l w)
    have h2 := stepR_len w l
    simp only [List.foldl_cons, List.length_cons]
    omega
theorem lstAt_len {Bs : List (List Wrt)} (h : ∀ b ∈ Bs, b.length ≤ 16) : ∀ T, (lstAt Bs T).length ≤ Bs.length * 16 ∧ (T ≤ Bs.length → (lstAt Bs T).length ≤ T * 16) := by
  intro T
  induction T with
  | zero => simp [lstAt]
  | succ T ih =>
    by_cases hT : T < Bs.length
    · rw [lstAt_succ (List.getElem?_eq_getElem hT)]
      have h1 := applyR_len Bs[T] (lstAt Bs T)
      have h2 := h Bs[T] (List.getElem_mem hT)
      have h3 := ih.2 (by omega)
      refine ⟨?_, fun _ => ?_⟩ <;> omega
    · rw [lstAt_over (by omega), ← lstAt_over (T := T) (by omega)]
      exact ⟨ih.1, fun h => absurd h (by omega)⟩
def entW (Bs : List (List Wrt)) (key : Str) (T : Nat) : An := match lk (lstAt Bs T) key with
  | none => ⟨3, T, key, []⟩
  | some v => ⟨0, T, key, v⟩
def isS (t j : Nat) (p : SnE) : Bool := p.t == t && p.j == j
def isC (t c : Nat) (p : CuE) : Bool := p.t == t && p.c == c
def onS (t j : Nat) (p : CuE) : Bool := p.t == t && p.j == j
def snF (Ss : List SnE) (t j : Nat) : Option SnE := Ss.find? (isS t j)
def cuF (Cs : List CuE) (t c : Nat) : Option CuE := Cs.find? (isC t c)
def minT (Ss : List SnE) (n : Nat) : Nat := Ss.foldl (fun a p => min a p.T) n
theorem minT_snoc (Ss : List SnE) (n k : Nat) (p : SnE) (h : Ss[k]? = some p) : minT (Ss.take (k + 1)) n = min (minT (Ss.take k) n) p.T := by
  unfold minT
  rw [List.take_add_one, h, List.foldl_append]
  rfl
def less (l : List Ent) (k : Str) : Nat := (l.filter (fun e => decide (e.k < k))).length
theorem less_le (l : List Ent) (k : Str) : less l k ≤ l.length := List.length_filter_le _ _
def now (l : List Ent) (pl : Nat) (at_ : Str) : Nat := if pl = 1 then less l at_ + 1 else if pl = 2 then l.length + 1 else 0
def spot (l : List Ent) (pl : Nat) (at_ : Str) (mv : Nat) (k : Str) : Nat :=
  if mv = 0 then less l k + 1 else if mv = 1 then 1 else if mv = 2 then l.length else if mv = 3 then min (now l pl at_ + 1) (l.length + 1) else now l pl at_ - 1
def moved (l : List Ent) (T i : Nat) : An × Nat × Str :=
  if i = 0 then (⟨10, T, [], []⟩, 0, []) else match l[i - 1]? with
    | none => (⟨10, T, [], []⟩, 2, [])
    | some e => (⟨0, T, e.k, e.v⟩, 1, e.k)
def putC (Cs : List CuE) (t c pl : Nat) (key : Str) : List CuE := Cs.map (fun p => if isC t c p then ⟨p.t, p.c, p.j, p.T, pl, key⟩ else p)
abbrev Res := An × Bool × WS
def getW (s : WS) (x : RX) : An := if 32 < x.key.length then errA 8 else if x.code = 1 then entW s.Bs x.key s.Bs.length else if s.Bs.length < x.time then errA 4 else if x.time < s.F then errA 5 else entW s.Bs x.key x.time
def appW (s : WS) (x : RX) : Res :=
  if checkR 8 1 x.b = 0 then
    (if x.er = 2 ∨ x.er = 9 then (ansX x, anB (ansX x) (errA x.er), s) else (okA (s.Bs.length + 1), true, ⟨s.Bs ++ [x.b], s.F, s.Ss, s.Cs⟩))
  else (errA (checkR 8 1 x.b), true, s)
def vacW (s : WS) (x : RX) : Res :=
  if anB (ansX x) (okA x.at_) && decide (x.at_ ≤ minT s.Ss s.Bs.length) then (ansX x, true, ⟨s.Bs, max s.F x.at_, s.Ss, s.Cs⟩) else (ansX x, false, s)
def snpW (s : WS) (x : RX) : Res := match snF s.Ss x.t x.hd with
  | some _ => (errA 7, true, s)
  | none => (okA s.Bs.length, true, ⟨s.Bs, s.F, s.Ss ++ [⟨x.t, x.hd, s.Bs.length⟩], s.Cs⟩)
def relW (s : WS) (x : RX) : Res := match snF s.Ss x.t x.hd with
  | none => (errA 6, true, s)
  | some p => (okA p.T, true, ⟨s.Bs, s.F, s.Ss.filter (fun p => !isS x.t x.hd p), s.Cs.filter (fun p => !onS x.t x.hd p)⟩)
def opnW (s : WS) (x : RX) : Res := match snF s.Ss x.t x.hd with
  | none => (errA 6, true, s)
  | some p => match cuF s.Cs x.t x.cu with
    | some _ => (errA 7, true, s)
    | none => (okA p.T, true, ⟨s.Bs, s.F, s.Ss, s.Cs ++ [⟨x.t, x.cu, x.hd, p.T, 0, []⟩]⟩)
def cloW (s : WS) (x : RX) : Res := match cuF s.Cs x.t x.cu with
  | none => (errA 6, true, s)
  | some k => (okA k.T, true, ⟨s.Bs, s.F, s.Ss, s.Cs.filter (fun p => !isC x.t x.cu p)⟩)
def movW (s : WS) (x : RX) : Res := match cuF s.Cs x.t x.cu with
  | none => (errA 6, true, s)
  | some k => if 32 < x.key.length then (errA 8, true, s) else
      ((moved (lstAt s.Bs k.T) k.T (spot (lstAt s.Bs k.T) k.pl k.key x.mo x.key)).1, true,
        ⟨s.Bs, s.F, s.Ss, putC s.Cs x.t x.cu (moved (lstAt s.Bs k.T) k.T (spot (lstAt s.Bs k.T) k.pl k.key x.mo x.key)).2.1 (moved (lstAt s.Bs k.T) k.T (spot (lstAt s.Bs k.T) k.pl k.key x.mo x.key)).2.2⟩)
def perfW (s : WS) (x : RX) : Res :=
  if x.code = 1 ∨ x.code = 2 then (getW s x, true, s) else if x.code = 3 then appW s x else if x.code = 9 then vacW s x else if x.code = 4 then snpW s x else
  if x.code = 5 then relW s x else if x.code = 6 then opnW s x else if x.code = 8 then cloW s x else movW s x
def fitsW (r : Res) (x : RX) : Bool := r.2.1 && (decide (x.rs = -1) || anB r.1 (ansX x))
def explW : WS → List RX → Bool × WS
  | s, [] => (true, s)
  | s, x :: l => if fitsW (perfW s x) x then explW (perfW s x).2.2 l else (false, (perfW s x).2.2)
structure Inv (n : Nat) (s : WS) : Prop where
  nB : s.Bs.length ≤ n
  b16 : ∀ b ∈ s.Bs, b.length ≤ 16
  nS : s.Ss.length ≤ n
  nC : s.Cs.length ≤ n
  dS : s.Ss.Pairwise (fun p q => ¬ (p.t = q.t ∧ p.j = q.j))
  dC : s.Cs.Pairwise (fun p q => ¬ (p.t = q.t ∧ p.c = q.c))
  bS : ∀ p ∈ s.Ss, p.t < 64 ∧ p.j < 8 ∧ p.T ≤ s.Bs.length
  bC : ∀ p ∈ s.Cs, p.c < 8 ∧ p.T ≤ s.Bs.length ∧ p.pl ≤ 2 ∧ ∃ q ∈ s.Ss, q.t = p.t ∧ q.j = p.j ∧ q.T = p.T
structure OkX (x : RX) : Prop where
  t : x.t < 64
  code : 1 ≤ x.code ∧ x.code ≤ 9
  hd : x.hd < 8
  cu : x.cu < 8
  mo : x.mo ≤ 4
  rs : -1 ≤ x.rs
theorem Inv.mono {n m : Nat} {s : WS} (h : Inv n s) (hm : n ≤ m) : Inv m s := ⟨Nat.le_trans h.nB hm, h.b16, Nat.le_trans h.nS hm, Nat.le_trans h.nC hm, h.dS, h.dC, h.bS, h.bC⟩
theorem Inv.zero : Inv 0 ⟨[], 0, [], []⟩ := ⟨by simp, by simp, by simp, by simp, List.Pairwise.nil, List.Pairwise.nil, by simp, by simp⟩
theorem snF_some {Ss : List SnE} {t j : Nat} {p : SnE} (h : snF Ss t j = some p) : p ∈ Ss ∧ p.t = t ∧ p.j = j := by
  refine ⟨List.mem_of_find?_eq_some h, ?_⟩
  have := List.find?_some h
  simpa [isS] using this
theorem snF_none {Ss : List SnE} {t j : Nat} (h : snF Ss t j = none) : ∀ p ∈ Ss, ¬ (p.t = t ∧ p.j = j) := by
  intro p hp
  have := List.find?_eq_none.1 h p hp
  simpa [isS] using this
theorem cuF_some {Cs : List CuE} {t c : Nat} {p : CuE} (h : cuF Cs t c = some p) : p ∈ Cs ∧ p.t = t ∧ p.c = c := by
  refine ⟨List.mem_of_find?_eq_some h, ?_⟩
  have := List.find?_some h
  simpa [isC] using this
theorem cuF_none {Cs : List CuE} {t c : Nat} (h : cuF Cs t c = none) : ∀ p ∈ Cs, ¬ (p.t = t ∧ p.c = c) := by
  intro p hp
  have := List.find?_eq_none.1 h p hp
  simpa [isC] using this
theorem checkR_len {b : List Wrt} (h : checkR 8 1 b = 0) : b.length ≤ 16 := by
  unfold checkR at h
  split at h
  · exact absurd h (by decide)
  · omega
theorem moved_pl (l : List Ent) (T i : Nat) : (moved l T i).2.1 ≤ 2 := by
  unfold moved
  split
  · simp
  · split <;> simp
theorem pair_snoc {α : Type} {R : α → α → Prop} {l : List α} {x : α} (h : l.Pairwise R) (hx : ∀ y ∈ l, R y x) : (l ++ [x]).Pairwise R :=
  List.pairwise_append.2 ⟨h, List.pairwise_singleton _ _, fun a ha b hb => by simp at hb; subst hb; exact hx a ha⟩
theorem Inv.step {n : Nat} {s : WS} {x : RX} (h : Inv n s) (hx : OkX x) : Inv (n + 1) (perfW s x).2.2 := by
  have h' := h.mono (Nat.le_succ n)
  unfold perfW
  split
  · exact h'
  split
  · unfold appW
    split
    · split
      · exact h'
      · rename_i hc _
        have hl := checkR_len hc
        refine ⟨?_, ?_, h'.nS, h'.nC, h.dS, h.dC, ?_, ?_⟩
        · have := h.nB; simp; omega
        · intro b hb
          rcases List.mem_append.1 hb with hb | hb
          · exact h.b16 b hb
          · simp at hb; subst hb; exact hl
        · intro p hp
          have := h.bS p hp
          refine ⟨this.1, this.2.1, ?_⟩
          simp; omega
        · intro p hp
          obtain ⟨a, b, c, d⟩ := h.bC p hp
          refine ⟨a, ?_, c, d⟩
          simp; omega
    · exact h'
  split
  · unfold vacW
    split
    · exact ⟨h'.nB, h.b16, h'.nS, h'.nC, h.dS, h.dC, h.bS, h.bC⟩
    · exact h'
  split
  · unfold snpW
    split
    · exact h'
    · rename_i hn
      refine ⟨h'.nB, h.b16, ?_, h'.nC, ?_, h.dC, ?_, ?_⟩
      · have := h.nS; simp; omega
      · exact pair_snoc h.dS fun y hy => snF_none hn y hy
      · intro p hp
        rcases List.mem_append.1 hp with hp | hp
        · exact h.bS p hp
        · simp at hp; subst hp; exact ⟨hx.t, hx.hd, Nat.le_refl _⟩
      · intro p hp
        obtain ⟨a, b, c, q, hq, d⟩ := h.bC p hp
        exact ⟨a, b, c, q, List.mem_append_left _ hq, d⟩
  split
  · unfold relW
    split
    · exact h'
    · refine ⟨h'.nB, h.b16, Nat.le_trans (List.length_filter_le _ _) h'.nS, Nat.le_trans (List.length_filter_le _ _) h'.nC, h.dS.filter _, h.dC.filter _, fun p hp => h.bS p (List.mem_filter.1 hp).1, ?_⟩
      intro p hp
      obtain ⟨hp1, hp2⟩ := List.mem_filter.1 hp
      obtain ⟨a, b, c, q, hq, d1, d2, d3⟩ := h.bC p hp1
      refine ⟨a, b, c, q, List.mem_filter.2 ⟨hq, ?_⟩, d1, d2, d3⟩
      simp only [onS, isS, d1, d2] at hp2 ⊢
      exact hp2
  split
  · unfold opnW
    split
    · exact h'
    · rename_i p hp
      split
      · exact h'
      · rename_i hc
        obtain ⟨q1, q2, q3⟩ := snF_some hp
        refine ⟨h'.nB, h.b16, h'.nS, ?_, h.dS, ?_, h.bS, ?_⟩
        · have := h.nC; simp; omega
        · exact pair_snoc h.dC fun y hy => cuF_none hc y hy
        · intro y hy
          rcases List.mem_append.1 hy with hy | hy
          · exact h.bC y hy
          · simp at hy; subst hy
            exact ⟨hx.cu, (h.bS p q1).2.2, by simp, p, q1, q2, q3, rfl⟩
  split
  · unfold cloW
    split
    · exact h'
    · exact ⟨h'.nB, h.b16, h'.nS, Nat.le_trans (List.length_filter_le _ _) h'.nC, h.dS, h.dC.filter _, h.bS, fun p hp => h.bC p (List.mem_filter.1 hp).1⟩
  · unfold movW
    split
    · exact h'
    · split
      · exact h'
      · refine ⟨h'.nB, h.b16, h'.nS, by have := h'.nC; simp only [putC, List.length_map]; exact this, h.dS, ?_, h.bS, ?_⟩
        · unfold putC
          refine List.pairwise_map.2 (h.dC.imp ?_)
          intro a b hab
          split <;> split <;> exact hab
        · intro p hp
          obtain ⟨q, hq, rfl⟩ := List.mem_map.1 hp
          obtain ⟨a, b, c, d⟩ := h.bC q hq
          split
          · exact ⟨a, b, moved_pl _ _ _, d⟩
          · exact ⟨a, b, c, d⟩
end Go.Proofs.YtbcgpjfejpcgnaaGreat
end
