/- Slices of entries and of writes: how a list lies in memory. No program. -/
import Derived.Test.YtjmhnlbkfbieaaaGreatWorld
import Derived.Test.YtjmhnlbkfbieaaaGreatBatP
import Derived.Laws.AppendOwn
import Derived.Laws.CopyRow
import Derived.Lib.AppendZeros
import Derived.Sort.Walk0
namespace Go.Proofs.YtjmhnlbkfbieaaaGreat
open Go.RowKit
def sV (s : Str) : Value := .string ⟨s.toArray⟩
def eC (e : Ent) : List Value := [.string ⟨e.k.toArray⟩, .string ⟨e.v.toArray⟩]
def wC (w : Wrt) : List Value := [.string ⟨w.k.toArray⟩, .string ⟨w.v.toArray⟩, .bool w.d]
def eCs (l : List Ent) : List Value := l.flatMap eC
def wCs (l : List Wrt) : List Value := l.flatMap wC
theorem bytes_lt (a b : Str) : Op.bytesLess (ByteArray.toList ⟨a.toArray⟩) (ByteArray.toList ⟨b.toArray⟩) = decide (a < b) := by rw [ByteArray.toList_mk, ByteArray.toList_mk, bytesLess_eq]
theorem bytes_eq (a b : Str) : (ByteArray.toList ⟨a.toArray⟩ == ByteArray.toList ⟨b.toArray⟩) = decide (a = b) := by
  rw [ByteArray.toList_mk, ByteArray.toList_mk]
  by_cases h : a = b <;> simp [h]
theorem eCs_append (l m : List Ent) : eCs (l ++ m) = eCs l ++ eCs m := by simp [eCs]
theorem eCs_one (e : Ent) : eCs [e] = eC e := by simp [eCs]
theorem eCs_cons (e : Ent) (l : List Ent) : eCs (e :: l) = eC e ++ eCs l := by simp [eCs]
theorem eCs_length (l : List Ent) : (eCs l).length = l.length * 2 := by
  induction l with
  | nil => rfl
  | cons e l ih => rw [eCs_cons, List.length_append, ih, List.length_cons]; simp [eC]; omega
theorem wCs_append (l m : List Wrt) : wCs (l ++ m) = wCs l ++ wCs m := by simp [wCs]
theorem wCs_one (e : Wrt) : wCs [e] = wC e := by simp [wCs]
theorem wCs_cons (e : Wrt) (l : List Wrt) : wCs (e :: l) = wC e ++ wCs l := by simp [wCs]
theorem wCs_length (l : List Wrt) : (wCs l).length = l.length * 3 := by
  induction l with
  | nil => rfl
  | cons e l ih => rw [wCs_cons, List.length_append, ih, List.length_cons]; simp [wC]; omega
theorem eCs_cells (l : List Ent) (i : Nat) (e : Ent) (h : l[i]? = some e) (r : List Value) : (eCs l ++ r)[i * 2]? = some (.string ⟨e.k.toArray⟩) ∧ (eCs l ++ r)[i * 2 + 1]? = some (.string ⟨e.v.toArray⟩) := by
  induction l generalizing i with
  | nil => simp at h
  | cons x l ih =>
    cases i with
    | zero => simp at h; subst h; simp [eCs_cons, eC]
    | succ i =>
      obtain ⟨h1, h2⟩ := ih i (by simpa using h)
      rw [eCs_cons, show (i + 1) * 2 = i * 2 + 2 by omega]
      refine ⟨?_, ?_⟩
      · simpa [eC, List.append_assoc] using h1
      · rw [show i * 2 + 2 + 1 = i * 2 + 1 + 2 by omega]; simpa [eC, List.append_assoc] using h2
theorem wCs_cells (l : List Wrt) (i : Nat) (e : Wrt) (h : l[i]? = some e) (r : List Value) : (wCs l ++ r)[i * 3]? = some (.string ⟨e.k.toArray⟩) ∧ (wCs l ++ r)[i * 3 + 1]? = some (.string ⟨e.v.toArray⟩) ∧ (wCs l ++ r)[i * 3 + 2]? = some (.bool e.d) := by
  induction l generalizing i with
  | nil => simp at h
  | cons x l ih =>
    cases i with
    | zero => simp at h; subst h; simp [wCs_cons, wC]
    | succ i =>
      obtain ⟨h1, h2, h3⟩ := ih i (by simpa using h)
      rw [wCs_cons, show (i + 1) * 3 = i * 3 + 3 by omega]
      refine ⟨?_, ?_, ?_⟩
      · simpa [wC, List.append_assoc] using h1
      · rw [show i * 3 + 3 + 1 = i * 3 + 1 + 3 by omega]; simpa [wC, List.append_assoc] using h2
      · rw [show i * 3 + 3 + 2 = i * 3 + 2 + 3 by omega]; simpa [wC, List.append_assoc] using h3
theorem eCs_take (l : List Ent) (i : Nat) : (eCs l).take (i * 2) = eCs (l.take i) := by
  induction l generalizing i with
  | nil => simp [eCs]
  | cons x l ih =>
    cases i with
    | zero => simp [eCs]
    | succ i => rw [List.take_succ_cons, eCs_cons, eCs_cons, show (i + 1) * 2 = i * 2 + 2 by omega, ← ih]; simp [eC]
theorem eCs_drop (l : List Ent) (i : Nat) : (eCs l).drop (i * 2) = eCs (l.drop i) := by
  induction l generalizing i with
  | nil => simp [eCs]
  | cons x l ih =>
    cases i with
    | zero => simp
    | succ i => rw [List.drop_succ_cons, eCs_cons, show (i + 1) * 2 = i * 2 + 2 by omega, ← ih]; simp [eC]
theorem eCs_one' {l : List Ent} {u : Value} (h : u ∈ eCs l) : u.oneCell' = true := by
  simp only [eCs, List.mem_flatMap] at h
  obtain ⟨e, _, h⟩ := h
  simp only [eC, List.mem_cons, List.mem_nil_iff, or_false] at h
  rcases h with rfl | rfl <;> rfl
theorem wCs_one' {l : List Wrt} {u : Value} (h : u ∈ wCs l) : u.oneCell' = true := by
  simp only [wCs, List.mem_flatMap] at h
  obtain ⟨e, _, h⟩ := h
  simp only [wC, List.mem_cons, List.mem_nil_iff, or_false] at h
  rcases h with rfl | rfl | rfl <;> rfl
/-- The slice v has n elements, whose cells are cs. -/
def Lst (w : World) (v : Value) (n : Nat) (cs : List Value) : Prop := ∃ A cap b o, v = .slice A n cap ∧ (0 < n → A = some ⟨b, o, none⟩) ∧ Arr w b o cs
theorem Lst.keeps {w w' : World} {v : Value} {n : Nat} {cs : List Value} (h : Lst w v n cs) (k : Keeps [] w w') : Lst w' v n cs := by
  obtain ⟨A, cap, b, o, h1, h2, h3⟩ := h
  exact ⟨A, cap, b, o, h1, h2, h3.keeps k (by simp)⟩
theorem Arr.nil (w : World) : Arr w 0 0 [] := ⟨fun i hi => absurd hi (Nat.not_lt_zero i), fun h => absurd h (Nat.lt_irrefl 0)⟩
theorem Lst.nil (w : World) : Lst w (.slice none 0 0) 0 [] := ⟨none, 0, 0, 0, rfl, fun h => absurd h (Nat.lt_irrefl 0), Arr.nil w⟩
theorem Lst.blk {w : World} {g n cap : Nat} {cs rest : List Value} (h : Blk w g (cs ++ rest)) : Lst w (.slice (some ⟨g, 0, none⟩) n cap) n cs :=
  ⟨_, cap, g, 0, rfl, fun _ => rfl, ⟨fun i hi => by rw [h.cell, Nat.zero_add, List.getElem?_append_left hi], fun _ => h.lt⟩⟩
theorem Lst.own {w : World} {base e size n : Nat} {v : Value} {cs : List Value} (h : w.ownsRow base e size v n cs) : Lst w v n cs := by
  obtain ⟨h1, h2⟩ := h
  rcases h2 with ⟨rfl, rfl⟩ | ⟨g, cap, cur, rfl, hg, hh, hnc, hcm, hcs, ht⟩
  · have : cs = [] := List.eq_nil_of_length_eq_zero (by simpa using h1)
    subst this
    exact Lst.nil w
  · have hb : Blk w g (cs ++ cur.toList.drop (n * size)) := ⟨e, by rw [hh, ← ht, List.take_append_drop]⟩
    exact Lst.blk hb
theorem Arr.ent {w : World} {b o : Nat} {l : List Ent} (h : Arr w b o (eCs l)) {i : Nat} {e : Ent} (he : l[i]? = some e) :
    w.cell? ⟨b, o + i * 2, none⟩ = some (.string ⟨e.k.toArray⟩) ∧ w.cell? ⟨b, o + i * 2 + 1, none⟩ = some (.string ⟨e.v.toArray⟩) ∧ b < w.heap.size := by
  have hi := (List.getElem?_eq_some_iff.1 he).1
  obtain ⟨h1, h2⟩ := eCs_cells l i e he []
  rw [List.append_nil] at h1 h2
  refine ⟨?_, ?_, h.lt (by rw [eCs_length]; omega)⟩
  · rw [h.cells _ (by rw [eCs_length]; omega), h1]
  · rw [Nat.add_assoc, h.cells _ (by rw [eCs_length]; omega), h2]
theorem Arr.wrt {w : World} {b o : Nat} {l : List Wrt} (h : Arr w b o (wCs l)) {i : Nat} {e : Wrt} (he : l[i]? = some e) :
    w.cell? ⟨b, o + i * 3, none⟩ = some (.string ⟨e.k.toArray⟩) ∧ w.cell? ⟨b, o + i * 3 + 1, none⟩ = some (.string ⟨e.v.toArray⟩) ∧ w.cell? ⟨b, o + i * 3 + 2, none⟩ = some (.bool e.d) ∧ b < w.heap.size := by
  have hi := (List.getElem?_eq_some_iff.1 he).1
  obtain ⟨h1, h2, h3⟩ := wCs_cells l i e he []
  rw [List.append_nil] at h1 h2 h3
  refine ⟨?_, ?_, ?_, h.lt (by rw [wCs_length]; omega)⟩
  · rw [h.cells _ (by rw [wCs_length]; omega), h1]
  · rw [Nat.add_assoc, h.cells _ (by rw [wCs_length]; omega), h2]
  · rw [Nat.add_assoc, h.cells _ (by rw [wCs_length]; omega), h3]
theorem cells2_new (w : World) (x y : Value) (t : TypeId) : ∀ j u, [x, y][j]? = some u → (w.alloc (.cells #[x, y] t)).cell? ((⟨w.heap.size, 0, none⟩ : Addr).add j) = some u := by
  intro j u hj
  match j, hj with
  | 0, hj => simp at hj; subst hj; simp [Addr.add]
  | 1, hj => simp at hj; subst hj; simp [Addr.add]
theorem cells3_new (w : World) (x y z : Value) (t : TypeId) : ∀ j u, [x, y, z][j]? = some u → (w.alloc (.cells #[x, y, z] t)).cell? ((⟨w.heap.size, 0, none⟩ : Addr).add j) = some u := by
  intro j u hj
  match j, hj with
  | 0, hj => simp at hj; subst hj; simp [Addr.add]
  | 1, hj => simp at hj; subst hj; simp [Addr.add]
  | 2, hj => simp at hj; subst hj; simp [Addr.add]
theorem setRow_blk {w : World} {g : Nat} {cs ds : List Value} (h : Blk w g cs) : Blk (w.setRow g ds.toArray) g ds ∧ Keeps [g] w (w.setRow g ds.toArray) := by
  obtain ⟨T, hh⟩ := h
  refine ⟨⟨T, setRow_heap w g _ _ T _ hh⟩, rfl, rfl, rfl, by simp [World.setRow], fun k _ hn => setRow_other w g k _ (by simpa using hn)⟩
/-- Cells stored into the middle of a block. -/
def spl (cs : List Value) (o : Nat) (news : List Value) : List Value := cs.take o ++ news ++ cs.drop (o + news.length)
theorem run_copyK {P : Program} (w : World) (dT elem : TypeId) (k : Nat) (g o dLen dCap : Nat) (a : Addr) (sLen sCap : Nat) (cs news : List Value)
    (hu : P.underlying dT = some (.slice elem)) (hs : (P.info? elem).map (·.size) = some k)
    (hg : Blk w g cs) (hn : news.length = Nat.min sLen dLen * k)
    (hsrc : ∀ j v, news[j]? = some v → w.cell? (a.add j) = some v) (hfit : o + news.length ≤ cs.length) (h1 : ∀ v ∈ news, v.oneCell' = true) :
    ∃ w', (∀ ty, (Builtin.copy_ #[dT, dT] ty #[.slice (some ⟨g, o, none⟩) dLen dCap, .slice (some a) sLen sCap]).run P w = .ok (goInt (Nat.min sLen dLen)) w') ∧ Blk w' g (spl cs o news) ∧ Keeps [g] w w' := by
  obtain ⟨h2, h3⟩ := setRow_blk (ds := spl cs o news) hg
  refine ⟨_, fun ty => ?_, h2, h3⟩
  obtain ⟨T, hh⟩ := hg
  have hl := run_loadCells_list (P := P) w a news hsrc
  have hst := run_storeCells_at P g o T news 0 cs.toArray w hh (by simpa using hfit) h1
  cases hq : P.info? elem with
  | none => simp [hq] at hs
  | some i =>
    have hi : i.size = k := by simpa [hq] using hs
    rw [hn] at hl
    simp [Builtin.copy_, run_underlying hu, Builtin.lenOf, Builtin.firstCells, sizeOf, typeInfo, hq, hi, hl, hst, spl]
theorem run_appendK {P : Program} (w : World) (t e : TypeId) (k : Nat) (ht : P.underlying t = some (.slice e)) (hs : (P.info? e).map (·.size) = some k)
    (g n cap : Nat) (cs : List Value) (hg : Blk w g cs) (a : Addr) (m c : Nat) (news : List Value) (hl : news.length = m * k) (hnews : ∀ j u, news[j]? = some u → w.cell? (a.add j) = some u) (h1 : ∀ u ∈ news, u.oneCell' = true)
    (hroom : n + m ≤ cap) (hfit : n * k + news.length ≤ cs.length) :
    ∃ w', (∀ ty, (Builtin.append_ #[t, t] ty #[.slice (some ⟨g, 0, none⟩) n cap, .slice (some a) m c]).run P w = .ok (.slice (some ⟨g, 0, none⟩) (n + m) cap) w') ∧ Blk w' g (spl cs (n * k) news) ∧ Keeps [g] w w' := by
  obtain ⟨h2, h3⟩ := setRow_blk (ds := spl cs (n * k) news) hg
  refine ⟨_, fun ty => ?_, h2, h3⟩
  obtain ⟨T, hh⟩ := hg
  cases hq : P.info? e with
  | none => simp [hq] at hs
  | some i =>
    have hi : i.size = k := by simpa [hq] using hs
    subst hi
    have hf := run_firstCells_some (P := P) w i.size m a m c news hl hnews
    have hst := run_storeCells_at P g (n * i.size) T news 0 cs.toArray w hh (by simpa using hfit) h1
    simp only [Nat.add_zero] at hst
    simp [Builtin.append_, run_underlying ht, sizeOf, typeInfo, hq, Builtin.lenOf, hroom, hf, Addr.add_lit, hst, spl]
theorem run_clearK {P : Program} (w : World) (t e : TypeId) (z : Array Value) (zv : Value) (ht : P.underlying t = some (.slice e)) (hv : ∀ w, (zeroValue e).run P w = .ok zv w) (hz : zv.cells = z) (hz1 : ∀ u ∈ z, u.oneCell' = true)
    (g o n c : Nat) (cs : List Value) (hg : Blk w g cs) (hfit : o + n * z.size ≤ cs.length) :
    ∃ w', (∀ ty, (Builtin.clear_ #[t] ty #[.slice (some ⟨g, o, none⟩) n c]).run P w = .ok (.tuple #[]) w') ∧ Blk w' g (spl cs o (Builtin.zeroCells z n).toList) ∧ Keeps [g] w w' := by
  by_cases hn : n = 0
  · subst hn
    refine ⟨w, fun ty => by simp [Builtin.clear_, run_underlying ht], ?_, Keeps.refl _ _⟩
    simpa [spl, Builtin.zeroCells] using hg
  obtain ⟨h2, h3⟩ := setRow_blk (ds := spl cs o (Builtin.zeroCells z n).toList) hg
  refine ⟨_, fun ty => ?_, h2, h3⟩
  obtain ⟨T, hh⟩ := hg
  have hlen : (Builtin.zeroCells z n).toList.length = n * z.size := by rw [Array.length_toList, size_zeroCells]
  have hst := run_storeCells_at P g o T (Builtin.zeroCells z n).toList 0 cs.toArray w hh (by rw [hlen]; simpa using hfit) (fun u hu => by
    simp only [Builtin.zeroCells, Array.mem_toList_iff, Array.mem_map, Array.mem_range] at hu
    obtain ⟨i, hi, rfl⟩ := hu
    have hp : 0 < z.size := by
      rcases Nat.eq_zero_or_pos z.size with h0 | h0
      · rw [h0] at hi; simp at hi
      · exact h0
    have hm : i % z.size < z.size := Nat.mod_lt _ hp
    rw [getElem!_pos z _ hm]
    exact hz1 _ (Array.getElem_mem hm))
  cases n with
  | zero => exact absurd rfl hn
  | succ n => simp [Builtin.clear_, run_underlying ht, hv, hz, hst, spl]
end Go.Proofs.YtjmhnlbkfbieaaaGreat
