/- Lemmas on the way to LinearAcceptsSequential. No condition. -/
import Derived.Test.YtbcgpjfejpcgnaaGreatRAd
import Derived.Test.YtbcgpjfejpcgnaaGreatRAf
import Derived.Test.YtbcgpjfejpcgnaaGreatRAg
set_option linter.unusedSimpArgs false
set_option linter.unusedVariables false
set_option linter.unusedSectionVars false
section
namespace Go.Proofs.YtbcgpjfejpcgnaaGreat
open Go.RowKit
def sC (p : SnE) : List Value := [.int .i64 (p.t : Int), .int .i64 (p.j : Int), .int .u64 (p.T : Int)]
def sCs (l : List SnE) : List Value := l.flatMap sC
def cC (p : CuE) : List Value := [.int .i64 (p.t : Int), .int .i64 (p.c : Int), .int .i64 (p.j : Int), .int .u64 (p.T : Int), .int .i64 (p.pl : Int), .string ⟨p.key.toArray⟩]
def cCs (l : List CuE) : List Value := l.flatMap cC
theorem flatK_len {α : Type} {f : α → List Value} {k : Nat} (hf : ∀ x, (f x).length = k) : ∀ l : List α, (l.flatMap f).length = l.length * k
  | [] => by simp
  | x :: l => by rw [List.flatMap_cons, List.length_append, flatK_len hf l, hf, List.length_cons, Nat.add_mul]; omega
theorem flatK_cells {α : Type} {f : α → List Value} {k : Nat} (hf : ∀ x, (f x).length = k) (r : List Value) : ∀ (l : List α) (i : Nat) (p : α), l[i]? = some p → ∀ j, j < k → (l.flatMap f ++ r)[i * k + j]? = (f p)[j]?
  | [], i, p, h, _, _ => by simp at h
  | x :: l, i, p, h, j, hj => by
    cases i with
    | zero =>
      simp at h; subst h
      rw [List.flatMap_cons, Nat.zero_mul, Nat.zero_add, List.append_assoc, List.getElem?_append_left (by rw [hf]; exact hj)]
    | succ i =>
      rw [List.flatMap_cons, List.append_assoc, List.getElem?_append_right (by rw [hf, Nat.add_mul]; omega), ← flatK_cells hf r l i p (by simpa using h) j hj]
      congr 1
      rw [hf, Nat.add_mul]; omega
theorem sC_len (p : SnE) : (sC p).length = 3 := rfl
theorem cC_len (p : CuE) : (cC p).length = 6 := rfl
theorem sCs_len (l : List SnE) : (sCs l).length = l.length * 3 := flatK_len sC_len l
theorem cCs_len (l : List CuE) : (cCs l).length = l.length * 6 := flatK_len cC_len l
theorem sCs_append (a b : List SnE) : sCs (a ++ b) = sCs a ++ sCs b := by simp [sCs]
theorem cCs_append (a b : List CuE) : cCs (a ++ b) = cCs a ++ cCs b := by simp [cCs]
theorem sCs_one (p : SnE) : sCs [p] = sC p := by simp [sCs]
theorem cCs_one (p : CuE) : cCs [p] = cC p := by simp [cCs]
theorem sCs_one' {l : List SnE} {u : Value} (h : u ∈ sCs l) : u.oneCell' = true := by
  unfold sCs at h
  obtain ⟨p, _, h⟩ := List.mem_flatMap.1 h
  simp only [sC, List.mem_cons, List.mem_nil_iff, or_false] at h
  rcases h with rfl | rfl | rfl <;> rfl
theorem cCs_one' {l : List CuE} {u : Value} (h : u ∈ cCs l) : u.oneCell' = true := by
  unfold cCs at h
  obtain ⟨p, _, h⟩ := List.mem_flatMap.1 h
  simp only [cC, List.mem_cons, List.mem_nil_iff, or_false] at h
  rcases h with rfl | rfl | rfl | rfl | rfl | rfl <;> rfl
structure WX (w : World) (base ww : Nat) (bv sv cv : Value) (vs : List Value) (s : WS) : Prop where
  hw : Blk w ww [bv, .int .u64 (s.F : Int), sv, cv]
  hb : Row w bv s.Bs.length 1 vs
  he : ∀ (i : Nat) (v : Value) (b : List Wrt), vs[i]? = some v → s.Bs[i]? = some b → Row w v b.length 3 (wCs b) ∧ ∀ g, v.ownBlock = some g → base ≤ g ∧ g ≠ ww ∧ bv.ownBlock ≠ some g ∧ sv.ownBlock ≠ some g ∧ cv.ownBlock ≠ some g
  hs : Row w sv s.Ss.length 3 (sCs s.Ss)
  hc : Row w cv s.Cs.length 6 (cCs s.Cs)
  hq : base ≤ ww ∧ ∀ g, (bv.ownBlock = some g ∨ sv.ownBlock = some g ∨ cv.ownBlock = some g) → base ≤ g ∧ g ≠ ww
  hd : ∀ g, bv.ownBlock = some g → sv.ownBlock ≠ some g ∧ cv.ownBlock ≠ some g
  hd2 : ∀ g, sv.ownBlock = some g → cv.ownBlock ≠ some g
def WXx (w : World) (base ww : Nat) (s : WS) : Prop := ∃ bv sv cv vs, WX w base ww bv sv cv vs s
def OwnW (ww : Nat) (bv sv cv : Value) (vs : List Value) (i : Nat) : Prop := i = ww ∨ bv.ownBlock = some i ∨ sv.ownBlock = some i ∨ cv.ownBlock = some i ∨ ∃ v ∈ vs, v.ownBlock = some i
def Ef (O : Nat → Prop) (w w' : World) (O' : Nat → Prop) : Prop := (∃ S, (∀ i ∈ S, O i) ∧ Keeps S w w') ∧ ∀ i, O' i → O i ∨ w.heap.size ≤ i
theorem Ef.refl {O : Nat → Prop} {w w' : World} (h : Keeps [] w w') : Ef O w w' O := ⟨⟨[], by simp, h⟩, fun _ h => .inl h⟩
theorem Ef.trans {O O' O'' : Nat → Prop} {a b c : World} (h : Ef O a b O') (k : Ef O' b c O'') : Ef O a c O'' := by
  classical
  obtain ⟨⟨S, s1, s2⟩, h3⟩ := h
  obtain ⟨⟨S', s3, s4⟩, h6⟩ := k
  have z1 := s2.size
  refine ⟨⟨S ++ S'.filter (fun x => decide (O x)), ?_, (s2.mono (fun i hi => .inl (List.mem_append_left _ hi))).trans s4 ?_⟩, fun q hq => ?_⟩
  · intro s hs
    rcases List.mem_append.1 hs with hs | hs
    · exact s1 s hs
    · simpa using (List.mem_filter.1 hs).2
  · intro i hi
    rcases h3 i (s3 i hi) with hq | hq
    · exact .inl (List.mem_append_right _ (List.mem_filter.2 ⟨hi, by simpa using hq⟩))
    · exact .inr hq
  · rcases h6 q hq with hq | hq
    · exact h3 q hq
    · exact .inr (by omega)
theorem Ef.before {O O' : Nat → Prop} {a b c : World} (k : Keeps [] a b) (h : Ef O b c O') : Ef O a c O' := (Ef.refl k).trans h
theorem Ef.after {O O' : Nat → Prop} {a b c : World} (h : Ef O a b O') (k : Keeps [] b c) : Ef O a c O' := h.trans (Ef.refl k)
theorem Ef.size {O O' : Nat → Prop} {a b : World} (h : Ef O a b O') : a.heap.size ≤ b.heap.size := by
  obtain ⟨⟨S, _, k⟩, _⟩ := h
  exact k.size
theorem Ef.blk {O O' : Nat → Prop} {a b : World} (h : Ef O a b O') {g : Nat} {cs : List Value} (hb : Blk a g cs) (hg : ¬ O g) : Blk b g cs ∧ ¬ O' g := by
  obtain ⟨⟨S, s1, k⟩, h3⟩ := h
  have hl := hb.lt
  exact ⟨k.blk hb (fun hS => hg (s1 g hS)), fun h' => (h3 g h').elim hg (by omega)⟩
theorem Ef.fresh {O O' : Nat → Prop} {a b c : World} {g : Nat} (h : Ef O a b O') (k : Keeps [g] b c) (hg : a.heap.size ≤ g) : Ef O a c O' := by
  obtain ⟨⟨S, s1, s2⟩, h3⟩ := h
  exact ⟨⟨S, s1, s2.trans k (fun i hi => .inr (by simp at hi; subst hi; exact hg))⟩, h3⟩
theorem Ef.gr {O O' : Nat → Prop} {a b W : World} (h : Ef O a b O') (hk : Keeps [] W a) (hO : ∀ i, O i → W.heap.size ≤ i) : Keeps [] W b := by
  obtain ⟨⟨S, s1, s2⟩, h3⟩ := h
  exact hk.trans s2 (fun i hi => .inr (hO i (s1 i hi)))
variable {w w' : World} {base ww : Nat} {bv sv cv : Value} {vs : List Value} {s : WS}
theorem WX.keeps (h : WX w base ww bv sv cv vs s) (kk : Keeps [] w w') : WX w' base ww bv sv cv vs s :=
  ⟨kk.blk h.hw (by simp), h.hb.keeps kk (by simp), fun i v b h1 h2 => ⟨(h.he i v b h1 h2).1.keeps kk (by simp), (h.he i v b h1 h2).2⟩, h.hs.keeps kk (by simp), h.hc.keeps kk (by simp), h.hq, h.hd, h.hd2⟩
theorem WXx.keeps (h : WXx w base ww s) (kk : Keeps [] w w') : WXx w' base ww s := by
  obtain ⟨a, b, c, d, h⟩ := h
  exact ⟨a, b, c, d, h.keeps kk⟩
theorem WX.base_le (h : WX w base ww bv sv cv vs s) : base ≤ w.heap.size := by have := h.hq.1; have := h.hw.lt; omega
theorem WX.own (_h : WX w base ww bv sv cv vs s) (i : Nat) (v : Value) : Keeps [ww] w (w.setCell ⟨ww, i, none⟩ v) ∧ Ef (OwnW ww bv sv cv vs) w (w.setCell ⟨ww, i, none⟩ v) (OwnW ww bv sv cv vs) := by
  have k : Keeps [ww] w (w.setCell ⟨ww, i, none⟩ v) := (Keeps.refl [ww] w).setCell _ _ (.inl (by simp))
  exact ⟨k, ⟨[ww], fun j hj => .inl (by simpa using hj), k⟩, fun _ h => .inl h⟩
theorem WX.batch (h : WX w base ww bv sv cv vs s) {v : Value} {g : Nat} (hv : v ∈ vs) (hg : v.ownBlock = some g) : (base ≤ g ∧ g < w.heap.size) ∧ g ≠ ww ∧ bv.ownBlock ≠ some g ∧ sv.ownBlock ≠ some g ∧ cv.ownBlock ≠ some g := by
  obtain ⟨i, hi⟩ := List.mem_iff_getElem?.1 hv
  have hl := (List.getElem?_eq_some_iff.1 hi).1
  have hvl := h.hb.1
  obtain ⟨b, hb⟩ : ∃ b, s.Bs[i]? = some b := ⟨_, List.getElem?_eq_getElem (by omega)⟩
  obtain ⟨q1, q2⟩ := h.he i v b hi hb
  exact ⟨⟨(q2 g hg).1, q1.blk g hg⟩, (q2 g hg).2⟩
theorem WX.oge (h : WX w base ww bv sv cv vs s) {i : Nat} (hi : OwnW ww bv sv cv vs i) : base ≤ i ∧ i < w.heap.size := by
  rcases hi with rfl | hi | hi | hi | ⟨v, hv, hi⟩
  · exact ⟨h.hq.1, h.hw.lt⟩
  · exact ⟨(h.hq.2 i (.inl hi)).1, h.hb.blk i hi⟩
  · exact ⟨(h.hq.2 i (.inr (.inl hi))).1, h.hs.blk i hi⟩
  · exact ⟨(h.hq.2 i (.inr (.inr hi))).1, h.hc.blk i hi⟩
  · exact (h.batch hv hi).1
theorem WX.beside (h : WX w base ww bv sv cv vs s) {w2 : World} {g : Nat} (k : Keeps [g] w w2) (hg : ¬ OwnW ww bv sv cv vs g) : WX w2 base ww bv sv cv vs s :=
  ⟨k.blk h.hw (by simpa using fun e : ww = g => hg (.inl e.symm)), h.hb.keeps k (fun g' hg' => by simp; rintro rfl; exact hg (.inr (.inl hg'))), fun i v b hv hb => ⟨(h.he i v b hv hb).1.keeps k (fun g' hg' => by simp; rintro rfl; exact hg (.inr (.inr (.inr (.inr ⟨v, List.mem_of_getElem? hv, hg'⟩))))), (h.he i v b hv hb).2⟩, h.hs.keeps k (fun g' hg' => by simp; rintro rfl; exact hg (.inr (.inr (.inl hg')))), h.hc.keeps k (fun g' hg' => by simp; rintro rfl; exact hg (.inr (.inr (.inr (.inl hg'))))), h.hq, h.hd, h.hd2⟩
theorem WX.past (h : WX w base ww bv sv cv vs s) {w1 w2 : World} {g : Nat} (k : Keeps [] w w1) (k2 : Keeps [g] w1 w2) (hg : w.heap.size ≤ g) : WX w2 base ww bv sv cv vs s := (h.keeps k).beside k2 (fun e => by have := (h.oge e).2; omega)
def PX (w : World) (base ww : Nat) (bv sv cv : Value) (vs : List Value) (s : WS) (w' : World) : Prop := ∃ bv' sv' cv' vs', WX w' base ww bv' sv' cv' vs' s ∧ Ef (OwnW ww bv sv cv vs) w w' (OwnW ww bv' sv' cv' vs')
theorem WX.setF (h : WX w base ww bv sv cv vs s) (F' : Nat) : WX (w.setCell ⟨ww, 1, none⟩ (.int .u64 (F' : Int))) base ww bv sv cv vs ⟨s.Bs, F', s.Ss, s.Cs⟩ := by
  have kk := (h.own 1 (.int .u64 (F' : Int))).1
  exact ⟨h.hw.set 1 _, h.hb.keeps kk (fun g hg => by simpa using (h.hq.2 g (.inl hg)).2), fun i v b h1 h2 => ⟨(h.he i v b h1 h2).1.keeps kk (fun g hg => by simpa using ((h.he i v b h1 h2).2 g hg).2.1), (h.he i v b h1 h2).2⟩,
    h.hs.keeps kk (fun g hg => by simpa using (h.hq.2 g (.inr (.inl hg))).2), h.hc.keeps kk (fun g hg => by simpa using (h.hq.2 g (.inr (.inr hg))).2), h.hq, h.hd, h.hd2⟩
theorem WX.setS (h : WX w base ww bv sv cv vs s) {w2 : World} {v2 : Value} {Ss' : List SnE} (k2 : Keeps sv.ownBlock.toList w w2) (r2 : Row w2 v2 Ss'.length 3 (sCs Ss')) (f2 : ∀ g, v2.ownBlock = some g → sv.ownBlock = some g ∨ w.heap.size ≤ g) :
    WX (w2.setCell ⟨ww, 2, none⟩ v2) base ww bv v2 cv vs ⟨s.Bs, s.F, Ss', s.Cs⟩ ∧ Ef (OwnW ww bv sv cv vs) w (w2.setCell ⟨ww, 2, none⟩ v2) (OwnW ww bv v2 cv vs) := by
  have k3 : Keeps [ww] w2 (w2.setCell ⟨ww, 2, none⟩ v2) := (Keeps.refl [ww] w2).setCell _ _ (.inl (by simp))
  have nb : ∀ g, sv.ownBlock = some g → g ≠ ww := fun g hg => (h.hq.2 g (.inr (.inl hg))).2
  have hwl := h.hw.lt
  have hbl := h.base_le
  have n2 : ∀ g, v2.ownBlock = some g → base ≤ g ∧ g ≠ ww := fun g hg => by
    rcases f2 g hg with h1 | h1
    · exact h.hq.2 g (.inr (.inl h1))
    · omega
  refine ⟨⟨?_, ?_, ?_, ?_, ?_, ?_, ?_, ?_⟩, ⟨⟨ww :: sv.ownBlock.toList, ?_, ?_⟩, ?_⟩⟩
  · exact (k2.blk h.hw (fun hm => nb ww (by simpa using hm) rfl)).set 2 v2
  · exact (h.hb.keeps k2 (fun g hg hm => (h.hd g hg).1 (by simpa using hm))).keeps k3 (fun g hg => by simpa using (h.hq.2 g (.inl hg)).2)
  · intro i v c hv hc
    obtain ⟨g1, g2⟩ := h.he i v c hv hc
    refine ⟨(g1.keeps k2 (fun g hg hm => (g2 g hg).2.2.2.1 (by simpa using hm))).keeps k3 (fun g hg => by simpa using (g2 g hg).2.1), fun g hg => ⟨(g2 g hg).1, (g2 g hg).2.1, (g2 g hg).2.2.1, ?_, (g2 g hg).2.2.2.2⟩⟩
    intro e
    rcases f2 g e with h1 | h1
    · exact (g2 g hg).2.2.2.1 h1
    · have := g1.blk g hg; omega
  · exact r2.keeps k3 (fun g hg => by simpa using (n2 g hg).2)
  · exact (h.hc.keeps k2 (fun g hg hm => h.hd2 g (by simpa using hm) hg)).keeps k3 (fun g hg => by simpa using (h.hq.2 g (.inr (.inr hg))).2)
  · refine ⟨h.hq.1, fun g hg => ?_⟩
    rcases hg with hg | hg | hg
    · exact h.hq.2 g (.inl hg)
    · exact n2 g hg
    · exact h.hq.2 g (.inr (.inr hg))
  · intro g hg
    refine ⟨fun e => ?_, (h.hd g hg).2⟩
    rcases f2 g e with h1 | h1
    · exact (h.hd g hg).1 h1
    · have := h.hb.blk g hg; omega
  · intro g hg e
    rcases f2 g hg with h1 | h1
    · exact h.hd2 g h1 e
    · have := h.hc.blk g e; omega
  · intro j hj
    rcases List.mem_cons.1 hj with rfl | hj
    · exact .inl rfl
    · exact .inr (.inr (.inl (by simpa using hj)))
  · exact (k2.mono (fun i hi => .inl (List.mem_cons_of_mem _ hi))).setCell _ _ (.inl (by simp))
  · intro i hi
    rcases hi with hi | hi | hi | hi | hi
    · exact .inl (.inl hi)
    · exact .inl (.inr (.inl hi))
    · exact (f2 i hi).imp (fun h => .inr (.inr (.inl h))) id
    · exact .inl (.inr (.inr (.inr (.inl hi))))
    · exact .inl (.inr (.inr (.inr (.inr hi))))
theorem WX.setC (h : WX w base ww bv sv cv vs s) {w2 : World} {v2 : Value} {Cs' : List CuE} (k2 : Keeps cv.ownBlock.toList w w2) (r2 : Row w2 v2 Cs'.length 6 (cCs Cs')) (f2 : ∀ g, v2.ownBlock = some g → cv.ownBlock = some g ∨ w.heap.size ≤ g) :
    WX (w2.setCell ⟨ww, 3, none⟩ v2) base ww bv sv v2 vs ⟨s.Bs, s.F, s.Ss, Cs'⟩ ∧ Ef (OwnW ww bv sv cv vs) w (w2.setCell ⟨ww, 3, none⟩ v2) (OwnW ww bv sv v2 vs) := by
  have k3 : Keeps [ww] w2 (w2.setCell ⟨ww, 3, none⟩ v2) := (Keeps.refl [ww] w2).setCell _ _ (.inl (by simp))
  have nb : ∀ g, cv.ownBlock = some g → g ≠ ww := fun g hg => (h.hq.2 g (.inr (.inr hg))).2
  have hwl := h.hw.lt
  have hbl := h.base_le
  have n2 : ∀ g, v2.ownBlock = some g → base ≤ g ∧ g ≠ ww := fun g hg => by
    rcases f2 g hg with h1 | h1
    · exact h.hq.2 g (.inr (.inr h1))
    · omega
  refine ⟨⟨?_, ?_, ?_, ?_, ?_, ?_, ?_, ?_⟩, ⟨⟨ww :: cv.ownBlock.toList, ?_, ?_⟩, ?_⟩⟩
  · exact (k2.blk h.hw (fun hm => nb ww (by simpa using hm) rfl)).set 3 v2
  · exact (h.hb.keeps k2 (fun g hg hm => (h.hd g hg).2 (by simpa using hm))).keeps k3 (fun g hg => by simpa using (h.hq.2 g (.inl hg)).2)
  · intro i v c hv hc
    obtain ⟨g1, g2⟩ := h.he i v c hv hc
    refine ⟨(g1.keeps k2 (fun g hg hm => (g2 g hg).2.2.2.2 (by simpa using hm))).keeps k3 (fun g hg => by simpa using (g2 g hg).2.1), fun g hg => ⟨(g2 g hg).1, (g2 g hg).2.1, (g2 g hg).2.2.1, (g2 g hg).2.2.2.1, ?_⟩⟩
    intro e
    rcases f2 g e with h1 | h1
    · exact (g2 g hg).2.2.2.2 h1
    · have := g1.blk g hg; omega
  · exact (h.hs.keeps k2 (fun g hg hm => h.hd2 g hg (by simpa using hm))).keeps k3 (fun g hg => by simpa using (h.hq.2 g (.inr (.inl hg))).2)
  · exact r2.keeps k3 (fun g hg => by simpa using (n2 g hg).2)
  · refine ⟨h.hq.1, fun g hg => ?_⟩
    rcases hg with hg | hg | hg
    · exact h.hq.2 g (.inl hg)
    · exact h.hq.2 g (.inr (.inl hg))
    · exact n2 g hg
  · intro g hg
    refine ⟨(h.hd g hg).1, fun e => ?_⟩
    rcases f2 g e with h1 | h1
    · exact (h.hd g hg).2 h1
    · have := h.hb.blk g hg; omega
  · intro g hg e
    rcases f2 g e with h1 | h1
    · exact h.hd2 g hg h1
    · have := h.hs.blk g hg; omega
  · intro j hj
    rcases List.mem_cons.1 hj with rfl | hj
    · exact .inl rfl
    · exact .inr (.inr (.inr (.inl (by simpa using hj))))
  · exact (k2.mono (fun i hi => .inl (List.mem_cons_of_mem _ hi))).setCell _ _ (.inl (by simp))
  · intro i hi
    rcases hi with hi | hi | hi | hi | hi
    · exact .inl (.inl hi)
    · exact .inl (.inr (.inl hi))
    · exact .inl (.inr (.inr (.inl hi)))
    · exact (f2 i hi).imp (fun h => .inr (.inr (.inr (.inl h)))) id
    · exact .inl (.inr (.inr (.inr (.inr hi))))
theorem WX.add (h : WX w base ww bv sv cv vs s) {w1 w2 : World} {v1 v2 : Value} {b : List Wrt} (k1 : Keeps [] w w1) (r1 : Row w1 v1 b.length 3 (wCs b)) (f1 : ∀ g, v1.ownBlock = some g → w.heap.size ≤ g)
    (k2 : Keeps bv.ownBlock.toList w1 w2) (r2 : Row w2 v2 (s.Bs.length + 1) 1 (vs ++ [v1])) (f2 : ∀ g, v2.ownBlock = some g → bv.ownBlock = some g ∨ w1.heap.size ≤ g) :
    WX (w2.setCell ⟨ww, 0, none⟩ v2) base ww v2 sv cv (vs ++ [v1]) ⟨s.Bs ++ [b], s.F, s.Ss, s.Cs⟩ ∧ Ef (OwnW ww bv sv cv vs) w (w2.setCell ⟨ww, 0, none⟩ v2) (OwnW ww v2 sv cv (vs ++ [v1])) := by
  have hk1 := k1.size
  have hwl := h.hw.lt
  have hbl := h.base_le
  have s2 := h.hb.blk
  have s3 := h.hs.blk
  have s4 := h.hc.blk
  have k3 : Keeps [ww] w2 (w2.setCell ⟨ww, 0, none⟩ v2) := (Keeps.refl [ww] w2).setCell _ _ (.inl (by simp))
  have nb : ∀ g, bv.ownBlock = some g → g ≠ ww := fun g hg => (h.hq.2 g (.inl hg)).2
  have n2 : ∀ g, v2.ownBlock = some g → base ≤ g ∧ g ≠ ww := fun g hg => by
    rcases f2 g hg with h1 | h1
    · exact h.hq.2 g (.inl h1)
    · omega
  refine ⟨⟨?_, ?_, ?_, ?_, ?_, ?_, ?_, h.hd2⟩, ⟨⟨ww :: bv.ownBlock.toList, ?_, ?_⟩, ?_⟩⟩
  · exact (k2.blk (k1.blk h.hw (by simp)) (fun hm => nb ww (by simpa using hm) rfl)).set 0 v2
  · have := r2.keeps k3 (fun g hg => by simpa using (n2 g hg).2)
    rw [List.length_append]; exact this
  · intro i v c hv hc
    by_cases hi : i < s.Bs.length
    · have hi' : i < vs.length := by have := h.hb.1; omega
      rw [List.getElem?_append_left hi'] at hv
      rw [List.getElem?_append_left hi] at hc
      obtain ⟨g1, g2⟩ := h.he i v c hv hc
      refine ⟨((g1.keeps k1 (by simp)).keeps k2 (fun g hg hm => (g2 g hg).2.2.1 (by simpa using hm))).keeps k3 (fun g hg => by simpa using (g2 g hg).2.1), fun g hg => ⟨(g2 g hg).1, (g2 g hg).2.1, ?_, (g2 g hg).2.2.2.1, (g2 g hg).2.2.2.2⟩⟩
      intro e
      rcases f2 g e with h1 | h1
      · exact (g2 g hg).2.2.1 h1
      · have := g1.blk g hg; omega
    · have hlen := h.hb.1
      rw [List.getElem?_append_right (by omega)] at hv hc
      have hi0 : i - s.Bs.length = 0 := by
        have := (List.getElem?_eq_some_iff.1 hc).1
        simp at this; omega
      rw [hi0] at hc
      rw [show i - vs.length = 0 by omega] at hv
      simp at hv hc
      subst hv; subst hc
      have r1lt := r1.blk
      refine ⟨(r1.keeps k2 (fun g hg hm => ?_)).keeps k3 (fun g hg => by have := f1 g hg; simp; omega), fun g hg => ⟨by have := f1 g hg; omega, by have := f1 g hg; omega, ?_, ?_, ?_⟩⟩
      · have := f1 g hg
        have := s2 g (by simpa using hm)
        omega
      · intro e
        have q1 := f1 g hg
        have q2 := r1lt g hg
        rcases f2 g e with h1 | h1
        · have := s2 g h1; omega
        · omega
      · intro e
        have q1 := f1 g hg
        have := s3 g e
        omega
      · intro e
        have q1 := f1 g hg
        have := s4 g e
        omega
  · exact ((h.hs.keeps k1 (by simp)).keeps k2 (fun g hg hm => (h.hd g (by simpa using hm)).1 hg)).keeps k3 (fun g hg => by simpa using (h.hq.2 g (.inr (.inl hg))).2)
  · exact ((h.hc.keeps k1 (by simp)).keeps k2 (fun g hg hm => (h.hd g (by simpa using hm)).2 hg)).keeps k3 (fun g hg => by simpa using (h.hq.2 g (.inr (.inr hg))).2)
  · refine ⟨h.hq.1, fun g hg => ?_⟩
    rcases hg with hg | hg
    · exact n2 g hg
    · exact h.hq.2 g (.inr hg)
  · intro g hg
    rcases f2 g hg with h1 | h1
    · exact h.hd g h1
    · exact ⟨fun e => by have := s3 g e; omega, fun e => by have := s4 g e; omega⟩
  · intro j hj
    rcases List.mem_cons.1 hj with rfl | hj
    · exact .inl rfl
    · exact .inr (.inl (by simpa using hj))
  · exact ((k1.mono (by simp)).trans k2 (fun i hi => .inl (List.mem_cons_of_mem _ hi))).setCell _ _ (.inl (by simp))
  · intro i hi
    rcases hi with hi | hi | hi | hi | ⟨v, hv, hi⟩
    · exact .inl (.inl hi)
    · exact (f2 i hi).imp (fun h => .inr (.inl h)) (fun h => by omega)
    · exact .inl (.inr (.inr (.inl hi)))
    · exact .inl (.inr (.inr (.inr (.inl hi))))
    · rcases List.mem_append.1 hv with hv | hv
      · exact .inl (.inr (.inr (.inr (.inr ⟨v, hv, hi⟩))))
      · simp only [List.mem_cons, List.mem_nil_iff, or_false] at hv
        subst hv
        exact .inr (f1 i hi)
theorem Row.atK {w : World} {v : Value} {α : Type} {f : α → List Value} {k : Nat} (hf : ∀ x, (f x).length = k) {l : List α} (h : Row w v l.length k (l.flatMap f)) {i : Nat} {p : α} (hp : l[i]? = some p) :
    ∃ g cap, v = .slice (some ⟨g, 0, none⟩) l.length cap ∧ (∀ j u, (f p)[j]? = some u → w.cell? ⟨g, i * k + j, none⟩ = some u) ∧ g < w.heap.size := by
  have hi := (List.getElem?_eq_some_iff.1 hp).1
  obtain ⟨h1, ⟨rfl, h0⟩ | ⟨g, cap, rest, rfl, hb, h2, h3, h4⟩⟩ := h
  · omega
  · refine ⟨g, cap, rfl, fun j u hu => ?_, hb.lt⟩
    have hj : j < k := by have := (List.getElem?_eq_some_iff.1 hu).1; rwa [hf] at this
    rw [hb.cell, flatK_cells hf rest l i p hp j hj, hu]
theorem Row.at3 {w : World} {v : Value} {l : List SnE} (h : Row w v l.length 3 (sCs l)) {i : Nat} {p : SnE} (hp : l[i]? = some p) :
    ∃ g cap, v = .slice (some ⟨g, 0, none⟩) l.length cap ∧ w.cell? ⟨g, i * 3, none⟩ = some (.int .i64 (p.t : Int)) ∧ w.cell? ⟨g, i * 3 + 1, none⟩ = some (.int .i64 (p.j : Int)) ∧ w.cell? ⟨g, i * 3 + 2, none⟩ = some (.int .u64 (p.T : Int)) ∧ g < w.heap.size := by
  obtain ⟨g, cap, h1, h2, h3⟩ := Row.atK sC_len h hp
  exact ⟨g, cap, h1, h2 0 _ rfl, h2 1 _ rfl, h2 2 _ rfl, h3⟩
theorem Row.at6 {w : World} {v : Value} {l : List CuE} (h : Row w v l.length 6 (cCs l)) {i : Nat} {p : CuE} (hp : l[i]? = some p) :
    ∃ g cap, v = .slice (some ⟨g, 0, none⟩) l.length cap ∧ w.cell? ⟨g, i * 6, none⟩ = some (.int .i64 (p.t : Int)) ∧ w.cell? ⟨g, i * 6 + 1, none⟩ = some (.int .i64 (p.c : Int)) ∧ w.cell? ⟨g, i * 6 + 2, none⟩ = some (.int .i64 (p.j : Int)) ∧ w.cell? ⟨g, i * 6 + 3, none⟩ = some (.int .u64 (p.T : Int)) ∧ w.cell? ⟨g, i * 6 + 4, none⟩ = some (.int .i64 (p.pl : Int)) ∧ w.cell? ⟨g, i * 6 + 5, none⟩ = some (.string ⟨p.key.toArray⟩) ∧ g < w.heap.size := by
  obtain ⟨g, cap, h1, h2, h3⟩ := Row.atK cC_len h hp
  exact ⟨g, cap, h1, h2 0 _ rfl, h2 1 _ rfl, h2 2 _ rfl, h2 3 _ rfl, h2 4 _ rfl, h2 5 _ rfl, h3⟩
theorem Row.at3' {w : World} {g n cap : Nat} {l : List SnE} (h : Row w (.slice (some ⟨g, 0, none⟩) n cap) l.length 3 (sCs l)) {i : Nat} {p : SnE} (hp : l[i]? = some p) :
    w.cell? ⟨g, i * 3, none⟩ = some (.int .i64 (p.t : Int)) ∧ w.cell? ⟨g, i * 3 + 1, none⟩ = some (.int .i64 (p.j : Int)) ∧ w.cell? ⟨g, i * 3 + 2, none⟩ = some (.int .u64 (p.T : Int)) ∧ g < w.heap.size := by
  obtain ⟨g', cap', h1, h2⟩ := Row.at3 h hp
  injection h1 with h1 _ _
  injection h1 with h1
  injection h1 with h1 _ _
  subst h1
  exact h2
theorem Row.at6' {w : World} {g n cap : Nat} {l : List CuE} (h : Row w (.slice (some ⟨g, 0, none⟩) n cap) l.length 6 (cCs l)) {i : Nat} {p : CuE} (hp : l[i]? = some p) :
    w.cell? ⟨g, i * 6, none⟩ = some (.int .i64 (p.t : Int)) ∧ w.cell? ⟨g, i * 6 + 1, none⟩ = some (.int .i64 (p.c : Int)) ∧ w.cell? ⟨g, i * 6 + 2, none⟩ = some (.int .i64 (p.j : Int)) ∧ w.cell? ⟨g, i * 6 + 3, none⟩ = some (.int .u64 (p.T : Int)) ∧ w.cell? ⟨g, i * 6 + 4, none⟩ = some (.int .i64 (p.pl : Int)) ∧ w.cell? ⟨g, i * 6 + 5, none⟩ = some (.string ⟨p.key.toArray⟩) ∧ g < w.heap.size := by
  obtain ⟨g', cap', h1, h2⟩ := Row.at6 h hp
  injection h1 with h1 _ _
  injection h1 with h1
  injection h1 with h1 _ _
  subst h1
  exact h2
end Go.Proofs.YtbcgpjfejpcgnaaGreat
end
section
namespace Go.Proofs.YtbcgpjfejpcgnaaGreat
open Go.RowKit
variable {w w' : World} {base ww : Nat} {bv sv cv : Value} {vs : List Value} {s : WS}
set_option maxRecDepth 100000 in
theorem xtime_any (h : WX w base ww bv sv cv vs s) (hn : s.Bs.length ≤ 4096) :
    Calls Tryz.prog 22 #[.pointer (some ⟨ww, 0, none⟩)] w fun e w' => e = .returned (.int .u64 ((s.Bs.length : Nat) : Int)) ∧ w' = w := by
  have hwc := h.hw.o4
  obtain ⟨A, cap, rfl⟩ := h.hb.len
  obtain ⟨n, hn'⟩ : ∃ n, s.Bs.length = n := ⟨_, rfl⟩
  rw [hn'] at hn hwc ⊢
  obtain ⟨d0, d1, d2, d3, d4, d5⟩ := hwc
  have hwr : IntKind.u64.wrap (n : Int) = (n : Int) := IntWalk.u64_in _ ⟨by omega, by omega⟩
  clear h hn'
  go_enter Tryz.func22, Tryz.ntmps22
  go_wp2
  go_ret
  exact ⟨rfl, rfl⟩
set_option maxHeartbeats 1000000 in
set_option maxRecDepth 100000 in
theorem xwm_any (h : WX w base ww bv sv cv vs s) (hn : s.Bs.length ≤ 4096) (hs : s.Ss.length ≤ 4096) :
    Calls Tryz.prog 36 #[.pointer (some ⟨ww, 0, none⟩)] w fun e w' => e = .returned (.int .u64 ((minT s.Ss s.Bs.length : Nat) : Int)) ∧ ∃ z, w' = w.drewN z := by
  have ht := xtime_any h hn
  obtain ⟨d0, d1, d2, d3, d4, d5⟩ := h.hw.o4
  obtain ⟨A, cap, rfl⟩ := h.hs.len
  have H := Lib.hid h.hs
  obtain ⟨Ss, hSs⟩ : ∃ Ss, s.Ss = Ss := ⟨_, rfl⟩
  obtain ⟨n, hn'⟩ : ∃ n, s.Bs.length = n := ⟨_, rfl⟩
  obtain ⟨q, hq⟩ : ∃ q, Ss.length = q := ⟨_, rfl⟩
  rw [hSs] at hs d2 H ⊢
  rw [hq] at hs d2
  rw [hn'] at ht ⊢
  have Hq := Lib.hid hq
  clear h hn hn' hq hSs d0 d1 d3
  go_enter Tryz.func36, Tryz.ntmps36
  go_wp2_with fail
  refine ht.mono ?_
  rintro e w1 ⟨rfl, rfl⟩
  go_wp2_with fail
  go_loopw [3, 4] (fun l i wr => ∃ (k z : Nat), k ≤ q ∧ l = .int .u64 ((minT (Ss.take k) n : Nat) : Int) ∧ i = .int .i64 k ∧ wr = w1.drewN z) (fun _ i _ => q - (intOf i).toNat)
  case atStart => exact ⟨0, 0, by omega, by simp [minT], rfl, rfl⟩
  case round =>
    obtain ⟨k, z, hk, rfl, rfl, rfl⟩ := hrel
    by_cases hlt : k < q
    · obtain ⟨p, hp⟩ : ∃ p, Ss[k]? = some p := ⟨_, List.getElem?_eq_getElem (by rw [Hq.out]; exact hlt)⟩
      have HH := H.out
      rw [Hq.out] at HH
      obtain ⟨g, cap', hv, c0, c1, c2, hg⟩ := Row.at3 (by rw [Hq.out]; exact HH) hp
      rw [Hq.out] at hv
      injection hv with hA _ hcap
      subst hA
      have hsn := minT_snoc Ss n k p hp
      obtain ⟨x, hx⟩ : ∃ x, minT (Ss.take k) n = x := ⟨_, rfl⟩
      rw [hx] at hsn ⊢
      have Hsn := Lib.hid hsn
      have hkq : (k : Int) < (q : Int) := by omega
      have hmin : min (x : Int) (p.T : Int) = ((min x p.T : Nat) : Int) := by omega
      clear hsn hx hp c0 c1 HH
      go_wp2_with fail
      exact ⟨⟨k + 1, z, by omega, by rw [Hsn.out], by go_num, rfl⟩, by simp [intOf]; omega⟩
    · obtain rfl : k = q := by omega
      have e : Ss.take k = Ss := List.take_of_length_le (by rw [Hq.out]; omega)
      rw [e]
      go_wp2_with fail
      go_ret
      exact ⟨rfl, z, rfl⟩
def SnAt (Ss : List SnE) (t j : Nat) (r : Int) : Prop := (r = -1 ∧ ∀ p ∈ Ss, ¬ (p.t = t ∧ p.j = j)) ∨ ∃ (k : Nat) (p : SnE), r = k ∧ Ss[k]? = some p ∧ p.t = t ∧ p.j = j
def CuAt (Cs : List CuE) (t c : Nat) (r : Int) : Prop := (r = -1 ∧ ∀ p ∈ Cs, ¬ (p.t = t ∧ p.c = c)) ∨ ∃ (k : Nat) (p : CuE), r = k ∧ Cs[k]? = some p ∧ p.t = t ∧ p.c = c
theorem SnAt.fnd {Ss : List SnE} {t j : Nat} {r : Int} (h : SnAt Ss t j r) (hd : Ss.Pairwise (fun p q => ¬ (p.t = q.t ∧ p.j = q.j))) :
    (r = -1 ∧ snF Ss t j = none) ∨ ∃ (k : Nat) (p : SnE), r = k ∧ Ss[k]? = some p ∧ snF Ss t j = some p ∧ Ss.filter (fun p => !isS t j p) = Ss.take k ++ Ss.drop (k + 1) := by
  rcases h with ⟨h1, h2⟩ | ⟨k, p, h1, h2, h3, h4⟩
  · refine .inl ⟨h1, List.find?_eq_none.2 fun p hp => ?_⟩
    have := h2 p hp
    simpa [isS] using this
  · right
    refine ⟨k, p, h1, h2, ?_⟩
    obtain ⟨hk, hkp⟩ := List.getElem?_eq_some_iff.1 h2
    have hsplit : Ss = Ss.take k ++ p :: Ss.drop (k + 1) := by
      rw [← hkp]
      exact (List.take_append_drop k Ss).symm.trans (by rw [List.drop_eq_getElem_cons hk])
    have hpw := hd
    rw [hsplit] at hpw
    obtain ⟨p1, p2, p3⟩ := List.pairwise_append.1 hpw
    have hA : ∀ x ∈ Ss.take k, isS t j x = false := fun x hx => by
      have := p3 x hx p (by simp)
      simp only [isS, Bool.and_eq_false_iff, beq_eq_false_iff_ne]
      rw [h3, h4] at this
      omega
    have hB : ∀ x ∈ Ss.drop (k + 1), isS t j x = false := fun x hx => by
      have := (List.pairwise_cons.1 p2).1 x hx
      simp only [isS, Bool.and_eq_false_iff, beq_eq_false_iff_ne]
      rw [h3, h4] at this
      omega
    have hp : isS t j p = true := by simp [isS, h3, h4]
    constructor
    · unfold snF
      rw [hsplit, List.find?_append, List.find?_eq_none.2 (fun x hx => by rw [hA x hx]; simp), List.find?_cons_of_pos hp]
      rfl
    · rw [hsplit]
      rw [List.filter_append, List.filter_cons_of_neg (by rw [hp]; simp), List.filter_eq_self.2 (fun x hx => by rw [hA x hx]; rfl), List.filter_eq_self.2 (fun x hx => by rw [hB x hx]; rfl)]
      rw [← hsplit]
end Go.Proofs.YtbcgpjfejpcgnaaGreat
end
