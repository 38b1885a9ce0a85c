/- Scripts in memory; rows of programs and of numbers that grow by one; what the reader has read, put together. -/
import Derived.Test.YtkgmgnfcmnhhaaaScrI
namespace Go.Proofs.Ytkgmgnfcmnhhaaa
open Go.RowKit
set_option linter.unusedSectionVars false
set_option linter.unusedVariables false
set_option linter.unusedSimpArgs false
set_option maxRecDepth 20000
theorem length_le_flatMap {α : Type} {l : List α} (f : α → Str) {x : α} (hx : x ∈ l) : (f x).length ≤ (l.flatMap f).length := by
  induction l with
  | nil => simp at hx
  | cons y l ih =>
    rw [List.flatMap_cons, List.length_append]
    rcases List.mem_cons.1 hx with rfl | h
    · omega
    · have := ih h; omega
theorem length_flatMap_ge {α : Type} {l : List α} (f : α → Str) (h : ∀ x ∈ l, 0 < (f x).length) : l.length ≤ (l.flatMap f).length := by
  induction l with
  | nil => simp
  | cons y l ih =>
    rw [List.flatMap_cons, List.length_append, List.length_cons]
    have := h y (by simp)
    have := ih fun x hx => h x (by simp [hx])
    omega
theorem Blk.o9 {w : World} {b : Nat} {x0 x1 x2 x3 x4 x5 x6 x7 x8 : Value} (h : Blk w b [x0, x1, x2, x3, x4, x5, x6, x7, x8]) : w.cell? ⟨b, 0, none⟩ = some x0 ∧ w.cell? ⟨b, 1, none⟩ = some x1 ∧ w.cell? ⟨b, 2, none⟩ = some x2 ∧ w.cell? ⟨b, 3, none⟩ = some x3 ∧ w.cell? ⟨b, 4, none⟩ = some x4 ∧ w.cell? ⟨b, 5, none⟩ = some x5 ∧ w.cell? ⟨b, 6, none⟩ = some x6 ∧ w.cell? ⟨b, 7, none⟩ = some x7 ∧ w.cell? ⟨b, 8, none⟩ = some x8 ∧ (∀ j, w.frozen? ⟨b, j, none⟩ = false) ∧ b < w.heap.size :=
  ⟨h.cell 0, h.cell 1, h.cell 2, h.cell 3, h.cell 4, h.cell 5, h.cell 6, h.cell 7, h.cell 8, h.frozen, h.lt⟩
/-- A script in memory. -/
structure SV where
  th : Int
  sn : Int
  no : Int
  ch : Int
  re : Int
  fa : Int
  cl : Nat
  pA : Option Addr
  pc : Nat
  ps : List (Value × List OV)
  kA : Option Addr
  kc : Nat
  pk : List Int
def SV.scr (x : SV) : Scr := ⟨x.th.toNat, x.sn, x.no, x.ch, x.re, x.fa, x.cl, x.ps.map (fun p => p.2.map OV.op), x.pk⟩
def vI (n : Int) : Value := .int .i64 n
def OkS (w : World) (x : SV) : Prop :=
  Lst w (.slice x.pA x.ps.length x.pc) x.ps.length (x.ps.map (·.1)) ∧ (∀ p ∈ x.ps, Lst w p.1 p.2.length (oCs p.2) ∧ ∀ y ∈ p.2, OkB w y) ∧ Lst w (.slice x.kA x.pk.length x.kc) x.pk.length (x.pk.map vI)
theorem OkS.keeps {w w' : World} {x : SV} (h : OkS w x) (k : Keeps [] w w') : OkS w' x :=
  ⟨h.1.keeps k, fun p hp => ⟨(h.2.1 p hp).1.keeps k, fun y hy => ((h.2.1 p hp).2 y hy).keeps k⟩, h.2.2.keeps k⟩
/-- Programs in a row of its own, each in a row of its own. -/
structure Pp (w : World) (base : Nat) (v : Value) (ys : List (Value × List OV)) : Prop where
  row : Row w v ys.length 1 (ys.map (·.1))
  ge : ∀ g, v.ownBlock = some g → base ≤ g
  ok : ∀ p ∈ ys, Pq w base p.1 p.2 ∧ ∀ g, v.ownBlock = some g → p.1.ownBlock ≠ some g ∧ ∀ y ∈ p.2, y.bv.ownBlock ≠ some g
theorem Pq.keepsN {w w' : World} {base : Nat} {v : Value} {ys : List OV} {S : List Nat} (h : Pq w base v ys) (k : Keeps S w w') (hS : ∀ s ∈ S, v.ownBlock ≠ some s ∧ ∀ y ∈ ys, y.bv.ownBlock ≠ some s) : Pq w' base v ys :=
  ⟨h.row.keeps k (fun g hg hm => (hS g hm).1 hg), h.ge, fun y hy => ⟨(h.ok y hy).1.keeps k (fun s hs => (hS s hs).2 y hy), (h.ok y hy).2⟩⟩
theorem Pq.mono {base base' : Nat} {w : World} {v : Value} {ys : List OV} (h : Pq w base v ys) (hb : base' ≤ base) : Pq w base' v ys :=
  ⟨h.row, fun g hg => Nat.le_trans hb (h.ge g hg), fun y hy => ⟨(h.ok y hy).1.mono hb, (h.ok y hy).2⟩⟩
theorem Pp.nil (w : World) (base : Nat) : Pp w base (.slice none 0 0) [] := ⟨Row.nil _ _, fun g hg => by simp [Value.ownBlock] at hg, by simp⟩
theorem Pp.keeps {w w' : World} {base : Nat} {v : Value} {ys : List (Value × List OV)} {S : List Nat} (h : Pp w base v ys) (k : Keeps S w w') (hS : ∀ s ∈ S, s < base) : Pp w' base v ys :=
  ⟨h.row.keeps k (fun g hg hm => by have := hS g hm; have := h.ge g hg; omega), h.ge, fun y hy => ⟨(h.ok y hy).1.keeps k hS, (h.ok y hy).2⟩⟩
theorem oneCells {vs : List Value} (h : ∀ u ∈ vs, u.oneCell' = true) : ∀ u ∈ vs, u.oneCell' = true := h
theorem info27 : (Try.prog.info? 22).map (fun i => (i.zero, i.size, i.bytes)) = some (some (.slice none 0 0), 1, 24) := by kernel_rfl
theorem info3 : (Try.prog.info? 3).map (fun i => (i.zero, i.size, i.bytes)) = some (some (.int .i64 0), 1, 8) := by kernel_rfl
/-- One program more. -/
theorem prg_append {w : World} {base : Nat} {v u : Value} {ys : List (Value × List OV)} {xs : List OV} (h : Pp w base v ys) (hx : Pq w base u xs) (hxv : ∀ g, v.ownBlock = some g → u.ownBlock ≠ some g ∧ ∀ y ∈ xs, y.bv.ownBlock ≠ some g) (hb : base ≤ w.heap.size) (hn : ys.length + 1 ≤ 1073741824) (c : Nat) :
    ∃ v' w', (∀ ty, (Builtin.append_ #[27, 27] ty #[v, .slice (some ⟨w.heap.size, 0, none⟩) 1 c]).run Try.prog (w.alloc (.cells #[u] 22)) = .ok v' w') ∧ Pp w' base v' (ys ++ [(u, xs)]) ∧ Keeps v.ownBlock.toList w w' := by
  obtain ⟨i0, hi0, hz0, hz1, hz2⟩ := info_parts info27
  have kw := (Keeps.refl [] w).alloc (.cells #[u] 22)
  have hbk := Blk.new w [u] 22
  change Blk (w.alloc (.cells #[u] 22)) _ _ at hbk
  have hsz : (w.alloc (.cells #[u] 22)).heap.size = w.heap.size + 1 := by simp
  have hsrc : ∀ (j : Nat) (u' : Value), [u][j]? = some u' → (w.alloc (.cells #[u] 22)).cell? ((⟨w.heap.size, 0, none⟩ : Addr).add j) = some u' := fun j u' hj => by
    rw [Addr.add_lit, hbk.cell, Nat.zero_add]; exact hj
  have hone : ∀ u' ∈ [u], u'.oneCell' = true := by
    obtain ⟨A, cap, rfl⟩ := hx.row.len
    intro u' hu; simp at hu; subst hu; rfl
  obtain ⟨v', w', hr, r, k, f⟩ := row_append (h.row.keeps kw (by simp)) 27 27 22 i0 _ 24 Try.underlying27 hi0 hz0 hz1 hz2 rfl (by decide) ⟨w.heap.size, 0, none⟩ 1 c [u] rfl hsrc hone hn (by decide)
  have hfr : ∀ p ∈ ys ++ [(u, xs)], Pq w base p.1 p.2 ∧ ∀ g, v.ownBlock = some g → p.1.ownBlock ≠ some g ∧ ∀ y ∈ p.2, y.bv.ownBlock ≠ some g := fun y hy => by
    rcases List.mem_append.1 hy with hy | hy
    · exact h.ok y hy
    · simp at hy; subst hy; exact ⟨hx, hxv⟩
  refine ⟨v', w', fun ty => by rw [← hr]; rfl, ⟨by rw [List.length_append, List.map_append]; exact r, fun g hg => ?_, fun y hy => ⟨?_, fun g hg => ⟨fun he => ?_, fun z hz he => ?_⟩⟩⟩, (kw.mono (by simp)).trans k (fun i hi => .inl hi)⟩
  · rcases f g hg with h1 | h1
    · exact h.ge g h1
    · omega
  · exact ((hfr y hy).1.keepsN kw (by simp)).keepsN k (fun s hs => (hfr y hy).2 s (by simpa using hs))
  · rcases f g hg with h1 | h1
    · exact ((hfr y hy).2 g h1).1 he
    · have := (hfr y hy).1.row.blk g he
      omega
  · rcases f g hg with h1 | h1
    · exact ((hfr y hy).2 g h1).2 z hz he
    · have := ((hfr y hy).1.ok z hz).1.1.blk g he
      omega
/-- Numbers in a row of its own. -/
structure Ri (w : World) (base : Nat) (v : Value) (ys : List Int) : Prop where
  row : Row w v ys.length 1 (ys.map vI)
  ge : ∀ g, v.ownBlock = some g → base ≤ g
theorem Ri.nil (w : World) (base : Nat) : Ri w base (.slice none 0 0) [] := ⟨Row.nil _ _, fun g hg => by simp [Value.ownBlock] at hg⟩
theorem Ri.keeps {w w' : World} {base : Nat} {v : Value} {ys : List Int} {S : List Nat} (h : Ri w base v ys) (k : Keeps S w w') (hS : ∀ s ∈ S, s < base) : Ri w' base v ys :=
  ⟨h.row.keeps k (fun g hg hm => by have := hS g hm; have := h.ge g hg; omega), h.ge⟩
theorem int_append {w : World} {base : Nat} {v : Value} {ys : List Int} (h : Ri w base v ys) (n : Int) (hb : base ≤ w.heap.size) (hn : ys.length + 1 ≤ 1073741824) (c : Nat) :
    ∃ v' w', (∀ ty, (Builtin.append_ #[28, 28] ty #[v, .slice (some ⟨w.heap.size, 0, none⟩) 1 c]).run Try.prog (w.alloc (.cells #[.int .i64 n] 3)) = .ok v' w') ∧ Ri w' base v' (ys ++ [n]) ∧ Keeps v.ownBlock.toList w w' ∧ ∀ g, v'.ownBlock = some g → v.ownBlock = some g ∨ w.heap.size ≤ g := by
  obtain ⟨i0, hi0, hz0, hz1, hz2⟩ := info_parts info3
  have kw := (Keeps.refl [] w).alloc (.cells #[.int .i64 n] 3)
  have hbk := Blk.new w [.int .i64 n] 3
  change Blk (w.alloc (.cells #[.int .i64 n] 3)) _ _ at hbk
  have hsz : (w.alloc (.cells #[.int .i64 n] 3)).heap.size = w.heap.size + 1 := by simp
  have hsrc : ∀ (j : Nat) (u' : Value), [Value.int .i64 n][j]? = some u' → (w.alloc (.cells #[.int .i64 n] 3)).cell? ((⟨w.heap.size, 0, none⟩ : Addr).add j) = some u' := fun j u' hj => by
    rw [Addr.add_lit, hbk.cell, Nat.zero_add]; exact hj
  obtain ⟨v', w', hr, r, k, f⟩ := row_append (h.row.keeps kw (by simp)) 28 28 3 i0 _ 8 Try.underlying28 hi0 hz0 hz1 hz2 rfl (by decide) ⟨w.heap.size, 0, none⟩ 1 c [.int .i64 n] rfl hsrc (fun u hu => by simp at hu; subst hu; rfl) hn (by decide)
  refine ⟨v', w', fun ty => by rw [← hr]; rfl, ⟨by rw [List.length_append, List.map_append]; exact r, fun g hg => ?_⟩, (kw.mono (by simp)).trans k (fun i hi => .inl hi), fun g hg => ?_⟩
  · rcases f g hg with h1 | h1
    · exact h.ge g h1
    · omega
  · rcases f g hg with h1 | h1
    · exact .inl h1
    · exact .inr (by omega)
/-- Numbers read one behind the other. -/
def IntsAt (s : Except Nat Str) : List Int → Except Nat Str → Prop
  | [], s' => s' = s
  | a :: ys, s' => vls s rInt a ∧ IntsAt (aft s rInt) ys s'
theorem IntsAt.snoc {s s' : Except Nat Str} {ys : List Int} {a : Int} (h : IntsAt s ys s') (ha : vls s' rInt a) : IntsAt s (ys ++ [a]) (aft s' rInt) := by
  induction ys generalizing s with
  | nil =>
    simp only [IntsAt] at h
    subst h
    exact ⟨ha, rfl⟩
  | cons b ys ih => exact ⟨h.1, ih h.2⟩
theorem IntsAt.sz {s s' : Except Nat Str} {ys : List Int} {N : Nat} (h : IntsAt s ys s') (hz : Sz s N) : Sz s' N := by
  induction ys generalizing s with
  | nil =>
    simp only [IntsAt] at h
    subst h
    exact hz
  | cons b ys ih => exact ih h.2 (hz.aft law_int)
/-- The number of threads is read as it is, unless it is beyond 64. -/
theorem thr_of {L : Str} {x : Int} (h : vls (.ok L) rInt x) (hx : ∀ L1, aft (.ok L) rInt = .ok L1 → 0 ≤ x ∧ x ≤ 64) : aft (.ok L) rThr = aft (.ok L) rInt ∧ vls (.ok L) rThr x.toNat := by
  simp only [aft, rThr, rInt, mapR]
  cases hr : rv 0 L with
  | error e => exact ⟨rfl, fun L' hL y r hy => by simp only [Except.ok.injEq] at hL; subst hL; simp [rThr, hr] at hy⟩
  | ok z =>
    obtain ⟨u, r⟩ := z
    have h1 := h L rfl (toI u) r (by simp [rInt, mapR, hr])
    have h2 := hx r (by simp [aft, rInt, mapR, hr])
    have hu := (law_num.bwd _ _ _ hr).2
    have hux : u = x.toNat ∧ u ≤ 64 := by
      rw [← h1] at h2 ⊢
      unfold toI at h2 ⊢
      split at h2
      · rename_i hlt
        rw [if_pos hlt]
        omega
      · omega
    simp only
    rw [if_neg (by omega)]
    refine ⟨rfl, fun L' hL y r' hy => ?_⟩
    simp only [Except.ok.injEq] at hL
    subst hL
    simp only [rThr, hr] at hy
    rw [if_neg (by omega)] at hy
    simp only [Except.ok.injEq, Prod.mk.injEq] at hy
    omega
theorem thr_bad {L L1 : Str} {x : Int} (h : vls (.ok L) rInt x) (h1 : aft (.ok L) rInt = .ok L1) (hx : ¬ (0 ≤ x ∧ x ≤ 64)) : aft (.ok L) rScr = .error 1 := by
  have : aft (.ok L) rThr = .error 1 := by
    simp only [aft, rInt, mapR] at h1
    simp only [aft, rThr]
    cases hr : rv 0 L with
    | error e => simp [hr] at h1
    | ok z =>
      obtain ⟨u, r⟩ := z
      have h2 := h L rfl (toI u) r (by simp [rInt, mapR, hr])
      have hu := (law_num.bwd _ _ _ hr).2
      simp only
      rw [if_pos (by
        rw [← h2] at hx
        unfold toI at hx
        split at hx <;> omega)]
  have hv : vls (.ok L) rThr 0 := fun L' hL y r hy => by
    simp only [Except.ok.injEq] at hL
    subst hL
    simp [aft, hy] at this
  unfold rScr
  rw [aft_map, aft_seq hv, this]
  rfl
theorem scr_read {s : Except Nat Str} {n : Nat} {y1 y2 y3 y4 y5 : Int} {cl : Nat} {ps : List (List Opn)} {pk : List Int} {s6 s8 : Except Nat Str}
    (h1 : vls s rThr n) (h2 : IntsAt (aft s rThr) [y1, y2, y3, y4, y5] s6) (h3 : vls s6 (rv 0) cl) (h4 : aft (aft s6 (rv 0)) (repR rProg n) = s8) (h5 : vls (aft s6 (rv 0)) (repR rProg n) ps) (h6 : vls s8 (rList rInt) pk) :
    aft s rScr = aft s8 (rList rInt) ∧ vls s rScr ⟨n, y1, y2, y3, y4, y5, cl, ps, pk⟩ := by
  simp only [IntsAt] at h2
  obtain ⟨a1, a2, a3, a4, a5, rfl⟩ := h2
  subst h4
  refine ⟨?_, ?_⟩
  · unfold rScr
    rw [aft_map, aft_seq h1, aft_seq a1, aft_seq a2, aft_seq a3, aft_seq a4, aft_seq a5, aft_seq h3, aft_seq h5]
  · unfold rScr
    exact vls_map (fun z => (⟨z.1, z.2.1, z.2.2.1, z.2.2.2.1, z.2.2.2.2.1, z.2.2.2.2.2.1, z.2.2.2.2.2.2.1, z.2.2.2.2.2.2.2.1, z.2.2.2.2.2.2.2.2⟩ : Scr))
      (vls_seq (Q := fun n => seqR rInt fun _ => seqR rInt fun _ => seqR rInt fun _ => seqR rInt fun _ => seqR rInt fun _ => seqR (rv 0) fun _ => seqR (repR rProg n) fun _ => rList rInt) h1
        (vls_seq (Q := fun _ => seqR rInt fun _ => seqR rInt fun _ => seqR rInt fun _ => seqR rInt fun _ => seqR (rv 0) fun _ => seqR (repR rProg n) fun _ => rList rInt) a1
          (vls_seq (Q := fun _ => seqR rInt fun _ => seqR rInt fun _ => seqR rInt fun _ => seqR (rv 0) fun _ => seqR (repR rProg n) fun _ => rList rInt) a2
            (vls_seq (Q := fun _ => seqR rInt fun _ => seqR rInt fun _ => seqR (rv 0) fun _ => seqR (repR rProg n) fun _ => rList rInt) a3
              (vls_seq (Q := fun _ => seqR rInt fun _ => seqR (rv 0) fun _ => seqR (repR rProg n) fun _ => rList rInt) a4
                (vls_seq (Q := fun _ => seqR (rv 0) fun _ => seqR (repR rProg n) fun _ => rList rInt) a5
                  (vls_seq (Q := fun _ => seqR (repR rProg n) fun _ => rList rInt) h3
                    (vls_seq (Q := fun _ => rList rInt) h5 h6))))))))
/-- dec, by what has been read. -/
theorem dec_aft (vld : Scr → Bool) {L : Str} {x : Scr} (h : vls (.ok L) rScr x) : dec vld L = (match aft (.ok L) rScr with | .error e => .error e | .ok r => if r ≠ [] then .error 12 else if vld x then .ok x else .error 1) := by
  simp only [dec, aft]
  cases hr : rScr L with
  | error e => rfl
  | ok z =>
    obtain ⟨y, r⟩ := z
    have := h L rfl y r hr
    subst this
    rfl
end Go.Proofs.Ytkgmgnfcmnhhaaa
