/- The reference's world: its shape in memory, and the contracts of Time, Watermark, Raise and snap. -/
import Derived.Test.YtnnpmpdlhojecaaModN
namespace Go.Proofs.Ytnnpmpdlhojecaa
open Go.RowKit Go.Maps
/-- v is a slice with a block of its own, or nil: n elements of k cells, together xs. -/
def Row (w : World) (v : Value) (n k : Nat) (xs : List Value) : Prop :=
  xs.length = n * k ∧ ((v = .slice none 0 0 ∧ n = 0) ∨ ∃ g cap rest, v = .slice (some ⟨g, 0, none⟩) n cap ∧ Blk w g (xs ++ rest) ∧ n ≤ cap ∧ cap ≤ maxLen ∧ (xs ++ rest).length = cap * k)
variable {w w' : World} {v : Value} {n k : Nat} {xs : List Value}
theorem Row.of {base e : Nat} (h : w.ownsRow base e k v n xs) : Row w v n k xs := by
  obtain ⟨h1, h2⟩ := h
  refine ⟨h1, ?_⟩
  rcases h2 with h2 | ⟨g, cap, cur, hv, hg, hh, hnc, hcm, hcs, ht⟩
  · exact .inl h2
  · refine .inr ⟨g, cap, cur.toList.drop (n * k), hv, ⟨e, ?_⟩, hnc, hcm, ?_⟩
    · rw [hh, ← ht, List.take_append_drop]
    · rw [← ht, List.take_append_drop, Array.length_toList, hcs]
theorem Row.nil (w : World) (k : Nat) : Row w (.slice none 0 0) 0 k [] := ⟨by simp, .inl ⟨rfl, rfl⟩⟩
theorem Row.keeps {S : List Nat} (h : Row w v n k xs) (kk : Keeps S w w') (hS : ∀ g, v.ownBlock = some g → g ∉ S) : Row w' v n k xs := by
  obtain ⟨h1, h | ⟨g, cap, rest, rfl, hb, h2, h3, h4⟩⟩ := h
  · exact ⟨h1, .inl h⟩
  · exact ⟨h1, .inr ⟨g, cap, rest, rfl, kk.blk hb (hS g rfl), h2, h3, h4⟩⟩
theorem Row.blk (h : Row w v n k xs) : ∀ g, v.ownBlock = some g → g < w.heap.size := by
  obtain ⟨h1, ⟨rfl, _⟩ | ⟨g, cap, rest, rfl, hb, h2, h3, h4⟩⟩ := h
  · intro g hg; simp [Value.ownBlock] at hg
  · intro g' hg
    have : g = g' := by simpa [Value.ownBlock] using hg
    subst this; exact hb.lt
theorem Row.lst (h : Row w v n k xs) : Lst w v n xs := by
  obtain ⟨h1, ⟨rfl, rfl⟩ | ⟨g, cap, rest, rfl, hb, h2, h3, h4⟩⟩ := h
  · have : xs = [] := by simpa using h1
    subst this
    exact Lst.nil w
  · exact Lst.blk hb
theorem Row.len (h : Row w v n k xs) : ∃ A cap, v = .slice A n cap := by
  obtain ⟨h1, ⟨rfl, rfl⟩ | ⟨g, cap, rest, rfl, hb, h2, h3, h4⟩⟩ := h
  · exact ⟨_, _, rfl⟩
  · exact ⟨_, _, rfl⟩
set_option maxRecDepth 100000 in
theorem row_append (h : Row w v n k xs) (t ty e : TypeId) (i : TypeInfo) (z : Value) (bytes : Nat) (hu : Try.prog.underlying t = some (.slice e)) (hi : Try.prog.info? e = some i) (hz : i.zero = some z) (hs : i.size = k) (hby : i.bytes = bytes) (hzs : z.cells.size = k) (hk : 0 < k)
    (a : Addr) (m c : Nat) (news : List Value) (hl : news.length = m * k) (hsrc : ∀ (j : Nat) (u : Value), news[j]? = some u → w.cell? (a.add j) = some u) (hone : ∀ u ∈ news, u.oneCell' = true) (hn : n + m ≤ 100000) (hb1 : bytes ≤ 1000) :
    ∃ v' w', (Builtin.append_ #[t, t] ty #[v, .slice (some a) m c]).run Try.prog w = .ok v' w' ∧ Row w' v' (n + m) k (xs ++ news) ∧ Keeps v.ownBlock.toList w w' ∧ ∀ g, v'.ownBlock = some g → v.ownBlock = some g ∨ w.heap.size ≤ g := by
  have hbb : (n + m) * bytes ≤ 140737488355328 := by
    have := Nat.mul_le_mul hn hb1
    omega
  obtain ⟨h1, ⟨rfl, rfl⟩ | ⟨g, cap, rest, rfl, hb, h2, h3, h4⟩⟩ := h
  · have hx : xs = [] := by simpa using h1
    subst hx
    obtain ⟨v', w', hr, ho, hg, _⟩ := run_append_own (P := Try.prog) w w.heap.size t ty e i z k bytes hu hi hz hs hby hzs hk _ 0 [] (World.ownsRow_nil _ _ _ _) a m c news hl hsrc hone (by unfold maxLen; omega) hbb (Nat.le_refl _)
    exact ⟨v', w', hr, .of ho, Keeps.of_grownBy hg _ (by simp [Value.ownBlock]), fun g hg => .inr (World.ownsRow.lt ho g hg).1⟩
  · by_cases hroom : n + m ≤ cap
    · have hmk : (n + m) * k ≤ cap * k := Nat.mul_le_mul_right k hroom
      rw [Nat.add_mul] at hmk
      obtain ⟨w', hr, hb', kk⟩ := run_appendK (P := Try.prog) w t e k hu (by rw [hi]; simp [hs]) g n cap _ hb a m c news hl hsrc hone hroom (by rw [h4, hl]; exact hmk)
      have hX : (spl (xs ++ rest) (n * k) news).take (n * k + news.length) = xs ++ news := by
        rw [spl_take_in (by rw [h4]; omega), List.take_append_of_le_length (by omega), List.take_of_length_le (by omega)]
      refine ⟨_, w', hr ty, ⟨by rw [List.length_append, h1, hl, Nat.add_mul], .inr ⟨g, cap, _, rfl, hb'.cut hX, hroom, h3, ?_⟩⟩, by simpa [Value.ownBlock] using kk, fun g' hg => .inl hg⟩
      rw [← hX, List.take_append_drop, spl_length (by rw [h4, hl]; exact hmk), h4]
    · have hr := run_append_grow (P := Try.prog) w t ty e i z hu hi hz ⟨g, 0, none⟩ n cap xs (by rw [hs]; exact h1)
        (fun j x hj => by rw [Addr.add_lit, hb.cell, Nat.zero_add, List.getElem?_append_left (List.getElem?_eq_some_iff.1 hj).1, hj]) a m c news (by rw [hs]; exact hl) hsrc (by omega) (by omega) (growslice_fits (by omega) (by rw [hby]; exact hbb))
      have hg := grownCap_ge w (n + m) cap e
      have hgm := grownCap_le_maxLen w (n + m) cap e (by unfold maxLen; omega)
      obtain ⟨G, hG⟩ : ∃ G, G = grownCap w (n + m) cap e := ⟨_, rfl⟩
      rw [← hG] at hr hg hgm
      have hnb := new_blk w (xs ++ news) (Builtin.zeroCells z.cells (G - (n + m))) e
      have eA : (xs.toArray ++ news.toArray ++ Builtin.zeroCells z.cells (G - (n + m))) = (xs ++ news).toArray ++ Builtin.zeroCells z.cells (G - (n + m)) := by simp
      rw [eA] at hr
      refine ⟨_, _, hr, ⟨by rw [List.length_append, h1, hl, Nat.add_mul], .inr ⟨w.heap.size, G, _, rfl, hnb, hg, hgm, ?_⟩⟩, (((Keeps.refl [] w).drew).alloc _).mono (by simp), fun g' hg' => .inr ?_⟩
      · rw [List.length_append, List.length_append, h1, hl, Array.length_toList, size_zeroCells, hzs, ← Nat.add_mul, ← Nat.add_mul]
        congr 1; omega
      · have : w.heap.size = g' := by simpa [Value.ownBlock] using hg'
        omega
def snC (p : Nat × Nat) : List Value := [.int .i64 ((p.1 / 2 : Nat) : Int), .int .i64 ((p.1 % 2 : Nat) : Int), .int .u64 (p.2 : Int)]
def nCs (l : List (Nat × Nat)) : List Value := l.flatMap snC
theorem nCs_len (l : List (Nat × Nat)) : (nCs l).length = l.length * 3 := by
  unfold nCs
  induction l with
  | nil => rfl
  | cons x l ih => rw [List.flatMap_cons, List.length_append, ih, List.length_cons]; simp [snC]; omega
theorem nCs_cells (l : List (Nat × Nat)) (r : List Value) (i : Nat) (p : Nat × Nat) (h : l[i]? = some p) (j : Nat) (hj : j < 3) : (nCs l ++ r)[i * 3 + j]? = (snC p)[j]? := by
  unfold nCs
  induction l generalizing i with
  | nil => simp at h
  | cons x l ih =>
    cases i with
    | zero =>
      simp at h; subst h
      rw [List.flatMap_cons, Nat.zero_mul, Nat.zero_add, List.append_assoc, List.getElem?_append_left (by simp [snC]; omega)]
    | succ i =>
      rw [List.flatMap_cons, List.append_assoc, List.getElem?_append_right (by simp [snC]; omega)]
      rw [← ih i (by simpa using h)]
      congr 1
      simp [snC]; omega
/-- The world at ww: its batches Bs, its floor F, its snapshots Ss; its blocks lie in Q. -/
structure WR (w : World) (Q : List Nat) (ww : Nat) (bv : Value) (vs : List Value) (Bs : List (List Wrt)) (F : Nat) (sv : Value) (Ss : List (Nat × Nat)) : Prop where
  hw : Blk w ww [bv, .int .u64 (F : Int), sv, .slice none 0 0]
  hb : Row w bv Bs.length 1 vs
  he : ∀ (i : Nat) (v : Value) (b : List Wrt), vs[i]? = some v → Bs[i]? = some b → Row w v b.length 3 (wCs b) ∧ ∀ g, v.ownBlock = some g → g ≠ ww ∧ some g ≠ bv.ownBlock ∧ some g ≠ sv.ownBlock ∧ g ∈ Q
  hs : Row w sv Ss.length 3 (nCs Ss)
  hq : ww ∈ Q ∧ ∀ g, (bv.ownBlock = some g ∨ sv.ownBlock = some g) → g ∈ Q ∧ g ≠ ww
  hd : ∀ g, bv.ownBlock = some g → sv.ownBlock ≠ some g
variable {Q : List Nat} {ww : Nat} {bv sv : Value} {vs : List Value} {Bs : List (List Wrt)} {F : Nat} {Ss : List (Nat × Nat)}
theorem WR.keepsS {S : List Nat} (h : WR w Q ww bv vs Bs F sv Ss) (kk : Keeps S w w') (hS : ∀ s ∈ S, s ∉ Q) : WR w' Q ww bv vs Bs F sv Ss :=
  ⟨kk.blk h.hw (fun hs => hS _ hs h.hq.1), h.hb.keeps kk (fun g hg hs => hS _ hs (h.hq.2 g (.inl hg)).1), fun i v b h1 h2 => ⟨(h.he i v b h1 h2).1.keeps kk (fun g hg hs => hS _ hs ((h.he i v b h1 h2).2 g hg).2.2.2), (h.he i v b h1 h2).2⟩,
    h.hs.keeps kk (fun g hg hs => hS _ hs (h.hq.2 g (.inr hg)).1), h.hq, h.hd⟩
theorem WR.keeps (h : WR w Q ww bv vs Bs F sv Ss) (kk : Keeps [] w w') : WR w' Q ww bv vs Bs F sv Ss := h.keepsS kk (by simp)
theorem WR.kp {base : Nat} (h : WR w Q ww bv vs Bs F sv Ss) (kk : Kp base Q w w') : WR w' Q ww bv vs Bs F sv Ss := by
  obtain ⟨S, h1, h2⟩ := kk
  exact h.keepsS h2 (fun s hs => (h1 s hs).2)
theorem WR.addQ {Q' : List Nat} (h : WR w Q ww bv vs Bs F sv Ss) (hQ : ∀ q ∈ Q, q ∈ Q') : WR w Q' ww bv vs Bs F sv Ss :=
  ⟨h.hw, h.hb, fun i v b h1 h2 => ⟨(h.he i v b h1 h2).1, fun g hg => ⟨((h.he i v b h1 h2).2 g hg).1, ((h.he i v b h1 h2).2 g hg).2.1, ((h.he i v b h1 h2).2 g hg).2.2.1, hQ _ ((h.he i v b h1 h2).2 g hg).2.2.2⟩⟩, h.hs, ⟨hQ _ h.hq.1, fun g hg => ⟨hQ _ (h.hq.2 g hg).1, (h.hq.2 g hg).2⟩⟩, h.hd⟩
set_option maxRecDepth 100000 in
theorem wtime_any (h : WR w Q ww bv vs Bs F sv Ss) (hn : Bs.length ≤ 4096) :
    Calls Try.prog 31 #[.pointer (some ⟨ww, 0, none⟩)] w fun e w' => e = .returned (.int .u64 ((Bs.length : Nat) : Int)) ∧ w' = w := by
  have hwc := h.hw.o4
  obtain ⟨A, cap, rfl⟩ := h.hb.len
  obtain ⟨n, hn'⟩ : ∃ n, Bs.length = n := ⟨_, rfl⟩
  rw [hn'] at hn hwc ⊢
  obtain ⟨d0, d1, d2, d3, d4, d5⟩ := hwc
  have hwr : IntKind.u64.wrap (n : Int) = (n : Int) := IntWalk.u64_in _ ⟨by omega, by omega⟩
  clear h hn'
  go_enter Try.func31, Try.ntmps31
  go_wp2
  go_ret
  exact ⟨rfl, rfl⟩
end Go.Proofs.Ytnnpmpdlhojecaa
