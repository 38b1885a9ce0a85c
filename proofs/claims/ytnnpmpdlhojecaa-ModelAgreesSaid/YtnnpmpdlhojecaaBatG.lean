/- The contracts of fit and of ref15.Normalize. -/
import Derived.Test.YtnnpmpdlhojecaaBatF
namespace Go.Proofs.Ytnnpmpdlhojecaa
open Go.RowKit
theorem infoW : (Try.prog.info? 57).map (fun i => (i.zero, i.size, i.bytes)) = some (some (.agg #[.string ⟨#[]⟩, .string ⟨#[]⟩, .bool false]), 3, 40) := by kernel_rfl
def OwnW (w : World) (base : Nat) (v : Value) (l : List Wrt) : Prop := w.ownsRow base 57 3 v l.length (wCs l)
theorem OwnW.nil (w : World) (base : Nat) : OwnW w base (.slice none 0 0) [] := World.ownsRow_nil _ _ _ _
theorem OwnW.keeps {w w' : World} {base : Nat} {v : Value} {l : List Wrt} (h : OwnW w base v l) (k : Keeps [] w w') : OwnW w' base v l := ownsRow_keeps h k (by simp)
theorem OwnW.lst {w : World} {base : Nat} {v : Value} {l : List Wrt} (h : OwnW w base v l) : Lst w v l.length (wCs l) := Lst.own h
theorem appendW {wb W : World} {base : Nat} {v : Value} {acc : List Wrt} (ho : OwnW W base v acc) (hn : acc.length < 4096) (x : Wrt) (hk : Keeps [] wb W) (hb : wb.heap.size ≤ base) (hbase : base ≤ W.heap.size) :
    ∃ v' w', (Builtin.append_ #[28, 28] 28 #[v, .slice (some ⟨W.heap.size, 0, none⟩) 1 1]).run Try.prog (W.alloc (.cells #[.string ⟨x.k.toArray⟩, .string ⟨x.v.toArray⟩, .bool x.d] 57)) = .ok v' w' ∧ OwnW w' base v' (acc ++ [x]) ∧ Keeps [] wb w' ∧ (∀ q cs, q < base → Blk W q cs → Blk w' q cs) := by
  obtain ⟨i0, hi0, hz0, hz1, hz2⟩ := info_parts infoW
  have ho1 : (W.alloc (.cells #[.string ⟨x.k.toArray⟩, .string ⟨x.v.toArray⟩, .bool x.d] 57)).ownsRow base 57 3 v acc.length (wCs acc) := World.ownsRow.alloc ho _
  obtain ⟨v', w', hr, h2, h3, _⟩ := run_append_own (P := Try.prog) _ base 28 28 57 i0 _ 3 40 Try.underlying28 hi0 hz0 hz1 hz2 rfl (by decide) v acc.length (wCs acc) ho1 ⟨W.heap.size, 0, none⟩ 1 1 (wC x) rfl (cells3_new W _ _ _ _)
    (fun u hu => by simp only [wC, List.mem_cons, List.mem_nil_iff, or_false] at hu; rcases hu with rfl | rfl | rfl <;> rfl) (by unfold maxLen; omega) (by omega) (by simp; omega)
  have hlt := World.ownsRow.lt ho
  refine ⟨v', w', hr, ?_, (hk.alloc _).trans (Keeps.of_grownBy h3 v.ownBlock.toList (fun g hg => by rw [hg]; simp)) (fun g hg => .inr ?_), fun q cs hq hbq => (Keeps.of_grownBy h3 v.ownBlock.toList (fun g hg => by rw [hg]; simp)).blk (hbq.alloc _) (fun hg => ?_)⟩
  · unfold OwnW
    rw [List.length_append, wCs_append, wCs_one]; exact h2
  · have := (hlt g (by simpa using hg)).1; omega
  · have := (hlt q (by simpa using hg)).1; omega
theorem fit_snoc (b : List Wrt) (k : Nat) (x : Wrt) (h : b[k]? = some x) : (b.take (k + 1)).map fitW = (b.take k).map fitW ++ [fitW x] := by
  rw [List.take_add_one, h]; simp
theorem cut_str (s : Str) (n : Nat) : (ByteArray.mk s.toArray).extract 0 n = ⟨(s.take n).toArray⟩ := by
  apply ByteArray.ext
  simp
theorem cut_min (s : Str) (m : Nat) : ByteArray.extract ⟨s.toArray⟩ 0 (min (s.length : Int) (m : Int)).toNat = ⟨(s.take m).toArray⟩ := by
  rw [cut_str]
  have : (min (s.length : Int) (m : Int)).toNat = min s.length m := by omega
  rw [this]
  congr 2
  rw [Nat.min_def]
  split
  · rw [List.take_of_length_le (Nat.le_refl _), List.take_of_length_le (by omega)]
  · rfl
theorem cut_min32 (s : Str) : ByteArray.extract ⟨s.toArray⟩ 0 (min (s.length : Int) 32).toNat = ⟨(s.take 32).toArray⟩ := cut_min s 32
theorem cut_min64 (s : Str) : ByteArray.extract ⟨s.toArray⟩ 0 (min (s.length : Int) 64).toNat = ⟨(s.take 64).toArray⟩ := cut_min s 64
set_option maxHeartbeats 1000000 in
set_option maxRecDepth 100000 in
theorem fit_any (b : List Wrt) (hn : b.length ≤ 9223372036854775807) (bv : Value) (w : World) (hbv : Lst w bv b.length (wCs b)) :
    Calls Try.prog 38 #[bv] w fun e w' => ∃ u, e = .returned u ∧ Lst w' u (fitL b).length (wCs (fitL b)) ∧ Keeps [] w w' := by
  obtain ⟨A, cap, bb, bo, rfl, hA, har⟩ := hbv
  obtain ⟨n, hnn⟩ : ∃ n, b.length = n := ⟨_, rfl⟩
  rw [hnn] at hA hn ⊢
  have Hn := Lib.hid hnn
  clear hnn
  go_enter Try.func38, Try.ntmps38
  go_wp2_with fail
  go_loopw [3, 4] (fun v i wr => ∃ (k : Nat), k ≤ n ∧ k ≤ 16 ∧ i = .int .i64 k ∧ OwnW wr w.heap.size v ((b.take k).map fitW) ∧ Keeps [] w wr) (fun _ i _ => 16 - (intOf i).toNat)
  case atStart => exact ⟨0, by omega, by omega, rfl, by simpa using OwnW.nil w w.heap.size, Keeps.refl _ _⟩
  case round =>
    obtain ⟨k, hk, hk30, rfl, ho, hkp⟩ := hrel
    by_cases hlt : k < n
    · by_cases h30 : k < 16
      · obtain rfl := hA (by omega)
        obtain ⟨y, hy⟩ : ∃ y, b[k]? = some y := ⟨_, List.getElem?_eq_getElem (by rw [Hn.out]; exact hlt)⟩
        obtain ⟨c0, c1, c2, c3⟩ := (har.keeps hkp (by simp)).wrt hy
        have E2 := Lib.hid (fit_snoc b k y hy)
        go_wp2_with fail
        go_region
        simp only [cut_min32, cut_min64]
        have hbx := (Blk.new wr [.string ⟨(y.k.take 32).toArray⟩, .string ⟨(y.v.take 64).toArray⟩, .bool y.d] 57).drew
        have kw := ((Keeps.refl [] wr).alloc (.cells #[.string ⟨(y.k.take 32).toArray⟩, .string ⟨(y.v.take 64).toArray⟩, .bool y.d] 57)).drew
        obtain ⟨W, hW⟩ : ∃ W, W = (wr.alloc (.cells #[.string ⟨(y.k.take 32).toArray⟩, .string ⟨(y.v.take 64).toArray⟩, .bool y.d] 57)).drew := ⟨_, rfl⟩
        rw [← hW] at hbx kw ⊢
        have hsW : wr.heap.size < W.heap.size := hbx.lt
        clear hW
        have ho2 := ho.keeps kw
        have kx := hkp.trans kw (by simp)
        have hl16 : ((b.take k).map fitW).length < 4096 := by rw [List.length_map, List.length_take]; omega
        have hsz := hkp.size
        have hge := World.ownsRow.lt ho
        cases hd : y.d with
        | false =>
          rw [hd] at hbx
          obtain ⟨d0, d1, d2, d3, d4⟩ := hbx.o3
          have hf : fitW y = ⟨y.k.take 32, y.v.take 64, false⟩ := by simp [fitW, hd]
          obtain ⟨v', w5, hr, ho5, k5, _⟩ := appendW ho2 hl16 ⟨y.k.take 32, y.v.take 64, false⟩ kx (Nat.le_refl _) (by omega)
          rw [← hf, ← E2.out] at ho5
          go_wp2_with (at_builtin; refine list_append_eq rfl _ _ 28 28 rfl _ _ rfl rfl hr ?_)
          exact ⟨⟨k + 1, by omega, by omega, by go_num, ho5, k5⟩, by simp [intOf]; omega⟩
        | true =>
          rw [hd] at hbx
          obtain ⟨d0, d1, d2, d3, d4⟩ := hbx.o3
          have hf : fitW y = ⟨y.k.take 32, [], true⟩ := by simp [fitW, hd]
          have kx2 := kx.setCell ⟨wr.heap.size, 1, none⟩ (.string ⟨#[]⟩) (.inr hsz)
          have kw2 := kw.setCell ⟨wr.heap.size, 1, none⟩ (.string ⟨#[]⟩) (.inr (Nat.le_refl _))
          have hs2 : (W.setCell ⟨wr.heap.size, 1, none⟩ (.string ⟨#[]⟩)).heap.size = W.heap.size := by simp
          obtain ⟨v', w5, hr, ho5, k5, _⟩ := appendW (ho.keeps kw2) hl16 ⟨y.k.take 32, [], true⟩ kx2 (Nat.le_refl _) (by omega)
          rw [← hf, ← E2.out] at ho5
          rw [hs2] at hr
          go_wp2_with (at_builtin; refine list_append_eq rfl _ _ 28 28 rfl _ _ rfl rfl hr ?_)
          exact ⟨⟨k + 1, by omega, by omega, by go_num, ho5, k5⟩, by simp [intOf]; omega⟩
      · obtain rfl : k = 16 := by omega
        go_wp2_with fail
        go_ret
        exact ⟨_, rfl, ho.lst, hkp⟩
    · obtain rfl : k = n := by omega
      have hr : (b.take k).map fitW = fitL b := by
        rw [fitL, List.take_of_length_le (by rw [Hn.out]; omega), List.take_of_length_le (by rw [Hn.out]; omega)]
      have Hr := Lib.hid hr
      clear hr
      go_wp2_with fail
      go_ret
      exact ⟨_, rfl, by rw [← Hr.out]; exact ho.lst, hkp⟩
end Go.Proofs.Ytnnpmpdlhojecaa
