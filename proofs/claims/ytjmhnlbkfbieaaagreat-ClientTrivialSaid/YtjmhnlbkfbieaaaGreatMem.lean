/- The contracts of package memory and of blinktreekit.Mod. Conditions: the memory lies in the heap as MemAt says. -/
import Derived.Test.YtjmhnlbkfbieaaaGreatProg
import Derived.Test.YtjmhnlbkfbieaaaGreatMemSpec
import Derived.Deep.QuietTactic
import Derived.BigQuiet
import Derived.Deep.RegionWith
namespace Go.Proofs.YtjmhnlbkfbieaaaGreat
open Go.RowKit
@[go_sem] theorem field_Cell_N (a b c : Value) (w : World) : (Instr.field 88 (.agg #[a, b, c]) 0).run Tryz.prog w = .ok a w := by kernel_rfl
@[go_sem] theorem field_Cell_K (a b c : Value) (w : World) : (Instr.field 88 (.agg #[a, b, c]) 1).run Tryz.prog w = .ok b w := by kernel_rfl
@[go_sem] theorem field_Cell_M (a b c : Value) (w : World) : (Instr.field 88 (.agg #[a, b, c]) 2).run Tryz.prog w = .ok c w := by kernel_rfl
theorem tmod_neg (k n : Int) (hn : 1 ≤ n) (hk : k < 0) : (k.tmod n < 0 → k.tmod n + n = k % n) ∧ (0 ≤ k.tmod n → k.tmod n = k % n) ∧ -n < k.tmod n := by
  have e : k.tmod n = -((-k) % n) := by
    have := Int.neg_tmod (-k) n
    rw [Int.neg_neg] at this
    rw [this, Int.tmod_eq_emod_of_nonneg (by omega)]
  have a0 := Int.emod_nonneg k (show n ≠ 0 by omega)
  have a1 := Int.emod_lt_of_pos k (show 0 < n by omega)
  have b0 := Int.emod_nonneg (-k) (show n ≠ 0 by omega)
  have b1 := Int.emod_lt_of_pos (-k) (show 0 < n by omega)
  have d1 := Int.mul_ediv_add_emod k n
  have d2 := Int.mul_ediv_add_emod (-k) n
  rw [e]
  generalize hr : (-k) % n = r at *
  generalize hs : k % n = s at *
  generalize (-k) / n = u at *
  generalize k / n = v at *
  have hsum : n * (u + v) + (r + s) = 0 := by rw [Int.mul_add]; omega
  have ht : u + v = 0 ∨ u + v = -1 := by
    by_cases h : u + v < -1
    · have := Int.mul_le_mul_of_nonneg_left (show u + v ≤ -2 by omega) (show 0 ≤ n by omega)
      omega
    · by_cases h' : 0 < u + v
      · have := Int.mul_le_mul_of_nonneg_left (show 1 ≤ u + v by omega) (show 0 ≤ n by omega)
        omega
      · omega
  rcases ht with ht | ht <;> rw [ht] at hsum
  · refine ⟨fun h => by omega, fun h => by omega, by omega⟩
  · refine ⟨fun h => by omega, fun h => by omega, by omega⟩
theorem mod_any (k n : Int) (hk : -9223372036854775808 ≤ k) (hk' : k ≤ 9223372036854775807) (hn : 1 ≤ n) (hn' : n ≤ 4611686018427387904) (w : World) :
    Calls Tryz.prog 6 #[.int .i64 k, .int .i64 n] w fun e w' => e = .returned (.int .i64 (k % n)) ∧ w = w' := by
  have hm0 := Int.emod_nonneg k (show n ≠ 0 by omega)
  have hm1 := Int.emod_lt_of_pos k (show 0 < n by omega)
  by_cases h0 : 0 ≤ k
  · have e : k.tmod n = k % n := Int.tmod_eq_emod_of_nonneg h0
    go_enter Tryz.func6, Tryz.ntmps6
    go_wp2
    go_ret
    exact ⟨rfl, rfl⟩
  · obtain ⟨t1, t2, t3⟩ := tmod_neg k n hn (by omega)
    have T1 := Lib.hid t1
    have T2 := Lib.hid t2
    clear t1 t2
    go_enter Tryz.func6, Tryz.ntmps6
    go_wp2
    · have hl : k.tmod n < 0 := by assumption
      go_ret
      exact ⟨by simp [T1.out hl], rfl⟩
    · have hl : 0 ≤ k.tmod n := by assumption
      go_ret
      exact ⟨by simp [T2.out hl], rfl⟩
theorem has_any (w : World) (m c : Nat) (L : List C3) (n : Int) (h : MemAt w m c L n) (i : Int) :
    Calls Tryz.prog 46 #[.pointer (some ⟨m, 0, none⟩), .int .i64 i] w fun e w' => e = .returned (.bool (memIn L i)) ∧ w = w' := by
  obtain ⟨⟨cap, h0⟩, h1, hfm, hfc, lm, lc⟩ := h.facts
  have hs := h.small
  by_cases a : 0 ≤ i
  · have e : memIn L i = decide (i < L.length) := by unfold memIn; simp [a]
    rw [e]
    go_enter Tryz.func46, Tryz.ntmps46
    go_wp2
    go_ret
    exact ⟨rfl, rfl⟩
  · have e : memIn L i = false := by unfold memIn; simp [a]
    rw [e]
    go_enter Tryz.func46, Tryz.ntmps46
    go_wp2
    go_ret
    exact ⟨rfl, rfl⟩
theorem cells_any (w : World) (m c : Nat) (L : List C3) (n : Int) (h : MemAt w m c L n) :
    Calls Tryz.prog 18 #[.pointer (some ⟨m, 0, none⟩)] w fun e w' => e = .returned (.int .i64 L.length) ∧ w = w' := by
  obtain ⟨⟨cap, h0⟩, h1, hfm, hfc, lm, lc⟩ := h.facts
  go_enter Tryz.func18, Tryz.ntmps18
  go_wp2
  go_ret
  exact ⟨rfl, rfl⟩
theorem accesses_any (w : World) (m c : Nat) (L : List C3) (n : Int) (h : MemAt w m c L n) :
    Calls Tryz.prog 13 #[.pointer (some ⟨m, 0, none⟩)] w fun e w' => e = .returned (.int .u64 n) ∧ w = w' := by
  obtain ⟨⟨cap, h0⟩, h1, hfm, hfc, lm, lc⟩ := h.facts
  go_enter Tryz.func13, Tryz.ntmps13
  go_wp2
  go_ret
  exact ⟨rfl, rfl⟩
theorem peek_any (w : World) (m c : Nat) (L : List C3) (n : Int) (h : MemAt w m c L n) (i : Int) :
    Calls Tryz.prog 97 #[.pointer (some ⟨m, 0, none⟩), .int .i64 i] w fun e w' =>
      e = .returned (.agg #[.int .u64 (memAt L i).N, .string (memAt L i).K, .int .u64 (memAt L i).M]) ∧ Keeps [] w w' := by
  obtain ⟨⟨cap, h0⟩, h1, hfm, hfc, lm, lc⟩ := h.facts
  have hs := h.small
  cases hi : memIn L i with
  | true =>
    obtain ⟨j, rfl, hj⟩ := memIn_nat L i hi
    obtain ⟨c0, c1, c2⟩ := h.at_ j _ (memAt_nat L j hj)
    have hb := fun w h => has_any w m c L n h j
    rw [hi] at hb
    clear hi
    go_enter Tryz.func97, Tryz.ntmps97
    go_wp2_with (go_at_call 46; refine (hb _ (h.alloc _)).mono ?_; rintro e w' ⟨rfl, rfl⟩)
    exact bodyPost_ret (v := .agg #[.int .u64 (memAt L j).N, .string (memAt L j).K, .int .u64 (memAt L j).M]) (by simp [results, Tryz.results97, go_sem]) rfl ⟨rfl, (Keeps.refl _ _).alloc _⟩
  | false =>
    rw [memAt_out L i hi]
    have hb := fun w h => has_any w m c L n h i
    rw [hi] at hb
    clear hi
    go_enter Tryz.func97, Tryz.ntmps97
    go_wp2_with (go_at_call 46; refine (hb _ (h.alloc _)).mono ?_; rintro e w' ⟨rfl, rfl⟩)
    exact bodyPost_ret (v := .agg #[.int .u64 C3.zero.N, .string C3.zero.K, .int .u64 C3.zero.M]) (by simp [results, Tryz.results97, go_sem, C3.zero]) rfl ⟨rfl, (Keeps.refl _ _).alloc _⟩
theorem load_any (w : World) (m c : Nat) (L : List C3) (n : Int) (h : MemAt w m c L n) (i : Int) (n0 : 0 ≤ n) (n1 : n ≤ 4611686018427387904) :
    Calls Tryz.prog 59 #[.pointer (some ⟨m, 0, none⟩), .int .i64 i] w fun e w' =>
      e = .returned (.agg #[.int .u64 (memAt L i).N, .string (memAt L i).K, .int .u64 (memAt L i).M]) ∧ MemAt w' m c L (n + 1) ∧ Keeps [m] w w' := by
  obtain ⟨⟨cap, h0⟩, h1, hfm, hfc, lm, lc⟩ := h.facts
  have hw1 := (h.count (n + 1)).alloc (.cells #[.int .u64 0, .string ⟨#[]⟩, .int .u64 0] 88)
  have hbx := Blk.new_at (w.setCell ⟨m, 1, none⟩ (.int .u64 (n + 1))) w.heap.size [.int .u64 0, .string ⟨#[]⟩, .int .u64 0] 88 (by simp)
  have hk0 : Keeps [m] w ((w.setCell ⟨m, 1, none⟩ (.int .u64 (n + 1))).alloc (.cells #[.int .u64 0, .string ⟨#[]⟩, .int .u64 0] 88)) := ((Keeps.refl _ _).setCell _ _ (.inl (by simp))).alloc _
  go_enter Tryz.func59, Tryz.ntmps59
  go_wp2_with fail
  refine (peek_any _ m c L (n + 1) hw1 i).mono ?_
  rintro e w1 ⟨rfl, hk⟩
  obtain ⟨q0, q1, q2, qf, ql⟩ := box3 hk hbx (by simp)
  have hw2 := hw1.keeps hk (by simp) (by simp)
  have hk2 := hk0.trans hk (by simp)
  clear hw1 hbx hk0
  go_wp2
  refine bodyPost_ret (v := .agg #[.int .u64 (memAt L i).N, .string (memAt L i).K, .int .u64 (memAt L i).M]) (by simp [results, Tryz.results59, go_sem, q0, q1, q2]) rfl ⟨rfl, ?_, ?_⟩
  · exact ((hw2.other _ _ (Nat.ne_of_lt lm) (Nat.ne_of_lt lc)).other _ _ (Nat.ne_of_lt lm) (Nat.ne_of_lt lc)).other _ _ (Nat.ne_of_lt lm) (Nat.ne_of_lt lc)
  · exact ((hk2.setCell _ _ (.inr (Nat.le_refl _))).setCell _ _ (.inr (Nat.le_refl _))).setCell _ _ (.inr (Nat.le_refl _))
theorem poke_any (w : World) (m c : Nat) (L : List C3) (n : Int) (h : MemAt w m c L n) (i N M : Int) (K : ByteArray) :
    Calls Tryz.prog 29 #[.pointer (some ⟨m, 0, none⟩), .int .i64 i, .agg #[.int .u64 N, .string K, .int .u64 M]] w fun e w' =>
      e = .returned (.tuple #[]) ∧ MemAt w' m c (memSet L i ⟨N, K, M⟩) n ∧ Keeps [c] w w' := by
  obtain ⟨⟨cap, h0⟩, h1, hfm, hfc, lm, lc⟩ := h.facts
  have hs := h.small
  cases hi : memIn L i with
  | true =>
    obtain ⟨j, rfl, hj⟩ := memIn_nat L i hi
    obtain ⟨c0, c1, c2⟩ := h.at_ j _ (memAt_nat L j hj)
    rw [memSet_nat]
    have hb := fun w h => has_any w m c L n h j
    rw [hi] at hb
    clear hi
    go_enter Tryz.func29, Tryz.ntmps29
    go_wp2_with (go_at_call 46; refine (hb _ (h.alloc _)).mono ?_; rintro e w' ⟨rfl, rfl⟩)
    go_region
    go_end0
    exact ⟨rfl, ((h.put j hj N M K).alloc _).drew, (((((Keeps.refl _ _).setCell _ _ (.inl (by simp))).setCell _ _ (.inl (by simp))).setCell _ _ (.inl (by simp))).alloc _).drew⟩
  | false =>
    rw [memSet_out L i _ hi]
    have hb := fun w h => has_any w m c L n h i
    rw [hi] at hb
    clear hi
    go_enter Tryz.func29, Tryz.ntmps29
    go_wp2_with (go_at_call 46; refine (hb _ (h.alloc _)).mono ?_; rintro e w' ⟨rfl, rfl⟩)
    go_end0
    exact ⟨rfl, h.alloc _, (Keeps.refl _ _).alloc _⟩
theorem store_any (w : World) (m c : Nat) (L : List C3) (n : Int) (h : MemAt w m c L n) (i N M : Int) (K : ByteArray) (n0 : 0 ≤ n) (n1 : n ≤ 4611686018427387904) :
    Calls Tryz.prog 69 #[.pointer (some ⟨m, 0, none⟩), .int .i64 i, .agg #[.int .u64 N, .string K, .int .u64 M]] w fun e w' =>
      e = .returned (.tuple #[]) ∧ MemAt w' m c (memSet L i ⟨N, K, M⟩) (n + 1) ∧ Keeps [m, c] w w' := by
  obtain ⟨⟨cap, h0⟩, h1, hfm, hfc, lm, lc⟩ := h.facts
  have hw1 := (h.count (n + 1)).alloc (.cells #[.int .u64 N, .string K, .int .u64 M] 88)
  have hk0 : Keeps [m, c] w ((w.setCell ⟨m, 1, none⟩ (.int .u64 (n + 1))).alloc (.cells #[.int .u64 N, .string K, .int .u64 M] 88)) := ((Keeps.refl _ _).setCell _ _ (.inl (by simp))).alloc _
  go_enter Tryz.func69, Tryz.ntmps69
  go_wp2_with fail
  refine (poke_any _ m c L (n + 1) hw1 i N M K).mono ?_
  rintro e w1 ⟨rfl, hm, hk⟩
  have hk2 := hk0.trans hk (by simp)
  clear hw1 hk0
  go_wp2
  go_end0
  exact ⟨rfl, hm, hk2⟩
theorem swap_any (w : World) (m c : Nat) (L : List C3) (n : Int) (h : MemAt w m c L n) (i o N M : Int) (K : ByteArray) (n0 : 0 ≤ n) (n1 : n ≤ 4611686018427387904) :
    Calls Tryz.prog 192 #[.pointer (some ⟨m, 0, none⟩), .int .i64 i, .int .u64 o, .agg #[.int .u64 N, .string K, .int .u64 M]] w fun e w' =>
      e = .returned (.bool (memIn L i && (memAt L i).N == o)) ∧ MemAt w' m c (if memIn L i && (memAt L i).N == o then memSet L i ⟨N, K, M⟩ else L) (n + 1) ∧ Keeps [m, c] w w' := by
  obtain ⟨⟨cap, h0⟩, h1, hfm, hfc, lm, lc⟩ := h.facts
  have hs := h.small
  have hw1 := (h.count (n + 1)).alloc (.cells #[.int .u64 N, .string K, .int .u64 M] 88)
  have hk0 : Keeps [m, c] w ((w.setCell ⟨m, 1, none⟩ (.int .u64 (n + 1))).alloc (.cells #[.int .u64 N, .string K, .int .u64 M] 88)) := ((Keeps.refl _ _).setCell _ _ (.inl (by simp))).alloc _
  cases hi : memIn L i with
  | true =>
    obtain ⟨j, rfl, hj⟩ := memIn_nat L i hi
    obtain ⟨c0, c1, c2⟩ := h.at_ j _ (memAt_nat L j hj)
    obtain ⟨d0, d1, d2⟩ := (h.count (n + 1)).at_ j _ (memAt_nat L j hj)
    have hb := fun w h => has_any w m c L (n + 1) h j
    rw [hi] at hb
    clear hi
    rw [memSet_nat]
    by_cases ho : (memAt L j).N = o
    · have ho' : ((memAt L j).N == o) = true := by simp [ho]
      have ho'' : ((memAt L j).N != o) = false := by simp [ho]
      simp only [ho', Bool.and_self, if_true]
      clear ho ho'
      go_enter Tryz.func192, Tryz.ntmps192
      go_wp2_with (go_at_call 46; refine (hb _ hw1).mono ?_; rintro e w' ⟨rfl, rfl⟩)
      go_region
      go_wp2
      go_ret
      exact ⟨rfl, (((h.count (n + 1)).put j hj N M K).alloc _).drew, ((((((Keeps.refl _ _).setCell _ _ (.inl (by simp))).setCell _ _ (.inl (by simp))).setCell _ _ (.inl (by simp))).setCell _ _ (.inl (by simp))).alloc _).drew⟩
    · have ho' : ((memAt L j).N == o) = false := by simp [ho]
      have ho'' : ((memAt L j).N != o) = true := by simp [ho]
      simp only [ho', Bool.and_false]
      clear ho ho'
      go_enter Tryz.func192, Tryz.ntmps192
      go_wp2_with (go_at_call 46; refine (hb _ hw1).mono ?_; rintro e w' ⟨rfl, rfl⟩)
      go_ret
      exact ⟨rfl, hw1, hk0⟩
  | false =>
    have hb := fun w h => has_any w m c L (n + 1) h i
    rw [hi] at hb
    clear hi
    go_enter Tryz.func192, Tryz.ntmps192
    go_wp2_with (go_at_call 46; refine (hb _ hw1).mono ?_; rintro e w' ⟨rfl, rfl⟩)
    go_ret
    exact ⟨rfl, hw1, hk0⟩
theorem new_no (k : Int) (h : k < 1 ∨ 1048576 < k) (w : World) :
    Calls Tryz.prog 27 #[.int .i64 k] w fun e w' => e = .returned (.tuple #[.pointer none, .int .i64 1]) ∧ Keeps [] w w' := by
  rcases h with h | h
  · go_enter Tryz.func27, Tryz.ntmps27
    go_wp2
    go_ret2
    exact ⟨rfl, Keeps.refl _ _⟩
  · have h' : ¬ k < 1 := by omega
    go_enter Tryz.func27, Tryz.ntmps27
    go_wp2
    go_ret2
    exact ⟨rfl, Keeps.refl _ _⟩
theorem infoCell : (Tryz.prog.info? 88).map (fun i => (i.zero, i.size, i.bytes)) = some (some (.agg #[.int .u64 0, .string ⟨#[]⟩, .int .u64 0]), 3, 32) := by kernel_rfl
theorem make_cells (k : Nat) (h : k ≤ 1048577) (w : World) :
    (Instr.makeSlice 75 (.int .i64 k) (.int .i64 k)).run Tryz.prog w = .ok (.slice (some ⟨w.heap.size, 0, none⟩) k k) (w.alloc (.cells (flat (List.replicate k C3.zero)).toArray 88)) := by
  obtain ⟨i, hi, hz0, hz1, hz2⟩ := info_parts infoCell
  have := run_make (P := Tryz.prog) w 75 88 i _ Tryz.underlying75 hi hz0 .i64 .i64 k k (by omega) (by omega) (by rw [hz2]; omega) (by omega)
  rw [hz1] at this
  rw [this]
  simp only [Int.toNat_natCast, Value.cells, made_flat]
theorem new_yes (k : Nat) (h : 1 ≤ k) (h' : k ≤ 1048576) (w : World) :
    Calls Tryz.prog 27 #[.int .i64 k] w fun e w' => ∃ m c, e = .returned (.tuple #[.pointer (some ⟨m, 0, none⟩), .int .i64 0]) ∧ MemAt w' m c (List.replicate k C3.zero) 0 ∧ w.heap.size ≤ m ∧ w.heap.size ≤ c ∧ Keeps [] w w' := by
  have hmk := make_cells k (by omega)
  go_enter Tryz.func27, Tryz.ntmps27
  go_wp2
  go_ret2
  have hb1 := Blk.new w (flat (List.replicate k C3.zero)) 88
  have hb2 := Blk.new_at (w.alloc (.cells (flat (List.replicate k C3.zero)).toArray 88)) (w.heap.size + 1) [.slice (some ⟨w.heap.size, 0, none⟩) k k, .int .u64 0] 77 (by simp)
  exact ⟨w.heap.size + 1, w.heap.size, rfl, ⟨⟨k, by rw [List.length_replicate]; exact hb2⟩, ⟨[], by rw [List.append_nil]; exact hb1.alloc _⟩, by omega, by rw [List.length_replicate]; omega, by rw [List.length_replicate]; omega⟩, by omega, Nat.le_refl _, ((Keeps.refl _ _).alloc _).alloc _⟩
end Go.Proofs.YtjmhnlbkfbieaaaGreat
