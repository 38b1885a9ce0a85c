/- The contracts of package memory and of blinktreekit.Mod. Conditions: the memory lies in the heap as MemAt says. -/
import Derived.Test.YtkgmgnfcmnhhaaaProg
import Derived.Test.YtkgmgnfcmnhhaaaMemSpec
import Derived.Deep.QuietTactic
import Derived.BigQuiet
import Derived.Deep.RegionWith
namespace Go.Proofs.Ytkgmgnfcmnhhaaa
open Go.RowKit
@[go_sem] theorem field_Cell_N (a b c : Value) (w : World) : (Instr.field 106 (.agg #[a, b, c]) 0).run Try.prog w = .ok a w := by kernel_rfl
@[go_sem] theorem field_Cell_K (a b c : Value) (w : World) : (Instr.field 106 (.agg #[a, b, c]) 1).run Try.prog w = .ok b w := by kernel_rfl
@[go_sem] theorem field_Cell_M (a b c : Value) (w : World) : (Instr.field 106 (.agg #[a, b, c]) 2).run Try.prog w = .ok c w := by kernel_rfl
theorem tmod_neg (k n : Int) (hn : 1 ≤ n) (hk : k < 0) : (k.tmod n < 0 → k.tmod n + n = k % n) ∧ (0 ≤ k.tmod n → k.tmod n = k % n) ∧ -n < k.tmod n := by
  have e : k.tmod n = -((-k) % n) := by
    have := Int.neg_tmod (-k) n
    rw [Int.neg_neg] at this
    rw [this, Int.tmod_eq_emod_of_nonneg (by omega)]
  have a0 := Int.emod_nonneg k (show n ≠ 0 by omega)
  have a1 := Int.emod_lt_of_pos k (show 0 < n by omega)
  have b0 := Int.emod_nonneg (-k) (show n ≠ 0 by omega)
  have b1 := Int.emod_lt_of_pos (-k) (show 0 < n by omega)
  have d1 := Int.mul_ediv_add_emod k n
  have d2 := Int.mul_ediv_add_emod (-k) n
  rw [e]
  generalize hr : (-k) % n = r at *
  generalize hs : k % n = s at *
  generalize (-k) / n = u at *
  generalize k / n = v at *
  have hsum : n * (u + v) + (r + s) = 0 := by rw [Int.mul_add]; omega
  have ht : u + v = 0 ∨ u + v = -1 := by
    by_cases h : u + v < -1
    · have := Int.mul_le_mul_of_nonneg_left (show u + v ≤ -2 by omega) (show 0 ≤ n by omega)
      omega
    · by_cases h' : 0 < u + v
      · have := Int.mul_le_mul_of_nonneg_left (show 1 ≤ u + v by omega) (show 0 ≤ n by omega)
        omega
      · omega
  rcases ht with ht | ht <;> rw [ht] at hsum
  · refine ⟨fun h => by omega, fun h => by omega, by omega⟩
  · refine ⟨fun h => by omega, fun h => by omega, by omega⟩
theorem mod_any (k n : Int) (hk : -9223372036854775808 ≤ k) (hk' : k ≤ 9223372036854775807) (hn : 1 ≤ n) (hn' : n ≤ 4611686018427387904) (w : World) :
    Calls Try.prog 12 #[.int .i64 k, .int .i64 n] w fun e w' => e = .returned (.int .i64 (k % n)) ∧ w = w' := by
  have hm0 := Int.emod_nonneg k (show n ≠ 0 by omega)
  have hm1 := Int.emod_lt_of_pos k (show 0 < n by omega)
  by_cases h0 : 0 ≤ k
  · have e : k.tmod n = k % n := Int.tmod_eq_emod_of_nonneg h0
    go_enter Try.func12, Try.ntmps12
    go_wp2
    go_ret
    exact ⟨rfl, rfl⟩
  · obtain ⟨t1, t2, t3⟩ := tmod_neg k n hn (by omega)
    have T1 := Lib.hid t1
    have T2 := Lib.hid t2
    clear t1 t2
    go_enter Try.func12, Try.ntmps12
    go_wp2
    · have hl : k.tmod n < 0 := by assumption
      go_ret
      exact ⟨by simp [T1.out hl], rfl⟩
    · have hl : 0 ≤ k.tmod n := by assumption
      go_ret
      exact ⟨by simp [T2.out hl], rfl⟩
theorem has_any (w : World) (m c : Nat) (L : List C3) (n : Int) (h : MemAt w m c L n) (i : Int) :
    Calls Try.prog 57 #[.pointer (some ⟨m, 0, none⟩), .int .i64 i] w fun e w' => e = .returned (.bool (memIn L i)) ∧ w = w' := by
  obtain ⟨⟨cap, h0⟩, h1, hfm, hfc, lm, lc⟩ := h.facts
  have hs := h.small
  by_cases a : 0 ≤ i
  · have e : memIn L i = decide (i < L.length) := by unfold memIn; simp [a]
    rw [e]
    go_enter Try.func57, Try.ntmps57
    go_wp2
    go_ret
    exact ⟨rfl, rfl⟩
  · have e : memIn L i = false := by unfold memIn; simp [a]
    rw [e]
    go_enter Try.func57, Try.ntmps57
    go_wp2
    go_ret
    exact ⟨rfl, rfl⟩
theorem poke_any (w : World) (m c : Nat) (L : List C3) (n : Int) (h : MemAt w m c L n) (i N M : Int) (K : ByteArray) :
    Calls Try.prog 46 #[.pointer (some ⟨m, 0, none⟩), .int .i64 i, .agg #[.int .u64 N, .string K, .int .u64 M]] w fun e w' =>
      e = .returned (.tuple #[]) ∧ MemAt w' m c (memSet L i ⟨N, K, M⟩) n ∧ Keeps [c] w w' := by
  obtain ⟨⟨cap, h0⟩, h1, hfm, hfc, lm, lc⟩ := h.facts
  have hs := h.small
  cases hi : memIn L i with
  | true =>
    obtain ⟨j, rfl, hj⟩ := memIn_nat L i hi
    obtain ⟨c0, c1, c2⟩ := h.at_ j _ (memAt_nat L j hj)
    rw [memSet_nat]
    have hb := fun w h => has_any w m c L n h j
    rw [hi] at hb
    clear hi
    go_enter Try.func46, Try.ntmps46
    go_wp2_with (go_at_call 57; refine (hb _ (h.alloc _)).mono ?_; rintro e w' ⟨rfl, rfl⟩)
    go_region
    go_end0
    exact ⟨rfl, ((h.put j hj N M K).alloc _).drew, (((((Keeps.refl _ _).setCell _ _ (.inl (by simp))).setCell _ _ (.inl (by simp))).setCell _ _ (.inl (by simp))).alloc _).drew⟩
  | false =>
    rw [memSet_out L i _ hi]
    have hb := fun w h => has_any w m c L n h i
    rw [hi] at hb
    clear hi
    go_enter Try.func46, Try.ntmps46
    go_wp2_with (go_at_call 57; refine (hb _ (h.alloc _)).mono ?_; rintro e w' ⟨rfl, rfl⟩)
    go_end0
    exact ⟨rfl, h.alloc _, (Keeps.refl _ _).alloc _⟩
theorem new_no (k : Int) (h : k < 1 ∨ 1048576 < k) (w : World) :
    Calls Try.prog 44 #[.int .i64 k] w fun e w' => e = .returned (.tuple #[.pointer none, .int .i64 1]) ∧ Keeps [] w w' := by
  rcases h with h | h
  · go_enter Try.func44, Try.ntmps44
    go_wp2
    go_ret2
    exact ⟨rfl, Keeps.refl _ _⟩
  · have h' : ¬ k < 1 := by omega
    go_enter Try.func44, Try.ntmps44
    go_wp2
    go_ret2
    exact ⟨rfl, Keeps.refl _ _⟩
theorem infoCell : (Try.prog.info? 106).map (fun i => (i.zero, i.size, i.bytes)) = some (some (.agg #[.int .u64 0, .string ⟨#[]⟩, .int .u64 0]), 3, 32) := by kernel_rfl
theorem make_cells (k : Nat) (h : k ≤ 1048577) (w : World) :
    (Instr.makeSlice 123 (.int .i64 k) (.int .i64 k)).run Try.prog w = .ok (.slice (some ⟨w.heap.size, 0, none⟩) k k) (w.alloc (.cells (flat (List.replicate k C3.zero)).toArray 106)) := by
  obtain ⟨i, hi, hz0, hz1, hz2⟩ := info_parts infoCell
  have := run_make (P := Try.prog) w 123 106 i _ Try.underlying123 hi hz0 .i64 .i64 k k (by omega) (by omega) (by rw [hz2]; omega) (by omega)
  rw [hz1] at this
  rw [this]
  simp only [Int.toNat_natCast, Value.cells, made_flat]
theorem new_yes (k : Nat) (h : 1 ≤ k) (h' : k ≤ 1048576) (w : World) :
    Calls Try.prog 44 #[.int .i64 k] w fun e w' => ∃ m c, e = .returned (.tuple #[.pointer (some ⟨m, 0, none⟩), .int .i64 0]) ∧ MemAt w' m c (List.replicate k C3.zero) 0 ∧ w.heap.size ≤ m ∧ w.heap.size ≤ c ∧ Keeps [] w w' := by
  have hmk := make_cells k (by omega)
  go_enter Try.func44, Try.ntmps44
  go_wp2
  go_ret2
  have hb1 := Blk.new w (flat (List.replicate k C3.zero)) 106
  have hb2 := Blk.new_at (w.alloc (.cells (flat (List.replicate k C3.zero)).toArray 106)) (w.heap.size + 1) [.slice (some ⟨w.heap.size, 0, none⟩) k k, .int .u64 0] 125 (by simp)
  exact ⟨w.heap.size + 1, w.heap.size, rfl, ⟨⟨k, by rw [List.length_replicate]; exact hb2⟩, ⟨[], by rw [List.append_nil]; exact hb1.alloc _⟩, by omega, by rw [List.length_replicate]; omega, by rw [List.length_replicate]; omega⟩, by omega, Nat.le_refl _, ((Keeps.refl _ _).alloc _).alloc _⟩
end Go.Proofs.Ytkgmgnfcmnhhaaa
