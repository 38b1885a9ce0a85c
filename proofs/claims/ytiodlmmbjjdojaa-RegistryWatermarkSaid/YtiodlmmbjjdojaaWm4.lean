/- The contracts of package registry: the Watermark's later steps. -/
import Derived.Test.YtiodlmmbjjdojaaWm3
namespace Go.Proofs.Ytiodlmmbjjdojaa
open Go.RowKit
set_option maxHeartbeats 1000000 in
theorem wmStep_last (w : World) (wm ab kb m c : Nat) (L : List C3) (n : Int) (T S N C R F K : Int) (k t : Int) (hc : CfgOK T S N C R F K) (h : WmS w wm ab kb T S N C R F K k t) (k0 : 0 ≤ k) (k1' : k < T * S) (hm : MemAt w m c L n) (n0 : 0 ≤ n) (n1 : n ≤ 4611686018427387904) (ha : wm ≠ m ∧ wm ≠ c ∧ ab ≠ m ∧ kb ≠ m ∧ ab ≠ wm ∧ kb ≠ wm) (x0 : 0 ≤ (memAt L (8 + k)).N) (x1 : (memAt L (8 + k)).N ≤ 18446744073709551615) (hl : k + 1 = T * S) :
    Calls Try.prog 16 #[.pointer (some ⟨wm, 0, none⟩), .pointer (some ⟨m, 0, none⟩)] w fun e w' => e = .returned (.bool true) ∧ WmD w' wm T S N C R F K (wmin t (memAt L (8 + k)).N) ∧ MemAt w' m c L (n + 1) ∧ Keeps [m, wm] w w' := by
  have hcon := Lib.hid (scan1_load w wm ab kb m c L n T S N C R F K k t hc h k0 k1' hm n0 n1 ha x0 x1)
  have h1o := h.self.o10
  have Hl := Lib.hid hl
  clear hl x0 x1 k0 k1'
  go_enter Try.func16, Try.ntmps16
  go_wp2_with fail
  go_in
  go_wp2_with fail
  refine hcon.out.mono ?_
  rintro e w5 ⟨nx, rfl, h2, h3, h4, h5, h6⟩
  obtain rfl := h2 Hl.out
  clear h2 h3 h1o
  have h4o := h4.o10
  go_wp2_with fail
  go_ret
  exact ⟨rfl, h4.set 0 _, h5.other _ _ (by simp; omega) (by simp; omega), h6.setCell _ _ (.inl (by simp))⟩
set_option maxHeartbeats 1000000 in
theorem wmStep_more (w : World) (wm ab kb m c : Nat) (L : List C3) (n : Int) (T S N C R F K : Int) (k t : Int) (hc : CfgOK T S N C R F K) (h : WmS w wm ab kb T S N C R F K k t) (k0 : 0 ≤ k) (k1' : k < T * S) (hm : MemAt w m c L n) (n0 : 0 ≤ n) (n1 : n ≤ 4611686018427387904) (ha : wm ≠ m ∧ wm ≠ c ∧ ab ≠ m ∧ kb ≠ m ∧ ab ≠ wm ∧ kb ≠ wm) (x0 : 0 ≤ (memAt L (8 + k)).N) (x1 : (memAt L (8 + k)).N ≤ 18446744073709551615) (hl : k + 1 < T * S) :
    Calls Try.prog 16 #[.pointer (some ⟨wm, 0, none⟩), .pointer (some ⟨m, 0, none⟩)] w fun e w' => e = .returned (.bool false) ∧ ∃ ab kb, WmS w' wm ab kb T S N C R F K (k + 1) (wmin t (memAt L (8 + k)).N) ∧ w.heap.size ≤ ab ∧ w.heap.size ≤ kb ∧ MemAt w' m c L (n + 1) ∧ Keeps [m, wm] w w' := by
  have hcon := Lib.hid (scan1_load w wm ab kb m c L n T S N C R F K k t hc h k0 k1' hm n0 n1 ha x0 x1)
  have h1o := h.self.o10
  have hwl := h.self.lt
  have Hl := Lib.hid hl
  clear hl x0 x1 k0 k1'
  go_enter Try.func16, Try.ntmps16
  go_wp2_with fail
  go_in
  go_wp2_with fail
  refine hcon.out.mono ?_
  rintro e w5 ⟨nx, rfl, h2, h3, h4, h5, h6⟩
  obtain ⟨ab', kb', rfl, g1, g2, g3, g4⟩ := h3 Hl.out
  clear h2 h3 h1o
  have h4o := h4.o10
  go_wp2_with fail
  go_ret
  exact ⟨rfl, ab', kb', ⟨h4.set 0 _, g1.other _ _ (by simp; omega), g2.other _ _ (by simp; omega)⟩, g3, g4, h5.other _ _ (by simp; omega) (by simp; omega), h6.setCell _ _ (.inl (by simp))⟩
theorem wmTime_done (w : World) (wm : Nat) (T S N C R F K : Int) (t : Int) (h : WmD w wm T S N C R F K t) :
    Calls Try.prog 18 #[.pointer (some ⟨wm, 0, none⟩)] w fun e w' => e = .returned (.int .u64 t) ∧ w = w' := by
  have h1o := Blk.o10 h
  go_enter Try.func18, Try.ntmps18
  go_wp2_with fail
  go_in
  go_wp2_with fail
  go_ret
  exact ⟨rfl, rfl⟩
end Go.Proofs.Ytiodlmmbjjdojaa
