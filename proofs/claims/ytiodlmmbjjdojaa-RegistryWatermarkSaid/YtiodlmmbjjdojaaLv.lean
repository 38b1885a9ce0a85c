/- registry.Live for at most 25 open snapshots. -/
import Derived.Test.YtiodlmmbjjdojaaLive
import Derived.Test.YtiodlmmbjjdojaaPdS
namespace Go.Proofs.Ytiodlmmbjjdojaa
open Go.RowKit
set_option maxHeartbeats 4000000 in
theorem live25_any (T S N C R F K : Int) (m c : Nat) (L : List C3) (n : Int) (hc : CfgOK T S N C R F K) (w : World) (hm : MemAt w m c L n) (E : Nat) (hE : (E : Int) = T * S) (hlen : (liveIn L E).length ≤ 25)
    (hcell : ∀ i : Nat, i < E → 0 ≤ (memAt L (8 + (i : Int))).N ∧ (memAt L (8 + (i : Int))).N ≤ 18446744073709551615) :
    Calls Try.prog 20 #[.agg #[.int .i64 T, .int .i64 S, .int .i64 N, .int .i64 C, .int .i64 R, .int .i64 F, .int .u64 K], .pointer (some ⟨m, 0, none⟩)] w fun e w' => ∃ v, e = .returned v ∧ Rd w' w.heap.size v (isort (liveIn L E)) ∧ Keeps [] w w' := by
  have q2 := hc.T1
  have q4 := hc.S1
  have q1 := hc.T0
  have q3 := hc.S0
  obtain ⟨z0, z1⟩ := prod_bounds (a := T) (b := S) (A := 64) (B := 8) (by omega) (by omega) (by omega) q4
  have hE2 : E ≤ 512 := by omega
  clear q1 q2 q3 q4 z0 z1
  have Hc := Lib.hid hcell
  have HE := Lib.hid hE
  clear hcell hE
  obtain ⟨i0, hi, hz0, hz1, hz2⟩ := info_parts info64
  go_enter Try.func20, Try.ntmps20
  go_wp2_with fail
  refine (entries_any T S N C R F K hc _).mono ?_
  rintro e w1 ⟨rfl, k1⟩
  have hl := k1.blk (Blk.new w [.int .i64 T, .int .i64 S, .int .i64 N, .int .i64 C, .int .i64 R, .int .i64 F, .int .u64 K] 29) (by simp)
  have K1 := ((Keeps.refl [] w).alloc (.cells #[.int .i64 T, .int .i64 S, .int .i64 N, .int .i64 C, .int .i64 R, .int .i64 F, .int .u64 K] 29)).trans k1 (by simp)
  have hm1 := hm.keeps K1 (by simp) (by simp)
  clear k1
  rw [← HE.out]
  go_wp2_with fail
  go_loopw [5, 10] (fun v i wr => ∃ k : Nat, k ≤ E ∧ i = .int .i64 k ∧ wr.ownsRow w1.heap.size 22 1 v (liveIn L k).length ((liveIn L k).map uV) ∧ Hid (liveIn L k = [] → v = .slice none 0 0) ∧ Keeps [] w1 wr) (fun _ i _ => E - (intOf i).toNat)
  case atStart => exact ⟨0, by omega, rfl, World.ownsRow_nil _ _ _ _, Lib.hid (fun _ => rfl), Keeps.refl _ _⟩
  case round =>
    obtain ⟨k, hk, rfl, hown, hnil, hkp⟩ := hrel
    by_cases hlt : k < E
    · have hlr := hkp.blk hl (by simp)
      have hlo := hlr.o7
      have hmr := hm1.keeps hkp (by simp) (by simp)
      have hk0 : (0 : Int) ≤ k := by omega
      have hkE : (k : Int) < T * S := by rw [← HE.out]; omega
      have HkE := Lib.hid hkE
      clear hkE
      obtain ⟨x0, x1⟩ := Hc.out k hlt
      obtain ⟨x, hx⟩ : ∃ x, (memAt L (8 + (k : Int))).N = x := ⟨_, rfl⟩
      have hli := liveIn_succ L k
      have hle := liveIn_le L k
      rw [hx] at x0 x1 hli
      have Hx := Lib.hid hx
      have Hli := Lib.hid hli
      have Hx0 := Lib.hid x0
      have Hx1 := Lib.hid x1
      clear hx hli x0 x1
      go_wp2_with fail
      refine (entry_any T S N C R F K hc k hk0 HkE.out _).mono ?_
      rintro e w2 ⟨rfl, k2⟩
      go_wp2_with fail
      refine (peek_any _ m c L n (hmr.keeps k2 (by simp) (by simp)) (8 + (k : Int))).mono ?_
      rintro e w3 ⟨rfl, k3⟩
      rw [Hx.out]
      have k13 := k2.trans k3 (by simp)
      have own3 := ownsRow_keeps hown k13 (by simp)
      have K3 := hkp.trans k13 (by simp)
      have s3 := K3.size
      clear k2 k3 k13 hlo hlr hmr hown
      by_cases hx0 : x = 0
      · have Hx0' := Lib.hid hx0
        clear hx0
        rw [Hx0'.out]
        go_wp2_with fail
        have hli : liveIn L (k + 1) = liveIn L k := by rw [Hli.out, if_pos Hx0'.out, List.append_nil]
        exact ⟨⟨k + 1, by omega, by go_num, by rw [hli]; exact own3, by rw [hli]; exact hnil, K3⟩, by simp [intOf]; omega⟩
      · have hb : (x != 0) = true := by simp [hx0]
        have hw : IntKind.u64.wrap (x - 1) = x - 1 := IntWalk.u64_in _ ⟨by have := Hx0.out; omega, by have := Hx1.out; omega⟩
        have hli : liveIn L (k + 1) = liveIn L k ++ [x - 1] := by rw [Hli.out, if_neg hx0]
        have Hl2 := Lib.hid hli
        have Hxn := Lib.hid hx0
        clear hx0 hli
        have own4 := own3.alloc (.cells #[uV (x - 1)] 22)
        go_wp2_with (at_builtin; refine wpList_append_own _ rfl _ _ 23 rfl w1.heap.size 22 i0 _ 1 8 Try.underlying23 hi hz0 hz1 hz2 rfl (by decide) _ _ _ rfl own4 ⟨w3.heap.size, 0, none⟩ 1 1 [uV (x - 1)] rfl rfl ?c1 ?c2 ?c3 ?c4 ?c5 ?_)
        case c1 => exact cell_one_new _ _ _
        case c2 => simp [uV, Value.oneCell']
        case c3 => unfold maxLen; omega
        case c4 => omega
        case c5 => simp; omega
        intro v' w6 hown6 hgr _
        have K6 : Keeps [] w1 w6 := by
          refine (K3.alloc (.cells #[uV (x - 1)] 22)).trans (Keeps.of_grownBy hgr (u5.ownBlock).toList (fun g hg => by rw [hg]; simp)) (fun g hg => .inr ?_)
          exact (own3.lt g (by simpa using hg)).1
        have hown7 : w6.ownsRow w1.heap.size 22 1 v' (liveIn L (k + 1)).length ((liveIn L (k + 1)).map uV) := by
          rw [Hl2.out, List.length_append, List.map_append]; exact hown6
        clear hown6 own3 own4 hgr
        go_wp2_with fail
        exact ⟨⟨k + 1, by omega, by go_num, hown7, Lib.hid (fun h => by rw [Hl2.out] at h; simp at h), K6⟩, by simp [intOf]; omega⟩
    · obtain rfl : k = E := by omega
      by_cases hz : liveIn L k = []
      · obtain rfl := hnil.out hz
        go_wp2_with fail
        refine (sort_nil _).mono ?_
        rintro e w5 ⟨rfl, k5⟩
        go_wp2_with fail
        go_ret
        exact ⟨_, rfl, .inl ⟨by rw [hz]; rfl, rfl⟩, (K1.trans hkp (by simp)).trans k5 (by simp)⟩
      · have hpos : 0 < (liveIn L k).length := List.length_pos_iff.2 hz
        obtain ⟨g, cap, rest, rfl, hg, hgb⟩ := own_blk' hown hpos
        have s1 := K1.size
        go_wp2_with fail
        refine (sort25_any (liveIn L k) g cap rest _ hgb hlen).mono ?_
        rintro e w5 ⟨rfl, h5, k5⟩
        go_wp2_with fail
        go_ret
        exact ⟨.slice (some ⟨g, 0, none⟩) (liveIn L k).length cap, rfl, .inr ⟨g, cap, rest, by rw [isort_length], h5, by omega⟩, (K1.trans hkp (by simp)).trans k5 (by intro j hj; simp at hj; omega)⟩
end Go.Proofs.Ytiodlmmbjjdojaa
