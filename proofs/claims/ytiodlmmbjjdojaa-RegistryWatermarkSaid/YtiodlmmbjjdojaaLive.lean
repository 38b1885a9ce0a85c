/- The contract of registry.Live. -/
import Derived.Test.YtiodlmmbjjdojaaSort2
import Derived.Test.YtiodlmmbjjdojaaWm4
import Derived.Maps.AppendAt
namespace Go.Proofs.Ytiodlmmbjjdojaa
open Go.RowKit
/-- The timestamps in the first k cells of the registry. -/
def liveIn (L : List C3) (k : Nat) : List Int := (List.range k).filterMap fun (i : Nat) => if (memAt L (8 + (i : Int))).N = 0 then none else some ((memAt L (8 + (i : Int))).N - 1)
theorem liveIn_succ (L : List C3) (k : Nat) : liveIn L (k + 1) = liveIn L k ++ (if (memAt L (8 + (k : Int))).N = 0 then [] else [(memAt L (8 + (k : Int))).N - 1]) := by
  unfold liveIn
  rw [List.range_succ, List.filterMap_append]
  congr 1
  by_cases h : (memAt L (8 + (k : Int))).N = 0 <;> simp [h]
theorem liveIn_le (L : List C3) (k : Nat) : (liveIn L k).length ≤ k := by
  induction k with
  | zero => simp [liveIn]
  | succ k ih => rw [liveIn_succ, List.length_append]; split <;> simp <;> omega
/-- The slice v reads as ys, in a block from base on. -/
def Rd (w : World) (base : Nat) (v : Value) (ys : List Int) : Prop :=
  (ys = [] ∧ v = .slice none 0 0) ∨ ∃ b cap rest, v = .slice (some ⟨b, 0, none⟩) ys.length cap ∧ Blk w b (ys.map uV ++ rest) ∧ base ≤ b
theorem own_blk' {w : World} {base e size n : Nat} {v : Value} {xs : List Value} (h : w.ownsRow base e size v n xs) (hn : 0 < n) :
    ∃ g cap rest, v = .slice (some ⟨g, 0, none⟩) n cap ∧ base ≤ g ∧ Blk w g (xs ++ rest) := by
  obtain ⟨h1, h2⟩ := h
  rcases h2 with ⟨_, h0⟩ | ⟨g, cap, cur, hv, hg, hh, hnc, hcap, hsz, htk⟩
  · omega
  · refine ⟨g, cap, cur.toList.drop (n * size), hv, hg, e, ?_⟩
    rw [hh, ← htk, List.take_append_drop]
theorem info64 : (Try.prog.info? 22).map (fun i => (i.zero, i.size, i.bytes)) = some (some (.int .u64 0), 1, 8) := by kernel_rfl
set_option maxHeartbeats 4000000 in
theorem live_any (T S N C R F K : Int) (m c : Nat) (L : List C3) (n : Int) (hc : CfgOK T S N C R F K) (w : World) (hm : MemAt w m c L n) (E : Nat) (hE : (E : Int) = T * S) (hlen : (liveIn L E).length ≤ 12)
    (hcell : ∀ i : Nat, i < E → 0 ≤ (memAt L (8 + (i : Int))).N ∧ (memAt L (8 + (i : Int))).N ≤ 18446744073709551615) :
    Calls Try.prog 20 #[.agg #[.int .i64 T, .int .i64 S, .int .i64 N, .int .i64 C, .int .i64 R, .int .i64 F, .int .u64 K], .pointer (some ⟨m, 0, none⟩)] w fun e w' => ∃ v, e = .returned v ∧ Rd w' w.heap.size v (isort (liveIn L E)) ∧ Keeps [] w w' := by
  have q2 := hc.T1
  have q4 := hc.S1
  have q1 := hc.T0
  have q3 := hc.S0
  obtain ⟨z0, z1⟩ := prod_bounds (a := T) (b := S) (A := 64) (B := 8) (by omega) (by omega) (by omega) q4
  have hE2 : E ≤ 512 := by omega
  clear q1 q2 q3 q4 z0 z1
  have Hc := Lib.hid hcell
  have HE := Lib.hid hE
  clear hcell hE
  obtain ⟨i0, hi, hz0, hz1, hz2⟩ := info_parts info64
  go_enter Try.func20, Try.ntmps20
  go_wp2_with fail
  refine (entries_any T S N C R F K hc _).mono ?_
  rintro e w1 ⟨rfl, k1⟩
  have hl := k1.blk (Blk.new w [.int .i64 T, .int .i64 S, .int .i64 N, .int .i64 C, .int .i64 R, .int .i64 F, .int .u64 K] 29) (by simp)
  have K1 := ((Keeps.refl [] w).alloc (.cells #[.int .i64 T, .int .i64 S, .int .i64 N, .int .i64 C, .int .i64 R, .int .i64 F, .int .u64 K] 29)).trans k1 (by simp)
  have hm1 := hm.keeps K1 (by simp) (by simp)
  clear k1
  rw [← HE.out]
  go_wp2_with fail
  go_loopw [5, 10] (fun v i wr => ∃ k : Nat, k ≤ E ∧ i = .int .i64 k ∧ wr.ownsRow w1.heap.size 22 1 v (liveIn L k).length ((liveIn L k).map uV) ∧ Hid (liveIn L k = [] → v = .slice none 0 0) ∧ Keeps [] w1 wr) (fun _ i _ => E - (intOf i).toNat)
  case atStart => exact ⟨0, by omega, rfl, World.ownsRow_nil _ _ _ _, Lib.hid (fun _ => rfl), Keeps.refl _ _⟩
  case round =>
    obtain ⟨k, hk, rfl, hown, hnil, hkp⟩ := hrel
    by_cases hlt : k < E
    · have hlr := hkp.blk hl (by simp)
      have hlo := hlr.o7
      have hmr := hm1.keeps hkp (by simp) (by simp)
      have hk0 : (0 : Int) ≤ k := by omega
      have hkE : (k : Int) < T * S := by rw [← HE.out]; omega
      have HkE := Lib.hid hkE
      clear hkE
      obtain ⟨x0, x1⟩ := Hc.out k hlt
      obtain ⟨x, hx⟩ : ∃ x, (memAt L (8 + (k : Int))).N = x := ⟨_, rfl⟩
      have hli := liveIn_succ L k
      have hle := liveIn_le L k
      rw [hx] at x0 x1 hli
      have Hx := Lib.hid hx
      have Hli := Lib.hid hli
      have Hx0 := Lib.hid x0
      have Hx1 := Lib.hid x1
      clear hx hli x0 x1
      go_wp2_with fail
      refine (entry_any T S N C R F K hc k hk0 HkE.out _).mono ?_
      rintro e w2 ⟨rfl, k2⟩
      go_wp2_with fail
      refine (peek_any _ m c L n (hmr.keeps k2 (by simp) (by simp)) (8 + (k : Int))).mono ?_
      rintro e w3 ⟨rfl, k3⟩
      rw [Hx.out]
      have k13 := k2.trans k3 (by simp)
      have own3 := ownsRow_keeps hown k13 (by simp)
      have K3 := hkp.trans k13 (by simp)
      have s3 := K3.size
      clear k2 k3 k13 hlo hlr hmr hown
      by_cases hx0 : x = 0
      · have Hx0' := Lib.hid hx0
        clear hx0
        rw [Hx0'.out]
        go_wp2_with fail
        have hli : liveIn L (k + 1) = liveIn L k := by rw [Hli.out, if_pos Hx0'.out, List.append_nil]
        exact ⟨⟨k + 1, by omega, by go_num, by rw [hli]; exact own3, by rw [hli]; exact hnil, K3⟩, by simp [intOf]; omega⟩
      · have hb : (x != 0) = true := by simp [hx0]
        have hw : IntKind.u64.wrap (x - 1) = x - 1 := IntWalk.u64_in _ ⟨by have := Hx0.out; omega, by have := Hx1.out; omega⟩
        have hli : liveIn L (k + 1) = liveIn L k ++ [x - 1] := by rw [Hli.out, if_neg hx0]
        have Hl2 := Lib.hid hli
        have Hxn := Lib.hid hx0
        clear hx0 hli
        have own4 := own3.alloc (.cells #[uV (x - 1)] 22)
        go_wp2_with (at_builtin; refine wpList_append_own _ rfl _ _ 23 rfl w1.heap.size 22 i0 _ 1 8 Try.underlying23 hi hz0 hz1 hz2 rfl (by decide) _ _ _ rfl own4 ⟨w3.heap.size, 0, none⟩ 1 1 [uV (x - 1)] rfl rfl ?c1 ?c2 ?c3 ?c4 ?c5 ?_)
        case c1 => exact cell_one_new _ _ _
        case c2 => simp [uV, Value.oneCell']
        case c3 => unfold maxLen; omega
        case c4 => omega
        case c5 => simp; omega
        intro v' w6 hown6 hgr _
        have K6 : Keeps [] w1 w6 := by
          refine (K3.alloc (.cells #[uV (x - 1)] 22)).trans (Keeps.of_grownBy hgr (u5.ownBlock).toList (fun g hg => by rw [hg]; simp)) (fun g hg => .inr ?_)
          exact (own3.lt g (by simpa using hg)).1
        have hown7 : w6.ownsRow w1.heap.size 22 1 v' (liveIn L (k + 1)).length ((liveIn L (k + 1)).map uV) := by
          rw [Hl2.out, List.length_append, List.map_append]; exact hown6
        clear hown6 own3 own4 hgr
        go_wp2_with fail
        exact ⟨⟨k + 1, by omega, by go_num, hown7, Lib.hid (fun h => by rw [Hl2.out] at h; simp at h), K6⟩, by simp [intOf]; omega⟩
    · obtain rfl : k = E := by omega
      by_cases hz : liveIn L k = []
      · obtain rfl := hnil.out hz
        go_wp2_with fail
        refine (sort_nil _).mono ?_
        rintro e w5 ⟨rfl, k5⟩
        go_wp2_with fail
        go_ret
        exact ⟨_, rfl, .inl ⟨by rw [hz]; rfl, rfl⟩, (K1.trans hkp (by simp)).trans k5 (by simp)⟩
      · have hpos : 0 < (liveIn L k).length := List.length_pos_iff.2 hz
        obtain ⟨g, cap, rest, rfl, hg, hgb⟩ := own_blk' hown hpos
        have s1 := K1.size
        go_wp2_with fail
        refine (sort_any (liveIn L k) g cap rest _ hgb hlen).mono ?_
        rintro e w5 ⟨rfl, h5, k5⟩
        go_wp2_with fail
        go_ret
        exact ⟨.slice (some ⟨g, 0, none⟩) (liveIn L k).length cap, rfl, .inr ⟨g, cap, rest, by rw [isort_length], h5, by omega⟩, (K1.trans hkp (by simp)).trans k5 (by intro j hj; simp at hj; omega)⟩
set_option maxHeartbeats 1000000 in
theorem same64_eq (w : World) (b1 b2 c1 c2 : Nat) (X : List Int) (r1 r2 : List Value) (h1 : Blk w b1 (X.map uV ++ r1)) (h2 : Blk w b2 (X.map uV ++ r2)) (hx : X.length ≤ 1048577) :
    Calls Try.prog 19 #[.slice (some ⟨b1, 0, none⟩) X.length c1, .slice (some ⟨b2, 0, none⟩) X.length c2] w fun e w' => e = .returned (.bool true) ∧ Keeps [] w w' := by
  have hself : ((X.length : Int) != (X.length : Int)) = false := by simp
  have hc : ∀ k, k < X.length → ∃ x : Int, w.cell? ⟨b1, k, none⟩ = some (.int .u64 x) ∧ w.cell? ⟨b2, k, none⟩ = some (.int .u64 x) := by
    intro k hk
    refine ⟨X[k], ?_, ?_⟩
    · rw [h1.cell, List.getElem?_append_left (by simpa using hk)]; simp [hk, uV]
    · rw [h2.cell, List.getElem?_append_left (by simpa using hk)]; simp [hk, uV]
  have Hc := Lib.hid hc
  clear hc h1 h2
  go_enter Try.func19, Try.ntmps19
  go_wp2_with fail
  go_loopw [5] (fun i wr => ∃ k : Nat, k ≤ X.length ∧ i = .int .i64 k ∧ ∃ j, wr = w.drewN j) (fun i _ => X.length - (intOf i).toNat)
  case atStart => exact ⟨0, by omega, rfl, 0, rfl⟩
  case round =>
    obtain ⟨k, hk, rfl, j, rfl⟩ := hrel
    by_cases hlt : k < X.length
    · obtain ⟨x, e1, e2⟩ := Hc.out k hlt
      have hne : (x != x) = false := by simp
      have hk0 : (0 : Int) ≤ k := by omega
      have hk1 : (k : Int) < X.length := by omega
      go_wp2_with fail
      go_quiet (fail)
      go_wp2_with fail
      exact ⟨⟨k + 1, by omega, by go_num, _, rfl⟩, by simp [intOf]; omega⟩
    · go_wp2_with fail
      go_ret
      exact ⟨rfl, (Keeps.refl [] w).drewN j⟩
theorem same64_nil (w : World) :
    Calls Try.prog 19 #[.slice none 0 0, .slice none 0 0] w fun e w' => e = .returned (.bool true) ∧ Keeps [] w w' := by
  go_enter Try.func19, Try.ntmps19
  go_wp2_with fail
  go_loopw [5] (fun i wr => i = .int .i64 0 ∧ wr = w) (fun _ _ => 0)
  case atStart => exact ⟨rfl, rfl⟩
  case round =>
    obtain ⟨rfl, rfl⟩ := hrel
    go_wp2_with fail
    go_ret
    exact ⟨rfl, Keeps.refl _ _⟩
set_option maxHeartbeats 1000000 in
theorem config_kit (t f : Int) (f0 : -9223372036854775808 ≤ f) (f1 : f ≤ 9223372036854775807) (w : World) :
    Calls Try.prog 8 #[.int .i64 t, .int .i64 f] w fun e w' => e = .returned (.agg #[.int .i64 t, .int .i64 2, .int .i64 100, .int .i64 100, .int .i64 200, .int .i64 (4 + f % 3), .int .u64 1000]) ∧ Keeps [] w w' := by
  have hm0 := Int.emod_nonneg f (show (3 : Int) ≠ 0 by omega)
  have hm1 := Int.emod_lt_of_pos f (show (0 : Int) < 3 by omega)
  go_enter Try.func8, Try.ntmps8
  go_wp2_with fail
  refine (mod_any f 3 f0 f1 (by omega) (by omega) _).mono ?_
  rintro e w' ⟨rfl, rfl⟩
  go_wp2_with fail
  exact bodyPost_ret (v := .agg #[.int .i64 t, .int .i64 2, .int .i64 100, .int .i64 100, .int .i64 200, .int .i64 (4 + f % 3), .int .u64 1000]) (by simp [results, Try.results8, go_sem]) rfl ⟨rfl, (Keeps.refl _ _).alloc _⟩
end Go.Proofs.Ytiodlmmbjjdojaa
