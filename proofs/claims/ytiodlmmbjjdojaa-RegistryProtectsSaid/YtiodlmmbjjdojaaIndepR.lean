/- The walk of RegistryIsIndependent. -/
import Derived.Test.YtiodlmmbjjdojaaAwake18
import Derived.Test.YtiodlmmbjjdojaaOpRun
import Derived.Deep.CutBlock
namespace Go.Proofs.Ytiodlmmbjjdojaa
open Go.RowKit
theorem cfgN (n : Nat) (h1 : 1 ≤ n) (h2 : n ≤ 64) : CfgOK (n : Int) 2 100 100 200 4 1000 := ⟨by omega, by omega, by omega, by omega, by omega, by omega, by omega, by omega, by omega, by omega, by omega, by omega, by omega, by omega⟩
theorem made_ones (z : Value) (k : Nat) : madeCells #[z] (k * 1) = Array.replicate k z := by
  apply Array.ext'
  apply List.ext_getElem?
  intro i
  by_cases hi : i < k
  · simp [madeCells, hi, Nat.mod_one]
  · rw [List.getElem?_eq_none (by simp [madeCells]; omega), List.getElem?_eq_none (by simp; omega)]
theorem make_u64s (k : Nat) (h : k ≤ 1048577) (w : World) :
    (Instr.makeSlice 23 (.int .i64 k) (.int .i64 k)).run Try.prog w = .ok (.slice (some ⟨w.heap.size, 0, none⟩) k k) (w.alloc (.cells (Array.replicate k (.int .u64 0)) 22)) := by
  obtain ⟨i, hi, hz0, hz1, hz2⟩ := info_parts info64
  have := run_make (P := Try.prog) w 23 22 i _ Try.underlying23 hi hz0 .i64 .i64 k k (by omega) (by omega) (by rw [hz2]; omega) (by omega)
  rw [hz1] at this
  rw [this]
  simp only [Int.toNat_natCast, Value.cells, made_ones]
/-- What the law holds at the head of a round. -/
structure RI (w : World) (m c pb : Nat) (n : Nat) (L : List C3) (op : List Int) (q now : Int) : Prop where
  mem : MemAt w m c L q
  opn : Blk w pb (op.map uV)
  len : L.length = 1508 + 2 * n
  ol : op.length = 2 * n
  cell : ∀ (j : Nat) (x : Int), op[j]? = some x → (memAt L (8 + (j : Int))).N = x ∧ 0 ≤ x ∧ x ≤ 1000
  pub : (memAt L 2).N = now
  ne : pb ≠ m ∧ pb ≠ c
theorem RI.keeps {w w' : World} {m c pb n : Nat} {L : List C3} {op : List Int} {q now : Int} (h : RI w m c pb n L op q now) {S : List Nat} (k : Keeps S w w') (h1 : m ∉ S) (h2 : c ∉ S) (h3 : pb ∉ S) : RI w' m c pb n L op q now :=
  ⟨h.mem.keeps k h1 h2, k.blk h.opn h3, h.len, h.ol, h.cell, h.pub, h.ne⟩
set_option maxRecDepth 100000 in
set_option maxHeartbeats 4000000 in
theorem registryIsIndependent_any (th : Int) (s0 : -9223372036854775808 ≤ th) (s1 : th ≤ 9223372036854775807) (A : Option Addr) (cap b o : Nat) (xs : List Nat) (w : World)
    (hA : 0 < xs.length → A = some ⟨b, o, none⟩) (hx : Arr w b o (xs.map vU8)) (hlen : xs.length ≤ 9223372036854775807) (hxs : ∀ x, x ∈ xs → x ≤ 255) :
    Calls Try.prog 6 #[.int .i64 th, .slice A xs.length cap] w fun e w' => e = .returned (.bool true) ∧ Keeps [] w w' := by
  have hm0 := Int.emod_nonneg th (show (4 : Int) ≠ 0 by omega)
  have hm1 := Int.emod_lt_of_pos th (show (0 : Int) < 4 by omega)
  obtain ⟨r, hr⟩ : ∃ r : Nat, th % 4 = r := ⟨(th % 4).toNat, by omega⟩
  rw [hr] at hm0 hm1
  have Hr := Lib.hid hr
  clear hr
  obtain ⟨n, hn, hn1, hn4⟩ : ∃ n : Nat, 1 + (r : Int) = n ∧ 1 ≤ n ∧ n ≤ 4 := ⟨1 + r, by omega, by omega, by omega⟩
  have hc := cfgN n hn1 (by omega)
  have hmk : ∀ w, (Instr.makeSlice 23 (.int .i64 (2 * (n : Int))) (.int .i64 (2 * (n : Int)))).run Try.prog w = .ok (.slice (some ⟨w.heap.size, 0, none⟩) (2 * n) (2 * n)) (w.alloc (.cells (Array.replicate (2 * n) (.int .u64 0)) 22)) := fun w => make_u64s (2 * n) (by omega) w
  have HA := Lib.hid hA
  clear hA
  go_enter Try.func6, Try.ntmps6
  go_wp2_with fail
  refine (mod_any th 4 s0 s1 (by omega) (by omega) _).mono ?_
  rintro e w' ⟨rfl, rfl⟩
  rw [Hr.out]
  go_wp2_with fail
  have Hn := Lib.hid hn
  clear hn
  refine (config_kit n 0 (by omega) (by omega) _).mono ?_
  rintro e w1 ⟨rfl, k1⟩
  go_wp2_with fail
  refine (kitMemory_yes n 2 100 100 200 4 1000 hc (1508 + 2 * n) (by omega) _).mono ?_
  rintro e w2 ⟨m, c, rfl, hm2, hm, hcc, k2⟩
  have K2 := k1.trans k2 (by simp)
  have s1' := k1.size
  have hl2 := Blk.new w2 [.int .i64 n, .int .i64 2, .int .i64 100, .int .i64 100, .int .i64 200, .int .i64 4, .int .u64 1000] 29
  have K3 := K2.alloc (.cells #[.int .i64 n, .int .i64 2, .int .i64 100, .int .i64 100, .int .i64 200, .int .i64 4, .int .u64 1000] 29)
  have hm3 := hm2.alloc (.cells #[.int .i64 n, .int .i64 2, .int .i64 100, .int .i64 100, .int .i64 200, .int .i64 4, .int .u64 1000] 29)
  have hml := hm2.lt
  go_wp2_with fail
  refine (awake18_any _).mono ?_
  rintro e w4 ⟨rfl, k4⟩
  have hl4 := k4.blk hl2 (by simp)
  have hm4 := hm3.keeps k4 (by simp) (by simp)
  have K4 := K3.trans k4 (by simp)
  clear hm2 hm3 hl2 K2 K3 k1 k2 k4
  by_cases hl : 60 < xs.length
  · go_wp2_with fail
    refine (awake18_any _).mono ?_
    rintro e w5 ⟨rfl, k5⟩
    go_wp2_with fail
    go_ret
    exact ⟨rfl, K4.trans k5 (by simp)⟩
  · have hx4 := hx.keeps K4 (by simp)
    go_wp2_with fail
    have hlt4 := hm4.lt
    have hl4l := hl4.lt
    have K4s := K4.size
    have hl5 := hl4.alloc (.cells (Array.replicate (2 * n) (.int .u64 0)) 22)
    have hri : RI (w4.alloc (.cells (Array.replicate (2 * n) (.int .u64 0)) 22)) m c w4.heap.size n (cells0 (1508 + 2 * n) (8 + (n : Int) * 2 + 2)) (List.replicate (2 * n) 0) 0 0 := by
      refine ⟨hm4.alloc _, ?_, by rw [cells0_length], by simp, ?_, ?_, by omega, by omega⟩
      · have := Blk.rep_at w4 w4.heap.size (2 * n) (.int .u64 0) 22 rfl
        rw [List.map_replicate]
        exact this
      · intro j x hj
        obtain ⟨hj1, hj2⟩ := List.getElem?_eq_some_iff.1 hj
        simp at hj1 hj2
        subst hj2
        refine ⟨?_, by omega, by omega⟩
        by_cases h : (8 + (j : Int)) = 8 + (n : Int) * 2 + 2
        · omega
        · rw [memAt_cells0 _ _ _ (by omega) (by omega) h]; rfl
      · rw [memAt_cells0 _ _ _ (by omega) (by omega) (by omega)]; rfl
    go_loopw [9, 10] (fun nw i wr => ∃ (k : Nat) (L : List C3) (op : List Int) (q now : Nat), k ≤ xs.length ∧ i = .int .i64 k ∧ nw = .int .u64 now ∧ now ≤ k ∧ q ≤ 4 * k ∧ RI wr m c w4.heap.size n L op q now ∧ Keeps [m, c, w4.heap.size] w4 wr) (fun _ i _ => xs.length - (intOf i).toNat)
    case atStart => exact ⟨0, _, _, 0, 0, by omega, rfl, rfl, by omega, by omega, hri, (Keeps.refl _ _).alloc _⟩
    case round =>
      obtain ⟨k, L, op, q, now, hk, rfl, rfl, hnk, hqk, hr, hkr⟩ := hrel
      by_cases hlt : k < xs.length
      · obtain rfl := HA.out (by omega)
        have hbl : b < w.heap.size := hx.lt (by simp; omega)
        have hxk := (hx4.keeps hkr (by simp; omega)).cells k (by simpa using hlt)
        obtain ⟨p, hp⟩ : ∃ p, xs[k]? = some p := ⟨xs[k], by simp [hlt]⟩
        rw [List.getElem?_map, hp] at hxk
        simp only [Option.map_some, vU8] at hxk
        have hp255 := hxs p (List.mem_of_getElem? hp)
        clear hp
        have hlr := hkr.blk hl4 (by simp; omega)
        have hlo := hlr.o7
        go_upto_block 2 with fail
        obtain ⟨i, hi, hin⟩ : ∃ i : Nat, (p : Int) / 4 % (2 * (n : Int)) = i ∧ i < 2 * n := ⟨p / 4 % (2 * n), by simp, Nat.mod_lt _ (by omega)⟩
        rw [hi]
        clear hi
        go_cut [9] (fun nw wx => ∃ (L : List C3) (op : List Int) (q now : Nat), nw = .int .u64 now ∧ now ≤ k + 1 ∧ q ≤ 4 * k + 4 ∧ RI wx m c w4.heap.size n L op q now ∧ Keeps [m, c, w4.heap.size] w4 wx)
        case first =>
          obtain ⟨x, hxo⟩ : ∃ x, op[i]? = some x := ⟨op[i]'(by rw [hr.ol]; exact hin), by simp [hr.ol, hin]⟩
          obtain ⟨hx1, hx2, hx3⟩ := hr.cell i x hxo
          have hrm := hr.mem
          have hro := hr.opn
          have hrl := hr.len
          have hrol := hr.ol
          have hne := hr.ne
          have hml2 := hrm.lt
          have hol2 := hro.lt
          have oi : wr.cell? ⟨w4.heap.size, i, none⟩ = some (.int .u64 x) := by rw [hro.cell]; simp [hxo, uV]
          have of := hro.frozen
          have kB : ∀ w', Keeps [m, c] wr w' → Keeps [m, c, w4.heap.size] w4 w' := fun w' k => hkr.trans k (by intro j hj; left; simp at hj ⊢; omega)
          by_cases hp4 : p % 4 = 0
          · have ht : ((p : Int) % 4 == 0) = true := by rw [beq_iff_eq]; omega
            go_wp2_with fail
            refine (poke_any _ m c L q hrm 2 (now + 1) 0 ⟨#[]⟩).mono ?_
            rintro e w5 ⟨rfl, h5, k5⟩
            have hro5 := k5.blk hro (by simp; omega)
            go_wp2_with fail
            go_meet
            refine ⟨memSet L 2 ⟨now + 1, ⟨#[]⟩, 0⟩, op, q, now + 1, by go_num, by omega, by omega, ⟨h5, hro5, by rw [memSet_length]; exact hrl, hrol, ?_, ?_, hne⟩, kB _ (k5.mono (by intro j hj; left; simp at hj ⊢; omega))⟩
            · intro j y hj
              rw [memAt_set_other _ _ _ _ (by omega)]
              exact hr.cell j y hj
            · rw [memAt_set_same _ _ _ (by omega) (by omega)]
              simp
          · have ht : ((p : Int) % 4 == 0) = false := by rw [beq_eq_false_iff_ne]; omega
            have hi2 : (i : Int) / 2 < n := by omega
            by_cases hx0 : x = 0
            · subst hx0
              go_wp2_with fail
              refine (op0_new n 2 100 100 200 4 1000 hc ((i : Int) / 2) ((i : Int) % 2) (by omega) hi2 (by omega) (by omega) _).mono ?_
              rintro e w5 ⟨ob, rfl, ho5, k5⟩
              have h5 := hrm.keeps k5 (by simp) (by simp)
              have X5 : Keeps [m, c] wr w5 := k5.mono (by simp)
              rw [show (8 : Int) + (i : Int) / 2 * 2 + (i : Int) % 2 = 8 + (i : Int) by omega] at ho5
              go_wp2_with fail
              refine wp_loop_rounds 4 ?_
              rw [rounds_succ]
              go_wp2_with fail
              refine (op0_step (X := [m, c]) ho5 h5 (by omega) (by omega) hml2.1 hml2.2 (by simp) X5).mono ?_
              rintro e w6 ⟨rfl, ho6, h6, X6⟩
              go_wp2_with fail
              rw [rounds_succ]
              go_wp2_with fail
              refine (op1_step (X := [m, c]) ho6 h6 (by omega) (by omega) hml2.1 hml2.2 (by simp) X6).mono ?_
              rintro e w7 ⟨rfl, ho7, h7, X7⟩
              rw [memAt_set_other _ _ _ _ (by omega), hr.pub] at ho7
              go_wp2_with fail
              rw [rounds_succ]
              go_wp2_with fail
              refine (op2_step (X := [m, c]) ho7 (by omega) (by omega) h7 (by omega) (by omega) hml2.1 hml2.2 (by simp) X7).mono ?_
              rintro e w8 ⟨rfl, ho8, h8, X8⟩
              have hro8 := X8.blk hro (by simp; omega)
              have oi8 : w8.cell? ⟨w4.heap.size, i, none⟩ = some (.int .u64 0) := by rw [hro8.cell]; simp [hxo, uV]
              have of8 := hro8.frozen
              go_wp2_with fail
              rw [rounds_succ]
              go_wp2_with fail
              refine (op3_time (wo := wr) ho8).mono ?_
              rintro e w' ⟨rfl, rfl⟩
              go_wp2_with fail
              have ho9 : Op3 (w8.setCell ⟨w4.heap.size, i, none⟩ (.int .u64 ((now : Int) + 1))) ob wr.heap.size (8 + (i : Int)) now := by
                obtain ⟨nb, g1, g2, g3, g4⟩ := ho8
                exact ⟨nb, ⟨g1.self.other _ _ (by simp; omega), Blk.other g1.now _ _ (by simp; omega)⟩, g2, g3, g4⟩
              refine (op3_time (wo := wr) ho9).mono ?_
              rintro e w' ⟨rfl, rfl⟩
              have htn : ((now : Int) != (now : Int)) = false := by simp
              go_wp2_with fail
              go_meet
              refine ⟨_, op.set i ((now : Int) + 1), q + 3, now, rfl, by omega, by omega, ⟨(by simpa [Int.add_assoc] using h8.other _ _ (by simp; omega) (by simp; omega)), ?_, by rw [memSet_length, memSet_length]; exact hrl, by rw [List.length_set]; exact hrol, ?_, ?_, hne⟩, ?_⟩
              · have := hro8.set i (.int .u64 ((now : Int) + 1))
                rw [List.map_set]
                exact this
              · intro j y hj
                by_cases hij : i = j
                · subst hij
                  rw [List.getElem?_set_self (by omega)] at hj
                  simp at hj
                  subst hj
                  rw [memAt_set_same _ _ _ (by omega) (by rw [memSet_length]; omega)]
                  exact ⟨rfl, by omega, by omega⟩
                · rw [List.getElem?_set_ne hij] at hj
                  rw [memAt_set_other _ _ _ _ (by omega), memAt_set_other _ _ _ _ (by omega)]
                  exact hr.cell j y hj
              · rw [memAt_set_other _ _ _ _ (by omega), memAt_set_other _ _ _ _ (by omega)]
                exact hr.pub
              · exact (kB _ (X8.mono (by intro j hj; left; simp at hj ⊢; omega))).setCell _ _ (.inl (by simp))
            · have htx : (x == 0) = false := by rw [beq_eq_false_iff_ne]; exact hx0
              have Hxn := Lib.hid hx0
              clear hx0
              go_wp2_with fail
              refine (rl_new n 2 100 100 200 4 1000 ((i : Int) / 2) ((i : Int) % 2) _).mono ?_
              rintro e w5 ⟨rb, rfl, ho5, k5⟩
              have h5 := hrm.keeps k5 (by simp) (by simp)
              have X5 : Keeps [m, c] wr w5 := k5.mono (by simp)
              go_wp2_with fail
              refine (rl_step (X := [m, c]) hc ho5 (by omega) hi2 (by omega) (by omega) h5 (by omega) (by omega) hml2.1 hml2.2 (by simp) X5).mono ?_
              rintro e w6 ⟨rfl, h6, X6⟩
              rw [show (8 : Int) + (i : Int) / 2 * 2 + (i : Int) % 2 = 8 + (i : Int) by omega] at h6
              have hro6 := X6.blk hro (by simp; omega)
              have oi6 : w6.cell? ⟨w4.heap.size, i, none⟩ = some (.int .u64 x) := by rw [hro6.cell]; simp [hxo, uV]
              have of6 := hro6.frozen
              go_wp2_with fail
              go_meet
              refine ⟨_, op.set i 0, q + 1, now, rfl, by omega, by omega, ⟨(by simpa [Int.add_assoc] using h6.other _ _ (by simp; omega) (by simp; omega)), ?_, by rw [memSet_length]; exact hrl, by rw [List.length_set]; exact hrol, ?_, ?_, hne⟩, ?_⟩
              · have := hro6.set i (.int .u64 0)
                rw [List.map_set]
                exact this
              · intro j y hj
                by_cases hij : i = j
                · subst hij
                  rw [List.getElem?_set_self (by omega)] at hj
                  simp at hj
                  subst hj
                  rw [memAt_set_same _ _ _ (by omega) (by omega)]
                  exact ⟨rfl, by omega, by omega⟩
                · rw [List.getElem?_set_ne hij] at hj
                  rw [memAt_set_other _ _ _ _ (by omega)]
                  exact hr.cell j y hj
              · rw [memAt_set_other _ _ _ _ (by omega)]
                exact hr.pub
              · exact (kB _ (X6.mono (by intro j hj; left; simp at hj ⊢; omega))).setCell _ _ (.inl (by simp))
        case rest =>
          obtain ⟨L, op, q, now, rfl, hnk, hqk, hr, hkr⟩ := hcut
          clear hlr hlo hxk
          obtain ⟨wo, rfl⟩ : ∃ wo : World, wo = wc := ⟨_, rfl⟩
          go_wp2_with fail
          go_loopw [15] (fun i wq => ∃ j : Nat, j ≤ 2 * n ∧ i = .int .i64 j ∧ RI wq m c w4.heap.size n L op q now ∧ Keeps [m, c, w4.heap.size] w4 wq) (fun i _ => 2 * n - (intOf i).toNat)
          case atStart => exact ⟨0, by omega, rfl, hr, hkr⟩
          case round =>
            obtain ⟨j, hj, rfl, hr, hkr⟩ := hrel
            by_cases hjl : j < 2 * n
            · obtain ⟨x, hxo⟩ : ∃ x, op[j]? = some x := ⟨op[j]'(by rw [hr.ol]; exact hjl), by simp [hr.ol, hjl]⟩
              obtain ⟨hx1, hx2, hx3⟩ := hr.cell j x hxo
              have hro := hr.opn
              have hrm := hr.mem
              have oi : wr.cell? ⟨w4.heap.size, j, none⟩ = some (.int .u64 x) := by rw [hro.cell]; simp [hxo, uV]
              have hxx : (x != x) = false := by simp
              have hj0 : (0 : Int) ≤ j := by omega
              have hj1 : (j : Int) < ((2 * n : Nat) : Int) := by omega
              have hw8 : IntKind.i64.wrap (8 + (j : Int)) = 8 + (j : Int) := IntWalk.i64_in _ ⟨by omega, by omega⟩
              have Hx1 := Lib.hid hx1
              clear hx1
              go_wp2_with fail
              go_region_held3 (fun w' => w'.cell? ⟨w4.heap.size, j, none⟩ = some (.int .u64 x))
                (first
                  | exact k5.undrew.cellEq oi (by simp)
                  | go_keep)
                ((go_at_call 27; refine (peek_any _ m c L q (by exact hrm.drew) (8 + (j : Int))).mono ?_; rintro e w5 ⟨rfl, k5⟩; rw [Hx1.out]))
              go_wp2_with fail
              exact ⟨⟨j + 1, by omega, by go_num, hr.keeps k5.undrew (by simp) (by simp) (by simp), hkr.trans k5.undrew (by simp)⟩, by simp [intOf]; omega⟩
            · go_wp2_with fail
              exact ⟨⟨k + 1, L, op, q, now, by omega, by go_num, rfl, by omega, by omega, hr, hkr⟩, by simp [intOf]; omega⟩
      · go_wp2_with fail
        go_ret
        exact ⟨rfl, K4.trans hkr (by intro j hj; right; simp at hj; omega)⟩
end Go.Proofs.Ytiodlmmbjjdojaa
