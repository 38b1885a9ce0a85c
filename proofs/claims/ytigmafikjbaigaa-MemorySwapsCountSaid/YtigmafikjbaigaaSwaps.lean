/- The walk of MemorySwapsCount. -/
import Derived.Test.YtigmafikjbaigaaMemLaws
import Derived.Deep.CutRange
import Derived.Deep.DeepCutAuto
import Derived.Deep.LoopGhost
namespace Go.Proofs.Ytigmafikjbaigaa
open Go.RowKit
theorem info_u64 : (Try.prog.info? 22).map (fun i => (i.zero, i.size, i.bytes)) = some (some (.int .u64 0), 1, 8) := by kernel_rfl
theorem info_bool : (Try.prog.info? 4).map (fun i => (i.zero, i.size, i.bytes)) = some (some (.bool false), 1, 1) := by kernel_rfl
theorem made_one (z : Value) (k : Nat) : madeCells #[z] (k * 1) = (List.replicate k z).toArray := by
  apply Array.ext'
  apply List.ext_getElem?
  intro i
  by_cases hi : i < k
  · simp [madeCells, hi, Nat.mod_one]
  · rw [List.getElem?_eq_none (by simp [madeCells]; omega), List.getElem?_eq_none (by simp; omega)]
theorem make_u64s (k : Nat) (h : k ≤ 1048577) (w : World) :
    (Instr.makeSlice 40 (.int .i64 k) (.int .i64 k)).run Try.prog w = .ok (.slice (some ⟨w.heap.size, 0, none⟩) k k) (w.alloc (.cells (List.replicate k (.int .u64 0)).toArray 22)) := by
  obtain ⟨i, hi, hz0, hz1, hz2⟩ := info_parts info_u64
  have := run_make (P := Try.prog) w 40 22 i _ Try.underlying40 hi hz0 .i64 .i64 k k (by omega) (by omega) (by rw [hz2]; omega) (by omega)
  rw [hz1] at this
  rw [this]
  simp only [Int.toNat_natCast, Value.cells, made_one]
theorem make_bools (k : Nat) (h : k ≤ 1048577) (w : World) :
    (Instr.makeSlice 41 (.int .i64 k) (.int .i64 k)).run Try.prog w = .ok (.slice (some ⟨w.heap.size, 0, none⟩) k k) (w.alloc (.cells (List.replicate k (.bool false)).toArray 4)) := by
  obtain ⟨i, hi, hz0, hz1, hz2⟩ := info_parts info_bool
  have := run_make (P := Try.prog) w 41 4 i _ Try.underlying41 hi hz0 .i64 .i64 k k (by omega) (by omega) (by rw [hz2]; omega) (by omega)
  rw [hz1] at this
  rw [this]
  simp only [Int.toNat_natCast, Value.cells, made_one]
theorem swap_fin {w w4 : World} {m c q x : Nat} {k : Int} (h4 : MemAt w4 m c (if memIn [⟨(q : Int), ⟨#[]⟩, 0⟩] 0 && (memAt [⟨(q : Int), ⟨#[]⟩, 0⟩] 0).N == (x : Int) then memSet [⟨(q : Int), ⟨#[]⟩, 0⟩] 0 ⟨(x : Int) + 1, ⟨#[]⟩, 0⟩ else [⟨(q : Int), ⟨#[]⟩, 0⟩]) k) (k4 : Keeps [m, c] w.drew w4) :
    Value.bool (memIn [⟨(q : Int), ⟨#[]⟩, 0⟩] 0 && (memAt [⟨(q : Int), ⟨#[]⟩, 0⟩] 0).N == (x : Int)) = Value.bool (decide (x = q)) ∧ MemAt w4 m c [⟨if x = q then (q : Int) + 1 else q, ⟨#[]⟩, 0⟩] k ∧ Keeps [m, c] w w4 := by
  have e1 : memAt [⟨(q : Int), ⟨#[]⟩, 0⟩] 0 = ⟨(q : Int), ⟨#[]⟩, 0⟩ := rfl
  have e2 : memIn [⟨(q : Int), ⟨#[]⟩, 0⟩] 0 = true := rfl
  have e3 : memSet [⟨(q : Int), ⟨#[]⟩, 0⟩] 0 ⟨(x : Int) + 1, ⟨#[]⟩, 0⟩ = [⟨(x : Int) + 1, ⟨#[]⟩, 0⟩] := rfl
  rw [e1, e2, e3] at h4
  rw [e1, e2]
  by_cases hxq : x = q
  · subst hxq
    refine ⟨by simp, ?_, k4.undrew⟩
    simpa using h4
  · have : ((q : Int) == x) = false := by rw [beq_eq_false_iff_ne]; omega
    refine ⟨by simp [this, hxq], ?_, k4.undrew⟩
    simpa [this, hxq] using h4
theorem memAt_one (x : C3) : memAt [x] 0 = x := rfl
set_option maxRecDepth 100000 in
set_option maxHeartbeats 400000 in
theorem memorySwapsCount_any (th : Int) (s0 : -9223372036854775808 ≤ th) (s1 : th ≤ 9223372036854775807) (A : Option Addr) (cap b o : Nat) (xs : List Nat) (w : World)
    (hA : 0 < xs.length → A = some ⟨b, o, none⟩) (hx : Arr w b o (xs.map vU8)) (hlen : xs.length ≤ 9223372036854775807) (hxs : ∀ x, x ∈ xs → x ≤ 255) :
    Calls Try.prog 7 #[.int .i64 th, .slice A xs.length cap] w fun e w' => e = .returned (.bool true) ∧ Keeps [] w w' := by
  have hm0 := Int.emod_nonneg th (show (5 : Int) ≠ 0 by omega)
  have hm1 := Int.emod_lt_of_pos th (show (0 : Int) < 5 by omega)
  obtain ⟨r, hr⟩ : ∃ r : Nat, th % 5 = r := ⟨(th % 5).toNat, by omega⟩
  rw [hr] at hm0 hm1
  have Hr := Lib.hid hr
  clear hr
  obtain ⟨n, hn, hn1, hn5⟩ : ∃ n : Nat, 1 + (r : Int) = n ∧ 1 ≤ n ∧ n ≤ 5 := ⟨1 + r, by omega, by omega, by omega⟩
  have hmk1 := make_u64s n (by omega)
  have hmk2 := make_bools n (by omega)
  have HA := Lib.hid hA
  clear hA
  go_enter Try.func7, Try.ntmps7
  go_wp2_with fail
  refine (mod_any th 5 s0 s1 (by omega) (by omega) _).mono ?_
  rintro e w' ⟨rfl, rfl⟩
  rw [Hr.out]
  go_wp2_with fail
  refine (new_yes 1 (by omega) (by omega) _).mono ?_
  rintro e w1 ⟨m, c, rfl, h1, hm, hc, k1⟩
  go_wp2_with fail
  refine (awake2_any _).mono ?_
  rintro e w2 ⟨rfl, k2⟩
  have h2 := h1.keeps k2 (by simp) (by simp)
  have K2 := k1.trans k2 (by simp)
  have hx2 := hx.keeps K2 (by simp)
  have hx0 := hx
  clear h1 k1 k2 hx
  by_cases hl : 200 < xs.length
  · go_wp2_with fail
    refine (awake2_any _).mono ?_
    rintro e w3 ⟨rfl, k3⟩
    go_wp2_with fail
    go_ret
    exact ⟨rfl, K2.trans k3 (by simp)⟩
  · go_upto_region 5 with fail
    go_cut [8, 9] (fun l h wx => ∃ lb hb, l = .slice (some ⟨lb, 0, none⟩) n n ∧ h = .slice (some ⟨hb, 0, none⟩) n n ∧ Blk wx lb (List.replicate n (.int .u64 0)) ∧ Blk wx hb (List.replicate n (.bool false)) ∧ lb ≠ hb ∧ w2.heap.size ≤ lb ∧ w2.heap.size ≤ hb ∧ Keeps [] w2 wx)
    case first =>
      go_region
      · go_wp2_with fail
        go_meet
        case rel => exact ⟨_, _, rfl, rfl, ((Blk.rep_at _ _ _ _ _ rfl).alloc _).drew, (Blk.rep_at _ _ _ _ _ (by simp)).drew, by omega, by omega, by omega, (((Keeps.refl _ _).alloc _).alloc _).drew⟩
      · go_wp2_with fail
        go_meet
        case rel => exact ⟨_, _, rfl, rfl, (Blk.rep_at _ _ _ _ _ (by simp)).drew, ((Blk.rep_at _ _ _ _ _ rfl).alloc _).drew, by omega, by omega, by omega, (((Keeps.refl _ _).alloc _).alloc _).drew⟩
    case rest =>
      obtain ⟨lb, hb, rfl, rfl, hlb, hhb, hne, hl1, hh1, hk⟩ := hcut
      have K3 := K2.trans hk (by simp)
      have Hn := Lib.hid hn
      clear hn
      have hl2 := h2.lt
      have hws := K2.size
      have h3 := h2.keeps hk (by simp) (by simp)
      have hx3 := hx2.keeps hk (by simp)
      have hmc := h3.ne
      go_wp2_with fail
      go_loopw [10, 11] (fun cnt i wr => ∃ (k q : Nat) (ld : List Nat) (hs : List Bool), k ≤ xs.length ∧ cnt = .int .u64 q ∧ i = .int .i64 k ∧ q ≤ k ∧ MemAt wr m c [⟨q, ⟨#[]⟩, 0⟩] k ∧ Blk wr lb (ld.map vU64) ∧ Blk wr hb (hs.map .bool) ∧ ld.length = n ∧ hs.length = n ∧ (∀ x, x ∈ ld → x ≤ q) ∧ Keeps [m, c, lb, hb] wc wr) (fun _ i _ => xs.length - (intOf i).toNat)
      case atStart => exact ⟨0, 0, List.replicate n 0, List.replicate n false, by omega, rfl, rfl, by omega, h3, by simpa [vU64] using hlb, by simpa using hhb, by simp, by simp, by simp, Keeps.refl _ _⟩
      case round =>
        obtain ⟨k, q, ld, hs, hk, rfl, rfl, hqk, hmem, hld, hhs, hln, hhn, hle, hkp⟩ := hrel
        by_cases hlt : k < xs.length
        · obtain rfl := HA.out (by omega)
          have hbl : b < w.heap.size := hx0.lt (by simp; omega)
          have hkw : w.heap.size ≤ w2.heap.size := K2.size
          have hxk := (hx3.keeps hkp (by simp; omega)).cells k (by simpa using hlt)
          obtain ⟨p, hp⟩ : ∃ p, xs[k]? = some p := ⟨xs[k], by simp [hlt]⟩
          rw [List.getElem?_map, hp] at hxk
          simp only [Option.map_some, vU8] at hxk
          have hp255 := hxs p (List.mem_of_getElem? hp)
          clear hp
          go_upto_region 10 with fail
          go_cut [12] (fun s wx => ∃ t : Nat, t < n ∧ s = .int .i64 t ∧ wx = wr)
          case first =>
            go_wp2_with fail
            go_meet
            case rel => exact ⟨p % n, Nat.mod_lt _ (by omega), by go_num, rfl⟩
          case rest =>
            obtain ⟨t, ht, rfl, rfl⟩ := hcut
            obtain ⟨x, hx⟩ : ∃ x, ld[t]? = some x := ⟨ld[t]'(by omega), by simp [hln, ht]⟩
            obtain ⟨y, hy⟩ : ∃ y, hs[t]? = some y := ⟨hs[t]'(by omega), by simp [hhn, ht]⟩
            have hxq := hle x (List.mem_of_getElem? hx)
            have cl : wc.cell? ⟨lb, t, none⟩ = some (.int .u64 x) := hld.map_cell t x hx
            have ch : wc.cell? ⟨hb, t, none⟩ = some (.bool y) := hhs.map_cell t y hy
            have fl := hld.frozen
            have fh := hhs.frozen
            have ll := hld.lt
            have lh := hhs.lt
            have Hx := Lib.hid hx
            have Hy := Lib.hid hy
            clear hx hy
            cases y with
            | false =>
              go_wp2_with fail
              refine (load_any _ m c _ _ hmem 0 (by omega) (by omega)).mono ?_
              rintro e w4 ⟨he, h4, k4⟩
              rw [memAt_one] at he
              dsimp only at he
              subst he
              have hl4 := k4.blk hld (by simp; omega)
              have hh4 := k4.blk hhs (by simp; omega)
              have cl4 : w4.cell? ⟨lb, t, none⟩ = some (.int .u64 x) := hl4.map_cell t x Hx.out
              have ch4 : w4.cell? ⟨hb, t, none⟩ = some (.bool false) := hh4.map_cell t false Hy.out
              have fl4 := hl4.frozen
              have fh4 := hh4.frozen
              have ll4 := hl4.lt
              have lh4 := hh4.lt
              clear cl ch fl fh ll lh
              go_wp2_with fail
              go_roundw
              case rel => 
                refine ⟨k + 1, q, ld.set t q, hs.set t true, by omega, rfl, by go_num, by omega, ?_, ?_, ?_, by simp [hln], by simp [hhn], ?_, ?_⟩
                · exact (h4.other _ _ (by simp; omega) (by simp; omega)).other _ _ (by simp; omega) (by simp; omega)
                · have := (hl4.set t (.int .u64 q)).other ⟨hb, t, none⟩ (.bool true) hne
                  rwa [show Value.int .u64 (q : Int) = vU64 q from rfl, ← List.map_set] at this
                · have := (hh4.other ⟨lb, t, none⟩ (.int .u64 q) (Ne.symm hne)).set t (.bool true)
                  rwa [← List.map_set] at this
                · intro z hz
                  rcases List.mem_or_eq_of_mem_set hz with h | h
                  · exact hle z h
                  · omega
                · exact (((hkp.trans k4 (by simp)).setCell _ _ (.inl (by simp))).setCell _ _ (.inl (by simp)))
              case measure => simp [intOf]; omega
            | true =>
              go_upto_region 13 with fail
              go_cut [13] (fun ok wx => ok = .bool (decide (x = q)) ∧ MemAt wx m c [⟨if x = q then q + 1 else q, ⟨#[]⟩, 0⟩] (k + 1) ∧ Keeps [m, c] wc wx)
              case first =>
                have hsum : IntKind.u64.wrap ((x : Int) + 1) = (x : Int) + 1 := IntWalk.u64_in _ (by omega)
                go_region_with (go_at_call 28; refine (swap_any _ m c _ _ hmem.drew 0 x (x + 1) 0 ⟨#[]⟩ (by omega) (by omega)).mono ?_; rintro e w4 ⟨rfl, h4, k4⟩)
                all_goals go_wp2_with fail
                all_goals go_meet
                all_goals exact swap_fin h4 k4
              case rest =>
                obtain ⟨rfl, h4, k4⟩ := hcut
                have hl4 := k4.blk hld (by simp; omega)
                have hh4 := k4.blk hhs (by simp; omega)
                have cl4 : wc.cell? ⟨lb, t, none⟩ = some (.int .u64 x) := hl4.map_cell t x Hx.out
                have ch4 : wc.cell? ⟨hb, t, none⟩ = some (.bool true) := hh4.map_cell t true Hy.out
                have fl4 := hl4.frozen
                have fh4 := hh4.frozen
                have ll4 := hl4.lt
                have lh4 := hh4.lt
                clear cl ch fl fh ll lh
                by_cases hxq' : x = q
                · go_wp2_with fail
                  go_roundw
                  case rel =>
                    refine ⟨k + 1, q + 1, ld, hs.set t false, by omega, rfl, by go_num, by omega, ?_, ?_, ?_, hln, by simp [hhn], fun z hz => Nat.le_succ_of_le (hle z hz), ?_⟩
                    · exact (by simpa [hxq'] using h4 : MemAt wc m c [⟨((q + 1 : Nat) : Int), ⟨#[]⟩, 0⟩] (k + 1)).other _ _ (by simp; omega) (by simp; omega)
                    · exact hl4.other ⟨hb, t, none⟩ (.bool false) hne
                    · have := hh4.set t (.bool false)
                      rwa [← List.map_set] at this
                    · exact (hkp.trans k4 (by simp)).setCell _ _ (.inl (by simp))
                  case measure => simp [intOf]; omega
                · go_wp2_with fail
                  go_roundw
                  case rel =>
                    refine ⟨k + 1, q, ld, hs.set t false, by omega, rfl, by go_num, by omega, ?_, ?_, ?_, hln, by simp [hhn], hle, ?_⟩
                    · exact (by simpa [hxq'] using h4 : MemAt wc m c [⟨(q : Int), ⟨#[]⟩, 0⟩] (k + 1)).other _ _ (by simp; omega) (by simp; omega)
                    · exact hl4.other ⟨hb, t, none⟩ (.bool false) hne
                    · have := hh4.set t (.bool false)
                      rwa [← List.map_set] at this
                    · exact (hkp.trans k4 (by simp)).setCell _ _ (.inl (by simp))
                  case measure => simp [intOf]; omega
        · obtain rfl : k = xs.length := by omega
          go_wp2_with fail
          refine (peek_any _ m c _ _ hmem 0).mono ?_
          rintro e w5 ⟨he, k5⟩
          rw [memAt_one] at he
          dsimp only at he
          subst he
          have h5 := hmem.keeps k5 (by simp) (by simp)
          go_wp2_with (go_at_call 25; refine (accesses_any _ m c _ _ h5).mono ?_; rintro e w' ⟨rfl, rfl⟩)
          go_ret
          refine ⟨rfl, ?_⟩
          have hw := K3.size
          exact (K3.trans hkp (by simp; omega)).trans k5 (by simp)
end Go.Proofs.Ytigmafikjbaigaa
