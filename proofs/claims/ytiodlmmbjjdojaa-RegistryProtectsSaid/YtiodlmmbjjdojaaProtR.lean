/- The walk of RegistryProtects. -/
import Derived.Test.YtiodlmmbjjdojaaProtI
namespace Go.Proofs.Ytiodlmmbjjdojaa
open Go.RowKit
theorem infoOpen : (Try.prog.info? 54).map (fun i => (i.zero, i.size, i.bytes)) = some (some (.pointer none), 1, 8) := by kernel_rfl
theorem infoBool : (Try.prog.info? 4).map (fun i => (i.zero, i.size, i.bytes)) = some (some (.bool false), 1, 1) := by kernel_rfl
theorem make_opens (k : Nat) (h : k ≤ 1048577) (w : World) :
    (Instr.makeSlice 52 (.int .i64 k) (.int .i64 k)).run Try.prog w = .ok (.slice (some ⟨w.heap.size, 0, none⟩) k k) (w.alloc (.cells (Array.replicate k (.pointer none)) 54)) := by
  obtain ⟨i, hi, hz0, hz1, hz2⟩ := info_parts infoOpen
  have := run_make (P := Try.prog) w 52 54 i _ Try.underlying52 hi hz0 .i64 .i64 k k (by omega) (by omega) (by rw [hz2]; omega) (by omega)
  rw [hz1] at this
  rw [this]
  simp only [Int.toNat_natCast, Value.cells, made_ones]
theorem make_helds (k : Nat) (h : k ≤ 1048577) (w : World) :
    (Instr.makeSlice 53 (.int .i64 k) (.int .i64 k)).run Try.prog w = .ok (.slice (some ⟨w.heap.size, 0, none⟩) k k) (w.alloc (.cells (Array.replicate k (.bool false)) 4)) := by
  obtain ⟨i, hi, hz0, hz1, hz2⟩ := info_parts infoBool
  have := run_make (P := Try.prog) w 53 4 i _ Try.underlying53 hi hz0 .i64 .i64 k k (by omega) (by omega) (by rw [hz2]; omega) (by omega)
  rw [hz1] at this
  rw [this]
  simp only [Int.toNat_natCast, Value.cells, made_ones]
theorem idle_rep {n t : Nat} {s : TS} (h : (List.replicate n TS.idle)[t]? = some s) : s = .idle := by
  obtain ⟨h1, h2⟩ := List.getElem?_eq_some_iff.1 h
  simpa using h2.symm
/-- The two slots of thread t. -/
theorem RP.slots {w : World} {B m c oa ha wm n : Nat} {ts : List TS} {ws : WS} {L : List C3} {q P : Int} (h : RP w B m c oa ha wm n ts ws L q P) {t : Nat} {s : TS} (hs : ts[t]? = some s) :
    w.cell? ⟨oa, t, none⟩ = some s.ptr ∧ (∀ j, w.frozen? ⟨oa, j, none⟩ = false) ∧ oa < w.heap.size ∧ w.cell? ⟨ha, t, none⟩ = some s.flag ∧ (∀ j, w.frozen? ⟨ha, j, none⟩ = false) ∧ ha < w.heap.size :=
  ⟨Blk.map_cell h.oblk t s hs, h.oblk.frozen, h.oblk.lt, Blk.map_cell h.hblk t s hs, h.hblk.frozen, h.hblk.lt⟩
theorem RP.keeps {w w' : World} {B m c oa ha wm n : Nat} {ts : List TS} {ws : WS} {L : List C3} {q P : Int} (h : RP w B m c oa ha wm n ts ws L q P) (k : Keeps [] w w') : RP w' B m c oa ha wm n ts ws L q P := by
  have h2 := h.water (wm' := wm) (ws' := ws) (h.mem.keeps k (by simp) (by simp)) (k.mono (by simp)) (h.wok.keeps k (by intro b _ hx; simp at hx)) (fun b hb => .inl hb) h.winv
  exact h2
theorem set_same {α : Type} {l : List α} {i : Nat} {x : α} (h : l[i]? = some x) : l.set i x = l := by
  apply List.ext_getElem?
  intro j
  by_cases e : i = j
  · subst e
    rw [List.getElem?_set_self (List.getElem?_eq_some_iff.1 h).1, h]
  · rw [List.getElem?_set_ne e]
theorem flag_same {ts : List TS} {i : Nat} {s s' : TS} (h : ts[i]? = some s) (e : s'.flag = s.flag) : (ts.set i s').map TS.flag = ts.map TS.flag := by
  rw [List.map_set, e]
  exact set_same (by simp [h])
theorem ptr_same {ts : List TS} {i : Nat} {s s' : TS} (h : ts[i]? = some s) (e : s'.ptr = s.ptr) : (ts.set i s').map TS.ptr = ts.map TS.ptr := by
  rw [List.map_set, e]
  exact set_same (by simp [h])
theorem apart2 {G : List Nat} {m c : Nat} (h : m ∉ G) (h' : c ∉ G) : Apart G [m, c] := fun b hb hx => by
  simp at hx
  rcases hx with rfl | rfl
  · exact h hb
  · exact h' hb
set_option maxRecDepth 100000 in
set_option maxHeartbeats 4000000 in
theorem registryProtects_any (th : Int) (s0 : -9223372036854775808 ≤ th) (s1 : th ≤ 9223372036854775807) (A : Option Addr) (cap b o : Nat) (xs : List Nat) (w : World)
    (hA : 0 < xs.length → A = some ⟨b, o, none⟩) (hx : Arr w b o (xs.map vU8)) (hlen : xs.length ≤ 9223372036854775807) (hxs : ∀ x, x ∈ xs → x ≤ 255) :
    Calls Try.prog 5 #[.int .i64 th, .slice A xs.length cap] w fun e w' => e = .returned (.bool true) ∧ Keeps [] w w' := by
  have hm0 := Int.emod_nonneg th (show (4 : Int) ≠ 0 by omega)
  have hm1 := Int.emod_lt_of_pos th (show (0 : Int) < 4 by omega)
  obtain ⟨r, hr⟩ : ∃ r : Nat, th % 4 = r := ⟨(th % 4).toNat, by omega⟩
  rw [hr] at hm0 hm1
  have Hr := Lib.hid hr
  clear hr
  obtain ⟨n, hn, hn1, hn4⟩ : ∃ n : Nat, 1 + (r : Int) = n ∧ 1 ≤ n ∧ n ≤ 4 := ⟨1 + r, by omega, by omega, by omega⟩
  have hc := cfgN n hn1 (by omega)
  have hmk1 := make_opens n (by omega)
  have hmk2 := make_helds n (by omega)
  have HA := Lib.hid hA
  clear hA
  go_enter Try.func5, Try.ntmps5
  go_wp2_with fail
  refine (mod_any th 4 s0 s1 (by omega) (by omega) _).mono ?_
  rintro e w' ⟨rfl, rfl⟩
  rw [Hr.out]
  go_wp2_with fail
  have Hn := Lib.hid hn
  clear hn
  refine (config_kit n 0 (by omega) (by omega) _).mono ?_
  rintro e w1 ⟨rfl, k1⟩
  have hg1 := Blk.new w1 [.int .i64 n, .int .i64 2, .int .i64 100, .int .i64 100, .int .i64 200, .int .i64 4, .int .u64 1000] 25
  have K1 := k1.alloc (.cells #[.int .i64 n, .int .i64 2, .int .i64 100, .int .i64 100, .int .i64 200, .int .i64 4, .int .u64 1000] 25)
  go_wp2_with fail
  refine (kitMemory_yes n 2 100 100 200 4 1000 hc (1508 + 2 * n) (by omega) _).mono ?_
  rintro e w2 ⟨m, c, rfl, hm2, hm, hcc, k2⟩
  have K2 := K1.trans k2 (by simp)
  have s1' := k1.size
  simp at hm hcc
  have hl2 := Blk.new w2 [.int .i64 n, .int .i64 2, .int .i64 100, .int .i64 100, .int .i64 200, .int .i64 4, .int .u64 1000] 29
  have K3 := K2.alloc (.cells #[.int .i64 n, .int .i64 2, .int .i64 100, .int .i64 100, .int .i64 200, .int .i64 4, .int .u64 1000] 29)
  have hm3 := hm2.alloc (.cells #[.int .i64 n, .int .i64 2, .int .i64 100, .int .i64 100, .int .i64 200, .int .i64 4, .int .u64 1000] 29)
  have hml := hm2.lt
  go_wp2_with fail
  refine (awake18_any _).mono ?_
  rintro e w4 ⟨rfl, k4⟩
  have hl4 := k4.blk hl2 (by simp)
  have hm4 := hm3.keeps k4 (by simp) (by simp)
  have K4 := K3.trans k4 (by simp)
  clear hm2 hm3 hl2 K1 K2 K3 k1 k2 k4 hg1
  by_cases hl : 200 < xs.length
  · go_wp2_with fail
    refine (awake18_any _).mono ?_
    rintro e w5 ⟨rfl, k5⟩
    go_wp2_with fail
    go_ret
    exact ⟨rfl, K4.trans k5 (by simp)⟩
  · have hx4 := hx.keeps K4 (by simp)
    have hlt4 := hm4.lt
    have hl4l := hl4.lt
    have K4s := K4.size
    obtain ⟨lb, hlb⟩ : ∃ lb, lb = w2.heap.size := ⟨_, rfl⟩
    rw [← hlb] at hl4 hl4l
    obtain ⟨wo, hwo⟩ : ∃ wo, wo = w4.alloc (.cells (Array.replicate n (.pointer none)) 54) := ⟨_, rfl⟩
    obtain ⟨wb, hwb⟩ : ∃ wb, wb = wo.alloc (.cells (Array.replicate n (.bool false)) 4) := ⟨_, rfl⟩
    have hos : wo.heap.size = w4.heap.size + 1 := by rw [hwo]; simp
    have hbs : wb.heap.size = w4.heap.size + 2 := by rw [hwb]; simp; omega
    have hmb : MemAt wb m c (cells0 (1508 + 2 * n) (8 + (n : Int) * 2 + 2)) 0 := by rw [hwb, hwo]; exact (hm4.alloc _).alloc _
    have hlB : Blk wb lb [.int .i64 n, .int .i64 2, .int .i64 100, .int .i64 100, .int .i64 200, .int .i64 4, .int .u64 1000] := by rw [hwb, hwo]; exact (hl4.alloc _).alloc _
    have hob : Blk wb w4.heap.size (List.replicate n (.pointer none)) := by rw [hwb, hwo]; exact (Blk.rep_at w4 w4.heap.size n (.pointer none) 54 rfl).alloc _
    have hhb : Blk wb (w4.heap.size + 1) (List.replicate n (.bool false)) := by rw [hwb]; exact Blk.rep_at wo (w4.heap.size + 1) n (.bool false) 4 hos.symm
    have KB : Keeps [] w4 wb := by rw [hwb, hwo]; exact ((Keeps.refl _ _).alloc _).alloc _
    rw [hlb] at hl4
    have hlo := hl4.o7
    go_wp2_with fail
    rw [← hwo, ← hwb]
    refine (w0_new n 2 100 100 200 4 1000 wb).mono ?_
    rintro e w5 ⟨wm, G, rfl, hw5, hG5, k5⟩
    rw [hlb] at hlB
    have hl5 := k5.blk hlB (by simp)
    have hlt5 := k5.size
    have hr0 : RP w5 (w4.heap.size + 2) m c w4.heap.size (w4.heap.size + 1) wm n (List.replicate n .idle) (.zero G) (cells0 (1508 + 2 * n) (8 + (n : Int) * 2 + 2)) 0 0 := by
      refine ⟨hmb.keeps k5 (by simp) (by simp), by rw [cells0_length], by simp, ?_, ?_, ?_, hw5, ?_, ?_, ?_, ?_, by omega, by omega, ?_, ?_, ?_, trivial⟩
      · have := k5.blk hob (by simp)
        simpa [TS.ptr] using this
      · have := k5.blk hhb (by simp)
        simpa [TS.flag] using this
      · intro t s hs
        rw [idle_rep hs]
        trivial
      · intro t s hs b' hb'
        rw [idle_rep hs] at hb'
        simp [TS.foot] at hb'
      · intro b' hb'
        have := hG5 b' hb'
        omega
      · intro t t' s s' hne hs hs' b' hb'
        rw [idle_rep hs] at hb'
        simp [TS.foot] at hb'
      · intro t s hs b' hb'
        rw [idle_rep hs] at hb'
        simp [TS.foot] at hb'
      · intro t s hs
        have ht : t < n := by simpa using (List.getElem?_eq_some_iff.1 hs).1
        rw [idle_rep hs, memAt_cells0 _ _ _ (by omega) (by omega) (by omega), memAt_cells0 _ _ _ (by omega) (by omega) (by omega)]
        exact ⟨rfl, rfl⟩
      · rw [memAt_cells0 _ _ _ (by omega) (by omega) (by omega)]; rfl
      · intro t s τ hs hτ
        rw [idle_rep hs] at hτ
        cases hτ
    have K5 : Keeps [m, c] w4 w5 := (KB.trans k5 (by simp)).mono (by simp)
    have hl4' : w2.heap.size ≠ m ∧ w2.heap.size ≠ c ∧ w2.heap.size < w4.heap.size := by omega
    clear hlB hob hhb hmb hw5 hG5 k5 KB hwb hwo hmk1 hmk2 hlo hl5
    go_wp2_with fail
    go_loopw [11, 12, 13] (fun wv nw i wr => ∃ (k wm : Nat) (ts : List TS) (ws : WS) (L : List C3) (q P : Nat), k ≤ xs.length ∧ i = .int .i64 k ∧ nw = .int .u64 P ∧ wv = .pointer (some ⟨wm, 0, none⟩) ∧ P ≤ k ∧ q ≤ 4 * k ∧
      RP wr (w4.heap.size + 2) m c w4.heap.size (w4.heap.size + 1) wm n ts ws L q P ∧ Keeps [m, c] w4 wr ∧ ws ≠ .done) (fun _ _ i _ => xs.length - (intOf i).toNat)
    case atStart => exact ⟨0, wm, _, _, _, 0, 0, by omega, rfl, rfl, rfl, by omega, by omega, hr0, K5, by intro h; cases h⟩
    case round =>
      clear hr0 K5 hm4 hlt5
      obtain ⟨k, wm, ts, ws, L, q, P, hk, rfl, rfl, rfl, hPk, hqk, hr, hkr, hnd⟩ := hrel
      by_cases hlt : k < xs.length
      · obtain rfl := HA.out (by omega)
        have hbl : b < w.heap.size := hx.lt (by simp; omega)
        have hxk := (hx4.keeps hkr (by simp; omega)).cells k (by simpa using hlt)
        obtain ⟨p, hp⟩ : ∃ p, xs[k]? = some p := ⟨xs[k], by simp [hlt]⟩
        rw [List.getElem?_map, hp] at hxk
        simp only [Option.map_some, vU8] at hxk
        have hp255 := hxs p (List.mem_of_getElem? hp)
        clear hp
        have hlr := hkr.blk hl4 (by simp; omega)
        have hlo := hlr.o7
        have hrm := hr.mem
        have hrl := hr.len
        have hml2 := hrm.lt
        have hwf := hr.low4 (fun b hb => (hr.wfoot b hb).1)
        have hsz4 := hkr.size
        have hbs4 := hr.bs
        go_upto_block 2 with fail
        obtain ⟨i, hi, hin⟩ : ∃ i : Nat, (p : Int) % ((n : Int) + 2) = i ∧ i < n + 2 := ⟨p % (n + 2), by simp, Nat.mod_lt _ (by omega)⟩
        rw [hi]
        clear hi
        obtain hcs | hcs | hcs : i = n ∨ i = n + 1 ∨ i < n := by omega
        · have ht1 : ((i : Int) == (n : Int)) = true := by rw [beq_iff_eq]; omega
          go_wp2_with fail
          refine (poke_any _ m c L q hrm 2 ((P : Int) + 1) 0 ⟨#[]⟩).mono ?_
          rintro e w6 ⟨rfl, h6, k6⟩
          go_wp2_with fail
          exact ⟨⟨k + 1, wm, ts, ws, memSet L 2 ⟨(P : Int) + 1, ⟨#[]⟩, 0⟩, q, P + 1, by omega, by go_num, by go_num, rfl, by omega, by omega, by rw [show ((P + 1 : Nat) : Int) = (P : Int) + 1 by omega]; exact hr.publish h6 k6, hkr.trans k6 (by simp), hnd⟩, by simp [intOf]; omega⟩
        · have ht1 : ((i : Int) == (n : Int)) = false := by rw [beq_eq_false_iff_ne]; omega
          have ht2 : ((i : Int) == (n : Int) + 1) = true := by rw [beq_iff_eq]; omega
          cases ws with
          | done => exact absurd rfl hnd
          | zero G =>
            go_wp2_with fail
            refine (w0_step (show W0 wr wm G n 2 100 100 200 4 1000 from hr.wok) hrm (by omega) (by omega) (apart2 hwf.2.2.1 hwf.2.2.2.1)).mono ?_
            rintro e w6 ⟨rfl, G', h6, hG', hm6, k6⟩
            rw [hr.pub] at h6
            go_wp2_with fail
            exact ⟨⟨k + 1, wm, ts, .scan G' 0 P, L, q + 1, P, by omega, by go_num, rfl, rfl, by omega, by omega, hr.water hm6 k6 h6 hG' ⟨by omega, by omega, by omega, fun t s τ _ _ hlt => by omega⟩, hkr.trans k6 (by
              intro j hj
              simp only [List.mem_cons] at hj ⊢
              rcases hj with h | h | h
              · exact .inl (.inl h)
              · exact .inl (.inr (.inl h))
              · have := (hr.wfoot j h).1; right; omega), by intro h; cases h⟩, by simp [intOf]; omega⟩
          | scan G j v =>
            have hjn : j < 2 * n := hr.winv.2.2.1
            have hcell := hr.cells (by omega) j hjn
            have hsc := hr.scan (by omega)
            obtain ⟨ell, hell⟩ : ∃ ell, wmin v (memAt L (8 + (j : Int))).N = ell := ⟨_, rfl⟩
            rw [hell] at hsc
            have Hell := Lib.hid hell
            clear hell
            have kk : ∀ w', Keeps (m :: c :: G) wr w' → Keeps [m, c] w4 w' := fun w' k => hkr.trans k (by
              intro j hj
              simp only [List.mem_cons] at hj ⊢
              rcases hj with h | h | h
              · exact .inl (.inl h)
              · exact .inl (.inr (.inl h))
              · have := (hr.wfoot j h).1; right; omega)
            by_cases hjl : j + 1 < 2 * n
            · go_wp2_with fail
              refine (w1_more hc (show W1 wr wm G n 2 100 100 200 4 1000 j v from hr.wok) (by omega) (by omega) hrm (by omega) (by omega) (apart2 hwf.2.2.1 hwf.2.2.2.1) hcell.1 (by omega)).mono ?_
              rintro e w6 ⟨rfl, G', h6, hG', hm6, k6⟩
              rw [Hell.out] at h6
              go_wp2_with fail
              exact ⟨⟨k + 1, wm, ts, .scan G' (j + 1) ell, L, q + 1, P, by omega, by go_num, rfl, rfl, by omega, by omega, hr.water hm6 k6 h6 hG' ⟨hsc.1, hsc.2.1, hjl, hsc.2.2⟩, kk _ k6, by intro h; cases h⟩, by simp [intOf]; omega⟩
            · go_wp2_with fail
              refine (w1_last hc (show W1 wr wm G n 2 100 100 200 4 1000 j v from hr.wok) (by omega) (by omega) hrm (by omega) (by omega) (apart2 hwf.2.2.1 hwf.2.2.2.1) hcell.1 (by omega)).mono ?_
              rintro e w6 ⟨rfl, h6, hm6, k6⟩
              rw [Hell.out] at h6
              have hr6 := hr.water (ws' := .done) (wm' := wm) hm6 k6 trivial (by intro b hb; simp [WS.foot] at hb) trivial
              have K6 := kk _ k6
              have hl6 := K6.blk hl4 (by simp; omega)
              have htl := hr.tl
              clear hlo hlr hr hkr hrm hxk k6 hm6 kk
              go_wp2_with fail
              go_loopw [15] (fun i wq => ∃ j : Nat, j ≤ n ∧ i = .int .i64 j ∧ wq = w6) (fun i _ => n - (intOf i).toNat)
              case atStart => exact ⟨0, by omega, rfl, rfl⟩
              case round =>
                obtain ⟨j2, hj2, rfl, rfl⟩ := hrel
                by_cases hjl2 : j2 < n
                · obtain ⟨s, hs⟩ : ∃ s, ts[j2]? = some s := ⟨ts[j2]'(by omega), List.getElem?_eq_getElem (by omega)⟩
                  have hsl := hr6.slots hs
                  cases s with
                  | held ob G2 τ =>
                    have hle := hsc.2.2 j2 _ τ hs rfl (by omega)
                    have hb : decide (τ < ell) = false := by simp; omega
                    simp only [TS.ptr, TS.flag] at hsl
                    go_wp2_with fail
                    refine (o3_time (show O3 _ ob G2 _ τ from hr6.mach j2 _ hs)).mono ?_
                    rintro e w' ⟨rfl, rfl⟩
                    go_wp2_with fail
                    refine (wmTime_done _ wm n 2 100 100 200 4 1000 ell h6).mono ?_
                    rintro e w' ⟨rfl, rfl⟩
                    go_wp2_with fail
                    exact ⟨⟨j2 + 1, by omega, by go_num, trivial⟩, by simp [intOf]; omega⟩
                  | idle =>
                    simp only [TS.ptr, TS.flag] at hsl
                    go_wp2_with fail
                    exact ⟨⟨j2 + 1, by omega, by go_num, trivial⟩, by simp [intOf]; omega⟩
                  | one ob G2 =>
                    simp only [TS.ptr, TS.flag] at hsl
                    go_wp2_with fail
                    exact ⟨⟨j2 + 1, by omega, by go_num, trivial⟩, by simp [intOf]; omega⟩
                  | two ob G2 τ =>
                    simp only [TS.ptr, TS.flag] at hsl
                    go_wp2_with fail
                    exact ⟨⟨j2 + 1, by omega, by go_num, trivial⟩, by simp [intOf]; omega⟩
                · have hb : decide (ell > (P : Int)) = false := by simp; omega
                  have hlo6 := hl6.o7
                  go_wp2_with fail
                  refine (wmTime_done _ wm n 2 100 100 200 4 1000 ell h6).mono ?_
                  rintro e w' ⟨rfl, rfl⟩
                  go_wp2_with fail
                  refine (w0_new n 2 100 100 200 4 1000 _).mono ?_
                  rintro e w7 ⟨wm7, G7, rfl, h7, hG7, k7⟩
                  go_wp2_with fail
                  exact ⟨⟨k + 1, wm7, ts, .zero G7, L, q + 1, P, by omega, by go_num, rfl, rfl, by omega, by omega, hr6.water (hr6.mem.keeps k7 (by simp) (by simp)) (k7.mono (by simp)) h7 (fun b hb => .inr (hG7 b hb)) trivial, K6.trans k7 (by simp), by intro h; cases h⟩, by simp [intOf]; omega⟩
        · have ht1 : ((i : Int) == (n : Int)) = false := by rw [beq_eq_false_iff_ne]; omega
          have ht2 : ((i : Int) == (n : Int) + 1) = false := by rw [beq_eq_false_iff_ne]; omega
          have htl := hr.tl
          obtain ⟨s, hs⟩ : ∃ s, ts[i]? = some s := ⟨ts[i]'(by omega), List.getElem?_eq_getElem (by omega)⟩
          have hsl := hr.slots hs
          have htf := hr.low4 (fun b hb => (hr.foot i s hs b hb).1)
          have hap := apart2 htf.2.2.1 htf.2.2.2.1
          have hlow := hr.low
          have hmach := hr.mach i s hs
          have hff := hr.foot i s hs
          have hpub := hr.pub
          have htau := fun τ => hr.tau i s τ hs
          have hin2 : i < ts.length := by omega
          have kk : ∀ w', Keeps (m :: c :: w4.heap.size :: (w4.heap.size + 1) :: s.foot) wr w' → Keeps [m, c] w4 w' := fun w' k => hkr.trans k (by
            intro j hj
            simp only [List.mem_cons] at hj ⊢
            rcases hj with h | h | h | h | h
            · exact .inl (.inl h)
            · exact .inl (.inr (.inl h))
            · right; omega
            · right; omega
            · have := (hff j h).1; right; omega)
          cases s with
          | idle =>
            simp only [TS.ptr, TS.flag] at hsl
            go_wp2_with fail
            refine (op0_new n 2 100 100 200 4 1000 hc i 0 (by omega) (by omega) (by omega) (by omega) _).mono ?_
            rintro e w5 ⟨ob, rfl, ho5, k5⟩
            rw [show (8 : Int) + (i : Int) * 2 + 0 = 8 + 2 * (i : Int) by omega] at ho5
            have hr5 := hr.keeps k5
            have hsl5 := hr5.slots hs
            simp only [TS.ptr, TS.flag] at hsl5
            have k5s := k5.size
            go_wp2_with fail
            have ho6 : Op0 (w5.setCell ⟨w4.heap.size, i, none⟩ (.pointer (some ⟨ob, 0, none⟩))) ob wr.heap.size n 2 100 100 200 4 1000 (8 + 2 * (i : Int)) := by
              obtain ⟨nb, lb, pb, g1, g2, ⟨a1, a2, a3, a4⟩, g4⟩ := ho5
              have K := (Keeps.refl [w4.heap.size] w5).setCell ⟨w4.heap.size, i, none⟩ (.pointer (some ⟨ob, 0, none⟩)) (.inl (by simp))
              exact ⟨nb, lb, pb, K.blk g1 (by simp; omega), g2.keeps K (by simp; omega) (by simp; omega) (by simp; omega), ⟨a1, a2, a3, a4⟩, g4⟩
            refine (o0_step (oa := w4.heap.size) (wo := wr) ho6 (hr5.mem.other _ _ (by simp; omega) (by simp; omega)) (by omega) (by omega) hml2.1 hml2.2 ((k5.mono (by simp)).setCell _ _ (.inl (by simp)))).mono ?_
            rintro e w6 ⟨rfl, G, h6, hG6, hm6, k6, kb6⟩
            go_wp2_with fail
            have K6 : Keeps (m :: c :: w4.heap.size :: (w4.heap.size + 1) :: TS.idle.foot) wr w6 := k6.mono (by intro j hj; left; simp at hj ⊢; omega)
            refine ⟨⟨k + 1, wm, ts.set i (.one ob G), ws, memSet L (8 + 2 * (i : Int)) ⟨1, ⟨#[]⟩, 0⟩, q + 1, P, by omega, by go_num, rfl, rfl, by omega, by omega, hr.thread hs hm6 ?_ ?_ K6 h6 (fun b hb => .inr (hG6 b hb)) (memSet_length _ _ _) (memAt_set_other _ _ _ _ (by omega)) ?_ (fun j _ hj => memAt_set_other _ _ _ _ (by omega)) (by intro τ h; cases h), kk _ K6, hnd⟩, by simp [intOf]; omega⟩
            · refine kb6 _ _ hsl.2.2.1 (by omega) (by omega) ?_
              rw [List.map_set]
              exact hr5.oblk.set i _
            · refine kb6 _ _ hsl.2.2.2.2.2 (by omega) (by omega) ?_
              rw [flag_same (s' := .one ob G) hs rfl]
              exact hr5.hblk.other _ _ (by simp)
            · rw [memAt_set_same _ _ _ (by omega) (by omega)]; rfl
          | one ob G =>
            simp only [TS.ptr, TS.flag] at hsl
            go_wp2_with fail
            refine (o1_step (show O1 wr ob G n 2 100 100 200 4 1000 (8 + 2 * (i : Int)) from hmach) hrm (by omega) (by omega) hap).mono ?_
            rintro e w6 ⟨rfl, h6, hm6, k6⟩
            rw [hpub] at h6
            have hh6 := k6.blk hr.hblk htf.2.1
            have ho6 := k6.blk hr.oblk htf.1
            have hhl : w6.cell? ⟨w4.heap.size + 1, i, none⟩ = some (.bool false) := Blk.map_cell hh6 i _ hs
            have hhf := hh6.frozen
            have hhs := hh6.lt
            go_wp2_with fail
            have K6 : Keeps (m :: c :: w4.heap.size :: (w4.heap.size + 1) :: (TS.one ob G).foot) wr (w6.setCell ⟨w4.heap.size + 1, i, none⟩ (.bool false)) := (k6.mono (by
              intro j hj
              left
              simp only [TS.foot, List.mem_cons] at hj ⊢
              rcases hj with h | h | h
              · exact .inl h
              · exact .inr (.inl h)
              · exact .inr (.inr (.inr (.inr h))))).setCell _ _ (.inl (by simp))
            refine ⟨⟨k + 1, wm, ts.set i (.two ob G P), ws, L, q + 1, P, by omega, by go_num, rfl, rfl, by omega, by omega, hr.thread hs (hm6.other _ _ (by simp; omega) (by simp; omega)) ?_ ?_ K6 ?_ (fun b hb => .inl hb) rfl rfl (hr.cell i _ hs).1 (fun j _ _ => rfl) ?_, kk _ K6, hnd⟩, by simp [intOf]; omega⟩
            · rw [ptr_same (s' := .two ob G P) hs rfl]
              exact ho6.other _ _ (by simp)
            · rw [List.map_set]
              exact hh6.set i _
            · exact O2.keeps h6 ((Keeps.refl [w4.heap.size + 1] w6).setCell _ _ (.inl (by simp))) (fun b hb hx => by simp at hx; have := (hff b hb).1; omega)
            · intro τ h
              simp [TS.time] at h
              exact ⟨by omega, .inr h.symm⟩
          | two ob G t =>
            have ht2 := htau t rfl
            simp only [TS.ptr, TS.flag] at hsl
            go_wp2_with fail
            refine (o2_step (show O2 wr ob G (8 + 2 * (i : Int)) t from hmach) ht2.1 (by omega) hrm (by omega) (by omega) hap).mono ?_
            rintro e w6 ⟨rfl, h6, hm6, k6⟩
            have hh6 := k6.blk hr.hblk htf.2.1
            have ho6 := k6.blk hr.oblk htf.1
            have hhl : w6.cell? ⟨w4.heap.size + 1, i, none⟩ = some (.bool false) := Blk.map_cell hh6 i _ hs
            have hhf := hh6.frozen
            have hhs := hh6.lt
            go_wp2_with fail
            have K6 : Keeps (m :: c :: w4.heap.size :: (w4.heap.size + 1) :: (TS.two ob G t).foot) wr (w6.setCell ⟨w4.heap.size + 1, i, none⟩ (.bool true)) := (k6.mono (by
              intro j hj
              left
              simp only [TS.foot, List.mem_cons] at hj ⊢
              rcases hj with h | h | h
              · exact .inl h
              · exact .inr (.inl h)
              · exact .inr (.inr (.inr (.inr h))))).setCell _ _ (.inl (by simp))
            refine ⟨⟨k + 1, wm, ts.set i (.held ob G t), ws, memSet L (8 + 2 * (i : Int)) ⟨t + 1, ⟨#[]⟩, 0⟩, q + 1, P, by omega, by go_num, rfl, rfl, by omega, by omega, hr.thread hs (hm6.other _ _ (by simp; omega) (by simp; omega)) ?_ ?_ K6 ?_ (fun b hb => .inl hb) (memSet_length _ _ _) (memAt_set_other _ _ _ _ (by omega)) ?_ (fun j _ hj => memAt_set_other _ _ _ _ (by omega)) ?_, kk _ K6, hnd⟩, by simp [intOf]; omega⟩
            · rw [ptr_same (s' := .held ob G t) hs rfl]
              exact ho6.other _ _ (by simp)
            · rw [List.map_set]
              exact hh6.set i _
            · exact O3.keeps h6 ((Keeps.refl [w4.heap.size + 1] w6).setCell _ _ (.inl (by simp))) (fun b hb hx => by simp at hx; have := (hff b hb).1; omega)
            · rw [memAt_set_same _ _ _ (by omega) (by omega)]; rfl
            · intro τ h
              simp [TS.time] at h
              exact ⟨by omega, .inl (by simp [TS.time, h])⟩
          | held ob G t =>
            simp only [TS.ptr, TS.flag] at hsl
            by_cases hp128 : p < 128
            · go_wp2_with fail
              exact ⟨⟨k + 1, wm, ts, ws, L, q, P, by omega, by go_num, rfl, rfl, by omega, by omega, hr, hkr, hnd⟩, by simp [intOf]; omega⟩
            · go_wp2_with fail
              refine (rl_new n 2 100 100 200 4 1000 i 0 _).mono ?_
              rintro e w5 ⟨rb, rfl, ho5, k5⟩
              go_wp2_with fail
              refine (rl_step (X := [m, c]) hc ho5 (by omega) (by omega) (by omega) (by omega) (hrm.keeps k5 (by simp) (by simp)) (by omega) (by omega) hml2.1 hml2.2 (by simp) (k5.mono (by simp))).mono ?_
              rintro e w6 ⟨rfl, hm6, k6⟩
              rw [show (8 : Int) + (i : Int) * 2 + 0 = 8 + 2 * (i : Int) by omega] at hm6
              have hh6 := k6.blk hr.hblk (by simp; omega)
              have ho6 := k6.blk hr.oblk (by simp; omega)
              have hhl : w6.cell? ⟨w4.heap.size + 1, i, none⟩ = some (.bool true) := Blk.map_cell hh6 i _ hs
              have hhf := hh6.frozen
              have hhs := hh6.lt
              have hol : w6.cell? ⟨w4.heap.size, i, none⟩ = some (.pointer (some ⟨ob, 0, none⟩)) := Blk.map_cell ho6 i _ hs
              have hof := ho6.frozen
              have hos' := ho6.lt
              go_wp2_with fail
              have K6 : Keeps (m :: c :: w4.heap.size :: (w4.heap.size + 1) :: (TS.held ob G t).foot) wr ((w6.setCell ⟨w4.heap.size, i, none⟩ (.pointer none)).setCell ⟨w4.heap.size + 1, i, none⟩ (.bool false)) := ((k6.mono (by intro j hj; left; simp [TS.foot] at hj ⊢; omega)).setCell _ _ (.inl (by simp))).setCell _ _ (.inl (by simp))
              refine ⟨⟨k + 1, wm, ts.set i .idle, ws, memSet L (8 + 2 * (i : Int)) ⟨0, ⟨#[]⟩, 0⟩, q + 1, P, by omega, by go_num, rfl, rfl, by omega, by omega, hr.thread hs ((hm6.other _ _ (by simp; omega) (by simp; omega)).other _ _ (by simp; omega) (by simp; omega)) ?_ ?_ K6 trivial (by intro b hb; simp [TS.foot] at hb) (memSet_length _ _ _) (memAt_set_other _ _ _ _ (by omega)) ?_ (fun j _ hj => memAt_set_other _ _ _ _ (by omega)) (by intro τ h; cases h), kk _ K6, hnd⟩, by simp [intOf]; omega⟩
              · rw [List.map_set]
                exact (ho6.set i _).other _ _ (by simp)
              · rw [List.map_set]
                exact (hh6.other _ _ (by simp)).set i _
              · rw [memAt_set_same _ _ _ (by omega) (by omega)]; rfl
      · go_wp2_with fail
        go_ret
        exact ⟨rfl, K4.trans hkr (by intro j hj; right; simp at hj; omega)⟩
end Go.Proofs.Ytiodlmmbjjdojaa
