/- Lemmas on the way to LinearRejects. No condition. -/
import Derived.Test.YtbcgpjfejpcgnaaGreatQAf
import Derived.Test.YtbcgpjfejpcgnaaGreatQAo
import Derived.Test.YtbcgpjfejpcgnaaGreatQAv
import Derived.Deep.RegionHeld3
import Derived.Deep.CutRange
import Derived.WalkKit
import Derived.Deep.QuietTactic
import Derived.BigQuiet
import Derived.Sort.AssemblyPlain
set_option linter.unusedSimpArgs false
set_option linter.unusedVariables false
set_option linter.unusedSectionVars false
section
namespace Go.Proofs.YtbcgpjfejpcgnaaGreat
open Go.RowKit
set_option maxRecDepth 100000
set_option linter.unusedSimpArgs false
set_option linter.unusedVariables false
theorem WX.zero {w : World} {g : Nat} (b : Blk w g [.slice none 0 0, .int .u64 0, .slice none 0 0, .slice none 0 0]) {base : Nat} (hb : base ≤ g) : WX w base g (.slice none 0 0) (.slice none 0 0) (.slice none 0 0) [] s0 :=
  ⟨b, Row.nil _ _, fun i v b h => by simp at h, Row.nil _ _, Row.nil _ _, ⟨hb, fun g h => by simp [Value.ownBlock] at h⟩, fun g h => by simp [Value.ownBlock] at h, fun g h => by simp [Value.ownBlock] at h⟩
def XexQ (T S N C R F K : Int) (xs : List RV) (w : World) (e : Ending) (w' : World) : Prop :=
  ∃ (ww : Nat) (s : WS), e = .returned (.tuple #[.pointer (some ⟨ww, 0, none⟩), .int .i64 (exE T S N C R F K xs)]) ∧ WXx w' w.heap.size ww s ∧ (exE T S N C R F K xs = 0 → s = (explW s0 ((ordL xs).map rxO)).2) ∧ Keeps [] w w'
def Left (L : List RX) (k : Nat) (s : WS) : Prop := explW s0 L = explW s (L.drop k)
theorem Left.step {L : List RX} {k : Nat} {s : WS} {x : RX} (h : Left L k s) (hx : L[k]? = some x) : (fitsW (perfW s x) x = true → Left L (k + 1) (perfW s x).2.2) ∧ (fitsW (perfW s x) x = false → (explW s0 L).1 = false) := by
  unfold Left at h ⊢
  obtain ⟨hk, he⟩ := List.getElem?_eq_some_iff.1 hx
  rw [h, List.drop_eq_getElem_cons hk, he, explW_cons]
  constructor
  · intro h1; rw [if_pos h1]
  · intro h1; rw [if_neg (by rw [h1]; simp)]
theorem Left.done {L : List RX} {k : Nat} {s : WS} (h : Left L k s) (hk : L.length ≤ k) : explW s0 L = (true, s) := by
  unfold Left at h
  rw [h, List.drop_of_length_le hk]
  rfl
theorem exOk_not {T S N C R F K : Int} {xs : List RV} {x : RV} (hx : x ∈ xs) (h : ¬ okR T S x) : ¬ exOk T S N C R F K xs := fun hh => h (hh.2.2 x hx)
set_option maxHeartbeats 4000000 in
theorem xexplain_any (T S N C R F K : Int) (xs : List RV) (hn : xs.length ≤ 99) (v : Value) (w : World) (hv : Lst w v xs.length (rCs xs)) (hN : ∀ x ∈ xs, NatX x) (hb : ∀ x ∈ xs, OkB w x ∧ x.b.length ≤ 1000) :
    Calls Tryz.prog 6 #[.agg #[.int .i64 T, .int .i64 S, .int .i64 N, .int .i64 C, .int .i64 R, .int .i64 F, .int .u64 K], v] w (XexQ T S N C R F K xs w) := by
  have kB := ((Keeps.refl [] w).alloc (.cells #[.int .i64 T, .int .i64 S, .int .i64 N, .int .i64 C, .int .i64 R, .int .i64 F, .int .u64 K] 24)).alloc (.cells #[.slice none 0 0, .int .u64 0, .slice none 0 0, .slice none 0 0] 58)
  have bc := (Blk.new w [.int .i64 T, .int .i64 S, .int .i64 N, .int .i64 C, .int .i64 R, .int .i64 F, .int .u64 K] 24).alloc (.cells #[.slice none 0 0, .int .u64 0, .slice none 0 0, .slice none 0 0] 58)
  have bw := Blk.new_at (w.alloc (.cells #[.int .i64 T, .int .i64 S, .int .i64 N, .int .i64 C, .int .i64 R, .int .i64 F, .int .u64 K] 24)) (w.heap.size + 1) [.slice none 0 0, .int .u64 0, .slice none 0 0, .slice none 0 0] 58 (by simp)
  obtain ⟨W, hW⟩ : ∃ W, W = (w.alloc (.cells #[.int .i64 T, .int .i64 S, .int .i64 N, .int .i64 C, .int .i64 R, .int .i64 F, .int .u64 K] 24)).alloc (.cells #[.slice none 0 0, .int .u64 0, .slice none 0 0, .slice none 0 0] 58) := ⟨_, rfl⟩
  rw [← hW] at kB bc bw
  have hX := WX.zero bw (base := w.heap.size) (by omega)
  have hv3 := O.v3_any T S N C R F K W
  have HW := Lib.hid hW
  have HV := Lib.hid hv
  have HB := Lib.hid (And.intro kB (And.intro bc hX))
  have hck := fun u (k : Keeps [] w u) => rcheck_any xs (by omega) v u (hv.keeps k)
  have hod := fun u (k : Keeps [] w u) => rorder_any xs (by omega) v u (hv.keeps k)
  obtain ⟨n, hn'⟩ : ∃ n, xs.length = n := ⟨_, rfl⟩
  obtain ⟨A, cap, bv_, ov_, rfl, _, _⟩ := hv
  rw [hn'] at hn HV hck hod
  rw [hn']
  have Hn := Lib.hid hn'
  clear hn' hW kB bc bw hX
  go_enter Tryz.func6, Tryz.ntmps6
  go_wp2_with fail
  rw [← HW.out]
  refine hv3.mono ?_
  rintro e w1 ⟨rfl, k1⟩
  obtain ⟨kB, bc, hX⟩ := HB.out
  have kB1 := kB.trans k1 (by simp)
  have bc1 := k1.blk bc (by simp)
  have hX1 := hX.keeps k1
  have hck1 := hck _ kB1
  have HB1 := Lib.hid (And.intro kB1 (And.intro bc1 hX1))
  clear kB bc hX k1 kB1 bc1 hX1 HW HB hv3 hck
  by_cases hcf : O.cfgB T S N C R F K = true
  case neg =>
    have hcf' : O.cfgB T S N C R F K = false := by simpa using hcf
    have HE := Lib.hid (exE_bad (fun h => hcf h.1 : ¬ exOk T S N C R F K xs))
    rw [hcf']
    clear hcf hcf'
    go_wp2_with fail
    go_ret2
    obtain ⟨kB, bc, hX⟩ := HB1.out
    exact ⟨_, _, by rw [HE.out]; rfl, ⟨_, _, _, _, hX⟩, fun h => by rw [HE.out] at h; exact absurd h (by decide), kB⟩
  case pos =>
  have Hcf := Lib.hid hcf
  rw [hcf]
  clear hcf
  go_wp2_with fail
  refine hck1.mono ?_
  rintro e w2 ⟨r, rfl, hgood, k2⟩
  obtain ⟨kB, bc, hX⟩ := HB1.out
  have kB2 := kB.trans k2 (by simp)
  have bc2 := k2.blk bc (by simp)
  have hX2 := hX.keeps k2
  clear kB bc hX k2 hck1 HB1
  cases r with
  | false =>
    have HE := Lib.hid (exE_bad (fun h => by simpa using hgood.2 h.2.1 : ¬ exOk T S N C R F K xs))
    have HX := Lib.hid (And.intro kB2 hX2)
    clear hgood kB2 bc2 hX2 hod
    go_wp2_with fail
    go_ret2
    exact ⟨_, _, by rw [HE.out]; rfl, ⟨_, _, _, _, HX.out.2⟩, fun h => by rw [HE.out] at h; exact absurd h (by decide), HX.out.1⟩
  | true =>
    have Hgood := Lib.hid (hgood.1 rfl)
    have HX := Lib.hid (And.intro kB2 (And.intro bc2 hX2))
    clear hgood kB2 bc2 hX2
    go_wp2_with fail
    go_loopw [7] (fun i wr => ∃ k : Nat, k ≤ n ∧ i = .int .i64 k ∧ Keeps [] w2 wr ∧ Hid (∀ j x, j < k → xs[j]? = some x → okR T S x)) (fun i _ => n - (intOf i).toNat)
    case atStart => exact ⟨0, by omega, rfl, Keeps.refl _ _, Lib.hid (fun i r h => by omega)⟩
    case round =>
      obtain ⟨k, hk, rfl, kk, HO⟩ := hrel
      by_cases hlt : k < n
      · obtain ⟨x, hx⟩ : ∃ x, xs[k]? = some x := ⟨_, List.getElem?_eq_getElem (by rw [Hn.out]; exact hlt)⟩
        have hxm := List.mem_of_getElem? hx
        have K2 := HX.out.1.trans kk (by simp)
        obtain ⟨g, o, rfl, hc, hg⟩ := (HV.out.keeps K2).atS Hn.out hx
        have bcr := kk.blk HX.out.2.1 (by simp)
        have hkn : (k : Int) < (n : Int) := by omega
        have hT := O.v22_any T S N C R F K (ovO x)
        have hob := (hb x hxm).1.keeps K2
        have hbl := (hb x hxm).2
        have Hx := Lib.hid hx
        have Hm := Lib.hid hxm
        obtain ⟨d0, d1, d2, d3, d4, d5, d6, df, dl⟩ := bcr.o7
        obtain ⟨c0, c1, c2, c3, c4, c5, c6, c7, c8, c9, c10, c11, c12, c13, c14, c15⟩ := hc.all
        by_cases hth : x.n.th < T
        · have hth' : ¬ T ≤ x.n.th := by omega
          have hv2 : ∀ u, Keeps [] wr u → Calls Tryz.prog 14 #[.agg #[.int .i64 T, .int .i64 S, .int .i64 N, .int .i64 C, .int .i64 R, .int .i64 F, .int .u64 K], .agg #[.int .i64 x.code, .string x.key, .int .u64 x.time, .slice x.bA x.b.length x.bc, .int .i64 x.hd, .int .i64 x.cu, .int .i64 x.mo]] u fun q w' => q = .returned (.bool (O.vOp S (ovO x).op)) ∧ Keeps [] u w' := fun u ku => by
            have := hT u (Lst.keeps hob ku) (by show x.b.length ≤ _; omega)
            simp only [ovO, key_back] at this
            rw [Int.toNat_of_nonneg (hN x Hm.out).1.1] at this
            exact this
          obtain ⟨vo, hvo⟩ : ∃ vo, O.vOp S (ovO x).op = vo := ⟨_, rfl⟩
          rw [hvo] at hv2
          have Hvo := Lib.hid hvo
          have hS : ∀ w' : World, Keeps [] wr w' → (w'.cell? ⟨g, o + k * 16, none⟩ = some (.int .i64 x.n.th) ∧ w'.cell? ⟨g, o + k * 16 + 5, none⟩ = some (.int .i64 x.code) ∧ w'.cell? ⟨g, o + k * 16 + 6, none⟩ = some (.string x.key) ∧ w'.cell? ⟨g, o + k * 16 + 7, none⟩ = some (.int .u64 x.time) ∧ w'.cell? ⟨g, o + k * 16 + 8, none⟩ = some (.slice x.bA x.b.length x.bc) ∧ w'.cell? ⟨g, o + k * 16 + 9, none⟩ = some (.int .i64 x.hd) ∧ w'.cell? ⟨g, o + k * 16 + 10, none⟩ = some (.int .i64 x.cu) ∧ w'.cell? ⟨g, o + k * 16 + 11, none⟩ = some (.int .i64 x.mo) ∧ w'.cell? ⟨w.heap.size, 0, none⟩ = some (.int .i64 T) ∧ w'.cell? ⟨w.heap.size, 1, none⟩ = some (.int .i64 S) ∧ w'.cell? ⟨w.heap.size, 2, none⟩ = some (.int .i64 N) ∧ w'.cell? ⟨w.heap.size, 3, none⟩ = some (.int .i64 C) ∧ w'.cell? ⟨w.heap.size, 4, none⟩ = some (.int .i64 R) ∧ w'.cell? ⟨w.heap.size, 5, none⟩ = some (.int .i64 F) ∧ w'.cell? ⟨w.heap.size, 6, none⟩ = some (.int .u64 K)) := fun w' k => ⟨k.cellEq c0 (by simp), k.cellEq c5 (by simp), k.cellEq c6 (by simp), k.cellEq c7 (by simp), k.cellEq c8 (by simp), k.cellEq c9 (by simp), k.cellEq c10 (by simp), k.cellEq c11 (by simp), k.cellEq d0 (by simp), k.cellEq d1 (by simp), k.cellEq d2 (by simp), k.cellEq d3 (by simp), k.cellEq d4 (by simp), k.cellEq d5 (by simp), k.cellEq d6 (by simp)⟩
          clear hT hob hbl hx hxm hc K2 bcr hvo
          go_upto_region 7 with fail
          go_cut [46] from 29 to 47 (fun s wx => s = .bool (!vo) ∧ Keeps [] wr wx)
          case first =>
            go_region_held3 (fun w' => w'.cell? ⟨g, o + k * 16, none⟩ = some (.int .i64 x.n.th) ∧ w'.cell? ⟨g, o + k * 16 + 5, none⟩ = some (.int .i64 x.code) ∧ w'.cell? ⟨g, o + k * 16 + 6, none⟩ = some (.string x.key) ∧ w'.cell? ⟨g, o + k * 16 + 7, none⟩ = some (.int .u64 x.time) ∧ w'.cell? ⟨g, o + k * 16 + 8, none⟩ = some (.slice x.bA x.b.length x.bc) ∧ w'.cell? ⟨g, o + k * 16 + 9, none⟩ = some (.int .i64 x.hd) ∧ w'.cell? ⟨g, o + k * 16 + 10, none⟩ = some (.int .i64 x.cu) ∧ w'.cell? ⟨g, o + k * 16 + 11, none⟩ = some (.int .i64 x.mo) ∧ w'.cell? ⟨w.heap.size, 0, none⟩ = some (.int .i64 T) ∧ w'.cell? ⟨w.heap.size, 1, none⟩ = some (.int .i64 S) ∧ w'.cell? ⟨w.heap.size, 2, none⟩ = some (.int .i64 N) ∧ w'.cell? ⟨w.heap.size, 3, none⟩ = some (.int .i64 C) ∧ w'.cell? ⟨w.heap.size, 4, none⟩ = some (.int .i64 R) ∧ w'.cell? ⟨w.heap.size, 5, none⟩ = some (.int .i64 F) ∧ w'.cell? ⟨w.heap.size, 6, none⟩ = some (.int .u64 K))
              (first
                | (with_reducible exact hS _ ((Keeps.refl [] wr).drew))
                | (with_reducible exact hS _ k6)
                | fail)
              ((first
                | (go_at_call 14; refine (hv2 _ ((Keeps.refl [] wr).drew)).mono ?_; rintro e w6 ⟨rfl, k6r⟩; have k6 : Keeps [] wr w6 := k6r.undrew)
                | fail))
            all_goals
              go_wp2_with fail
              go_meet
              exact ⟨rfl, k6⟩
          case rest =>
            obtain ⟨rfl, kc⟩ := hcut
            have kkc := kk.trans kc (by simp)
            clear hv2 hS c0 c1 c2 c3 c4 c5 c6 c7 c8 c9 c10 c11 c12 c13 c14 c15 d0 d1 d2 d3 d4 d5 d6 df dl kk kc
            cases vo with
            | true =>
              go_wp2_with fail
              exact ⟨⟨k + 1, by omega, by go_num, kkc, Lib.hid (fun j y hj hy => by
                by_cases hjk : j = k
                · subst hjk
                  rw [Hx.out] at hy
                  cases hy
                  exact ⟨hth, Hvo.out⟩
                · exact HO.out j y (by omega) hy)⟩, by simp [intOf]; omega⟩
            | false =>
              have HE := Lib.hid (exE_bad (exOk_not Hm.out (fun h => by have := h.2; rw [Hvo.out] at this; exact absurd this (by simp)) : ¬ exOk T S N C R F K xs))
              have HY := Lib.hid (And.intro (HX.out.1.trans kkc (by simp)) (HX.out.2.2.keeps kkc))
              clear kkc
              go_wp2_with fail
              go_ret2
              exact ⟨_, _, by rw [HE.out]; rfl, ⟨_, _, _, _, HY.out.2⟩, fun h => by rw [HE.out] at h; exact absurd h (by decide), HY.out.1⟩
        · have hth' : T ≤ x.n.th := by omega
          have HE := Lib.hid (exE_bad (exOk_not Hm.out (fun h => hth h.1) : ¬ exOk T S N C R F K xs))
          have HY := Lib.hid (And.intro (HX.out.1.trans (kk.drew) (by simp)) (HX.out.2.2.keeps (kk.drew)))
          clear hT hob hbl hx hxm hc K2 bcr kk HO
          go_wp2_with fail
          go_region
          all_goals
            go_wp2_with fail
            go_ret2
            exact ⟨_, _, by rw [HE.out]; rfl, ⟨_, _, _, _, HY.out.2⟩, fun h => by rw [HE.out] at h; exact absurd h (by decide), HY.out.1⟩
      · obtain rfl : k = n := by omega
        have Hok : Hid (exOk T S N C R F K xs) := Lib.hid ⟨Hcf.out, Hgood.out, fun x hx => by
          obtain ⟨j, hj⟩ := List.mem_iff_getElem?.1 hx
          exact HO.out j x (by have := (List.getElem?_eq_some_iff.1 hj).1; rw [Hn.out] at this; exact this) hj⟩
        have HE := Lib.hid (exE_good Hok.out)
        have K2 := HX.out.1.trans kk (by simp)
        have hX3 := HX.out.2.2.keeps kk
        have hod3 := hod _ K2
        have HY := Lib.hid (And.intro K2 hX3)
        clear HO kk K2 hX3 hod hlt hk
        go_wp2_with fail
        refine hod3.mono ?_
        rintro e w4 ⟨u, rfl, hu, k4⟩
        obtain ⟨K2, hX3⟩ := HY.out
        have K4 := K2.trans k4 (by simp)
        have hX4 := hX3.keeps k4
        have hlen : (ordL xs).length ≤ 99 := by have := ordL_len xs; have := Hn.out; omega
        have hmem : ∀ y ∈ ordL xs, OkXN y ∧ OkB w y ∧ y.b.length ≤ 1000 := fun y hy => by
          have hm := (ordL_mem hy).1
          exact ⟨OkXN.of Hok.out hm (hN y hm), hb y hm⟩
        obtain ⟨ys, hys⟩ : ∃ ys, ordL xs = ys := ⟨_, rfl⟩
        rw [hys] at hu hlen hmem HE
        obtain ⟨n2, hn2⟩ : ∃ n2, ys.length = n2 := ⟨_, rfl⟩
        rw [hn2] at hu hlen
        obtain ⟨A2, cap2, rfl⟩ := hu.len
        have hdis : ∀ g, (Value.slice A2 n2 cap2).ownBlock = some g → ¬ OwnW (w.heap.size + 1) (.slice none 0 0) (.slice none 0 0) (.slice none 0 0) [] g := by
          intro g hg ho
          have hgw : g = w.heap.size + 1 := by
            rcases ho with h | h | h | h | ⟨v, h, _⟩
            · exact h
            · simp [Value.ownBlock] at h
            · simp [Value.ownBlock] at h
            · simp [Value.ownBlock] at h
            · simp at h
          subst hgw
          obtain ⟨_, ⟨h1, _⟩ | ⟨g9, c9, r9, h9, hb9, h10, h11, h12⟩⟩ := hu
          · rw [h1] at hg; simp [Value.ownBlock] at hg
          · rw [h9] at hg
            simp [Value.ownBlock] at hg
            subst hg
            have z1 := hb9.cell 0
            have z2 := hX4.hw.cell 0
            rw [z1] at z2
            have z3 := hb9.cell 4
            have z4 := hX4.hw.cell 4
            rw [z3] at z4
            have l1 := (List.getElem?_eq_some_iff.1 z2).1
            have l2 := List.getElem?_eq_none_iff.1 z4
            omega
        have Hys := Lib.hid hys
        have Hn2 := Lib.hid hn2
        by_cases hn0 : n2 = 0
        · have hnil : ys = [] := List.eq_nil_of_length_eq_zero (by omega)
          have HE2 : Hid (exE T S N C R F K xs = 0) := Lib.hid (by rw [HE.out, hnil]; rfl)
          have HS2 : Hid (s0 = (explW s0 ((ordL xs).map rxO)).2) := Lib.hid (by rw [hys, hnil]; rfl)
          have HY := Lib.hid (And.intro hX4 K4)
          subst hn0
          clear hys hn2 K2 hX3 k4 K4 hX4 hu hdis hod3 hnil
          go_wp2_with fail
          go_loopw [9] (fun i wr => i = .int .i64 0 ∧ wr = w4) (fun i _ => 0)
          case atStart => exact ⟨rfl, rfl⟩
          case round =>
            obtain ⟨rfl, rfl⟩ := hrel
            go_wp2_with fail
            go_ret2
            exact ⟨_, _, by rw [HE2.out]; rfl, ⟨_, _, _, _, HY.out.1⟩, fun _ => HS2.out, HY.out.2⟩
        obtain ⟨y0, hy0⟩ : ∃ y, ys[0]? = some y := ⟨_, List.getElem?_eq_getElem (by omega)⟩
        obtain ⟨g, o, rfl, _, _⟩ := hu.lst.atS hn2 hy0
        have HZ := Lib.hid (And.intro K4 (And.intro hX4 (And.intro hu hdis)))
        clear hys hn2 K2 hX3 k4 K4 hX4 hu hdis hod3 HY hy0
        go_wp2_with fail
        go_loopw [9] (fun i wr => ∃ (k : Nat) (s : WS) (bv sv cv : Value) (vs : List Value), k ≤ n2 ∧ i = .int .i64 k ∧ WX wr w.heap.size (w.heap.size + 1) bv sv cv vs s ∧ Keeps [] w wr ∧ Row wr (.slice (some ⟨g, o, none⟩) n2 cap2) n2 16 (rCs ys) ∧ (∀ gx, (Value.slice (some ⟨g, o, none⟩) n2 cap2).ownBlock = some gx → ¬ OwnW (w.heap.size + 1) bv sv cv vs gx) ∧ Inv k s ∧ Hid (Left (ys.map rxO) k s)) (fun i _ => n2 - (intOf i).toNat)
        case atStart => exact ⟨0, s0, _, _, _, _, by omega, rfl, HZ.out.2.1, HZ.out.1, HZ.out.2.2.1, HZ.out.2.2.2, Inv.zero, Lib.hid rfl⟩
        case round =>
          obtain ⟨k, s, bv, sv, cv, vs, hk, rfl, hX, kk, hu, hdis, hinv, HL⟩ := hrel
          clear HZ
          by_cases hlt : k < n2
          · obtain ⟨y, hy⟩ : ∃ y, ys[k]? = some y := ⟨_, List.getElem?_eq_getElem (by rw [Hn2.out]; exact hlt)⟩
            obtain ⟨hok, hob, hbl⟩ := hmem y (List.mem_of_getElem? hy)
            obtain ⟨g', o', hgo, hc, hg⟩ := hu.lst.atS Hn2.out hy
            have e1 : g' = g := by simp at hgo; exact hgo.1.symm
            have e2 : o' = o := by simp at hgo; exact hgo.2.symm
            rw [e1, e2] at hc
            rw [e1] at hg
            clear hgo e1 e2
            have hback := hok.back
            have hokx := hok.ok
            have htm := hok.tm
            have hLk : (ys.map rxO)[k]? = some (rxO y) := by rw [List.getElem?_map, hy]; rfl
            obtain ⟨x, hx⟩ : ∃ x, rxO y = x := ⟨_, rfl⟩
            rw [hx] at hback hokx htm hLk
            subst hback
            have hl0 : (loadVar 34 ⟨g, o + k * 16, none⟩).run Tryz.prog wr = .ok (.agg #[.int .i64 (x.t : Int), .int .i64 x.ix, .int .i64 x.inv, .int .i64 x.pt, .int .i64 x.rs, .int .i64 (x.code : Int), .string ⟨x.key.toArray⟩, .int .u64 (x.time : Int), .slice x.bA x.b.length x.bc, .int .i64 (x.hd : Int), .int .i64 (x.cu : Int), .int .i64 (x.mo : Int), .int .i64 x.er, .int .u64 (x.at_ : Int), .string ⟨x.ak.toArray⟩, .string ⟨x.av.toArray⟩]) wr := hc.load
            have hbox : OkX' wr x := Lst.keeps hob kk
            have hpf := xperf_any hX hinv (by omega) x hokx hbox htm hbl
            obtain ⟨⟨a, rb, s'⟩, hr⟩ : ∃ r, perfW s x = r := ⟨_, rfl⟩
            have hstep := hinv.step hokx
            have hLs := HL.out.step hLk
            rw [hr] at hpf hstep hLs
            have hkn : (k : Int) < (n2 : Int) := by omega
            have hrow := hu
            have HZ := Lib.hid (And.intro hX (And.intro kk (And.intro hrow (And.intro hdis (And.intro hstep hLs)))))
            have Hn3 := Lib.hid (hokx.rs)
            have hcc := hc
            have Hc := Lib.hid hcc
            have HO := Lib.hid (And.intro hob (And.intro hbl (And.intro hmem hinv)))
            clear hy hok hc hu hx hokx htm hLk hbox hX kk hdis hr hstep hLs hinv hrow hob hbl hmem hcc HL
            go_upto_region 13 with fail
            go_cut [10, 11] from 56 to 84 (fun s10 s11 wx => ∃ (g10 : Nat) (bv sv cv : Value) (vs : List Value), s10 = .pointer (some ⟨g10, 0, none⟩) ∧ s11 = .bool rb ∧ WX wx w.heap.size (w.heap.size + 1) bv sv cv vs s' ∧ Blk wx g10 [.int .i64 a.er, .int .u64 (a.tm : Int), .string ⟨a.k.toArray⟩, .string ⟨a.v.toArray⟩] ∧ Keeps [] w wx ∧ Row wx (.slice (some ⟨g, o, none⟩) n2 cap2) n2 16 (rCs ys) ∧ (∀ g', (Value.slice (some ⟨g, o, none⟩) n2 cap2).ownBlock = some g' → ¬ OwnW (w.heap.size + 1) bv sv cv vs g') ∧ Cel wx g (o + k * 16) (rvX x) ∧ g < wx.heap.size)
            case first =>
              go_wp2_with (first
                | (refine list_load_eq rfl 34 _ rfl _ rfl _ hl0 ?_))
              refine hpf.mono ?_
              rintro e w5 ⟨rfl, bv5, sv5, cv5, vs5, hX5, hE5⟩
              obtain ⟨hX, kk, hrow, hdis, hstep, hLs⟩ := HZ.out
              have hge : ∀ i, OwnW (w.heap.size + 1) bv sv cv vs i → w.heap.size ≤ i := fun i hi => (hX.oge hi).1
              have kk5 := hE5.gr kk hge
              obtain ⟨hrow5, hdis5⟩ : Row w5 (.slice (some ⟨g, o, none⟩) n2 cap2) n2 16 (rCs ys) ∧ (∀ g', (Value.slice (some ⟨g, o, none⟩) n2 cap2).ownBlock = some g' → ¬ OwnW (w.heap.size + 1) bv5 sv5 cv5 vs5 g') := by
                obtain ⟨⟨S9, hS9, k9⟩, h9⟩ := hE5
                refine ⟨hrow.keeps k9 (fun g' hg' hm => hdis g' hg' (hS9 g' hm)), fun g' hg' ho => ?_⟩
                rcases h9 g' ho with q | q
                · exact hdis g' hg' q
                · have := hrow.blk g' hg'; omega
              have hcl5 : Cel w5 g (o + k * 16) (rvX x) := by
                obtain ⟨⟨S9, hS9, k9⟩, h9⟩ := hE5
                exact Hc.out.keeps k9 (fun hm => hdis g rfl (hS9 g hm))
              have ka := (Keeps.refl [] w5).alloc (.cells #[.int .i64 a.er, .int .u64 (a.tm : Int), .string ⟨a.k.toArray⟩, .string ⟨a.v.toArray⟩] 32)
              have ba := Blk.new w5 [.int .i64 a.er, .int .u64 (a.tm : Int), .string ⟨a.k.toArray⟩, .string ⟨a.v.toArray⟩] 32
              have HY := Lib.hid (And.intro (hX5.keeps ka) (And.intro ba (And.intro (kk5.trans ka (by simp)) (And.intro (hrow5.keeps ka (by simp)) (And.intro hdis5 (And.intro (hcl5.keeps ka (by simp)) (Nat.lt_of_lt_of_le hg (Nat.le_trans hE5.size ka.size))))))))
              clear hX kk hrow hdis hstep hLs hge kk5 hrow5 hdis5 hcl5 ka ba hX5 hE5 hpf hl0
              go_wp2_with fail
              go_meet
              exact ⟨_, _, _, _, _, rfl, rfl, HY.out.1, HY.out.2.1, HY.out.2.2.1, HY.out.2.2.2.1, HY.out.2.2.2.2.1, HY.out.2.2.2.2.2.1, HY.out.2.2.2.2.2.2⟩
            case rest =>
              obtain ⟨g10, bv5, sv5, cv5, vs5, rfl, rfl, hX5, b10, kk5, hrow5, hdis5, hc5, hg5⟩ := hcut
              obtain ⟨t0, t1, t2, t3, tf, tl⟩ := b10.o4
              obtain ⟨c0, c1, c2, c3, c4, c5, c6, c7, c8, c9, c10, c11, c12, c13, c14, c15⟩ := hc5.all
              have hne := ne_ans a (ansX x)
              obtain ⟨q, hq⟩ : ∃ q, anB a (ansX x) = q := ⟨_, rfl⟩
              rw [hq] at hne
              have e4 : wc.cell? ⟨g, o + k * 16 + 4, none⟩ = some (.int .i64 x.rs) := c4
              have e12 : wc.cell? ⟨g, o + k * 16 + 12, none⟩ = some (.int .i64 x.er) := c12
              have e13 : wc.cell? ⟨g, o + k * 16 + 13, none⟩ = some (.int .u64 (x.at_ : Int)) := c13
              have e14 : wc.cell? ⟨g, o + k * 16 + 14, none⟩ = some (.string ⟨x.ak.toArray⟩) := c14
              have e15 : wc.cell? ⟨g, o + k * 16 + 15, none⟩ = some (.string ⟨x.av.toArray⟩) := c15
              have hne' : ∀ w : World, (binOp .neq 32 (.agg #[.int .i64 a.er, .int .u64 (a.tm : Int), .string ⟨a.k.toArray⟩, .string ⟨a.v.toArray⟩]) (.agg #[.int .i64 x.er, .int .u64 (x.at_ : Int), .string ⟨x.ak.toArray⟩, .string ⟨x.av.toArray⟩])).run Tryz.prog w = .ok (.bool (!q)) w := hne
              have Hq := Lib.hid hq
              have HY := Lib.hid (And.intro (hX5.keeps (Keeps.refl [] wc).drew) (And.intro kk5.drew (And.intro (hrow5.keeps ((Keeps.refl [] wc).drew) (by simp)) hdis5)))
              clear c0 c1 c2 c3 c4 c5 c6 c7 c8 c9 c10 c11 c12 c13 c14 c15 b10 hc5 hq hX5 kk5 hrow5 hdis5 hpf hl0 hne
              have hfit : fitsW (a, rb, s') x = (rb && (decide (x.rs = -1) || q)) := by unfold fitsW; rw [Hq.out]
              have Hfit := Lib.hid hfit
              clear hfit
              cases rb with
              | false =>
                have HE2 : Hid (exE T S N C R F K xs = 13) := Lib.hid (by
                  rw [HE.out, if_neg]
                  have := HZ.out.2.2.2.2.2.2 (by rw [Hfit.out]; rfl)
                  rw [this]; simp)
                go_wp2_with fail
                go_region
                all_goals
                  go_wp2_with fail
                  go_ret2
                  exact ⟨_, _, by rw [HE2.out]; rfl, ⟨_, _, _, _, HY.out.1⟩, fun h => by rw [HE2.out] at h; exact absurd h (by decide), HY.out.2.1⟩
              | true =>
                by_cases hrs : x.rs = -1
                · have hrs0 : ¬ 0 ≤ x.rs := by omega
                  have Hnx := Lib.hid (HZ.out.2.2.2.2.2.1 (by rw [Hfit.out]; simp [hrs]))
                  have Hst := Lib.hid HZ.out.2.2.2.2.1
                  clear hrs
                  go_upto_region 14 with fail
                  go_cut [83] from 65 to 84 (fun s83 wx => s83 = .bool false ∧ wx = wc.drew)
                  case first =>
                    go_region
                    all_goals
                      go_wp2_with fail
                      go_meet
                      exact ⟨rfl, rfl⟩
                  case rest =>
                    obtain ⟨rfl, rfl⟩ := hcut
                    clear t0 t1 t2 t3 tf tl e4 e12 e13 e14 e15 hg5 hne'
                    go_wp2_with fail
                    exact ⟨⟨k + 1, s', _, _, _, _, by omega, by go_num, HY.out.1, HY.out.2.1, HY.out.2.2.1, HY.out.2.2.2, Hst.out, Hnx⟩, by simp [intOf]; omega⟩
                · have hrs0 : 0 ≤ x.rs := by have := Hn3.out; omega
                  cases q with
                  | false =>
                    have HE2 : Hid (exE T S N C R F K xs = 13) := Lib.hid (by
                      rw [HE.out, if_neg]
                      have := HZ.out.2.2.2.2.2.2 (by rw [Hfit.out]; simp [hrs])
                      rw [this]; simp)
                    clear hrs
                    go_wp2_with fail
                    go_region
                    all_goals
                      go_wp2_with fail
                      go_ret2
                      exact ⟨_, _, by rw [HE2.out]; rfl, ⟨_, _, _, _, HY.out.1⟩, fun h => by rw [HE2.out] at h; exact absurd h (by decide), HY.out.2.1⟩
                  | true =>
                    have Hnx := Lib.hid (HZ.out.2.2.2.2.2.1 (by rw [Hfit.out]; simp))
                    have Hst := Lib.hid HZ.out.2.2.2.2.1
                    clear hrs
                    go_upto_region 14 with fail
                    go_cut [83] from 65 to 84 (fun s83 wx => s83 = .bool false ∧ wx = wc.drew)
                    case first =>
                      go_region
                      all_goals
                        go_wp2_with fail
                        go_meet
                        exact ⟨rfl, rfl⟩
                    case rest =>
                      obtain ⟨rfl, rfl⟩ := hcut
                      clear t0 t1 t2 t3 tf tl e4 e12 e13 e14 e15 hg5 hne'
                      go_wp2_with fail
                      exact ⟨⟨k + 1, s', _, _, _, _, by omega, by go_num, HY.out.1, HY.out.2.1, HY.out.2.2.1, HY.out.2.2.2, Hst.out, Hnx⟩, by simp [intOf]; omega⟩
          · obtain rfl : k = n2 := by omega
            have HE2 : Hid (exE T S N C R F K xs = 0) := Lib.hid (by
              rw [HE.out, HL.out.done (by rw [List.length_map, Hn2.out]; exact Nat.le_refl _)]; rfl)
            have HS2 : Hid (s = (explW s0 ((ordL xs).map rxO)).2) := Lib.hid (by
              rw [Hys.out, HL.out.done (by rw [List.length_map, Hn2.out]; exact Nat.le_refl _)])
            have HY := Lib.hid (And.intro hX kk)
            clear hX kk hu hdis hinv hlt hk HL
            go_wp2_with fail
            go_ret2
            exact ⟨_, _, by rw [HE2.out]; rfl, ⟨_, _, _, _, HY.out.1⟩, fun _ => HS2.out, HY.out.2⟩
end Go.Proofs.YtbcgpjfejpcgnaaGreat
end
section
namespace Go.Proofs.YtbcgpjfejpcgnaaGreat
open Go.RowKit Go.Maps Go.MapKept Go.ChangeMaps
set_option maxRecDepth 100000
variable {w w' : World} {base m sb cap mb nb F : Nat} {Q : List Nat} {sv rest : List Value} {St : List (List Ent)} {D : DataW Unit}
theorem MO.turn (h : MO w base Q m sb cap mb nb sv rest St F D) {nb' : Nat} {D' : DataW Unit} (hg : w.grownBy w' (some mb)) (ho : w'.ownsMap Tryz.prog 134 (plainElem Tryz.prog 22) mb nb' D') : MO w' base Q m sb cap mb nb' sv rest St F D' :=
  have k : Keeps [mb] w w' := Keeps.of_grownBy hg [mb] (by simp)
  ⟨k.blk h.hm (by simpa using h.ne_map h.hm), k.blk h.hs (by simpa using h.ne_map h.hs), h.hl, h.hp, h.hcap, h.hcl, h.hcm, h.hne, fun i v l h1 h2 => ⟨(h.he i v l h1 h2).1.keeps k (fun g hg => by
    have ho := (h.he i v l h1 h2).1
    rcases ho with ⟨rfl, _⟩ | ⟨g', c, r, rfl, hb, _⟩
    · simp [Value.ownBlock] at hg
    · simp [Value.ownBlock] at hg; subst hg; simpa using h.ne_map hb), (h.he i v l h1 h2).2⟩, ho, h.hb, fun q hq => ⟨(h.hq q hq).1, (h.hq q hq).2.1, (h.hq q hq).2.2.1, Nat.lt_of_lt_of_le (h.hq q hq).2.2.2 k.size⟩, h.hd⟩
theorem MO.kpMap (h : MO w base Q m sb cap mb nb sv rest St F D) (hg : w.grownBy w' (some mb)) : Kp base Q w w' :=
  ⟨[mb], fun j hj => by
    simp only [List.mem_cons, List.mem_nil_iff, or_false] at hj
    subst hj
    exact ⟨h.hb.2.2, fun hq => (h.hq _ hq).2.2.1 rfl⟩, Keeps.of_grownBy hg [mb] (by simp)⟩
set_option maxHeartbeats 1000000 in
theorem mopen_any (h : MO w base Q m sb cap mb nb sv rest St F D) (hn : St.length ≤ 4096) (hnb : nb ≤ 4096) (t j : Nat) (k : Lit) (hk : IsKl t j k) :
    Calls Tryz.prog 66 #[.pointer (some ⟨m, 0, none⟩), .int .i64 (t : Int), .int .i64 (j : Int)] w fun e w' => e = .returned (.int .u64 ((St.length - 1 : Nat) : Int)) ∧ MOx w' base Q m (nb + 1) St F (D.put k (.lit (.int .u64 ((St.length - 1 : Nat) : Int)))) ∧ Kp base Q w w' := by
  obtain ⟨d0, d1, d2, d3, d4⟩ := h.hm.o3
  have hd := h.keeps ((Keeps.refl [] w).drew)
  obtain ⟨w1, hrun, ho1, hg1⟩ := hd.hmap.update lawK Tryz.underlying96 (by unfold maxLen; omega) hk (plainElem_int (H := Unit) (a := ((St.length - 1 : Nat) : Int)) Tryz.underlying22 (WalkArith.wf_u64 (by omega)))
  have hM1 := hd.turn hg1 ho1
  have kp1 := (Kp.of (base := base) (Q := Q) ((Keeps.refl [] w).drew)).trans (hd.kpMap hg1)
  have d2' := (hM1.hm.o3).2.2.1
  have ht := fun w' (k : Keeps [] w w') => time_any (h.keeps k) hn
  have ht1 := time_any hM1 hn
  have HM := Lib.hid hM1
  have HK := Lib.hid kp1
  clear hd ho1 hg1 hM1 kp1 h
  go_enter Tryz.func66, Tryz.ntmps66
  go_wp2_with fail
  go_region_held3 (fun w' => w'.cell? ⟨m, 2, none⟩ = some (.map (some mb)))
    (first | assumption | go_keep)
    ((go_at_call 75; refine (ht _ ((Keeps.refl [] w).drew)).mono ?_; rintro e w2 ⟨rfl, rfl⟩))
  all_goals (
    go_wp2_with fail
    refine ht1.mono ?_
    rintro e w7 ⟨rfl, rfl⟩
    go_wp2_with fail
    go_ret
    exact ⟨rfl, ⟨_, _, _, _, _, _, Nat.le_refl _, HM.out⟩, HK.out⟩)
theorem turned_grown {w w' : World} {b : Nat} (h : w.mapTurned w' b) : w.grownBy w' (some b) := by
  obtain ⟨es, clock, es', clock', hb, rfl⟩ := h
  exact ⟨rfl, rfl, rfl, by simp [setBlock], fun i _ hi => heap_setBlock_other hb _ (fun e => hi (by rw [e]))⟩
set_option maxHeartbeats 1000000 in
theorem mrel_any (h : MO w base Q m sb cap mb nb sv rest St F D) (t j : Nat) (k : Lit) (hk : IsKl t j k) :
    Calls Tryz.prog 67 #[.pointer (some ⟨m, 0, none⟩), .int .i64 (t : Int), .int .i64 (j : Int)] w fun e w' => e = .returned (.tuple #[]) ∧ MOx w' base Q m nb St F (D.del k) ∧ Kp base Q w w' := by
  obtain ⟨d0, d1, d2, d3, d4⟩ := h.hm.o3
  have H := Lib.hid h
  clear h
  go_enter Tryz.func67, Tryz.ntmps67
  go_wp2_with (at_delete; refine wpList_delete_own _ rfl _ _ 96 134 rfl 22 lawK Tryz.underlying96 _ mb nb D rfl H.out.hmap _ _ rfl hk ?_; intro w1 hown1 hturn1)
  go_end0
  have hg := turned_grown hturn1
  exact ⟨rfl, ⟨_, _, _, _, _, _, Nat.le_refl _, H.out.turn hg hown1⟩, H.out.kpMap hg⟩
end Go.Proofs.YtbcgpjfejpcgnaaGreat
end
section
namespace Go.Proofs.YtbcgpjfejpcgnaaGreat
def insR (x : Int) : List Int → List Int
  | [] => [x]
  | y :: A => if x < y then insR x A ++ [y] else A.reverse ++ [y, x]
def isortGo : List Int → List Int → List Int
  | S, [] => S
  | S, x :: B => isortGo (insR x S.reverse) B
def isort (xs : List Int) : List Int := isortGo [] xs
theorem insR_perm (x : Int) : ∀ A, (insR x A).Perm (x :: A)
  | [] => List.Perm.refl _
  | y :: A => by
    rw [insR]
    split
    · have h := (insR_perm x A).append_right [y]
      refine h.trans ?_
      simp
    · have h1 : (A.reverse ++ [y, x]).Perm ([y, x] ++ A) := (List.perm_append_comm).trans ((List.reverse_perm A).append_left [y, x])
      exact h1.trans (List.Perm.swap x y A)
theorem insR_sorted (x : Int) : ∀ A, A.reverse.Pairwise (· ≤ ·) → (insR x A).Pairwise (· ≤ ·)
  | [], _ => by simp [insR]
  | y :: A, h => by
    rw [List.reverse_cons, List.pairwise_append] at h
    obtain ⟨h1, _, h2⟩ := h
    rw [insR]
    split
    · rename_i hxy
      rw [List.pairwise_append]
      refine ⟨insR_sorted x A h1, by simp, fun a ha b hb => ?_⟩
      simp only [List.mem_singleton] at hb
      subst hb
      rcases List.mem_cons.1 ((insR_perm x A).mem_iff.1 ha) with rfl | ha'
      · omega
      · exact h2 a (by simpa using ha') b (by simp)
    · rename_i hxy
      rw [List.pairwise_append]
      refine ⟨h1, by simp; omega, fun a ha b hb => ?_⟩
      have hay := h2 a ha y (by simp)
      simp only [List.mem_cons, List.not_mem_nil, or_false] at hb
      rcases hb with rfl | rfl
      · exact hay
      · omega
theorem isortGo_perm : ∀ (B S : List Int), (isortGo S B).Perm (S ++ B)
  | [], S => by simp [isortGo]
  | x :: B, S => by
    rw [isortGo]
    refine (isortGo_perm B _).trans ?_
    have h := ((insR_perm x S.reverse).trans ((List.reverse_perm S).cons x)).append_right B
    refine h.trans ?_
    rw [List.cons_append]
    exact List.perm_middle.symm
theorem isort_perm (xs : List Int) : (isort xs).Perm xs := by simpa [isort] using isortGo_perm xs []
theorem isort_length (xs : List Int) : (isort xs).length = xs.length := (isort_perm xs).length_eq
theorem isortGo_sorted : ∀ (B S : List Int), S.Pairwise (· ≤ ·) → (isortGo S B).Pairwise (· ≤ ·)
  | [], S, h => by simpa [isortGo] using h
  | x :: B, S, h => by
    rw [isortGo]
    exact isortGo_sorted B _ (insR_sorted x _ (by simpa using h))
theorem isort_sorted (xs : List Int) : (isort xs).Pairwise (· ≤ ·) := isortGo_sorted xs [] (by simp)
end Go.Proofs.YtbcgpjfejpcgnaaGreat
end
section
namespace Go.Proofs.YtbcgpjfejpcgnaaGreat
open Go.RowKit
def uV (x : Int) : Value := .int .u64 x
theorem isNaN_any (x : Int) (w : World) : Calls Tryz.prog 118 #[.int .u64 x] w fun e w' => e = .returned (.bool false) ∧ w = w' := by
  go_enter Tryz.func118, Tryz.ntmps118
  go_wp2
  go_ret
  exact ⟨by simp, rfl⟩
theorem less_any (x y : Int) (w : World) : Calls Tryz.prog 106 #[.int .u64 x, .int .u64 y] w fun e w' => e = .returned (.bool (decide (x < y))) ∧ w = w' := by
  go_enter Tryz.func106, Tryz.ntmps106
  go_wp2_with (go_at_call 118; refine (isNaN_any _ _).mono ?_; rintro e w' ⟨rfl, rfl⟩)
  go_ret
  exact ⟨rfl, rfl⟩
theorem ins_nil (w : World) :
    Calls Tryz.prog 100 #[.slice none 0 0, .int .i64 0, .int .i64 0] w fun e w' => e = .returned (.tuple #[]) ∧ Keeps [] w w' := by
  go_enter Tryz.func100, Tryz.ntmps100
  go_wp2_with fail
  go_loopw [6] (fun i wr => i = .int .i64 1 ∧ wr = w) (fun _ _ => 0)
  case atStart => exact ⟨rfl, rfl⟩
  case round =>
    obtain ⟨rfl, rfl⟩ := hrel
    go_wp2_with fail
    go_end0
    exact ⟨rfl, Keeps.refl _ _⟩
end Go.Proofs.YtbcgpjfejpcgnaaGreat
end
section
namespace Go.Proofs.YtbcgpjfejpcgnaaGreat
open Go.RowKit
def Rw (w : World) (b : Nat) (rest : List Value) (d : Array Int) : Prop := Blk w b (d.toList.map uV ++ rest)
theorem Rw.cell {w : World} {b : Nat} {rest : List Value} {d : Array Int} (h : Rw w b rest d) (i : Nat) (hi : i < d.size) : w.cell? ⟨b, i, none⟩ = some (.int .u64 d[i]!) := by
  unfold Rw at h
  rw [h.cell, List.getElem?_append_left (by simpa using hi)]
  simp [hi, uV]
theorem Rw.frozen {w : World} {b : Nat} {rest : List Value} {d : Array Int} (h : Rw w b rest d) (i : Nat) : w.frozen? ⟨b, i, none⟩ = false := Blk.frozen h i
theorem Rw.lt {w : World} {b : Nat} {rest : List Value} {d : Array Int} (h : Rw w b rest d) : b < w.heap.size := Blk.lt h
theorem Rw.keeps {S : List Nat} {w w' : World} {b : Nat} {rest : List Value} {d : Array Int} (h : Rw w b rest d) (k : Keeps S w w') (hn : b ∉ S) : Rw w' b rest d := k.blk h hn
theorem Rw.drew {w : World} {b : Nat} {rest : List Value} {d : Array Int} (h : Rw w b rest d) : Rw w.drew b rest d := Blk.drew h
theorem Rw.drewN {w : World} {b : Nat} {rest : List Value} {d : Array Int} (h : Rw w b rest d) (n : Nat) : Rw (w.drewN n) b rest d := Blk.drewN h n
theorem Rw.swp {w : World} {b : Nat} {rest : List Value} {d : Array Int} (h : Rw w b rest d) (i j : Nat) (hi : i < d.size) (hj : j < d.size) :
    Rw ((w.setCell ⟨b, i, none⟩ (.int .u64 d[j]!)).setCell ⟨b, j, none⟩ (.int .u64 d[i]!)) b rest (Go.Sort.swp d i j) := by
  unfold Rw at h ⊢
  have h2 := (h.set i (.int .u64 d[j]!)).set j (.int .u64 d[i]!)
  rw [List.set_append_left _ _ (by simpa using hi), List.set_append_left _ _ (by simpa using hj)] at h2
  simpa [Go.Sort.swp, List.map_set, uV] using h2
theorem keeps_swp {w : World} {S : List Nat} {b : Nat} (hS : b ∈ S) (a : World) (k : Keeps S a w) (i j : Nat) (u v : Value) : Keeps S a ((w.setCell ⟨b, i, none⟩ u).setCell ⟨b, j, none⟩ v) :=
  (k.setCell _ _ (.inl hS)).setCell _ _ (.inl hS)
theorem i64w (x : Int) (h0 : -4611686018427387904 ≤ x) (h1 : x ≤ 4611686018427387904) : IntKind.i64.wrap x = x := IntWalk.i64_in _ ⟨by omega, by omega⟩
theorem w64w (x : Int) (h0 : -4611686018427387904 ≤ x) (h1 : x ≤ 4611686018427387904) : wrap64 x = x := IntWalk.wrap64_in _ ⟨by omega, by omega⟩
theorem sift_stop {hi first root : Nat} {d : Array Int} (h : hi ≤ 2 * root + 1) : Go.Sort.siftDown Go.Sort.ltInt hi first root d = d := by
  rw [Go.Sort.siftDown, dif_pos h]
theorem sift_two {hi first root : Nat} {d : Array Int} (h : 2 * root + 2 < hi) (hl : d[first + (2 * root + 1)]! < d[first + (2 * root + 1) + 1]!) :
    Go.Sort.siftDown Go.Sort.ltInt hi first root d = if d[first + root]! < d[first + (2 * root + 1) + 1]! then Go.Sort.siftDown Go.Sort.ltInt hi first (2 * root + 1 + 1) (Go.Sort.swp d (first + root) (first + (2 * root + 1) + 1)) else d := by
  rw [Go.Sort.siftDown, dif_neg (by omega), if_pos (by simp [Go.Sort.ltInt, hl]; omega), dif_pos h, show first + (2 * root + 2) = first + (2 * root + 1) + 1 by omega]
  by_cases hx : d[first + root]! < d[first + (2 * root + 1) + 1]!
  · rw [if_neg (by simpa [Go.Sort.ltInt] using hx), if_pos hx]
  · rw [if_pos (by simpa [Go.Sort.ltInt] using hx), if_neg hx]
theorem sift_one {hi first root : Nat} {d : Array Int} (h : 2 * root + 1 < hi) (hl : ¬ (2 * root + 2 < hi ∧ d[first + (2 * root + 1)]! < d[first + (2 * root + 1) + 1]!)) :
    Go.Sort.siftDown Go.Sort.ltInt hi first root d = if d[first + root]! < d[first + (2 * root + 1)]! then Go.Sort.siftDown Go.Sort.ltInt hi first (2 * root + 1) (Go.Sort.swp d (first + root) (first + (2 * root + 1))) else d := by
  rw [Go.Sort.siftDown, dif_neg (by omega), if_neg (by simp only [Go.Sort.ltInt, Bool.and_eq_true, decide_eq_true_eq]; exact hl)]
  by_cases hx : d[first + root]! < d[first + (2 * root + 1)]!
  · rw [if_neg (by simpa [Go.Sort.ltInt] using hx), if_pos hx]
  · rw [if_pos (by simpa [Go.Sort.ltInt] using hx), if_neg hx]
theorem scanUp_step {p : Int → Bool} {d : Array Int} {j i : Nat} (h : i ≤ j) (hp : p d[i]! = true) : Go.Sort.scanUp p d j i = Go.Sort.scanUp p d j (i + 1) := by
  conv => lhs; rw [Go.Sort.scanUp, if_pos (by simp [h, hp])]
theorem scanUp_stop {p : Int → Bool} {d : Array Int} {j i : Nat} (h : i ≤ j → p d[i]! = false) : Go.Sort.scanUp p d j i = i := by
  rw [Go.Sort.scanUp, if_neg]
  intro hc
  simp only [Bool.and_eq_true, decide_eq_true_eq] at hc
  rw [h hc.1] at hc
  exact absurd hc.2 (by simp)
theorem scanDown_step {p : Int → Bool} {d : Array Int} {j i : Nat} (h : i ≤ j + 1) (hp : p d[j + 1]! = true) : Go.Sort.scanDown p d i (j + 1) = Go.Sort.scanDown p d i j := by
  rw [Go.Sort.scanDown, if_pos (by simp [h, hp])]
theorem scanDown_stop {p : Int → Bool} {d : Array Int} {j i : Nat} (h : i ≤ j → p d[j]! = false) : Go.Sort.scanDown p d i j = j := by
  cases j with
  | zero => rfl
  | succ j =>
    rw [Go.Sort.scanDown, if_neg]
    intro hc
    simp only [Bool.and_eq_true, decide_eq_true_eq] at hc
    rw [h hc.1] at hc
    exact absurd hc.2 (by simp)
end Go.Proofs.YtbcgpjfejpcgnaaGreat
end
