/- ScriptRoundTrip: the walk. -/
import Derived.Test.YtkgmgnfcmnhhaaaSz
import Derived.Test.YtkgmgnfcmnhhaaaAwk
namespace Go.Proofs.Ytkgmgnfcmnhhaaa
open Go.RowKit
set_option linter.unusedSectionVars false
set_option linter.unusedVariables false
set_option linter.unusedSimpArgs false
set_option maxRecDepth 20000
set_option maxHeartbeats 4000000
theorem enc_gs {w : World} {y : SV} (h : GS w y) : Calls Try.prog 7 #[.agg #[.int .i64 y.th, .int .i64 y.sn, .int .i64 y.no, .int .i64 y.ch, .int .i64 y.re, .int .i64 y.fa, .int .u64 (y.cl : Int), .slice y.pA y.ps.length y.pc, .slice y.kA y.pk.length y.kc]] w fun q w' => Keeps [] w w' ∧ ∃ A cap, q = .returned (.tuple #[.slice A (eScr y.scr).length cap, .int .i64 0]) ∧ Bw w' (.slice A (eScr y.scr).length cap) (eScr y.scr) := by
  refine (enc_any valid_any w y h.ok h.sz h.t (by have := h.len; omega)).mono ?_
  rintro q w' ⟨k, hq⟩
  rw [if_pos h.vld] at hq
  obtain ⟨v, rfl, hv, _⟩ := hq
  obtain ⟨A, cap, rfl⟩ := hv.len
  exact ⟨k, A, cap, rfl, hv⟩
theorem renc_gs {w : World} {y : SV} (h : GS w y) : Calls Try.prog 10 #[.agg #[.int .i64 y.th, .int .i64 y.sn, .int .i64 y.no, .int .i64 y.ch, .int .i64 y.re, .int .i64 y.fa, .int .u64 (y.cl : Int), .slice y.pA y.ps.length y.pc, .slice y.kA y.pk.length y.kc]] w fun q w' => Keeps [] w w' ∧ ∃ A cap, q = .returned (.slice A (eScr y.scr).length cap) ∧ Bw w' (.slice A (eScr y.scr).length cap) (eScr y.scr) := by
  refine (renc_any w y h.ok h.sz h.t (by have := h.len; omega) h.vld).mono ?_
  rintro q w' ⟨k, v, rfl, hv, _⟩
  obtain ⟨A, cap, rfl⟩ := hv.len
  exact ⟨k, A, cap, rfl, hv⟩
theorem dec_gs {w : World} {y : SV} (h : GS w y) {v : Value} (hv : InB w v (eScr y.scr)) : Calls Try.prog 11 #[v] w fun q w' => Keeps [] w w' ∧ ∃ z : SV, z.scr = y.scr ∧ 0 ≤ z.th ∧ OkS w' z ∧ q = .returned (.tuple #[.agg #[.int .i64 z.th, .int .i64 z.sn, .int .i64 z.no, .int .i64 z.ch, .int .i64 z.re, .int .i64 z.fa, .int .u64 (z.cl : Int), .slice z.pA z.ps.length z.pc, .slice z.kA z.pk.length z.kc], .int .i64 0]) := by
  refine (dec_any vld valid_c w _ v hv (by have := h.len; omega)).mono ?_
  intro q w' hq
  unfold DecQ at hq
  rw [dec_enc h.scr h.vld] at hq
  obtain ⟨k, z, h1, h2, h3, rfl⟩ := hq
  exact ⟨k, z, h1, h2.1, h3, rfl⟩
theorem dec_no {w : World} {L : Str} {v : Value} {e : Nat} (hd : dec vld L = .error e) (hv : InB w v L) (hl : L.length ≤ 1073741824) : Calls Try.prog 11 #[v] w fun q w' => Keeps [] w w' ∧ q = .returned (.tuple #[.agg #[.int .i64 0, .int .i64 0, .int .i64 0, .int .i64 0, .int .i64 0, .int .i64 0, .int .u64 0, .slice none 0 0, .slice none 0 0], .int .i64 (e : Int)]) := by
  refine (dec_any vld valid_c w _ v hv hl).mono ?_
  intro q w' hq
  unfold DecQ at hq
  rw [hd] at hq
  exact hq
theorem samb_in {w : World} {L : Str} {v u : Value} (hn : L.length ≤ 1073741824) (h : InB w v L) (h' : InB w u L) : Calls Try.prog 9 #[v, u] w fun q w' => q = .returned (.bool true) ∧ Keeps [] w w' :=
  samb_any w L (by omega) v u h.lst h'.lst
theorem rt_any (N : Nat) (hN : N ≤ 1048576) (th fa ct : Int) (hth : I64 th) (hfa : I64 fa) (hct : I64 ct) (A : Option Addr) (cap : Nat) (X : List OV) (w : World) (hv : Lst w (.slice A X.length cap) X.length (oCs X)) (hl : X.length ≤ 9223372036854775807) (hx : ∀ x ∈ X, OkB w x ∧ OpN x ∧ OpB N x)
    (B : Option Addr) (capB : Nat) (Y : List Nat) (hu : Lst w (.slice B Y.length capB) Y.length (Y.map vU8)) (hY : ∀ y ∈ Y, y ≤ 255) (hYl : Y.length ≤ 9223372036854775807)
    (D : Option Addr) (capD : Nat) (T : Str) (ht : Lst w (.slice D T.length capD) T.length (T.map vB)) (hTl : T.length ≤ 9223372036854775807) :
    Calls Try.prog 3 #[.int .i64 th, .int .i64 fa, .slice A X.length cap, .slice B Y.length capB, .int .i64 ct, .slice D T.length capD] w fun q w' => q = .returned (.bool true) ∧ Keeps [] w w' := by
  have hq1 := val_gs N hN th fa hth hfa A cap X w hv hl hx B capB Y hu hY hYl
  obtain ⟨tl, htl⟩ : ∃ tl, T.length = tl := ⟨_, rfl⟩
  have HTL := Lib.hid htl
  have HT := Lib.hid ht
  rw [htl] at hTl ⊢
  clear hv hl hx hu hY hYl ht htl
  go_enter Try.func3, Try.ntmps3
  go_wp2_with fail
  refine hq1.mono ?_
  rintro q w1 ⟨k1, y, hg, rfl⟩
  clear hq1
  have ka := (Keeps.refl [] w1).alloc (.cells #[.int .i64 y.th, .int .i64 y.sn, .int .i64 y.no, .int .i64 y.ch, .int .i64 y.re, .int .i64 y.fa, .int .u64 (y.cl : Int), .slice y.pA y.ps.length y.pc, .slice y.kA y.pk.length y.kc] 30)
  have by1 := Blk.new w1 [.int .i64 y.th, .int .i64 y.sn, .int .i64 y.no, .int .i64 y.ch, .int .i64 y.re, .int .i64 y.fa, .int .u64 (y.cl : Int), .slice y.pA y.ps.length y.pc, .slice y.kA y.pk.length y.kc] 30
  change Blk (w1.alloc (.cells #[.int .i64 y.th, .int .i64 y.sn, .int .i64 y.no, .int .i64 y.ch, .int .i64 y.re, .int .i64 y.fa, .int .u64 (y.cl : Int), .slice y.pA y.ps.length y.pc, .slice y.kA y.pk.length y.kc] 30)) _ _ at by1
  have hg2 := hg.keeps ka
  have K2 := k1.trans ka (by simp)
  clear hg k1 ka
  obtain ⟨gy, hgy⟩ : ∃ gy, w1.heap.size = gy := ⟨_, rfl⟩
  rw [hgy] at by1
  go_upto_region 2 with fail
  obtain ⟨w2, hw2⟩ : ∃ w2, w1.alloc (.cells #[.int .i64 y.th, .int .i64 y.sn, .int .i64 y.no, .int .i64 y.ch, .int .i64 y.re, .int .i64 y.fa, .int .u64 (y.cl : Int), .slice y.pA y.ps.length y.pc, .slice y.kA y.pk.length y.kc] 30) = w2 := ⟨_, rfl⟩
  rw [hw2] at by1 hg2 K2 ⊢
  clear hw2 hgy
  have hq := enc_gs hg2
  obtain ⟨d0, d1, d2, d3, d4, d5, d6, d7, d8, df, dl⟩ := by1.o9
  go_wp2_with fail
  refine hq.mono ?_
  rintro q w3 ⟨k3, vA, vc, rfl, hb⟩
  have by3 := k3.blk by1 (by simp)
  have hg3 := hg2.keeps k3
  have K3 := K2.trans k3 (by simp)
  have hqa := awk_any w3
  obtain ⟨n, hn⟩ : ∃ n, (eScr y.scr).length = n := ⟨_, rfl⟩
  have HN := Lib.hid hn
  rw [hn] at hb
  have HB := Lib.hid hb.inB
  have HBw := Lib.hid hb
  clear d0 d1 d2 d3 d4 d5 d6 d7 d8 df dl by1 hg2 K2 k3 hq hb
  have hn1 : 1 ≤ n := by have := eScr_pos y.scr; omega
  have hn2 : n ≤ 1000000000 := by have := hg3.len; omega
  rw [hn]
  clear hn
  by_cases hT : 50 < tl
  · have hTI : (50 : Int) < (tl : Int) := by omega
    go_wp2_with fail
    refine hqa.mono ?_
    rintro q w4 ⟨rfl, k4⟩
    have hqb := awk_any w4
    have K4 := K3.trans k4 (by simp)
    clear hqa
    go_wp2_with fail
    refine hqb.mono ?_
    rintro q w5 ⟨rfl, k5⟩
    go_wp2_with fail
    go_ret
    exact ⟨rfl, K4.trans k5 (by simp)⟩
  · have hTI : ¬ (50 : Int) < (tl : Int) := by omega
    go_wp2_with fail
    refine hqa.mono ?_
    rintro q w4 ⟨rfl, k4⟩
    have by4 := k4.blk by3 (by simp)
    have hg4 := hg3.keeps k4
    have K4 := K3.trans k4 (by simp)
    have HB4 := Lib.hid (HB.out.keeps k4)
    have HW4 := Lib.hid (HBw.out.keeps k4 (by simp))
    have hqr := renc_gs hg4
    rw [HN.out] at hqr
    obtain ⟨d0, d1, d2, d3, d4, d5, d6, d7, d8, df, dl⟩ := by4.o9
    clear hqa k4 HB HBw hg3 by3 K3
    go_wp2_with fail
    refine hqr.mono ?_
    rintro q w5 ⟨k5, uA, uc, rfl, hu⟩
    have by5 := k5.blk by4 (by simp)
    have hg5 := hg4.keeps k5
    have K5 := K4.trans k5 (by simp)
    have HB5 := Lib.hid (HB4.out.keeps k5)
    have HW5 := Lib.hid (HW4.out.keeps k5 (by simp))
    have hqs := samb_in (by have := HN.out; omega) HB5.out hu.inB
    clear hqr k5 HB4 HW4 hg4 by4 K4 d0 d1 d2 d3 d4 d5 d6 d7 d8 df dl hu
    go_wp2_with fail
    refine hqs.mono ?_
    rintro q w6 ⟨rfl, k6⟩
    have by6 := k6.blk by5 (by simp)
    have hg6 := hg5.keeps k6
    have K6 := K5.trans k6 (by simp)
    have HB6 := Lib.hid (HB5.out.keeps k6)
    have HW6 := Lib.hid (HW5.out.keeps k6 (by simp))
    have hqd := dec_gs hg6 HB6.out
    clear hqs k6 HB5 HW5 hg5 by5 K5
    go_wp2_with fail
    refine hqd.mono ?_
    rintro q w7 ⟨k7, z, hz, hzt, hzo, rfl⟩
    have ka := (Keeps.refl [] w7).alloc (.cells #[.int .i64 z.th, .int .i64 z.sn, .int .i64 z.no, .int .i64 z.ch, .int .i64 z.re, .int .i64 z.fa, .int .u64 (z.cl : Int), .slice z.pA z.ps.length z.pc, .slice z.kA z.pk.length z.kc] 30)
    have bz8 := Blk.new w7 [.int .i64 z.th, .int .i64 z.sn, .int .i64 z.no, .int .i64 z.ch, .int .i64 z.re, .int .i64 z.fa, .int .u64 (z.cl : Int), .slice z.pA z.ps.length z.pc, .slice z.kA z.pk.length z.kc] 30
    have k78 := k7.trans ka (by simp)
    have by8 := k78.blk by6 (by simp)
    have hg8 := hg6.keeps k78
    have K8 := K6.trans k78 (by simp)
    have HB8 := Lib.hid (HB6.out.keeps k78)
    have HW8 := Lib.hid (HW6.out.keeps k78 (by simp))
    have HZ := Lib.hid hz
    have HZT := Lib.hid hzt
    have HZO := Lib.hid (hzo.keeps ka)
    clear hqd k7 k78 ka HB6 HW6 hg6 by6 K6 hz hzt hzo
    obtain ⟨gz, hgz⟩ : ∃ gz, w7.heap.size = gz := ⟨_, rfl⟩
    change Blk (w7.alloc (.cells #[.int .i64 z.th, .int .i64 z.sn, .int .i64 z.no, .int .i64 z.ch, .int .i64 z.re, .int .i64 z.fa, .int .u64 (z.cl : Int), .slice z.pA z.ps.length z.pc, .slice z.kA z.pk.length z.kc] 30)) _ _ at bz8 by8
    rw [hgz] at bz8
    go_upto_region 6 with fail
    obtain ⟨w8, hw8⟩ : ∃ w8, w7.alloc (.cells #[.int .i64 z.th, .int .i64 z.sn, .int .i64 z.no, .int .i64 z.ch, .int .i64 z.re, .int .i64 z.fa, .int .u64 (z.cl : Int), .slice z.pA z.ps.length z.pc, .slice z.kA z.pk.length z.kc] 30) = w8 := ⟨_, rfl⟩
    rw [hw8] at by8 bz8 hg8 K8 HB8 HW8 HZO ⊢
    clear hw8 hgz
    have hqm := mod_any ct n hct.1 hct.2 (by omega) (by omega) w8
    have m0 := Int.emod_nonneg ct (show (n : Int) ≠ 0 by omega)
    have m1 := Int.emod_lt_of_pos ct (show (0 : Int) < n by omega)
    obtain ⟨m, hm⟩ : ∃ m : Nat, (m : Int) = ct % (n : Int) := ⟨(ct % (n : Int)).toNat, by omega⟩
    rw [← hm] at hqm m0 m1
    have hmn : m < n := by omega
    clear hm m0 m1
    obtain ⟨vAA, hvAA⟩ : ∃ ad, vA = some ad := by
      obtain ⟨A1, c1, b1, o1, e1, e2, _⟩ := HB8.out
      injection e1 with e3 _ _
      exact ⟨_, by rw [e3]; exact e2 (by have := HN.out; omega)⟩
    have hvc : n ≤ vc := by
      obtain ⟨A1, c1, b1, o1, e1, _, _, e4, _⟩ := HB8.out
      injection e1 with _ e5 e6
      rw [e5, e6]; exact e4
    have hqp : Hid (Calls Try.prog 11 #[.slice vA m vc] w8 fun q w' => Keeps [] w8 w' ∧ q = .returned (.tuple #[.agg #[.int .i64 0, .int .i64 0, .int .i64 0, .int .i64 0, .int .i64 0, .int .i64 0, .int .u64 0, .slice none 0 0, .slice none 0 0], .int .i64 ((11 : Nat) : Int)])) := Lib.hid (dec_no (e := 11) (dec_pre hg8.scr (List.take_append_drop m (eScr y.scr)) (by
      intro h0
      have := congrArg List.length h0
      rw [List.length_drop, HN.out] at this
      simp at this
      omega)) (HB8.out.take HN.out m (by omega)) (by rw [List.length_take]; have := HN.out; omega))
    rw [hvAA] at hqp ⊢
    go_wp2_with fail
    refine hqm.mono ?_
    rintro q w9 ⟨rfl, rfl⟩
    clear hqm
    go_wp2_with fail
    refine hqp.out.mono ?_
    rintro q w9 ⟨k9, rfl⟩
    have ka := (Keeps.refl [] w9).alloc (.cells #[.int .i64 0, .int .i64 0, .int .i64 0, .int .i64 0, .int .i64 0, .int .i64 0, .int .u64 0, .slice none 0 0, .slice none 0 0] 30)
    have b18 := Blk.new w9 [.int .i64 0, .int .i64 0, .int .i64 0, .int .i64 0, .int .i64 0, .int .i64 0, .int .u64 0, .slice none 0 0, .slice none 0 0] 30
    have k910 := k9.trans ka (by simp)
    have by10 := k910.blk by8 (by simp)
    have bz10 := k910.blk bz8 (by simp)
    have hg10 := hg8.keeps k910
    have K10 := K8.trans k910 (by simp)
    have HW10 := Lib.hid (HW8.out.keeps k910 (by simp))
    have HB10 := Lib.hid (HB8.out.keeps k910)
    have HZ10 := Lib.hid (HZO.out.keeps k910)
    clear k9 ka k910 by8 bz8 hg8 K8 HW8 HB8 HZO hqp
    obtain ⟨g18, hg18⟩ : ∃ g18, w9.heap.size = g18 := ⟨_, rfl⟩
    change Blk (w9.alloc (.cells #[.int .i64 0, .int .i64 0, .int .i64 0, .int .i64 0, .int .i64 0, .int .i64 0, .int .u64 0, .slice none 0 0, .slice none 0 0] 30)) _ _ at b18 by10 bz10
    rw [hg18] at b18
    go_upto_region 7 with fail
    obtain ⟨w10, hw10⟩ : ∃ w10, w9.alloc (.cells #[.int .i64 0, .int .i64 0, .int .i64 0, .int .i64 0, .int .i64 0, .int .i64 0, .int .u64 0, .slice none 0 0, .slice none 0 0] 30) = w10 := ⟨_, rfl⟩
    rw [hw10] at by10 bz10 b18 hg10 K10 HW10 HB10 HZ10 ⊢
    clear hw10 hg18
    obtain ⟨i0, hi0, hy0, hy1, hy2⟩ := info_parts infoU8
    rw [hvAA] at HB10
    obtain ⟨v11, w11, hr1, r11, k11, f11⟩ := row_nil 23 23 5 i0 _ 1 1 Try.underlying23 hi0 hy0 hy1 hy2 rfl (by decide) n (.slice (some vAA) n vc) ((eScr y.scr).map vB) (by have := HB10.out.lst; rw [HN.out] at this; exact this) (by rw [List.length_map, HN.out]; omega) (vB_one _) (by omega) (by decide)
    have hb11 : Bw w11 v11 (eScr y.scr) := by unfold Bw; rw [HN.out]; exact r11
    obtain ⟨v12, w12, hr2, q12⟩ := bys_append hb11 (by have := HN.out; omega) ((HT.out.keeps K10).keeps k11) (by have := HN.out; have := HTL.out; omega)
    rw [HTL.out] at hr2
    obtain ⟨v13, w13, hr3, q13⟩ := byte_append q12.row 7 (by rw [List.length_append]; have := HN.out; have := HTL.out; omega) 1
    have e7 : vB 7 = .int .u8 7 := rfl
    rw [e7] at hr3
    have q23 := q12.trans q13
    have k13 : Keeps [] w10 w13 := (k11.trans q23.keeps (fun b hb => .inr (f11 b (by simpa using hb))))
    have by13 := k13.blk by10 (by simp)
    have bz13 := k13.blk bz10 (by simp)
    have b1813 := k13.blk b18 (by simp)
    have hg13 := hg10.keeps k13
    have K13 := K10.trans k13 (by simp)
    have HZ13 := Lib.hid (HZ10.out.keeps k13)
    have hqx := dec_no (e := 12) (dec_more hg13.scr (t := T ++ [7]) (by simp)) (by have := q13.row.inB; rw [List.append_assoc] at this; exact this) (by rw [List.length_append, List.length_append]; have := HN.out; have := HTL.out; simp; omega)
    have HQX := Lib.hid hqx
    obtain ⟨A11, C11, hv11⟩ := hb11.len
    obtain ⟨A12, C12, hv12⟩ := q12.row.len
    obtain ⟨A13, C13, hv13⟩ := q13.row.len
    obtain ⟨n12, hn12⟩ : ∃ n12, (eScr y.scr ++ T).length = n12 := ⟨_, rfl⟩
    obtain ⟨n13, hn13⟩ : ∃ n13, (eScr y.scr ++ T ++ [7]).length = n13 := ⟨_, rfl⟩
    rw [HN.out] at hv11
    rw [hn12] at hv12
    rw [hn13] at hv13
    subst hv11 hv12 hv13
    obtain ⟨gw, hgw⟩ : ∃ gw, w12.heap.size = gw := ⟨_, rfl⟩
    rw [hgw] at hr3
    clear r11 k11 f11 hb11 q12 q13 q23 hqx k13 by10 bz10 b18 hg10 K10 HW10 HB10 HZ10 hn12 hn13 e7 hi0 hy0 hy1 hy2
    go_wp2_with (at_builtin; first
      | refine list_append_eq rfl _ _ 23 23 rfl (.slice none 0 0) (.slice (some vAA) n vc) rfl rfl hr1 ?_
      | refine list_append_eq rfl _ _ 23 23 rfl (.slice A11 n C11) (.slice D tl capD) rfl rfl (hr2 _) ?_
      | refine list_append_eq rfl _ _ 23 23 rfl (.slice A12 n12 C12) (.slice (some ⟨gw, 0, none⟩) 1 1) rfl rfl (hr3 _) ?_)
    refine HQX.out.mono ?_
    rintro q w14 ⟨k14, rfl⟩
    have ka := (Keeps.refl [] w14).alloc (.cells #[.int .i64 0, .int .i64 0, .int .i64 0, .int .i64 0, .int .i64 0, .int .i64 0, .int .u64 0, .slice none 0 0, .slice none 0 0] 30)
    have b20 := Blk.new w14 [.int .i64 0, .int .i64 0, .int .i64 0, .int .i64 0, .int .i64 0, .int .i64 0, .int .u64 0, .slice none 0 0, .slice none 0 0] 30
    have k15 := k14.trans ka (by simp)
    have by15 := k15.blk by13 (by simp)
    have bz15 := k15.blk bz13 (by simp)
    have b1815 := k15.blk b1813 (by simp)
    have hg15 := hg13.keeps k15
    have K15 := K13.trans k15 (by simp)
    have HZ15 := Lib.hid (HZ13.out.keeps k15)
    clear k14 ka k15 by13 bz13 b1813 hg13 K13 HZ13 HQX hr1 hr2 hr3 hgw
    obtain ⟨g20, hg20⟩ : ∃ g20, w14.heap.size = g20 := ⟨_, rfl⟩
    change Blk (w14.alloc (.cells #[.int .i64 0, .int .i64 0, .int .i64 0, .int .i64 0, .int .i64 0, .int .i64 0, .int .u64 0, .slice none 0 0, .slice none 0 0] 30)) _ _ at b20 by15 bz15 b1815
    rw [hg20] at b20
    go_upto_region 8 with fail
    obtain ⟨w15, hw15⟩ : ∃ w15, w14.alloc (.cells #[.int .i64 0, .int .i64 0, .int .i64 0, .int .i64 0, .int .i64 0, .int .i64 0, .int .u64 0, .slice none 0 0, .slice none 0 0] 30) = w15 := ⟨_, rfl⟩
    rw [hw15] at by15 bz15 b1815 b20 hg15 K15 HZ15 ⊢
    clear hw15 hg20
    have hqs := ssc_same y z w15 hg15.ok HZ15.out HZ.out.symm hg15.th HZT.out hg15.vld hg15.sz
    obtain ⟨d0, d1, d2, d3, d4, d5, d6, d7, d8, df, dl⟩ := by15.o9
    obtain ⟨e0, e1, e2, e3, e4, e5, e6, e7, e8, ef, el⟩ := bz15.o9
    go_wp2_with fail
    refine hqs.mono ?_
    rintro q w16 ⟨rfl, k16⟩
    have b1816 := k16.blk b1815 (by simp)
    have b2016 := k16.blk b20 (by simp)
    have K16 := K15.trans k16 (by simp)
    have hz1 := ssc_zero w16
    clear d0 d1 d2 d3 d4 d5 d6 d7 d8 df dl e0 e1 e2 e3 e4 e5 e6 e7 e8 ef el hqs k16 b1815 b20 K15 by15 bz15 HZ15 hg15
    obtain ⟨d0, d1, d2, d3, d4, d5, d6, d7, d8, df, dl⟩ := b1816.o9
    obtain ⟨e0, e1, e2, e3, e4, e5, e6, e7, e8, ef, el⟩ := b2016.o9
    go_wp2_with fail
    refine hz1.mono ?_
    rintro q w17 ⟨rfl, k17⟩
    have b2017 := k17.blk b2016 (by simp)
    have K17 := K16.trans k17 (by simp)
    have hz2 := ssc_zero w17
    clear d0 d1 d2 d3 d4 d5 d6 d7 d8 df dl e0 e1 e2 e3 e4 e5 e6 e7 e8 ef el hz1 k17 b2016 b1816 K16
    obtain ⟨e0, e1, e2, e3, e4, e5, e6, e7, e8, ef, el⟩ := b2017.o9
    go_wp2_with fail
    refine hz2.mono ?_
    rintro q w18 ⟨rfl, k18⟩
    go_wp2_with fail
    go_ret
    exact ⟨rfl, K17.trans k18 (by simp)⟩
end Go.Proofs.Ytkgmgnfcmnhhaaa
