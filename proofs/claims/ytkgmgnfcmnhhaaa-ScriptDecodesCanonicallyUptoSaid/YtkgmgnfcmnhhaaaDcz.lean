/- ScriptDecodesCanonically: the walk. -/
import Derived.Test.YtkgmgnfcmnhhaaaDcn
namespace Go.Proofs.Ytkgmgnfcmnhhaaa
open Go.RowKit
set_option linter.unusedSectionVars false
set_option linter.unusedVariables false
set_option linter.unusedSimpArgs false
set_option maxRecDepth 20000
set_option maxHeartbeats 4000000
theorem dc_any (N : Nat) (hN : N ≤ 1048576) (th fa ct : Int) (hth : I64 th) (hfa : I64 fa) (hct : I64 ct) (A : Option Addr) (cap : Nat) (X : List OV) (w : World) (hv : Lst w (.slice A X.length cap) X.length (oCs X)) (hl : X.length ≤ 9223372036854775807) (hx : ∀ x ∈ X, OkB w x ∧ OpN x ∧ OpB N x)
    (B : Option Addr) (capB : Nat) (Y : List Nat) (hu : Lst w (.slice B Y.length capB) Y.length (Y.map vU8)) (hY : ∀ y ∈ Y, y ≤ 255) (hYl : Y.length ≤ 9223372036854775807)
    (D : Option Addr) (capD : Nat) (T : Str) (ht : InB w (.slice D T.length capD) T) (c : UInt8) (kd : Nat) (hkd : kd ≤ 255) :
    Calls Try.prog 5 #[.int .i64 th, .int .i64 fa, .slice A X.length cap, .slice B Y.length capB, .slice D T.length capD, .int .i64 ct, vB c, .int .u8 (kd : Int)] w fun q w' => q = .returned (.bool true) ∧ Keeps [] w w' := by
  have hq1 := val_gs N hN th fa hth hfa A cap X w hv hl hx B capB Y hu hY hYl
  obtain ⟨tl, htl⟩ : ∃ tl, T.length = tl := ⟨_, rfl⟩
  have HTL := Lib.hid htl
  rw [htl] at ht ⊢
  have HT := Lib.hid ht
  obtain ⟨cv, hcv⟩ : ∃ cv, vB c = cv := ⟨_, rfl⟩
  have HCV := Lib.hid hcv
  clear hv hl hx hu hY hYl ht htl
  by_cases hT : 300 < tl
  · have hTI : (300 : Int) < (tl : Int) := by omega
    have hqa := awk_any w
    rw [hcv]
    clear hcv
    go_enter Try.func5, Try.ntmps5
    go_wp2_with fail
    refine hqa.mono ?_
    rintro q w4 ⟨rfl, k4⟩
    go_wp2_with fail
    go_ret
    exact ⟨rfl, k4⟩
  have hTI : ¬ (300 : Int) < (tl : Int) := by omega
  have ecv : cv = .int .u8 (c.toNat : Int) := hcv.symm
  rw [hcv, ecv]
  clear hcv
  go_enter Try.func5, Try.ntmps5
  go_wp2_with fail
  refine hq1.mono ?_
  rintro q w1 ⟨k1, y, hg, rfl⟩
  have hq2 := renc_gs hg
  go_wp2_with fail
  refine hq2.mono ?_
  rintro q w2 ⟨k2, vA, vc, rfl, hb⟩
  have hg2 := hg.keeps k2
  have K2 := k1.trans k2 (by simp)
  clear hq1 hq2 hg k1 k2
  obtain ⟨n, hn⟩ : ∃ n, (eScr y.scr).length = n := ⟨_, rfl⟩
  have HN := Lib.hid hn
  have hn1 : 1 ≤ n := by have := eScr_pos y.scr; omega
  have hn2 : n ≤ 1000000000 := by have := hg2.len; omega
  rw [hn] at hb ⊢
  clear hn
  have hin := hb.inB
  have hqm := mod_any ct n hct.1 hct.2 (by omega) (by omega) w2
  have m0 := Int.emod_nonneg ct (show (n : Int) ≠ 0 by omega)
  have m1 := Int.emod_lt_of_pos ct (show (0 : Int) < n by omega)
  obtain ⟨m, hm⟩ : ∃ m : Nat, (m : Int) = ct % (n : Int) := ⟨(ct % (n : Int)).toNat, by omega⟩
  rw [← hm] at hqm m0 m1
  have hmn : m < n := by omega
  clear hm m0 m1
  obtain ⟨b1, o1, hvAA⟩ : ∃ b1 o1, vA = some ⟨b1, o1, none⟩ := by
    obtain ⟨A1, c1, b1, o1, e1, e2, _⟩ := hin
    injection e1 with e3 _ _
    exact ⟨_, _, by rw [e3]; exact e2 (by have := HN.out; omega)⟩
  have hvc : n ≤ vc := by
    obtain ⟨A1, c1, b1, o1, e1, _, _, e4, _⟩ := hin
    injection e1 with _ e5 e6
    rw [e5, e6]; exact e4
  rw [hvAA] at hin hb ⊢
  clear hvAA
  go_wp2_with fail
  refine hqm.mono ?_
  rintro q w3 ⟨rfl, rfl⟩
  clear hqm
  have htake := hin.take HN.out m (by omega)
  have hlt : ((eScr y.scr).take m).length = m := by rw [List.length_take]; have := HN.out; omega
  obtain ⟨v11, w11, hr1, q11⟩ := bys_append0 (L := []) (w := w2) (v := .slice none 0 0) (Row.nil _ _) (u := .slice (some ⟨b1, o1, none⟩) m vc) (T := (eScr y.scr).take m) (by have := htake.lst; rw [hlt] at this ⊢; exact this) (by rw [hlt]; simp; omega)
  rw [List.nil_append] at q11
  obtain ⟨v13, w13, hr3, q13⟩ := byte_append q11.row c (by rw [hlt]; omega) 1
  have q23 := q11.trans q13
  have K13 : Keeps [] w2 w13 := q23.keeps
  have hown : ∀ b, v13.ownBlock = some b → w.heap.size ≤ b := fun b hb => by
    rcases q23.own b hb with h1 | h1
    · simp [Value.ownBlock] at h1
    · exact Nat.le_trans K2.size h1
  obtain ⟨A11, C11, hv11⟩ := q11.row.len
  obtain ⟨A13, C13, hv13⟩ := q13.row.len
  rw [hlt] at hv11
  rw [List.length_append, hlt] at hv13
  have hv13' : v13 = .slice A13 (m + 1) C13 := hv13
  clear hv13
  subst hv11 hv13'
  have hd := q13.row
  obtain ⟨gw, hgw⟩ : ∃ gw, w11.heap.size = gw := ⟨_, rfl⟩
  have evc : vB c = .int .u8 (c.toNat : Int) := rfl
  rw [hgw, evc] at hr3
  clear q11 q13 q23 htake evc
  go_upto_region 6 with (at_builtin; first
      | refine list_append_eq rfl _ _ 23 23 rfl (.slice none 0 0) (.slice (some ⟨b1, o1, none⟩) m vc) rfl rfl (hr1 _) ?_
      | refine list_append_eq rfl _ _ 23 23 rfl (.slice A11 m C11) (.slice (some ⟨gw, 0, none⟩) 1 1) rfl rfl (hr3 _) ?_)
  obtain ⟨kr, hkr⟩ : ∃ kr, kd % 3 = kr := ⟨_, rfl⟩
  have hmod : (kd : Int).tmod 3 = (kr : Int) := by rw [← hkr]; exact (Int.ofNat_tmod kd 3).symm
  have hk3 : kr = 0 ∨ kr = 1 ∨ kr = 2 := by omega
  clear hkr
  go_upto_block 0 with fail
  have HR := Lib.hid hd
  have HOW := Lib.hid hown
  have HIN := Lib.hid (hin.keeps K13)
  have HK := Lib.hid (K2.trans K13 (by simp))
  clear hr1 hr3 hgw hb hin K13 K2 hd hmod hown
  go_cut [19] from 47 to 70 (fun s19 wx => ∃ (Ad : Option Addr) (nd cd : Nat) (Ld : Str), s19 = .slice Ad nd cd ∧ InB wx (.slice Ad nd cd) Ld ∧ Ld.length = nd ∧ nd ≤ 1000000000 + 1 ∧ Keeps [] w wx)
  case first =>
    have hkeep := HK.out
    have hbnd : ∀ (L1 L2 : Str), L1.length ≤ m + 1 → L2.length ≤ n - m → (L1 ++ L2).length ≤ 1000000000 + 1 := fun L1 L2 h1 h2 => by rw [List.length_append]; omega
    have hlt1 : ((eScr y.scr).take m ++ [c]).length ≤ m + 1 := by rw [List.length_append, List.length_take]; simp; omega
    obtain rfl | rfl | rfl := hk3
    · have key : ∃ sv, (vc = m + 1 → sv = .slice (some ⟨b1, o1, none⟩) 0 0) ∧ (vc ≠ m + 1 → sv = .slice (some ⟨b1, o1 + (m + 1), none⟩) (n - (m + 1)) (vc - (m + 1))) ∧ ∃ L2 : Str, L2.length ≤ n - m ∧ InB w13 sv L2 := by
        by_cases hcap : vc = m + 1
        · exact ⟨_, fun _ => rfl, fun h => absurd hcap h, [], by simp, ⟨_, 0, b1, o1, rfl, fun h => rfl, ⟨fun i hi => absurd hi (Nat.not_lt_zero i), fun h => absurd h (Nat.lt_irrefl 0)⟩, Nat.le_refl _, by omega⟩⟩
        · refine ⟨_, fun h => absurd h hcap, fun _ => rfl, (eScr y.scr).drop (m + 1), by rw [List.length_drop, HN.out]; omega, ?_⟩
          exact HIN.out.drop HN.out (m + 1) (by omega)
      obtain ⟨sv, s1, s2, L2, hL2, hsv⟩ := key
      obtain ⟨v5, w5, hr5, q5⟩ := bys_append0 HR.out hsv.lst (by have := hbnd _ _ hlt1 hL2; rw [List.length_append] at this; omega)
      obtain ⟨A5, C5, hv5⟩ := q5.row.len
      obtain ⟨n5, hn5⟩ : ∃ n5, ((eScr y.scr).take m ++ [c] ++ L2).length = n5 := ⟨_, rfl⟩
      rw [hn5] at hv5
      subst hv5
      have hmeet : ∃ (Ad : Option Addr) (nd cd : Nat) (Ld : Str), Value.slice A5 n5 C5 = .slice Ad nd cd ∧ InB w5 (.slice Ad nd cd) Ld ∧ Ld.length = nd ∧ nd ≤ 1000000000 + 1 ∧ Keeps [] w w5 := ⟨A5, n5, C5, _, rfl, q5.row.inB, hn5, by rw [← hn5]; exact hbnd _ _ hlt1 hL2, hkeep.trans q5.keeps (fun b hb => .inr (HOW.out b (by simpa using hb)))⟩
      have HM := Lib.hid hmeet
      clear hmeet q5 hsv hn5 hL2 hbnd hlt1 hkeep
      by_cases hcap : vc = m + 1
      · have e := s1 hcap
        subst e
        subst hcap
        have hnm : n = m + 1 := by omega
        subst hnm
        clear s1 s2
        go_upto_region 9 with fail
        go_wp2_with (at_builtin; refine list_append_eq rfl _ _ 23 23 rfl (.slice A13 (m + 1) C13) (.slice (some ⟨b1, o1, none⟩) 0 0) rfl rfl (hr5 _) ?_)
        go_meet
        exact HM.out
      · have e := s2 hcap
        subst e
        clear s1 s2
        go_upto_region 9 with fail
        go_wp2_with (at_builtin; refine list_append_eq rfl _ _ 23 23 rfl (.slice A13 (m + 1) C13) (.slice (some ⟨b1, o1 + (m + 1), none⟩) (n - (m + 1)) (vc - (m + 1))) rfl rfl (hr5 _) ?_)
        go_meet
        exact HM.out
    · have hkd := (HK.out).drew
      have hcm : ¬ vc = m := by omega
      have hpre := (HIN.out.take HN.out m (by omega)).keeps ((Keeps.refl [] w13).drew)
      have hlp : ((eScr y.scr).take m).length = m := by rw [List.length_take]; have := HN.out; omega
      obtain ⟨v4, w4, hr4, q4⟩ := bys_append0 (L := []) (w := w13.drew) (v := .slice none 0 0) (Row.nil _ _) (u := .slice (some ⟨b1, o1, none⟩) m vc) (T := (eScr y.scr).take m) (by have := hpre.lst; rw [hlp] at this ⊢; exact this) (by rw [hlp]; simp; omega)
      rw [List.nil_append] at q4
      have K4 : Keeps [] w13.drew w4 := q4.keeps
      have key : ∃ sv, (vc = m + 1 → sv = .slice (some ⟨b1, o1, none⟩) 0 0) ∧ (vc ≠ m + 1 → sv = .slice (some ⟨b1, o1 + (m + 1), none⟩) (n - (m + 1)) (vc - (m + 1))) ∧ ∃ L2 : Str, L2.length ≤ n - m ∧ InB w13 sv L2 := by
        by_cases hcap : vc = m + 1
        · exact ⟨_, fun _ => rfl, fun h => absurd hcap h, [], by simp, ⟨_, 0, b1, o1, rfl, fun h => rfl, ⟨fun i hi => absurd hi (Nat.not_lt_zero i), fun h => absurd h (Nat.lt_irrefl 0)⟩, Nat.le_refl _, by omega⟩⟩
        · refine ⟨_, fun h => absurd h hcap, fun _ => rfl, (eScr y.scr).drop (m + 1), by rw [List.length_drop, HN.out]; omega, ?_⟩
          exact HIN.out.drop HN.out (m + 1) (by omega)
      obtain ⟨sv, s1, s2, L2, hL2, hsv⟩ := key
      obtain ⟨v5, w5, hr5, q5⟩ := bys_append0 q4.row ((hsv.keeps ((Keeps.refl [] w13).drew)).keeps K4).lst (by have := hbnd ((eScr y.scr).take m) L2 (by omega) hL2; rw [List.length_append] at this; omega)
      obtain ⟨A4, C4, hv4⟩ := q4.row.len
      obtain ⟨A5, C5, hv5⟩ := q5.row.len
      obtain ⟨n5, hn5⟩ : ∃ n5, ((eScr y.scr).take m ++ L2).length = n5 := ⟨_, rfl⟩
      rw [hlp] at hv4
      rw [hn5] at hv5
      have hmeet : ∃ (Ad : Option Addr) (nd cd : Nat) (Ld : Str), v5 = .slice Ad nd cd ∧ InB w5 (.slice Ad nd cd) Ld ∧ Ld.length = nd ∧ nd ≤ 1000000000 + 1 ∧ Keeps [] w w5 := ⟨A5, n5, C5, _, hv5, by rw [← hv5]; exact q5.row.inB, hn5, by rw [← hn5]; exact hbnd _ _ (by omega) hL2, hkd.trans (q4.trans q5).keeps (by simp [Value.ownBlock])⟩
      subst hv4 hv5
      have HM := Lib.hid hmeet
      clear hmeet q4 q5 hsv hn5 hL2 hbnd hlt1 hkeep hpre hkd K4 hlp
      have mixed : Try.prog.follows .mixedOrders = true := by kernel_rfl
      have i1 : IntKind.i64.wrap ((m : Int) + 1) = (m : Int) + 1 := by rw [IntKind.wrap_i64]; omega
      have i2 : (0 : Int) ≤ (m : Int) + 1 := by omega
      have i3 : ((m : Int) + 1).toNat = m + 1 := by omega
      have i4 : (m : Int) + 1 ≤ (n : Int) := by omega
      have l1 : m ≤ vc := by omega
      have e : sv = .slice (if vc = m + 1 then some ⟨b1, o1, none⟩ else some ⟨b1, o1 + (m + 1), none⟩) (n - (m + 1)) (vc - (m + 1)) := by
        by_cases hcap : vc = m + 1
        · rw [s1 hcap, if_pos hcap]
          congr 1 <;> omega
        · rw [s2 hcap, if_neg hcap]
      subst e
      clear s1 s2 HR HOW HN HT HTL HIN HCV hT hTI hcm
      go_upto_region 11 with fail
      go_region_law_o (first
        | (refine step_append_eq rfl _ _ 23 23 rfl (.slice none 0 0) (.slice (some ⟨b1, o1, none⟩) m vc) (by rfl) (by rfl) (hr4 _) ?_)
        | (refine step_append_eq rfl _ _ 23 23 rfl (.slice A4 m C4) (.slice (if vc = m + 1 then some ⟨b1, o1, none⟩ else some ⟨b1, o1 + (m + 1), none⟩) (n - (m + 1)) (vc - (m + 1))) (by rfl) (by rfl) (hr5 _) ?_))
      all_goals
        generalize (if vc = m + 1 then some (⟨b1, o1, none⟩ : Addr) else some ⟨b1, o1 + (m + 1), none⟩) = AX
        go_wp2_with fail
        go_meet
        exact HM.out
    · have hcm : ¬ vc = m := by omega
      have hsv := HIN.out.drop HN.out m (by omega)
      have hL2 : ((eScr y.scr).drop m).length ≤ n - m := by rw [List.length_drop, HN.out]; omega
      obtain ⟨v5, w5, hr5, q5⟩ := bys_append0 HR.out hsv.lst (by have := hbnd _ _ hlt1 hL2; rw [List.length_append] at this; omega)
      obtain ⟨A5, C5, hv5⟩ := q5.row.len
      obtain ⟨n5, hn5⟩ : ∃ n5, ((eScr y.scr).take m ++ [c] ++ (eScr y.scr).drop m).length = n5 := ⟨_, rfl⟩
      rw [hn5] at hv5
      subst hv5
      have hmeet : ∃ (Ad : Option Addr) (nd cd : Nat) (Ld : Str), Value.slice A5 n5 C5 = .slice Ad nd cd ∧ InB w5 (.slice Ad nd cd) Ld ∧ Ld.length = nd ∧ nd ≤ 1000000000 + 1 ∧ Keeps [] w w5 := ⟨A5, n5, C5, _, rfl, q5.row.inB, hn5, by rw [← hn5]; exact hbnd _ _ hlt1 hL2, hkeep.trans q5.keeps (fun b hb => .inr (HOW.out b (by simpa using hb)))⟩
      have HM := Lib.hid hmeet
      rw [Addr.add_lit] at hr5
      clear hmeet q5 hsv hn5 hL2 hbnd hlt1 hkeep
      go_upto_region 7 with fail
      go_wp2_with (at_builtin; refine list_append_eq rfl _ _ 23 23 rfl (.slice A13 (m + 1) C13) (.slice (some ⟨b1, o1 + m, none⟩) (n - m) (vc - m)) rfl rfl (hr5 _) ?_)
      go_meet
      exact HM.out
  case rest =>
    obtain ⟨Ad, nd, cd, Ld, rfl, hD, hDl, hDn, KK⟩ := hcut
    have hTin := HT.out.keeps KK
    have HTn : Hid (T.length = tl ∧ tl ≤ 1073741824 ∧ Ld.length = nd ∧ nd ≤ 1073741824) := Lib.hid (by have := HTL.out; omega)
    clear HR HOW HIN HK HCV hk3 hDl hDn
    have ka := (Keeps.refl [] wc).alloc (.cells #[.slice D tl capD, .slice Ad nd cd] 23)
    have bl := Blk.new wc [.slice D tl capD, .slice Ad nd cd] 23
    change Blk (wc.alloc (.cells #[.slice D tl capD, .slice Ad nd cd] 23)) _ _ at bl
    have hDw := Lib.hid (hD.keeps ka)
    have hTw := Lib.hid (hTin.keeps ka)
    have KA := KK.trans ka (by simp)
    clear ka hD hTin KK HT
    obtain ⟨gl, hgl⟩ : ∃ gl, wc.heap.size = gl := ⟨_, rfl⟩
    rw [hgl] at bl
    go_upto_region 12 with fail
    go_wp2_with fail
    obtain ⟨wl, hwl⟩ : ∃ wl, wc.alloc (.cells #[.slice D tl capD, .slice Ad nd cd] 23) = wl := ⟨_, rfl⟩
    rw [hwl] at bl hDw hTw KA ⊢
    clear hwl hgl
    go_loopw [75] (fun i wr => ∃ k : Nat, i = .int .i64 (k : Int) ∧ k ≤ 2 ∧ Keeps [] w wr ∧ Blk wr gl [.slice D tl capD, .slice Ad nd cd] ∧ Hid (InB wr (.slice D tl capD) T) ∧ Hid (InB wr (.slice Ad nd cd) Ld)) (fun i _ => 2 - (intOf i).toNat)
    case atStart => exact ⟨0, rfl, by omega, KA, bl, hTw, hDw⟩
    case round =>
      clear KA bl hTw hDw
      obtain ⟨k, rfl, hk2, KK, bl, hT, hD⟩ := hrel
      by_cases hlt : k < 2
      · obtain ⟨Ak, nk, ck, Lk, hcell, hkn, hkm, hin⟩ : ∃ (Ak : Option Addr) (nk ck : Nat) (Lk : Str), wr.cell? ⟨gl, k, none⟩ = some (.slice Ak nk ck) ∧ Lk.length = nk ∧ nk ≤ 1073741824 ∧ InB wr (.slice Ak nk ck) Lk := by
          obtain rfl | rfl : k = 0 ∨ k = 1 := by omega
          · exact ⟨D, tl, capD, T, bl.cell 0, HTn.out.1, HTn.out.2.1, hT.out⟩
          · exact ⟨Ad, nd, cd, Ld, bl.cell 1, HTn.out.2.2.1, HTn.out.2.2.2, hD.out⟩
        have hkI : (k : Int) < 2 := by omega
        have hqd := dec_any vld valid_c wr Lk (.slice Ak nk ck) hin (by omega)
        have blf := bl.frozen
        have bll := bl.lt
        unfold DecQ at hqd
        have HKN := Lib.hid (And.intro hkn hkm)
        have HI := Lib.hid hin
        clear hkn hkm hin
        cases hdec : dec vld Lk with
        | error e =>
          rw [hdec] at hqd
          have he := dec_err hdec
          clear hdec
          go_wp2_with fail
          refine hqd.mono ?_
          rintro q w5 ⟨k5, rfl⟩
          have ka := (Keeps.refl [] w5).alloc (.cells #[.int .i64 0, .int .i64 0, .int .i64 0, .int .i64 0, .int .i64 0, .int .i64 0, .int .u64 0, .slice none 0 0, .slice none 0 0] 30)
          have k56 := k5.trans ka (by simp)
          have bl6 := k56.blk bl (by simp)
          have K6 := KK.trans k56 (by simp)
          have hT6 := Lib.hid (hT.out.keeps k56)
          have hD6 := Lib.hid (hD.out.keeps k56)
          have bz := Blk.new w5 [.int .i64 0, .int .i64 0, .int .i64 0, .int .i64 0, .int .i64 0, .int .i64 0, .int .u64 0, .slice none 0 0, .slice none 0 0] 30
          change Blk (w5.alloc (.cells #[.int .i64 0, .int .i64 0, .int .i64 0, .int .i64 0, .int .i64 0, .int .i64 0, .int .u64 0, .slice none 0 0, .slice none 0 0] 30)) _ _ at bl6 bz
          clear hqd k5 ka k56 bl KK hT hD blf bll hcell HI
          obtain ⟨gz, hgz⟩ : ∃ gz, w5.heap.size = gz := ⟨_, rfl⟩
          rw [hgz] at bz
          have heI : ((e : Int) = 11 ∨ (e : Int) = 12 ∨ (e : Int) = 1) ∧ ¬ (e : Int) = 0 := by omega
          obtain ⟨heI, he0⟩ := heI
          go_upto_region 16 with fail
          obtain ⟨w6, hw6⟩ : ∃ w6, w5.alloc (.cells #[.int .i64 0, .int .i64 0, .int .i64 0, .int .i64 0, .int .i64 0, .int .i64 0, .int .u64 0, .slice none 0 0, .slice none 0 0] 30) = w6 := ⟨_, rfl⟩
          rw [hw6] at bl6 bz K6 hT6 hD6 ⊢
          clear hw6 hgz
          have hqs := ssc_zero w6
          obtain ⟨z0, z1, z2, z3, z4, z5, z6, z7, z8, zf, zl⟩ := bz.o9
          have hfin : ∀ w7, Keeps [] w6 w7 → ∃ k' : Nat, Value.int .i64 ((k : Int) + 1) = .int .i64 (k' : Int) ∧ k' ≤ 2 ∧ Keeps [] w w7 ∧ Blk w7 gl [.slice D tl capD, .slice Ad nd cd] ∧ Hid (InB w7 (.slice D tl capD) T) ∧ Hid (InB w7 (.slice Ad nd cd) Ld) := fun w7 k7 =>
            ⟨k + 1, by simp, by omega, K6.trans k7 (by simp), k7.blk bl6 (by simp), Lib.hid (hT6.out.keeps k7), Lib.hid (hD6.out.keeps k7)⟩
          have HF := Lib.hid hfin
          clear hfin K6 bl6 hT6 hD6
          obtain ⟨ei, hei⟩ : ∃ ei : Int, (e : Int) = ei := ⟨_, rfl⟩
          rw [hei] at heI he0 ⊢
          clear hei he
          obtain rfl | rfl | rfl := heI
          all_goals
            go_wp2_with fail
            refine hqs.mono ?_
            rintro q w7 ⟨rfl, k7⟩
            go_wp2_with fail
            go_roundw
            case rel => exact HF.out w7 k7
            case measure => simp [intOf] <;> omega
        | ok x =>
          rw [hdec] at hqd
          go_wp2_with fail
          refine hqd.mono ?_
          rintro q w5 ⟨k5, z, hz, hzt, hzo, rfl⟩
          rw [← hz] at hdec
          obtain ⟨⟨g1, g2, g3⟩, g4⟩ := gs_dec hdec hzt.1 (by have := HKN.out; omega)
          have ka := (Keeps.refl [] w5).alloc (.cells #[.int .i64 z.th, .int .i64 z.sn, .int .i64 z.no, .int .i64 z.ch, .int .i64 z.re, .int .i64 z.fa, .int .u64 (z.cl : Int), .slice z.pA z.ps.length z.pc, .slice z.kA z.pk.length z.kc] 30)
          have k56 := k5.trans ka (by simp)
          have bl6 := k56.blk bl (by simp)
          have K6 := KK.trans k56 (by simp)
          have hT6 := Lib.hid (hT.out.keeps k56)
          have hD6 := Lib.hid (hD.out.keeps k56)
          have hI6 := Lib.hid (HI.out.keeps k56)
          have hzo6 := hzo.keeps ka
          have bz := Blk.new w5 [.int .i64 z.th, .int .i64 z.sn, .int .i64 z.no, .int .i64 z.ch, .int .i64 z.re, .int .i64 z.fa, .int .u64 (z.cl : Int), .slice z.pA z.ps.length z.pc, .slice z.kA z.pk.length z.kc] 30
          change Blk (w5.alloc (.cells #[.int .i64 z.th, .int .i64 z.sn, .int .i64 z.no, .int .i64 z.ch, .int .i64 z.re, .int .i64 z.fa, .int .u64 (z.cl : Int), .slice z.pA z.ps.length z.pc, .slice z.kA z.pk.length z.kc] 30)) _ _ at bl6 bz
          clear hqd k5 ka k56 bl KK hT hD blf bll hcell HI hz hdec hzo
          obtain ⟨gz, hgz⟩ : ∃ gz, w5.heap.size = gz := ⟨_, rfl⟩
          rw [hgz] at bz
          go_upto_region 16 with fail
          obtain ⟨w6, hw6⟩ : ∃ w6, w5.alloc (.cells #[.int .i64 z.th, .int .i64 z.sn, .int .i64 z.no, .int .i64 z.ch, .int .i64 z.re, .int .i64 z.fa, .int .u64 (z.cl : Int), .slice z.pA z.ps.length z.pc, .slice z.kA z.pk.length z.kc] 30) = w6 := ⟨_, rfl⟩
          rw [hw6] at bl6 bz K6 hT6 hD6 hI6 hzo6 ⊢
          clear hw6 hgz
          have hqv := valid_any w6 z hzo6 g1
          rw [g3] at hqv
          obtain ⟨z0, z1, z2, z3, z4, z5, z6, z7, z8, zf, zl⟩ := bz.o9
          go_wp2_with fail
          refine hqv.mono ?_
          rintro q w7 ⟨rfl, k7⟩
          have hqr := renc_any w7 z (hzo6.keeps k7) g1 g2 (by rw [← g4]; have := HKN.out; omega) g3
          unfold REncQ at hqr
          rw [← g4] at hqr
          have bz7 := k7.blk bz (by simp)
          clear z0 z1 z2 z3 z4 z5 z6 z7 z8 zf zl hqv
          obtain ⟨z0, z1, z2, z3, z4, z5, z6, z7, z8, zf, zl⟩ := bz7.o9
          have HG := Lib.hid (And.intro g1 (And.intro g2 (And.intro g3 g4)))
          clear g1 g2 g3 g4
          go_wp2_with fail
          refine hqr.mono ?_
          rintro q w8 ⟨k8, v, rfl, hv, _⟩
          have k68 := k7.trans k8 (by simp)
          have hqs := samb_in (by have := HKN.out; omega) hv.inB (hI6.out.keeps k68)
          obtain ⟨A8, C8, rfl⟩ := hv.len
          clear z0 z1 z2 z3 z4 z5 z6 z7 z8 zf zl hqr
          go_wp2_with fail
          refine hqs.mono ?_
          rintro q w9 ⟨rfl, k9⟩
          have k69 := k68.trans k9 (by simp)
          go_wp2_with fail
          go_roundw
          case rel => exact ⟨k + 1, by go_num, by omega, K6.trans k69 (by simp), k69.blk bl6 (by simp), Lib.hid (hT6.out.keeps k69), Lib.hid (hD6.out.keeps k69)⟩
          case measure => simp [intOf] <;> omega
      · obtain rfl : k = 2 := by omega
        have hqa := awk_any wr
        go_wp2_with fail
        refine hqa.mono ?_
        rintro q w4 ⟨rfl, k4⟩
        go_wp2_with fail
        go_ret
        exact ⟨rfl, KK.trans k4 (by simp)⟩
end Go.Proofs.Ytkgmgnfcmnhhaaa
