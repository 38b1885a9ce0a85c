/- The reference's writer of package script: the contract of op. -/
import Derived.Test.YtkgmgnfcmnhhaaaScrU
import Derived.Deep.RegionHeld3
namespace Go.Proofs.Ytkgmgnfcmnhhaaa
open Go.RowKit
set_option linter.unusedSectionVars false
set_option linter.unusedVariables false
set_option linter.unusedSimpArgs false
set_option maxRecDepth 20000
set_option maxHeartbeats 4000000
theorem Blk.p7 {w : World} {b : Nat} {x : OV} (h : Blk w b [.int .i64 x.c, .string ⟨x.k.toArray⟩, .int .u64 (x.t : Int), .slice x.bA x.b.length x.bc, .int .i64 x.h, .int .i64 x.u, .int .i64 x.m]) : w.cell? ⟨b, 0, none⟩ = some (.int .i64 x.c) ∧ w.cell? ⟨b, 1, none⟩ = some (.string ⟨x.k.toArray⟩) ∧ w.cell? ⟨b, 2, none⟩ = some (.int .u64 (x.t : Int)) ∧ w.cell? ⟨b, 3, none⟩ = some (.slice x.bA x.b.length x.bc) ∧ w.cell? ⟨b, 4, none⟩ = some (.int .i64 x.h) ∧ w.cell? ⟨b, 5, none⟩ = some (.int .i64 x.u) ∧ w.cell? ⟨b, 6, none⟩ = some (.int .i64 x.m) ∧ (∀ j, w.frozen? ⟨b, j, none⟩ = false) ∧ b < w.heap.size :=
  ⟨h.cell 0, h.cell 1, h.cell 2, h.cell 3, h.cell 4, h.cell 5, h.cell 6, h.frozen, h.lt⟩
theorem Bs.notin {w : World} {h : Nat} {v : Value} {cs : List Value} (s : Bs w h v cs) : h ∉ v.ownBlock.toList := fun hm => s.own (by simpa using hm)
theorem BQ.notin {w w1 : World} {v v1 : Value} {L : Str} {b : Nat} (q : BQ w v w1 v1 L) (h : b ∉ v.ownBlock.toList) (hb : b < w.heap.size) : b ∉ v1.ownBlock.toList := fun hm => by
  rcases q.own b (by simpa using hm) with h1 | h1
  · exact h (by simpa using h1)
  · omega
theorem ropR (w0 w : World) (K0 : Keeps [] w0 w) (v : Value) (L : Str) (h : Bw w v L) (hv0 : ∀ b, v.ownBlock = some b → w0.heap.size ≤ b) (x : OV) (hx : OkB w0 x) (hc : 1 ≤ x.c ∧ x.c ≤ 9) (ht : x.t < 2 ^ 64) (hl : L.length + (eOp x.op).length ≤ 1073741824) :
    Calls Try.prog 23 #[v, .agg #[.int .i64 x.c, .string ⟨x.k.toArray⟩, .int .u64 (x.t : Int), .slice x.bA x.b.length x.bc, .int .i64 x.h, .int .i64 x.u, .int .i64 x.m]] w (RQ w v (L ++ eOp x.op)) := by
  have kb := (Keeps.refl [] w).alloc (.cells #[.int .i64 x.c, .string ⟨x.k.toArray⟩, .int .u64 (x.t : Int), .slice x.bA x.b.length x.bc, .int .i64 x.h, .int .i64 x.u, .int .i64 x.m] 45)
  have hh := h.keeps kb (by simp)
  have s0 : Bs (w.alloc (.cells #[.int .i64 x.c, .string ⟨x.k.toArray⟩, .int .u64 (x.t : Int), .slice x.bA x.b.length x.bc, .int .i64 x.h, .int .i64 x.u, .int .i64 x.m] 45)) w.heap.size v [.int .i64 x.c, .string ⟨x.k.toArray⟩, .int .u64 (x.t : Int), .slice x.bA x.b.length x.bc, .int .i64 x.h, .int .i64 x.u, .int .i64 x.m] := ⟨new_op w x, fun he => by have := h.blk _ he; omega⟩
  have hQ0 : BQ w v (w.alloc (.cells #[.int .i64 x.c, .string ⟨x.k.toArray⟩, .int .u64 (x.t : Int), .slice x.bA x.b.length x.bc, .int .i64 x.h, .int .i64 x.u, .int .i64 x.m] 45)) v L := (BQ.refl h).keepsN kb (by simp) (by simp)
  have HL := Lib.hid hl
  have hl1 : L.length + 1 ≤ 1073741824 := by simp only [eOp, List.length_cons] at hl; omega
  obtain ⟨w1, hw1⟩ : ∃ w1, w.alloc (.cells #[.int .i64 x.c, .string ⟨x.k.toArray⟩, .int .u64 (x.t : Int), .slice x.bA x.b.length x.bc, .int .i64 x.h, .int .i64 x.u, .int .i64 x.m] 45) = w1 := ⟨_, rfl⟩
  obtain ⟨bx, hbx⟩ : ∃ bx, w.heap.size = bx := ⟨_, rfl⟩
  rw [hw1, hbx] at s0
  rw [hw1] at hh hQ0
  obtain ⟨b0, b1, b2, b3, b4, b5, b6, bf, bl⟩ := Blk.p7 s0.blk
  obtain ⟨A1, C1, rfl⟩ := h.len
  obtain ⟨v2, w2, hr, hb⟩ := byte_append hh (UInt8.ofNat x.c.toNat) hl1 1
  have hby : vB (UInt8.ofNat x.c.toNat) = .int .u8 x.c := by simp only [vB]; rw [toNat_ofNat (by omega)]; congr 1; omega
  have hwr : IntKind.u8.wrap x.c = x.c := by rw [IntKind.wrap_u8]; omega
  rw [hby] at hr
  obtain ⟨A2, C2, rfl⟩ := hb.row.len
  have hl2 : (L ++ [UInt8.ofNat x.c.toNat]).length = L.length + 1 := by simp
  rw [hl2] at hr hb
  obtain ⟨gw, hgw⟩ : ∃ gw, w1.heap.size = gw := ⟨_, rfl⟩
  rw [hgw] at hr
  have s1 := s0.step hb
  have QQ := hQ0.trans hb
  clear kb s0 hQ0 h hb
  obtain ⟨e0, e1, e2, e3, e4, e5, e6, ef, el⟩ := Blk.p7 s1.blk
  go_enter Try.func23, Try.ntmps23
  go_upto_region 2 with (at_builtin; refine list_append_eq rfl _ _ 23 23 rfl _ _ rfl rfl (hr _) ?_)
  clear b0 b1 b2 b3 b4 b5 b6 bf bl hr hw1 hwr hby hh hl1
  obtain ⟨v1, hv1⟩ : ∃ v1, Value.slice A2 (L.length + 1) C2 = v1 := ⟨_, rfl⟩
  rw [hv1] at QQ s1
  rw [hv1]
  obtain ⟨L1, hL1⟩ : ∃ L1, L ++ [UInt8.ofNat x.c.toNat] = L1 := ⟨_, rfl⟩
  have HL1 := Lib.hid hL1
  rw [hL1] at QQ
  clear hv1 hL1
  obtain hcx | hcx | hcx | hcx | hcx | hcx | hcx | hcx | hcx : x.c = 3 ∨ x.c = 1 ∨ x.c = 2 ∨ x.c = 4 ∨ x.c = 5 ∨ x.c = 6 ∨ x.c = 7 ∨ x.c = 8 ∨ x.c = 9 := by omega
  · have hQl : x.b.length ≤ (x.b.flatMap eWrt).length := length_flatMap_ge eWrt fun z _ => eWrt_pos z
    rw [hcx] at e0
    have heq : eOp x.op = [UInt8.ofNat x.c.toNat] ++ (vi x.b.length ++ x.b.flatMap eWrt) := by simp [eOp, eBody, eBatch, OV.op, hcx]
    rw [heq, List.length_append, List.length_append, List.length_singleton] at hl
    have hl3 : L1.length = L.length + 1 := by rw [← HL1.out]; simp
    have HE := Lib.hid heq
    obtain ⟨n, hn⟩ : ∃ n, x.b.length = n := ⟨_, rfl⟩
    have hn30 : n ≤ 1073741824 := by omega
    rw [hn] at hl hQl
    have h1q := ruR _ _ _ QQ.row n (Nat.lt_of_le_of_lt hn30 (by decide)) (by omega)
    have Hn := Lib.hid hn
    have hwn : IntKind.u64.wrap (n : Int) = (n : Int) := by rw [IntKind.wrap_u64]; omega
    rw [hn] at e3
    have HLl := Lib.hid hl
    clear heq hn
    go_wp2_with fail
    refine h1q.mono ?_
    rintro q w5 ⟨v5, rfl, B5⟩
    replace QQ := QQ.trans B5
    replace s1 := s1.step B5
    clear e0 e1 e2 e3 e4 e5 e6 ef el h1q B5 hwn
    obtain ⟨e0, e1, e2, e3, e4, e5, e6, ef, el⟩ := Blk.p7 s1.blk
    rw [Hn.out] at e3
    go_wp2_with fail
    clear e0 e1 e2 e3 e4 e5 e6 ef el
    go_loopw [0, 5] (fun v' i wr => ∃ (k : Nat) (L' : Str), i = .int .i64 (k : Int) ∧ k ≤ n ∧ BQ w5 v5 wr v' L' ∧ Hid (L' = L1 ++ vi n ++ (x.b.take k).flatMap eWrt)) (fun _ i _ => n - (intOf i).toNat)
    case atStart => exact ⟨0, _, rfl, by omega, BQ.refl QQ.row, Lib.hid (by rw [List.take_zero, List.flatMap_nil, List.append_nil])⟩
    case round =>
      obtain ⟨k, L', rfl, hk, Q, hsp⟩ := hrel
      have s2 := s1.step Q
      obtain ⟨e0, e1, e2, e3, e4, e5, e6, ef, el⟩ := Blk.p7 s2.blk
      rw [Hn.out] at e3
      by_cases hkn : k < n
      · have hkx : k < x.b.length := by rw [Hn.out]; exact hkn
        obtain ⟨e, he⟩ : ∃ e, x.b[k]? = some e := ⟨_, List.getElem?_eq_getElem hkx⟩
        obtain ⟨A, cap, b, o, hv, hA, har⟩ := hx
        have hsplit : (x.b.take (k + 1)).flatMap eWrt = (x.b.take k).flatMap eWrt ++ eWrt e := by
          rw [List.take_add_one, he, List.flatMap_append]
          simp
        have hsz : ((x.b.take (k + 1)).flatMap eWrt).length ≤ (x.b.flatMap eWrt).length := by
          have := congrArg (fun l => (List.flatMap eWrt l).length) (List.take_append_drop (k + 1) x.b)
          simp only [List.flatMap_append, List.length_append] at this
          omega
        rw [hsplit, List.length_append] at hsz
        have hwe : (eWrt e).length = (eTxt e.k).length + ((eTxt e.v).length + 1) := by unfold eWrt; rw [List.length_append, List.length_append]; rfl
        have Kr : Keeps [] w0 wr := K0.trans (QQ.trans Q).keeps (fun b hb => .inr (hv0 b (by simpa using hb)))
        injection hv with hA2 hN2 hC2
        have hAA : x.bA = some ⟨b, o, none⟩ := by rw [hA2]; exact hA (by omega)
        obtain ⟨p0, p1, p2, pl⟩ := (har.keeps Kr (by simp)).wrt he
        have hlen : L'.length + (eWrt e).length ≤ 1073741824 := by
          rw [hsp.out]
          simp only [List.length_append]
          have := HLl.out
          omega
        have HSP : Hid (L' ++ eWrt e = L1 ++ vi n ++ (x.b.take (k + 1)).flatMap eWrt) := Lib.hid (by rw [hsplit, hsp.out, List.append_assoc (L1 ++ vi n)])
        rw [hAA] at e3
        have hvb : b ∉ u0.ownBlock.toList := fun hb => by
          have hlb := har.lt (by rw [wCs_length]; omega)
          rcases (QQ.trans Q).own b (by simpa using hb) with h1 | h1
          · have := hv0 b h1; omega
          · have := K0.size; omega
        clear hsplit hsz har hA2 hA Kr hC2 hN2 hAA
        have QD := Q.drew
        have s2D : Bs _ bx _ _ := ⟨s2.blk.drew, s2.own⟩
        have hz2 : L'.length + (eTxt e.k).length ≤ 1073741824 := by omega
        have hz3 : (L' ++ eTxt e.k).length + (eTxt e.v).length ≤ 1073741824 := by rw [List.length_append]; omega
        have s2n := s2.notin
        go_wp2_with fail
        go_region_held3 (fun w' => w'.cell? ⟨bx, 3, none⟩ = some (.slice (some ⟨b, o, none⟩) n x.bc) ∧ w'.cell? ⟨b, o + k * 3, none⟩ = some (.string ⟨e.k.toArray⟩) ∧ w'.cell? ⟨b, o + k * 3 + 1, none⟩ = some (.string ⟨e.v.toArray⟩))
          (first
            | exact ⟨m3, m0, m1⟩
            | exact ⟨k3, k0, k1⟩
            | go_keep)
          ((first
            | (go_at_call 35; refine (rsR _ _ _ B2.row e.v hz3).mono ?_; rintro q w7 ⟨v3, rfl, B3⟩; have m3 := B3.keeps.cellEq k3 n2; have m0 := B3.keeps.cellEq k0 n3; have m1 := B3.keeps.cellEq k1 n3; have m2 := B3.keeps.cellEq k2 n3)
            | (go_at_call 35; refine (rsR _ _ _ QD.row e.k hz2).mono ?_; rintro q w6 ⟨v2, rfl, B2⟩; have k3 := B2.keeps.cellEq e3 s2n; have k0 := B2.keeps.cellEq p0 hvb; have k1 := B2.keeps.cellEq p1 hvb; have k2 := B2.keeps.cellEq p2 hvb; have n2 := B2.notin s2n s2.blk.lt; have n3 := B2.notin hvb pl)))
        have Q3 := QD.trans (B2.trans B3)
        obtain ⟨cd, hcd⟩ : ∃ cd : UInt8, (if e.d then 1 else 0) = cd := ⟨_, rfl⟩
        obtain ⟨v6, w8, hr, hb⟩ := byte_append B3.row cd (by rw [List.length_append, List.length_append]; omega) 1
        obtain ⟨A5, C5, hv5⟩ := B3.row.len
        obtain ⟨A6, C6, hv6⟩ := hb.row.len
        have Q4 := Q3.trans hb
        have hLe : L' ++ eTxt e.k ++ eTxt e.v ++ [cd] = L' ++ eWrt e := by rw [← hcd]; simp [eWrt]
        rw [hLe, HSP.out] at Q4
        have HQ4 := Lib.hid Q4
        obtain ⟨gw7, hgw7⟩ : ∃ gw7, w7.heap.size = gw7 := ⟨_, rfl⟩
        rw [hgw7] at hr
        obtain ⟨n5, hn5⟩ : ∃ n5, (L' ++ eTxt e.k ++ eTxt e.v).length = n5 := ⟨_, rfl⟩
        obtain ⟨n6, hn6⟩ : ∃ n6, (L' ++ eTxt e.k ++ eTxt e.v ++ [cd]).length = n6 := ⟨_, rfl⟩
        rw [hn5] at hv5
        rw [hn6] at hv6
        subst hv5
        subst hv6
        clear Q3 Q4 hb B2 B3 HSP hwe hLe hn5 hn6 hlen QD s2D Q hsp s2 e0 e1 e2 e3 e4 e5 e6 p0 p1 p2 k0 k1 k2 k3 n2 n3 hvb s2n hz2 hz3
        cases hd : e.d with
        | true =>
          rw [hd] at m2 hcd
          simp only [if_true] at hcd
          subst hcd
          change ∀ ty, (Builtin.append_ #[23, 23] ty #[.slice A5 n5 C5, .slice (some ⟨gw7, 0, none⟩) 1 1]).run Try.prog (w7.alloc (.cells #[.int .u8 1] 5)) = _ at hr
          go_wp2_with (at_builtin; refine list_append_eq rfl _ _ 23 23 rfl _ _ rfl rfl (hr _) ?_)
          exact ⟨⟨k + 1, _, by go_num, by omega, HQ4.out, Lib.hid rfl⟩, by simp [intOf] <;> omega⟩
        | false =>
          rw [hd] at m2 hcd
          simp only [Bool.false_eq_true, if_false] at hcd
          subst hcd
          change ∀ ty, (Builtin.append_ #[23, 23] ty #[.slice A5 n5 C5, .slice (some ⟨gw7, 0, none⟩) 1 1]).run Try.prog (w7.alloc (.cells #[.int .u8 0] 5)) = _ at hr
          go_wp2_with (at_builtin; refine list_append_eq rfl _ _ 23 23 rfl _ _ rfl rfl (hr _) ?_)
          exact ⟨⟨k + 1, _, by go_num, by omega, HQ4.out, Lib.hid rfl⟩, by simp [intOf] <;> omega⟩
      · obtain rfl : k = n := by omega
        rw [← Hn.out, List.take_length] at hsp
        have HQ := Lib.hid (QQ.trans Q)
        have HSP := Lib.hid hsp.out
        clear Q hsp s2
        go_wp2_with fail
        go_ret
        refine ⟨_, rfl, ?_⟩
        have := HQ.out
        rw [HSP.out] at this
        rw [HE.out, ← List.append_assoc, HL1.out, ← List.append_assoc]
        exact this
  · have heq : eOp x.op = [UInt8.ofNat x.c.toNat] ++ (eTxt x.k) := by simp [eOp, eBody, OV.op, hcx, eInt]
    rw [heq, List.length_append, List.length_singleton] at hl
    skip
    have hl3 : L1.length = L.length + 1 := by rw [← HL1.out]; simp
    rw [hcx] at e0
    have HE := Lib.hid heq
    clear heq
    have hq1 := rsR _ _ _ QQ.row x.k (by omega)
    go_wp2_with fail
    refine hq1.mono ?_
    rintro q w5 ⟨v2, rfl, B2⟩
    have HQ := Lib.hid (QQ.trans B2)
    clear QQ B2 hq1 e0 e1 e2 e3 e4 e5 e6 ef el s1
    go_wp2_with fail
    go_ret
    refine ⟨v2, rfl, ?_⟩
    have := HQ.out
    rw [HE.out, ← List.append_assoc, HL1.out]
    simpa only [List.append_assoc, List.append_nil] using this
  · have heq : eOp x.op = [UInt8.ofNat x.c.toNat] ++ (eTxt x.k ++ (vi x.t)) := by simp [eOp, eBody, OV.op, hcx, eInt]
    rw [heq, List.length_append, List.length_singleton] at hl
    rw [List.length_append] at hl
    have hl3 : L1.length = L.length + 1 := by rw [← HL1.out]; simp
    rw [hcx] at e0
    have HE := Lib.hid heq
    clear heq
    have QD := QQ.drew
    have s1D : Bs _ bx v1 _ := ⟨s1.blk.drew, s1.own⟩
    have hz2 : (L1).length + (eTxt x.k).length ≤ 1073741824 := (by (try simp only [List.length_append]); omega)
    have hz3 : (L1 ++ eTxt x.k).length + (vi x.t).length ≤ 1073741824 := (by (try simp only [List.length_append]); omega)
    go_wp2_with fail
    go_region_held3 (fun w' => w'.cell? ⟨bx, 1, none⟩ = some (.string ⟨x.k.toArray⟩) ∧ w'.cell? ⟨bx, 2, none⟩ = some (.int .u64 (x.t : Int)) )
      (first
        | exact ⟨S3.blk.cell 1, S3.blk.cell 2⟩
        | exact ⟨S2.blk.cell 1, S2.blk.cell 2⟩
        | go_keep)
      ((first
        | (go_at_call 22; refine (ruR _ _ _ B2.row x.t ht hz3).mono ?_; rintro q w6 ⟨v3, rfl, B3⟩; have S3 := S2.step B3)
        | (go_at_call 35; refine (rsR _ _ _ QD.row x.k hz2).mono ?_; rintro q w5 ⟨v2, rfl, B2⟩; have S2 := s1D.step B2)))
    have HQ := Lib.hid (QD.trans (B2.trans (B3)))
    clear QQ QD B2 S2 B3 S3
    go_wp2_with fail
    go_ret
    refine ⟨v3, rfl, ?_⟩
    have := HQ.out
    rw [HE.out, ← List.append_assoc, HL1.out]
    simpa only [List.append_assoc, List.append_nil] using this
  · have heq : eOp x.op = [UInt8.ofNat x.c.toNat] ++ (vi (ofI x.h)) := by simp [eOp, eBody, OV.op, hcx, eInt]
    rw [heq, List.length_append, List.length_singleton] at hl
    skip
    have hl3 : L1.length = L.length + 1 := by rw [← HL1.out]; simp
    rw [hcx] at e0
    have HE := Lib.hid heq
    clear heq
    have hwh := ofI_wrap x.h
    have hq1 := ruR _ _ _ QQ.row (ofI x.h) (ofI_lt _) (by omega)
    go_wp2_with fail
    refine hq1.mono ?_
    rintro q w5 ⟨v2, rfl, B2⟩
    have HQ := Lib.hid (QQ.trans B2)
    clear QQ B2 hq1 e0 e1 e2 e3 e4 e5 e6 ef el s1
    go_wp2_with fail
    go_ret
    refine ⟨v2, rfl, ?_⟩
    have := HQ.out
    rw [HE.out, ← List.append_assoc, HL1.out]
    simpa only [List.append_assoc, List.append_nil] using this
  · have heq : eOp x.op = [UInt8.ofNat x.c.toNat] ++ (vi (ofI x.h)) := by simp [eOp, eBody, OV.op, hcx, eInt]
    rw [heq, List.length_append, List.length_singleton] at hl
    skip
    have hl3 : L1.length = L.length + 1 := by rw [← HL1.out]; simp
    rw [hcx] at e0
    have HE := Lib.hid heq
    clear heq
    have hwh := ofI_wrap x.h
    have hq1 := ruR _ _ _ QQ.row (ofI x.h) (ofI_lt _) (by omega)
    go_wp2_with fail
    refine hq1.mono ?_
    rintro q w5 ⟨v2, rfl, B2⟩
    have HQ := Lib.hid (QQ.trans B2)
    clear QQ B2 hq1 e0 e1 e2 e3 e4 e5 e6 ef el s1
    go_wp2_with fail
    go_ret
    refine ⟨v2, rfl, ?_⟩
    have := HQ.out
    rw [HE.out, ← List.append_assoc, HL1.out]
    simpa only [List.append_assoc, List.append_nil] using this
  · have heq : eOp x.op = [UInt8.ofNat x.c.toNat] ++ (vi (ofI x.u) ++ (vi (ofI x.h))) := by simp [eOp, eBody, OV.op, hcx, eInt]
    rw [heq, List.length_append, List.length_singleton] at hl
    rw [List.length_append] at hl
    have hl3 : L1.length = L.length + 1 := by rw [← HL1.out]; simp
    rw [hcx] at e0
    have HE := Lib.hid heq
    clear heq
    have hwu := ofI_wrap x.u
    have hwh := ofI_wrap x.h
    have QD := QQ.drew
    have s1D : Bs _ bx v1 _ := ⟨s1.blk.drew, s1.own⟩
    have hz2 : (L1).length + (vi (ofI x.u)).length ≤ 1073741824 := (by (try simp only [List.length_append]); omega)
    have hz3 : (L1 ++ vi (ofI x.u)).length + (vi (ofI x.h)).length ≤ 1073741824 := (by (try simp only [List.length_append]); omega)
    go_wp2_with fail
    go_region_held3 (fun w' => w'.cell? ⟨bx, 5, none⟩ = some (.int .i64 x.u) ∧ w'.cell? ⟨bx, 4, none⟩ = some (.int .i64 x.h) )
      (first
        | exact ⟨S3.blk.cell 5, S3.blk.cell 4⟩
        | exact ⟨S2.blk.cell 5, S2.blk.cell 4⟩
        | go_keep)
      ((first
        | (go_at_call 22; refine (ruR _ _ _ B2.row (ofI x.h) (ofI_lt _) hz3).mono ?_; rintro q w6 ⟨v3, rfl, B3⟩; have S3 := S2.step B3)
        | (go_at_call 22; refine (ruR _ _ _ QD.row (ofI x.u) (ofI_lt _) hz2).mono ?_; rintro q w5 ⟨v2, rfl, B2⟩; have S2 := s1D.step B2)))
    have HQ := Lib.hid (QD.trans (B2.trans (B3)))
    clear QQ QD B2 S2 B3 S3
    go_wp2_with fail
    go_ret
    refine ⟨v3, rfl, ?_⟩
    have := HQ.out
    rw [HE.out, ← List.append_assoc, HL1.out]
    simpa only [List.append_assoc, List.append_nil] using this
  · have heq : eOp x.op = [UInt8.ofNat x.c.toNat] ++ (vi (ofI x.u) ++ (vi (ofI x.m) ++ (eTxt x.k))) := by simp [eOp, eBody, OV.op, hcx, eInt]
    rw [heq, List.length_append, List.length_singleton] at hl
    rw [List.length_append, List.length_append] at hl
    have hl3 : L1.length = L.length + 1 := by rw [← HL1.out]; simp
    rw [hcx] at e0
    have HE := Lib.hid heq
    clear heq
    have hwu := ofI_wrap x.u
    have hwm := ofI_wrap x.m
    have QD := QQ.drew
    have s1D : Bs _ bx v1 _ := ⟨s1.blk.drew, s1.own⟩
    have hz2 : (L1).length + (vi (ofI x.u)).length ≤ 1073741824 := (by (try simp only [List.length_append]); omega)
    have hz3 : (L1 ++ vi (ofI x.u)).length + (vi (ofI x.m)).length ≤ 1073741824 := (by (try simp only [List.length_append]); omega)
    have hz4 : (L1 ++ vi (ofI x.u) ++ vi (ofI x.m)).length + (eTxt x.k).length ≤ 1073741824 := (by (try simp only [List.length_append]); omega)
    go_wp2_with fail
    go_region_held3 (fun w' => w'.cell? ⟨bx, 5, none⟩ = some (.int .i64 x.u) ∧ w'.cell? ⟨bx, 6, none⟩ = some (.int .i64 x.m) ∧ w'.cell? ⟨bx, 1, none⟩ = some (.string ⟨x.k.toArray⟩) )
      (first
        | exact ⟨S4.blk.cell 5, S4.blk.cell 6, S4.blk.cell 1⟩
        | exact ⟨S3.blk.cell 5, S3.blk.cell 6, S3.blk.cell 1⟩
        | exact ⟨S2.blk.cell 5, S2.blk.cell 6, S2.blk.cell 1⟩
        | go_keep)
      ((first
        | (go_at_call 35; refine (rsR _ _ _ B3.row x.k hz4).mono ?_; rintro q w7 ⟨v4, rfl, B4⟩; have S4 := S3.step B4)
        | (go_at_call 22; refine (ruR _ _ _ B2.row (ofI x.m) (ofI_lt _) hz3).mono ?_; rintro q w6 ⟨v3, rfl, B3⟩; have S3 := S2.step B3)
        | (go_at_call 22; refine (ruR _ _ _ QD.row (ofI x.u) (ofI_lt _) hz2).mono ?_; rintro q w5 ⟨v2, rfl, B2⟩; have S2 := s1D.step B2)))
    have HQ := Lib.hid (QD.trans (B2.trans (B3.trans (B4))))
    clear QQ QD B2 S2 B3 S3 B4 S4
    go_wp2_with fail
    go_ret
    refine ⟨v4, rfl, ?_⟩
    have := HQ.out
    rw [HE.out, ← List.append_assoc, HL1.out]
    simpa only [List.append_assoc, List.append_nil] using this
  · have heq : eOp x.op = [UInt8.ofNat x.c.toNat] ++ (vi (ofI x.u)) := by simp [eOp, eBody, OV.op, hcx, eInt]
    rw [heq, List.length_append, List.length_singleton] at hl
    skip
    have hl3 : L1.length = L.length + 1 := by rw [← HL1.out]; simp
    rw [hcx] at e0
    have HE := Lib.hid heq
    clear heq
    have hwu := ofI_wrap x.u
    have hq1 := ruR _ _ _ QQ.row (ofI x.u) (ofI_lt _) (by omega)
    go_wp2_with fail
    refine hq1.mono ?_
    rintro q w5 ⟨v2, rfl, B2⟩
    have HQ := Lib.hid (QQ.trans B2)
    clear QQ B2 hq1 e0 e1 e2 e3 e4 e5 e6 ef el s1
    go_wp2_with fail
    go_ret
    refine ⟨v2, rfl, ?_⟩
    have := HQ.out
    rw [HE.out, ← List.append_assoc, HL1.out]
    simpa only [List.append_assoc, List.append_nil] using this
  · have heq : eOp x.op = [UInt8.ofNat x.c.toNat] ++ ([]) := by simp [eOp, eBody, OV.op, hcx, eInt]
    rw [heq, List.length_append, List.length_singleton] at hl
    skip
    have hl3 : L1.length = L.length + 1 := by rw [← HL1.out]; simp
    rw [hcx] at e0
    have HE := Lib.hid heq
    clear heq
    have HQ := Lib.hid QQ
    clear QQ
    go_wp2_with fail
    go_ret
    refine ⟨v1, rfl, ?_⟩
    have := HQ.out
    rw [HE.out, ← List.append_assoc, HL1.out]
    simpa only [List.append_assoc, List.append_nil] using this
end Go.Proofs.Ytkgmgnfcmnhhaaa
