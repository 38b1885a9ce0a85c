/- The writer of package script: the contract of op. -/
import Derived.Test.YtkgmgnfcmnhhaaaScrN
import Derived.Deep.RegionLaw
import Derived.Deep.CutRange
import Derived.Deep.CutBlock
namespace Go.Proofs.Ytkgmgnfcmnhhaaa
open Go.RowKit
set_option linter.unusedSectionVars false
set_option linter.unusedVariables false
set_option linter.unusedSimpArgs false
set_option maxRecDepth 20000
set_option maxHeartbeats 4000000
/-- A block that a writer's methods leave as it is. -/
structure Sv (w : World) (h g : Nat) (v : Value) (cs : List Value) : Prop where
  blk : Blk w h cs
  ne : h ≠ g
  own : v.ownBlock ≠ some h
theorem Sv.step {w w1 : World} {h g : Nat} {v v1 : Value} {cs : List Value} {L : Str} (s : Sv w h g v cs) (q : WQ w g v w1 v1 L) : Sv w1 h g v1 cs :=
  ⟨q.keeps.blk s.blk (fun hm => by
    rcases List.mem_cons.1 hm with hm | hm
    · exact s.ne hm
    · exact s.own (by simpa using hm)), s.ne, fun he => by
    rcases q.own h he with h1 | h1
    · exact s.own h1
    · have := s.blk.lt; omega⟩
theorem WQ.fromDrew {w w1 : World} {g : Nat} {v v1 : Value} {L : Str} (h : WQ w.drew g v w1 v1 L) : WQ w g v w1 v1 L :=
  ⟨h.wr, (((Keeps.refl [] w).drew).mono (by simp)).trans h.keeps (fun b hb => .inl hb), h.own⟩
theorem Blk.o7' {w : World} {b : Nat} {x : OV} (h : Blk w b [.int .i64 x.c, .string ⟨x.k.toArray⟩, .int .u64 (x.t : Int), .slice x.bA x.b.length x.bc, .int .i64 x.h, .int .i64 x.u, .int .i64 x.m]) : w.cell? ⟨b, 0, none⟩ = some (.int .i64 x.c) ∧ w.cell? ⟨b, 1, none⟩ = some (.string ⟨x.k.toArray⟩) ∧ w.cell? ⟨b, 2, none⟩ = some (.int .u64 (x.t : Int)) ∧ w.cell? ⟨b, 3, none⟩ = some (.slice x.bA x.b.length x.bc) ∧ w.cell? ⟨b, 4, none⟩ = some (.int .i64 x.h) ∧ w.cell? ⟨b, 5, none⟩ = some (.int .i64 x.u) ∧ w.cell? ⟨b, 6, none⟩ = some (.int .i64 x.m) ∧ (∀ j, w.frozen? ⟨b, j, none⟩ = false) ∧ b < w.heap.size :=
  ⟨h.cell 0, h.cell 1, h.cell 2, h.cell 3, h.cell 4, h.cell 5, h.cell 6, h.frozen, h.lt⟩
theorem opW (w0 w : World) (K0 : Keeps [] w0 w) (g : Nat) (v : Value) (L : Str) (h : Wr w g v L) (hg0 : w0.heap.size ≤ g) (hv0 : ∀ b, v.ownBlock = some b → w0.heap.size ≤ b) (x : OV) (hx : OkB w0 x) (hc : 1 ≤ x.c ∧ x.c ≤ 9) (ht : x.t < 2 ^ 64) (hl : L.length + (eOp x.op).length ≤ 1073741824) :
    Calls Try.prog 21 #[.pointer (some ⟨g, 0, none⟩), .agg #[.int .i64 x.c, .string ⟨x.k.toArray⟩, .int .u64 (x.t : Int), .slice x.bA x.b.length x.bc, .int .i64 x.h, .int .i64 x.u, .int .i64 x.m]] w (WrQ w g v (L ++ eOp x.op)) := by
  have kb := (Keeps.refl [] w).alloc (.cells #[.int .i64 x.c, .string ⟨x.k.toArray⟩, .int .u64 (x.t : Int), .slice x.bA x.b.length x.bc, .int .i64 x.h, .int .i64 x.u, .int .i64 x.m] 45)
  have hh := h.keeps kb (by simp) (by simp)
  have hlt := h.lt
  have s0 : Sv (w.alloc (.cells #[.int .i64 x.c, .string ⟨x.k.toArray⟩, .int .u64 (x.t : Int), .slice x.bA x.b.length x.bc, .int .i64 x.h, .int .i64 x.u, .int .i64 x.m] 45)) w.heap.size g v [.int .i64 x.c, .string ⟨x.k.toArray⟩, .int .u64 (x.t : Int), .slice x.bA x.b.length x.bc, .int .i64 x.h, .int .i64 x.u, .int .i64 x.m] := ⟨new_op w x, by omega, fun he => by have := h.row.blk _ he; omega⟩
  have hQ0 : WQ w g v (w.alloc (.cells #[.int .i64 x.c, .string ⟨x.k.toArray⟩, .int .u64 (x.t : Int), .slice x.bA x.b.length x.bc, .int .i64 x.h, .int .i64 x.u, .int .i64 x.m] 45)) v L := (WQ.refl h).keepsN kb (by simp) (by simp) (by simp)
  obtain ⟨w1, hw1⟩ : ∃ w1, w.alloc (.cells #[.int .i64 x.c, .string ⟨x.k.toArray⟩, .int .u64 (x.t : Int), .slice x.bA x.b.length x.bc, .int .i64 x.h, .int .i64 x.u, .int .i64 x.m] 45) = w1 := ⟨_, rfl⟩
  obtain ⟨bx, hbx⟩ : ∃ bx, w.heap.size = bx := ⟨_, rfl⟩
  rw [hw1, hbx] at s0
  rw [hw1] at hh hQ0
  obtain ⟨b0, b1, b2, b3, b4, b5, b6, bf, bl⟩ := Blk.o7' s0.blk
  obtain ⟨A1, C1, rfl⟩ := h.row.len
  go_enter Try.func21, Try.ntmps21
  go_upto_region 1 with fail
  clear hw1
  have HL := Lib.hid hl
  have hl1 : L.length + 1 ≤ 1073741824 := by simp only [eOp, List.length_cons] at hl; omega
  go_cut [] from 7 to 18 (fun wx => ∃ v1, WQ w1 g (.slice A1 L.length C1) wx v1 (L ++ [UInt8.ofNat x.c.toNat]))
  case first =>
    obtain ⟨k0, kf, kg⟩ := hh.cell
    have hrd : Bw w1.drew (.slice A1 L.length C1) L := hh.row.keeps ((Keeps.refl [] w1).drew) (by simp)
    obtain ⟨v2, w2, hr, hb⟩ := byte_append hrd (UInt8.ofNat x.c.toNat) hl1 1
    have hby : vB (UInt8.ofNat x.c.toNat) = .int .u8 x.c := by simp only [vB]; rw [toNat_ofNat (by omega)]; congr 1; omega
    have hwr : IntKind.u8.wrap x.c = x.c := by rw [IntKind.wrap_u8]; omega
    rw [hby] at hr
    obtain ⟨A2, C2, rfl⟩ := hb.row.len
    have W1 := WQ.of (hh.keeps ((Keeps.refl [] w1).drew) (by simp) (by simp)) hb
    obtain ⟨gw, hgw⟩ : ∃ gw, w1.drew.heap.size = gw := ⟨_, rfl⟩
    have hgw' : w1.heap.size = gw := hgw
    rw [hgw] at hr
    obtain ⟨W1, e1, e2, e3⟩ := W1
    obtain ⟨n, hn⟩ : ∃ n, L.length = n := ⟨_, rfl⟩
    rw [hn] at k0 hr e1
    have hl2 : (L ++ [UInt8.ofNat x.c.toNat]).length = L.length + 1 := by simp
    rw [hl2, hn] at hr
    have HW := Lib.hid W1
    have hcl : ∀ o, (w1.alloc o).cell? ⟨g, 0, none⟩ = some (.slice A1 n C1) := fun o => Lib.cell?_alloc_some o k0
    have hb0 : ∀ o, (w1.alloc o).cell? ⟨bx, 0, none⟩ = some (.int .i64 x.c) := fun o => Lib.cell?_alloc_some o b0
    change ∀ ty, (Builtin.append_ #[23, 23] ty #[.slice A1 n C1, .slice (some ⟨gw, 0, none⟩) 1 1]).run Try.prog (w1.alloc (.cells #[.int .u8 x.c] 5)).drew = _ at hr
    clear W1 hb hrd hh HL hQ0
    have mixed : Try.prog.follows .mixedOrders = true := by kernel_rfl
    go_region_law_o (first | (refine step_append_eq rfl _ _ 23 23 rfl (.slice A1 n C1) (.slice (some ⟨gw, 0, none⟩) 1 1) (by simp [Act.eval, Act.put]) (by simp [Act.eval, Act.put]) (hr _) ?_))
    all_goals
      go_wp2_with fail
      go_meet
      have hW := HW.out
      rw [hl2] at hW
      subst hn
      exact ⟨_, hW.fromDrew⟩
  case rest =>
    obtain ⟨v1, Q1⟩ := hcut
    have s1 := s0.step Q1
    have QQ := hQ0.trans Q1
    clear hh hQ0 h b0 b1 b2 b3 b4 b5 b6 bf bl s0 kb hl1 Q1
    obtain ⟨b0, b1, b2, b3, b4, b5, b6, bf, bl⟩ := Blk.o7' s1.blk
    obtain hcx | hcx | hcx | hcx | hcx | hcx | hcx | hcx | hcx : x.c = 3 ∨ x.c = 1 ∨ x.c = 2 ∨ x.c = 4 ∨ x.c = 5 ∨ x.c = 6 ∨ x.c = 7 ∨ x.c = 8 ∨ x.c = 9 := by omega
    · have hQl : x.b.length ≤ (x.b.flatMap eWrt).length := length_flatMap_ge eWrt fun z _ => eWrt_pos z
      rw [hcx] at b0
      have heq : eOp x.op = [UInt8.ofNat x.c.toNat] ++ (vi x.b.length ++ x.b.flatMap eWrt) := by simp [eOp, eBody, eBatch, OV.op, hcx]
      rw [heq, List.length_append, List.length_append] at hl
      have HE := Lib.hid heq
      have he0 : eInt (x.b.length : Int) = vi x.b.length := by unfold eInt; rw [ofI_nat _ (by omega)]
      have h1q := intW _ g _ _ QQ.wr (x.b.length : Int) (by rw [he0]; simp only [List.length_append]; omega)
      rw [he0] at h1q
      clear heq
      obtain ⟨n, hn⟩ : ∃ n, x.b.length = n := ⟨_, rfl⟩
      have Hn := Lib.hid hn
      rw [hn] at h1q b3
      go_wp2_with fail
      refine h1q.mono ?_
      rintro q w2 ⟨rfl, v2, W2⟩
      replace s1 := s1.step W2
      replace QQ := QQ.trans W2
      clear b0 b1 b2 b3 b4 b5 b6 bf bl h1q W2
      obtain ⟨b0, b1, b2, b3, b4, b5, b6, bf, bl⟩ := Blk.o7' s1.blk
      rw [hn] at b3
      clear hn
      go_wp2_with fail
      go_loopw [47] (fun i wr => ∃ (k : Nat) (v' : Value), i = .int .i64 (k : Int) ∧ k ≤ n ∧ WQ w g (.slice A1 L.length C1) wr v' (L ++ [UInt8.ofNat x.c.toNat] ++ vi n ++ (x.b.take k).flatMap eWrt)) (fun i _ => n - (intOf i).toNat)
      case atStart => exact ⟨0, v2, rfl, by omega, by rw [List.take_zero, List.flatMap_nil, List.append_nil]; exact QQ⟩
      case round =>
        clear s1 QQ b0 b1 b2 b3 b4 b5 b6 bf bl
        obtain ⟨k, v', rfl, hk, Q⟩ := hrel
        by_cases hkn : k < n
        · have hkx : k < x.b.length := by rw [Hn.out]; exact hkn
          obtain ⟨e, he⟩ : ∃ e, x.b[k]? = some e := ⟨_, List.getElem?_eq_getElem hkx⟩
          obtain ⟨A, cap, b, o, hv, hA, har⟩ := hx
          have hsplit : (x.b.take (k + 1)).flatMap eWrt = (x.b.take k).flatMap eWrt ++ eWrt e := by
            rw [List.take_add_one, he, List.flatMap_append]
            simp
          have hsz : ((x.b.take (k + 1)).flatMap eWrt).length ≤ (x.b.flatMap eWrt).length := by
            have := congrArg (fun l => (List.flatMap eWrt l).length) (List.take_append_drop (k + 1) x.b)
            simp only [List.flatMap_append, List.length_append] at this
            omega
          rw [hsplit, List.length_append] at hsz
          have hwe : (eWrt e).length = (eTxt e.k).length + ((eTxt e.v).length + 1) := by unfold eWrt; rw [List.length_append, List.length_append]; rfl
          have Kr : Keeps [] w0 wr := K0.trans Q.keeps (fun b hb => .inr (by
            rcases List.mem_cons.1 hb with rfl | hb
            · exact hg0
            · exact hv0 b (by simpa using hb)))
          injection hv with hA2 hN2 hC2
          clear hC2
          try clear hN2
          have hAA : x.bA = some ⟨b, o, none⟩ := by rw [hA2]; exact hA (by omega)
          obtain ⟨p0, p1, p2, pl⟩ := (har.keeps Kr (by simp)).wrt he
          have hnl : x.b.length ≤ 1073741824 := by omega
          have hlen : (L ++ [UInt8.ofNat x.c.toNat] ++ vi n ++ (x.b.take k).flatMap eWrt).length + (eWrt e).length ≤ 1073741824 := by
            simp only [List.length_append]
            rw [← Hn.out]
            omega
          obtain ⟨Lk, hLk⟩ : ∃ Lk, L ++ [UInt8.ofNat x.c.toNat] ++ vi n ++ (x.b.take k).flatMap eWrt = Lk := ⟨_, rfl⟩
          have HSP : Hid (L ++ [UInt8.ofNat x.c.toNat] ++ vi n ++ (x.b.take (k + 1)).flatMap eWrt = Lk ++ eWrt e) := Lib.hid (by rw [hsplit, ← hLk, List.append_assoc (L ++ [UInt8.ofNat x.c.toNat] ++ vi n)])
          rw [hLk] at Q hlen
          rw [hAA]
          clear hsplit hsz har hLk hA2 hA Kr
          have kb := (Keeps.refl [] wr).alloc (.cells #[.string ⟨e.k.toArray⟩, .string ⟨e.v.toArray⟩, .bool e.d] 81)
          have sz0 : Sv (wr.alloc (.cells #[.string ⟨e.k.toArray⟩, .string ⟨e.v.toArray⟩, .bool e.d] 81)) wr.heap.size g v' [.string ⟨e.k.toArray⟩, .string ⟨e.v.toArray⟩, .bool e.d] := ⟨Blk.new wr _ 81, by have := Q.wr.lt; omega, fun he => by have := Q.wr.row.blk _ he; omega⟩
          have Q0 := Q.keepsN kb (by simp) (by simp) (by simp)
          have h1q := txtW _ g _ _ Q0.wr e.k (by omega)
          obtain ⟨bz, hbz⟩ : ∃ bz, wr.heap.size = bz := ⟨_, rfl⟩
          rw [hbz] at sz0
          obtain ⟨z0, z1, z2, zf, zl⟩ := sz0.blk.o3
          clear Q
          go_wp2_with fail
          refine h1q.mono ?_
          rintro q w4 ⟨rfl, v4, W4⟩
          have sz1 := sz0.step W4
          have Q1 := Q0.trans W4
          have h2q := txtW _ g _ _ Q1.wr e.v (by simp only [List.length_append]; omega)
          clear z0 z1 z2 zf zl
          obtain ⟨z0, z1, z2, zf, zl⟩ := sz1.blk.o3
          clear W4 Q0 sz0 h1q p0 p1 p2 pl kb
          go_wp2_with fail
          refine h2q.mono ?_
          rintro q w5 ⟨rfl, v5, W5⟩
          have sz2 := sz1.step W5
          have Q2 := Q1.trans W5
          clear z0 z1 z2 zf zl
          obtain ⟨z0, z1, z2, zf, zl⟩ := sz2.blk.o3
          clear W5 Q1 sz1 h2q
          obtain ⟨k0, kf, kg⟩ := Q2.wr.cell
          obtain ⟨cd, hcd⟩ : ∃ cd : UInt8, (if e.d then 1 else 0) = cd := ⟨_, rfl⟩
          obtain ⟨v6, w6, hr, hb⟩ := byte_append Q2.wr.row cd (by simp only [List.length_append]; omega) 1
          obtain ⟨A5, C5, hv5⟩ := Q2.wr.row.len
          obtain ⟨A6, C6, hv6⟩ := hb.row.len
          obtain ⟨W6, e1, e2, e3⟩ := WQ.of Q2.wr hb
          have Q3 := Q2.trans W6
          have hLe : Lk ++ eTxt e.k ++ eTxt e.v ++ [cd] = Lk ++ eWrt e := by rw [← hcd]; simp [eWrt]
          rw [hLe] at Q3
          rw [← HSP.out] at Q3
          have HQ3 := Lib.hid Q3
          obtain ⟨gw, hgw⟩ : ∃ gw, w5.heap.size = gw := ⟨_, rfl⟩
          rw [hgw] at hr
          obtain ⟨n5, hn5⟩ : ∃ n5, (Lk ++ eTxt e.k ++ eTxt e.v).length = n5 := ⟨_, rfl⟩
          obtain ⟨n6, hn6⟩ : ∃ n6, (Lk ++ eTxt e.k ++ eTxt e.v ++ [cd]).length = n6 := ⟨_, rfl⟩
          rw [hn5] at hv5
          rw [hn6] at hv6
          subst hv5
          subst hv6
          have HLN := Lib.hid hlen
          clear Q3 W6 hb Q2 HSP hwe hLe hn5 hn6 hlen
          cases hd : e.d with
          | true =>
            rw [hd] at z2 hcd
            simp only [if_true] at hcd
            subst hcd
            change ∀ ty, (Builtin.append_ #[23, 23] ty #[.slice A5 n5 C5, .slice (some ⟨gw, 0, none⟩) 1 1]).run Try.prog (w5.alloc (.cells #[.int .u8 1] 5)) = _ at hr
            go_wp2_with (at_builtin; refine list_append_eq rfl _ _ 23 23 rfl _ _ rfl rfl (hr _) ?_)
            exact ⟨⟨k + 1, _, by go_num, by omega, HQ3.out⟩, by simp [intOf] <;> omega⟩
          | false =>
            rw [hd] at z2 hcd
            simp only [Bool.false_eq_true, if_false] at hcd
            subst hcd
            change ∀ ty, (Builtin.append_ #[23, 23] ty #[.slice A5 n5 C5, .slice (some ⟨gw, 0, none⟩) 1 1]).run Try.prog (w5.alloc (.cells #[.int .u8 0] 5)) = _ at hr
            go_wp2_with (at_builtin; refine list_append_eq rfl _ _ 23 23 rfl _ _ rfl rfl (hr _) ?_)
            exact ⟨⟨k + 1, _, by go_num, by omega, HQ3.out⟩, by simp [intOf] <;> omega⟩
        · obtain rfl : k = n := by omega
          rw [← Hn.out, List.take_length] at Q
          have HQ := Lib.hid Q
          clear Q
          go_wp2_with fail
          go_end0
          refine ⟨rfl, v', ?_⟩
          have := HQ.out
          rw [HE.out]
          simpa only [List.append_assoc, List.append_nil] using this
    · have heq : eOp x.op = [UInt8.ofNat x.c.toNat] ++ (eTxt x.k) := by simp [eOp, eBody, OV.op, hcx]
      rw [heq, List.length_append] at hl
      skip
      rw [hcx] at b0
      have HE := Lib.hid heq
      clear heq
      go_wp2_with fail
      refine (txtW _ g _ _ QQ.wr x.k (by simp only [List.length_append]; omega)).mono ?_
      rintro q w2 ⟨rfl, v2, W2⟩
      replace s1 := s1.step W2
      replace QQ := QQ.trans W2
      clear b0 b1 b2 b3 b4 b5 b6 bf bl W2
      obtain ⟨b0, b1, b2, b3, b4, b5, b6, bf, bl⟩ := Blk.o7' s1.blk
      have HQ := Lib.hid QQ
      clear QQ
      go_wp2_with fail
      go_end0
      refine ⟨rfl, v2, ?_⟩
      have := HQ.out
      rw [HE.out]
      simpa only [List.append_assoc, List.append_nil] using this
    · have heq : eOp x.op = [UInt8.ofNat x.c.toNat] ++ (eTxt x.k ++ (vi x.t)) := by simp [eOp, eBody, OV.op, hcx]
      rw [heq, List.length_append] at hl
      rw [List.length_append] at hl
      rw [hcx] at b0
      have HE := Lib.hid heq
      clear heq
      go_wp2_with fail
      refine (txtW _ g _ _ QQ.wr x.k (by simp only [List.length_append]; omega)).mono ?_
      rintro q w2 ⟨rfl, v2, W2⟩
      replace s1 := s1.step W2
      replace QQ := QQ.trans W2
      clear b0 b1 b2 b3 b4 b5 b6 bf bl W2
      obtain ⟨b0, b1, b2, b3, b4, b5, b6, bf, bl⟩ := Blk.o7' s1.blk
      go_wp2_with fail
      refine (varW _ g _ _ QQ.wr x.t ht (by simp only [List.length_append]; omega)).mono ?_
      rintro q w3 ⟨rfl, v3, W3⟩
      replace s1 := s1.step W3
      replace QQ := QQ.trans W3
      clear b0 b1 b2 b3 b4 b5 b6 bf bl W3
      obtain ⟨b0, b1, b2, b3, b4, b5, b6, bf, bl⟩ := Blk.o7' s1.blk
      have HQ := Lib.hid QQ
      clear QQ
      go_wp2_with fail
      go_end0
      refine ⟨rfl, v3, ?_⟩
      have := HQ.out
      rw [HE.out]
      simpa only [List.append_assoc, List.append_nil] using this
    · have heq : eOp x.op = [UInt8.ofNat x.c.toNat] ++ (eInt x.h) := by simp [eOp, eBody, OV.op, hcx]
      rw [heq, List.length_append] at hl
      skip
      rw [hcx] at b0
      have HE := Lib.hid heq
      clear heq
      go_wp2_with fail
      refine (intW _ g _ _ QQ.wr x.h (by simp only [List.length_append]; omega)).mono ?_
      rintro q w2 ⟨rfl, v2, W2⟩
      replace s1 := s1.step W2
      replace QQ := QQ.trans W2
      clear b0 b1 b2 b3 b4 b5 b6 bf bl W2
      obtain ⟨b0, b1, b2, b3, b4, b5, b6, bf, bl⟩ := Blk.o7' s1.blk
      have HQ := Lib.hid QQ
      clear QQ
      go_wp2_with fail
      go_end0
      refine ⟨rfl, v2, ?_⟩
      have := HQ.out
      rw [HE.out]
      simpa only [List.append_assoc, List.append_nil] using this
    · have heq : eOp x.op = [UInt8.ofNat x.c.toNat] ++ (eInt x.h) := by simp [eOp, eBody, OV.op, hcx]
      rw [heq, List.length_append] at hl
      skip
      rw [hcx] at b0
      have HE := Lib.hid heq
      clear heq
      go_wp2_with fail
      refine (intW _ g _ _ QQ.wr x.h (by simp only [List.length_append]; omega)).mono ?_
      rintro q w2 ⟨rfl, v2, W2⟩
      replace s1 := s1.step W2
      replace QQ := QQ.trans W2
      clear b0 b1 b2 b3 b4 b5 b6 bf bl W2
      obtain ⟨b0, b1, b2, b3, b4, b5, b6, bf, bl⟩ := Blk.o7' s1.blk
      have HQ := Lib.hid QQ
      clear QQ
      go_wp2_with fail
      go_end0
      refine ⟨rfl, v2, ?_⟩
      have := HQ.out
      rw [HE.out]
      simpa only [List.append_assoc, List.append_nil] using this
    · have heq : eOp x.op = [UInt8.ofNat x.c.toNat] ++ (eInt x.u ++ (eInt x.h)) := by simp [eOp, eBody, OV.op, hcx]
      rw [heq, List.length_append] at hl
      rw [List.length_append] at hl
      rw [hcx] at b0
      have HE := Lib.hid heq
      clear heq
      go_wp2_with fail
      refine (intW _ g _ _ QQ.wr x.u (by simp only [List.length_append]; omega)).mono ?_
      rintro q w2 ⟨rfl, v2, W2⟩
      replace s1 := s1.step W2
      replace QQ := QQ.trans W2
      clear b0 b1 b2 b3 b4 b5 b6 bf bl W2
      obtain ⟨b0, b1, b2, b3, b4, b5, b6, bf, bl⟩ := Blk.o7' s1.blk
      go_wp2_with fail
      refine (intW _ g _ _ QQ.wr x.h (by simp only [List.length_append]; omega)).mono ?_
      rintro q w3 ⟨rfl, v3, W3⟩
      replace s1 := s1.step W3
      replace QQ := QQ.trans W3
      clear b0 b1 b2 b3 b4 b5 b6 bf bl W3
      obtain ⟨b0, b1, b2, b3, b4, b5, b6, bf, bl⟩ := Blk.o7' s1.blk
      have HQ := Lib.hid QQ
      clear QQ
      go_wp2_with fail
      go_end0
      refine ⟨rfl, v3, ?_⟩
      have := HQ.out
      rw [HE.out]
      simpa only [List.append_assoc, List.append_nil] using this
    · have heq : eOp x.op = [UInt8.ofNat x.c.toNat] ++ (eInt x.u ++ (eInt x.m ++ (eTxt x.k))) := by simp [eOp, eBody, OV.op, hcx]
      rw [heq, List.length_append] at hl
      rw [List.length_append, List.length_append] at hl
      rw [hcx] at b0
      have HE := Lib.hid heq
      clear heq
      go_wp2_with fail
      refine (intW _ g _ _ QQ.wr x.u (by simp only [List.length_append]; omega)).mono ?_
      rintro q w2 ⟨rfl, v2, W2⟩
      replace s1 := s1.step W2
      replace QQ := QQ.trans W2
      clear b0 b1 b2 b3 b4 b5 b6 bf bl W2
      obtain ⟨b0, b1, b2, b3, b4, b5, b6, bf, bl⟩ := Blk.o7' s1.blk
      go_wp2_with fail
      refine (intW _ g _ _ QQ.wr x.m (by simp only [List.length_append]; omega)).mono ?_
      rintro q w3 ⟨rfl, v3, W3⟩
      replace s1 := s1.step W3
      replace QQ := QQ.trans W3
      clear b0 b1 b2 b3 b4 b5 b6 bf bl W3
      obtain ⟨b0, b1, b2, b3, b4, b5, b6, bf, bl⟩ := Blk.o7' s1.blk
      go_wp2_with fail
      refine (txtW _ g _ _ QQ.wr x.k (by simp only [List.length_append]; omega)).mono ?_
      rintro q w4 ⟨rfl, v4, W4⟩
      replace s1 := s1.step W4
      replace QQ := QQ.trans W4
      clear b0 b1 b2 b3 b4 b5 b6 bf bl W4
      obtain ⟨b0, b1, b2, b3, b4, b5, b6, bf, bl⟩ := Blk.o7' s1.blk
      have HQ := Lib.hid QQ
      clear QQ
      go_wp2_with fail
      go_end0
      refine ⟨rfl, v4, ?_⟩
      have := HQ.out
      rw [HE.out]
      simpa only [List.append_assoc, List.append_nil] using this
    · have heq : eOp x.op = [UInt8.ofNat x.c.toNat] ++ (eInt x.u) := by simp [eOp, eBody, OV.op, hcx]
      rw [heq, List.length_append] at hl
      skip
      rw [hcx] at b0
      have HE := Lib.hid heq
      clear heq
      go_wp2_with fail
      refine (intW _ g _ _ QQ.wr x.u (by simp only [List.length_append]; omega)).mono ?_
      rintro q w2 ⟨rfl, v2, W2⟩
      replace s1 := s1.step W2
      replace QQ := QQ.trans W2
      clear b0 b1 b2 b3 b4 b5 b6 bf bl W2
      obtain ⟨b0, b1, b2, b3, b4, b5, b6, bf, bl⟩ := Blk.o7' s1.blk
      have HQ := Lib.hid QQ
      clear QQ
      go_wp2_with fail
      go_end0
      refine ⟨rfl, v2, ?_⟩
      have := HQ.out
      rw [HE.out]
      simpa only [List.append_assoc, List.append_nil] using this
    · have heq : eOp x.op = [UInt8.ofNat x.c.toNat] ++ ([]) := by simp [eOp, eBody, OV.op, hcx]
      rw [heq, List.length_append] at hl
      skip
      rw [hcx] at b0
      have HE := Lib.hid heq
      clear heq
      have HQ := Lib.hid QQ
      clear QQ
      go_wp2_with fail
      go_end0
      refine ⟨rfl, v1, ?_⟩
      have := HQ.out
      rw [HE.out]
      simpa only [List.append_assoc, List.append_nil] using this
end Go.Proofs.Ytkgmgnfcmnhhaaa
