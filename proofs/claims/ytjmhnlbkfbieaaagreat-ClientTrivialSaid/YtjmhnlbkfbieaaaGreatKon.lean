/- The contracts of kit.Config and kit.Only. -/
import Derived.Test.YtjmhnlbkfbieaaaGreatOnl
import Derived.Test.YtjmhnlbkfbieaaaGreatScArg
import Derived.Test.YtjmhnlbkfbieaaaGreatMem
import Derived.Deep.RegionLaw
import Derived.Deep.RegionHeld3
import Derived.StillTailTactics
import Derived.Deep.CutRange
namespace Go.Proofs.YtjmhnlbkfbieaaaGreat
open Go.RowKit
set_option linter.unusedSectionVars false
set_option linter.unusedVariables false
set_option linter.unusedSimpArgs false
set_option maxRecDepth 20000
set_option maxHeartbeats 4000000
theorem config_kit (t f : Int) (f0 : -9223372036854775808 ≤ f) (f1 : f ≤ 9223372036854775807) (w : World) :
    Calls Tryz.prog 5 #[.int .i64 t, .int .i64 f] w fun e w' => e = .returned (.agg #[.int .i64 t, .int .i64 2, .int .i64 100, .int .i64 100, .int .i64 200, .int .i64 (4 + f % 3), .int .u64 1000]) ∧ Keeps [] w w' := by
  have hm0 := Int.emod_nonneg f (show (3 : Int) ≠ 0 by omega)
  have hm1 := Int.emod_lt_of_pos f (show (0 : Int) < 3 by omega)
  go_enter Tryz.func5, Tryz.ntmps5
  go_wp2_with fail
  refine (mod_any f 3 f0 f1 (by omega) (by omega) _).mono ?_
  rintro e w' ⟨rfl, rfl⟩
  go_wp2_with fail
  exact bodyPost_ret (v := .agg #[.int .i64 t, .int .i64 2, .int .i64 100, .int .i64 100, .int .i64 200, .int .i64 (4 + f % 3), .int .u64 1000]) (by simp [results, Tryz.results5, go_sem]) rfl ⟨rfl, (Keeps.refl _ _).alloc _⟩
/-- What Only makes of an operation before it drops fields. -/
def normV (S : Int) (x : OV) : OV := ⟨1 + x.c % 9, x.k, x.t % 12, x.bA, x.bc, x.b.take 4, x.h % S, x.u % 2, x.m % 5⟩

theorem kon_any (T S N C R F K : Int) (hS : 1 ≤ S ∧ S ≤ 8) (x : OV) (w : World) (hx : OkB w x) (hn : OpN x) :
    Calls Tryz.prog 9 #[.agg #[.int .i64 T, .int .i64 S, .int .i64 N, .int .i64 C, .int .i64 R, .int .i64 F, .int .u64 K], .agg #[.int .i64 x.c, .string ⟨x.k.toArray⟩, .int .u64 (x.t : Int), .slice x.bA x.b.length x.bc, .int .i64 x.h, .int .i64 x.u, .int .i64 x.m]] w fun q w' => Keeps [] w w' ∧ ∃ y, y = onlyV (normV S x) ∧ q = .returned (.agg #[.int .i64 y.c, .string ⟨y.k.toArray⟩, .int .u64 (y.t : Int), .slice y.bA y.b.length y.bc, .int .i64 y.h, .int .i64 y.u, .int .i64 y.m]) := by
  obtain ⟨hc, hh, hu, hm, ht, hb, hbm⟩ := hn
  have m1 := fun w => mod_any x.c 9 hc.1 hc.2 (by omega) (by omega) w
  have m2 := fun w => mod_any x.h S hh.1 hh.2 (by omega) (by omega) w
  have m3 := fun w => mod_any x.u 2 hu.1 hu.2 (by omega) (by omega) w
  have m4 := fun w => mod_any x.m 5 hm.1 hm.2 (by omega) (by omega) w
  have n2 := fun w => (m2 w).mono fun e w' h => (⟨h.1, h.2.symm⟩ : e = Ending.returned (.int .i64 (x.h % S)) ∧ w' = w)
  have n3 := fun w => (m3 w).mono fun e w' h => (⟨h.1, h.2.symm⟩ : e = Ending.returned (.int .i64 (x.u % 2)) ∧ w' = w)
  have n4 := fun w => (m4 w).mono fun e w' h => (⟨h.1, h.2.symm⟩ : e = Ending.returned (.int .i64 (x.m % 5)) ∧ w' = w)
  clear m2 m3 m4
  have e0 := Int.emod_nonneg x.c (show (9 : Int) ≠ 0 by omega)
  have e1 := Int.emod_lt_of_pos x.c (show (0 : Int) < 9 by omega)
  obtain ⟨c1, hc1⟩ : ∃ c1, c1 = x.c % 9 := ⟨_, rfl⟩
  obtain ⟨h1, hh1⟩ : ∃ h1, h1 = x.h % S := ⟨_, rfl⟩
  obtain ⟨u1, hu1⟩ : ∃ u1, u1 = x.u % 2 := ⟨_, rfl⟩
  obtain ⟨q1, hq1⟩ : ∃ q1, q1 = x.m % 5 := ⟨_, rfl⟩
  have E1 := Lib.hid (And.intro hc1 (And.intro hh1 (And.intro hu1 hq1)))
  rw [← hc1] at m1 e0 e1
  rw [← hh1] at n2
  rw [← hu1] at n3
  rw [← hq1] at n4
  go_enter Tryz.func9, Tryz.ntmps9
  go_wp2_with fail
  refine (m1 _).mono ?_
  rintro q w1 ⟨rfl, rfl⟩
  clear hc1 hh1 hu1 hq1
  go_upto_region 2 with fail
  have kw := (((Keeps.refl [] w).alloc (.cells #[.int .i64 T, .int .i64 S, .int .i64 N, .int .i64 C, .int .i64 R, .int .i64 F, .int .u64 K] 27)).alloc (.cells #[.int .i64 (1 + c1), .string ⟨x.k.toArray⟩, .int .u64 (x.t : Int), .slice x.bA x.b.length x.bc, .int .i64 x.h, .int .i64 x.u, .int .i64 x.m] 25)).alloc (.cells #[.int .i64 0, .string ⟨#[]⟩, .int .u64 0, .slice none 0 0, .int .i64 0, .int .i64 0, .int .i64 0] 25)
  have b1 := ((Blk.new w [.int .i64 T, .int .i64 S, .int .i64 N, .int .i64 C, .int .i64 R, .int .i64 F, .int .u64 K] 27).alloc (.cells #[.int .i64 (1 + c1), .string ⟨x.k.toArray⟩, .int .u64 (x.t : Int), .slice x.bA x.b.length x.bc, .int .i64 x.h, .int .i64 x.u, .int .i64 x.m] 25)).alloc (.cells #[.int .i64 0, .string ⟨#[]⟩, .int .u64 0, .slice none 0 0, .int .i64 0, .int .i64 0, .int .i64 0] 25)
  have b2 := (Blk.new_at (w.alloc (.cells #[.int .i64 T, .int .i64 S, .int .i64 N, .int .i64 C, .int .i64 R, .int .i64 F, .int .u64 K] 27)) (w.heap.size + 1) [.int .i64 (1 + c1), .string ⟨x.k.toArray⟩, .int .u64 (x.t : Int), .slice x.bA x.b.length x.bc, .int .i64 x.h, .int .i64 x.u, .int .i64 x.m] 25 (by simp)).alloc (.cells #[.int .i64 0, .string ⟨#[]⟩, .int .u64 0, .slice none 0 0, .int .i64 0, .int .i64 0, .int .i64 0] 25)
  have b3 := Blk.new_at ((w.alloc (.cells #[.int .i64 T, .int .i64 S, .int .i64 N, .int .i64 C, .int .i64 R, .int .i64 F, .int .u64 K] 27)).alloc (.cells #[.int .i64 (1 + c1), .string ⟨x.k.toArray⟩, .int .u64 (x.t : Int), .slice x.bA x.b.length x.bc, .int .i64 x.h, .int .i64 x.u, .int .i64 x.m] 25)) (w.heap.size + 1 + 1) [.int .i64 0, .string ⟨#[]⟩, .int .u64 0, .slice none 0 0, .int .i64 0, .int .i64 0, .int .i64 0] 25 (by simp)
  obtain ⟨W, hW⟩ : ∃ W, (((w.alloc (.cells #[.int .i64 T, .int .i64 S, .int .i64 N, .int .i64 C, .int .i64 R, .int .i64 F, .int .u64 K] 27)).alloc (.cells #[.int .i64 (1 + c1), .string ⟨x.k.toArray⟩, .int .u64 (x.t : Int), .slice x.bA x.b.length x.bc, .int .i64 x.h, .int .i64 x.u, .int .i64 x.m] 25)).alloc (.cells #[.int .i64 0, .string ⟨#[]⟩, .int .u64 0, .slice none 0 0, .int .i64 0, .int .i64 0, .int .i64 0] 25)) = W := ⟨_, rfl⟩
  change Blk (((w.alloc (.cells #[.int .i64 T, .int .i64 S, .int .i64 N, .int .i64 C, .int .i64 R, .int .i64 F, .int .u64 K] 27)).alloc (.cells #[.int .i64 (1 + c1), .string ⟨x.k.toArray⟩, .int .u64 (x.t : Int), .slice x.bA x.b.length x.bc, .int .i64 x.h, .int .i64 x.u, .int .i64 x.m] 25)).alloc (.cells #[.int .i64 0, .string ⟨#[]⟩, .int .u64 0, .slice none 0 0, .int .i64 0, .int .i64 0, .int .i64 0] 25)) _ _ at b1 b2 b3
  rw [hW] at b1 b2 b3 kw ⊢
  obtain ⟨g1, hg1⟩ : ∃ g1, w.heap.size = g1 := ⟨_, rfl⟩
  obtain ⟨g2, hg2⟩ : ∃ g2, w.heap.size + 1 = g2 := ⟨_, rfl⟩
  obtain ⟨g3, hg3⟩ : ∃ g3, w.heap.size + 1 + 1 = g3 := ⟨_, rfl⟩
  rw [hg3] at b3 ⊢
  rw [hg2] at b2 ⊢
  rw [hg1] at b1 ⊢
  have hne : g1 ≠ g2 ∧ g1 ≠ g3 ∧ g2 ≠ g3 ∧ w.heap.size ≤ g1 ∧ w.heap.size ≤ g2 ∧ w.heap.size ≤ g3 := by omega
  have HN := Lib.hid hne
  have HKW := Lib.hid kw
  clear hW hg1 hg2 hg3 kw hne
  go_cut [] from 12 to 25 (fun wx => Blk wx g1 [.int .i64 T, .int .i64 S, .int .i64 N, .int .i64 C, .int .i64 R, .int .i64 F, .int .u64 K] ∧ Blk wx g2 [.int .i64 (1 + c1), .string ⟨x.k.toArray⟩, .int .u64 (x.t : Int), .slice x.bA x.b.length x.bc, .int .i64 h1, .int .i64 u1, .int .i64 q1] ∧ Blk wx g3 [.int .i64 0, .string ⟨#[]⟩, .int .u64 0, .slice none 0 0, .int .i64 0, .int .i64 0, .int .i64 0] ∧ Keeps [] w wx)
  case first =>
    obtain ⟨d0, d1, d2, d3, d4, d5, d6, df, dl⟩ := b1.o7
    obtain ⟨p0, p1, p2, p3, p4, p5, p6, pf, pl⟩ := b2.o7
    go_still_tail 12, (by kernel_rfl)
    still_call (n2 _)
    repeat still_step
    still_call (n3 _)
    repeat still_step
    still_call (n4 _)
    repeat still_step
    try refine wpStill_nil ?_
    change wpList _ _ _ _ _ W.drew
    have KD := ((((Keeps.refl [g2] W).drew).setCell ⟨g2, 4, none⟩ (.int .i64 h1) (.inl (by simp))).setCell ⟨g2, 5, none⟩ (.int .i64 u1) (.inl (by simp))).setCell ⟨g2, 6, none⟩ (.int .i64 q1) (.inl (by simp))
    go_wp2_with fail
    go_meet
    obtain ⟨n1, n2', n3', l1, l2, l3⟩ := HN.out
    exact ⟨KD.blk b1 (by simp; exact n1), ((b2.drew.set 4 _).set 5 _).set 6 _, KD.blk b3 (by simp; exact fun h => n3' h.symm), HKW.out.trans KD (by simp; omega)⟩
  case rest =>
    obtain ⟨b1, b2, b3, kw⟩ := hcut
    clear b1
    obtain ⟨p0, p1, p2, p3, p4, p5, p6, pf, pl⟩ := b2.o7
    obtain ⟨n4l, hn4⟩ : ∃ n4l, (x.b.take 4).length = n4l := ⟨_, rfl⟩
    have hmin : min (x.b.length : Int) 4 = (n4l : Int) := by rw [← hn4, List.length_take]; omega
    have hle : n4l ≤ x.b.length := by rw [← hn4, List.length_take]; omega
    obtain ⟨bn, hbn⟩ : ∃ bn, x.b.length = bn := ⟨_, rfl⟩
    rw [hbn] at p3 hb hmin hle
    have HB4 := Lib.hid hn4
    have HBN := Lib.hid hbn
    clear hn4 hbn
    obtain ⟨y, hy⟩ : ∃ y, y = normV S x := ⟨_, rfl⟩
    cases hA : x.bA with
    | none =>
      rw [hA] at p3
      have ks := ((Keeps.refl [g2] wc).setCell ⟨g2, 2, none⟩ (.int .u64 ((x.t : Int) % 12)) (.inl (by simp))).setCell ⟨g2, 3, none⟩ (.slice none n4l x.bc) (.inl (by simp))
      have bz : Blk ((wc.setCell ⟨g2, 2, none⟩ (.int .u64 ((x.t : Int) % 12))).setCell ⟨g2, 3, none⟩ (.slice none n4l x.bc)) g2 [.int .i64 y.c, .string ⟨y.k.toArray⟩, .int .u64 (y.t : Int), .slice y.bA y.b.length y.bc, .int .i64 y.h, .int .i64 y.u, .int .i64 y.m] := by
        have h := (b2.set 2 (.int .u64 ((x.t : Int) % 12))).set 3 (.slice none n4l x.bc)
        obtain ⟨q0, q1, q2, q3⟩ := E1.out
        rw [hy]
        simp only [normV, HB4.out, ← q0, ← q1, ← q2, ← q3, hA]
        simpa using h
      have kz := kw.trans ks (by simp; have := HN.out; omega)
      go_upto_region 5 with fail
      obtain ⟨wz, hwz⟩ : ∃ wz, (wc.setCell ⟨g2, 2, none⟩ (.int .u64 ((x.t : Int) % 12))).setCell ⟨g2, 3, none⟩ (.slice none n4l x.bc) = wz := ⟨_, rfl⟩
      rw [hwz] at bz kz ⊢
      have b3z := ks.blk b3 (by simp; have := HN.out; omega)
      rw [hwz] at b3z
      obtain ⟨t0, t1, t2, t3, t4, t5, t6, tf, tl⟩ := bz.o7
      obtain ⟨z0, z1, z2, z3, z4, z5, z6, zf, zl⟩ := b3z.o7
      have HY := Lib.hid hy
      have HA := Lib.hid hA
      clear hy hA hx hc hh hu hm ht hbm m1 n2 n3 n4
      clear hwz b2 b3 p0 p1 p2 p3 p4 p5 p6 pf pl ks bz
      have ho := only_any y wz
      go_wp2_with fail
      refine ho.mono ?_
      rintro q w6 ⟨k6, r, hr, rfl⟩
      have b36 := k6.blk b3z (by simp)
      have kz6 := kz.trans k6 (by simp)
      obtain ⟨v0, v1, v2, v3, v4, v5, v6, vf, vl⟩ := b36.o7
      clear t0 t1 t2 t3 t4 t5 t6 tf tl z0 z1 z2 z3 z4 z5 z6 zf zl b3z k6 kz ho
      have HR := Lib.hid hr
      clear hr
      have hgs : Hid (w.heap.size ≤ g3) := Lib.hid HN.out.2.2.2.2.2
      go_wp2_with fail
      have k7 := (((((((Keeps.refl [g3] w6).setCell ⟨g3, 0, none⟩ (.int .i64 r.c) (.inl (by simp))).setCell ⟨g3, 1, none⟩ (.string ⟨r.k.toArray⟩) (.inl (by simp))).setCell ⟨g3, 2, none⟩ (.int .u64 (r.t : Int)) (.inl (by simp))).setCell ⟨g3, 3, none⟩ (.slice r.bA r.b.length r.bc) (.inl (by simp))).setCell ⟨g3, 4, none⟩ (.int .i64 r.h) (.inl (by simp))).setCell ⟨g3, 5, none⟩ (.int .i64 r.u) (.inl (by simp))).setCell ⟨g3, 6, none⟩ (.int .i64 r.m) (.inl (by simp))
      have b7 := ((((((b36.set 0 (.int .i64 r.c)).set 1 (.string ⟨r.k.toArray⟩)).set 2 (.int .u64 (r.t : Int))).set 3 (.slice r.bA r.b.length r.bc)).set 4 (.int .i64 r.h)).set 5 (.int .i64 r.u)).set 6 (.int .i64 r.m)
      simp only [List.set_cons_zero, List.set_cons_succ] at b7
      have b8 := b7.alloc (.cells #[.int .i64 r.c, .string ⟨r.k.toArray⟩, .int .u64 (r.t : Int), .slice r.bA r.b.length r.bc, .int .i64 r.h, .int .i64 r.u, .int .i64 r.m] 25)
      have K8 := (kz6.trans k7 (by simp; exact hgs.out)).alloc (.cells #[.int .i64 r.c, .string ⟨r.k.toArray⟩, .int .u64 (r.t : Int), .slice r.bA r.b.length r.bc, .int .i64 r.h, .int .i64 r.u, .int .i64 r.m] 25)
      clear v0 v1 v2 v3 v4 v5 v6 vf vl b36 kz6 k7 b7
      first
        | refine bodyPost_ret (results_blk (cs := [.int .i64 r.c, .string ⟨r.k.toArray⟩, .int .u64 (r.t : Int), .slice r.bA r.b.length r.bc, .int .i64 r.h, .int .i64 r.u, .int .i64 r.m]) rfl _ _ g3 _ rfl b8 Tryz.underlying25 sizO) rfl ?_
        | refine bodyPost_ret (results_blk (cs := [.int .i64 r.c, .string ⟨r.k.toArray⟩, .int .u64 (r.t : Int), .slice r.bA r.b.length r.bc, .int .i64 r.h, .int .i64 r.u, .int .i64 r.m]) rfl _ _ g3 _ rfl ?_ Tryz.underlying25 sizO) rfl ?_
      exact ⟨K8, r, by rw [HR.out, HY.out], rfl⟩
    | some ad =>
      rw [hA] at p3
      have ks := ((Keeps.refl [g2] wc).setCell ⟨g2, 2, none⟩ (.int .u64 ((x.t : Int) % 12)) (.inl (by simp))).setCell ⟨g2, 3, none⟩ (.slice (some ad) n4l x.bc) (.inl (by simp))
      have bz : Blk ((wc.setCell ⟨g2, 2, none⟩ (.int .u64 ((x.t : Int) % 12))).setCell ⟨g2, 3, none⟩ (.slice (some ad) n4l x.bc)) g2 [.int .i64 y.c, .string ⟨y.k.toArray⟩, .int .u64 (y.t : Int), .slice y.bA y.b.length y.bc, .int .i64 y.h, .int .i64 y.u, .int .i64 y.m] := by
        have h := (b2.set 2 (.int .u64 ((x.t : Int) % 12))).set 3 (.slice (some ad) n4l x.bc)
        obtain ⟨q0, q1, q2, q3⟩ := E1.out
        rw [hy]
        simp only [normV, HB4.out, ← q0, ← q1, ← q2, ← q3, hA]
        simpa using h
      have kz := kw.trans ks (by simp; have := HN.out; omega)
      go_upto_region 5 with fail
      obtain ⟨wz, hwz⟩ : ∃ wz, (wc.setCell ⟨g2, 2, none⟩ (.int .u64 ((x.t : Int) % 12))).setCell ⟨g2, 3, none⟩ (.slice (some ad) n4l x.bc) = wz := ⟨_, rfl⟩
      rw [hwz] at bz kz ⊢
      have b3z := ks.blk b3 (by simp; have := HN.out; omega)
      rw [hwz] at b3z
      obtain ⟨t0, t1, t2, t3, t4, t5, t6, tf, tl⟩ := bz.o7
      obtain ⟨z0, z1, z2, z3, z4, z5, z6, zf, zl⟩ := b3z.o7
      have HY := Lib.hid hy
      have HA := Lib.hid hA
      clear hy hA hx hc hh hu hm ht hbm m1 n2 n3 n4
      clear hwz b2 b3 p0 p1 p2 p3 p4 p5 p6 pf pl ks bz
      have ho := only_any y wz
      go_wp2_with fail
      refine ho.mono ?_
      rintro q w6 ⟨k6, r, hr, rfl⟩
      have b36 := k6.blk b3z (by simp)
      have kz6 := kz.trans k6 (by simp)
      obtain ⟨v0, v1, v2, v3, v4, v5, v6, vf, vl⟩ := b36.o7
      clear t0 t1 t2 t3 t4 t5 t6 tf tl z0 z1 z2 z3 z4 z5 z6 zf zl b3z k6 kz ho
      have HR := Lib.hid hr
      clear hr
      have hgs : Hid (w.heap.size ≤ g3) := Lib.hid HN.out.2.2.2.2.2
      go_wp2_with fail
      have k7 := (((((((Keeps.refl [g3] w6).setCell ⟨g3, 0, none⟩ (.int .i64 r.c) (.inl (by simp))).setCell ⟨g3, 1, none⟩ (.string ⟨r.k.toArray⟩) (.inl (by simp))).setCell ⟨g3, 2, none⟩ (.int .u64 (r.t : Int)) (.inl (by simp))).setCell ⟨g3, 3, none⟩ (.slice r.bA r.b.length r.bc) (.inl (by simp))).setCell ⟨g3, 4, none⟩ (.int .i64 r.h) (.inl (by simp))).setCell ⟨g3, 5, none⟩ (.int .i64 r.u) (.inl (by simp))).setCell ⟨g3, 6, none⟩ (.int .i64 r.m) (.inl (by simp))
      have b7 := ((((((b36.set 0 (.int .i64 r.c)).set 1 (.string ⟨r.k.toArray⟩)).set 2 (.int .u64 (r.t : Int))).set 3 (.slice r.bA r.b.length r.bc)).set 4 (.int .i64 r.h)).set 5 (.int .i64 r.u)).set 6 (.int .i64 r.m)
      simp only [List.set_cons_zero, List.set_cons_succ] at b7
      have b8 := b7.alloc (.cells #[.int .i64 r.c, .string ⟨r.k.toArray⟩, .int .u64 (r.t : Int), .slice r.bA r.b.length r.bc, .int .i64 r.h, .int .i64 r.u, .int .i64 r.m] 25)
      have K8 := (kz6.trans k7 (by simp; exact hgs.out)).alloc (.cells #[.int .i64 r.c, .string ⟨r.k.toArray⟩, .int .u64 (r.t : Int), .slice r.bA r.b.length r.bc, .int .i64 r.h, .int .i64 r.u, .int .i64 r.m] 25)
      clear v0 v1 v2 v3 v4 v5 v6 vf vl b36 kz6 k7 b7
      first
        | refine bodyPost_ret (results_blk (cs := [.int .i64 r.c, .string ⟨r.k.toArray⟩, .int .u64 (r.t : Int), .slice r.bA r.b.length r.bc, .int .i64 r.h, .int .i64 r.u, .int .i64 r.m]) rfl _ _ g3 _ rfl b8 Tryz.underlying25 sizO) rfl ?_
        | refine bodyPost_ret (results_blk (cs := [.int .i64 r.c, .string ⟨r.k.toArray⟩, .int .u64 (r.t : Int), .slice r.bA r.b.length r.bc, .int .i64 r.h, .int .i64 r.u, .int .i64 r.m]) rfl _ _ g3 _ rfl ?_ Tryz.underlying25 sizO) rfl ?_
      exact ⟨K8, r, by rw [HR.out, HY.out], rfl⟩
end Go.Proofs.YtjmhnlbkfbieaaaGreat
