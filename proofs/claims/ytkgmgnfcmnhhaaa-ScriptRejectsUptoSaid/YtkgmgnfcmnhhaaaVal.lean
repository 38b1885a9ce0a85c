/- The contract of the statements' own function valid: the script it makes. -/
import Derived.Test.YtkgmgnfcmnhhaaaPrgs
namespace Go.Proofs.Ytkgmgnfcmnhhaaa
open Go.RowKit
set_option linter.unusedSectionVars false
set_option linter.unusedVariables false
set_option linter.unusedSimpArgs false
set_option maxRecDepth 20000
set_option maxHeartbeats 4000000
/-- The script that valid makes: configuration, programs in the table at gt, picks in a row of their own. -/
structure Vd (w w' : World) (X : List OV) (n gt : Nat) (f1 : Int) (rows : List (Value × List OV)) (kA : Option Addr) (kc : Nat) (pk : List Int) : Prop where
  n1 : 1 ≤ n ∧ n ≤ 4
  f4 : 4 ≤ f1 ∧ f1 ≤ 6
  len : rows.length = n
  tab : Tab w' w.heap.size gt rows
  ge : w.heap.size ≤ gt
  made : ∀ p ∈ rows, p.2.length ≤ 20 ∧ ∀ y ∈ p.2, Made 2 X y
  row : Row w' (.slice kA pk.length kc) pk.length 1 (pk.map vI)
  own : ∀ b, (Value.slice kA pk.length kc).ownBlock = some b → w.heap.size ≤ b ∧ b ≠ gt ∧ ∀ p ∈ rows, p.1.ownBlock ≠ some b
  picks : pk.length ≤ 300 ∧ ∀ p ∈ pk, 0 ≤ p ∧ p < (n : Int)
theorem Tab.mono {w : World} {b b' g : Nat} {rows : List (Value × List OV)} (h : Tab w b g rows) (hb : b' ≤ b) : Tab w b' g rows :=
  ⟨h.blk, fun p hp => ⟨(h.ok p hp).1, fun c hc => ⟨Nat.le_trans hb ((h.ok p hp).2 c hc).1, ((h.ok p hp).2 c hc).2⟩⟩, h.apart⟩
theorem Tab.keepsN {S : List Nat} {w w' : World} {b g : Nat} {rows : List (Value × List OV)} (h : Tab w b g rows) (k : Keeps S w w') (hg : g ∉ S) (hS : ∀ p ∈ rows, ∀ c, p.1.ownBlock = some c → c ∉ S) : Tab w' b g rows :=
  ⟨k.blk h.blk hg, fun p hp => ⟨(h.ok p hp).1.keeps k (fun c hc => hS p hp c hc), (h.ok p hp).2⟩, h.apart⟩
def VdQ (w : World) (X : List OV) (th fa : Int) (q : Ending) (w' : World) : Prop :=
  Keeps [] w w' ∧ ∃ (n gt : Nat) (f1 : Int) (rows : List (Value × List OV)) (kA : Option Addr) (kc : Nat) (pk : List Int), (n : Int) = 1 + th % 4 ∧ f1 = 4 + fa % 3 ∧ Vd w w' X n gt f1 rows kA kc pk ∧ q = .returned (.agg #[.int .i64 (n : Int), .int .i64 2, .int .i64 100, .int .i64 100, .int .i64 200, .int .i64 f1, .int .u64 1000, .slice (some ⟨gt, 0, none⟩) n n, .slice kA pk.length kc])
theorem val_any (th fa : Int) (hth : I64 th) (hfa : I64 fa) (A : Option Addr) (cap : Nat) (X : List OV) (w : World) (hv : Lst w (.slice A X.length cap) X.length (oCs X)) (hl : X.length ≤ 9223372036854775807) (hx : ∀ x ∈ X, OkB w x ∧ OpN x)
    (B : Option Addr) (capB : Nat) (Y : List Nat) (hu : Lst w (.slice B Y.length capB) Y.length (Y.map vU8)) (hY : ∀ y ∈ Y, y ≤ 255) (hYl : Y.length ≤ 9223372036854775807) :
    Calls Try.prog 6 #[.int .i64 th, .int .i64 fa, .slice A X.length cap, .slice B Y.length capB] w (VdQ w X th fa) := by
  obtain ⟨r, hr⟩ : ∃ r, r = th % 4 := ⟨_, rfl⟩
  have r0 := Int.emod_nonneg th (show (4 : Int) ≠ 0 by omega)
  have r1 := Int.emod_lt_of_pos th (show (0 : Int) < 4 by omega)
  have q0 := Int.emod_nonneg fa (show (3 : Int) ≠ 0 by omega)
  have q1 := Int.emod_lt_of_pos fa (show (0 : Int) < 3 by omega)
  have m1 := fun w => mod_any th 4 hth.1 hth.2 (by omega) (by omega) w
  rw [← hr] at m1 r0 r1
  obtain ⟨n, hn⟩ : ∃ n : Nat, (n : Int) = 1 + r := ⟨(1 + r).toNat, by omega⟩
  obtain ⟨f1, hf1⟩ : ∃ f1, f1 = 4 + fa % 3 := ⟨_, rfl⟩
  have c1 := fun w => config_kit (n : Int) fa hfa.1 hfa.2 w
  rw [← hf1] at c1
  have hn1 : 1 ≤ n ∧ n ≤ 4 := by omega
  have hf4 : 4 ≤ f1 ∧ f1 ≤ 6 := by omega
  have HNF := Lib.hid (And.intro hn (And.intro hf1 (And.intro hr hf4)))
  have p1 : Hid (∀ w', Keeps [] w w' → Calls Try.prog 18 #[.agg #[.int .i64 (n : Int), .int .i64 2, .int .i64 100, .int .i64 100, .int .i64 200, .int .i64 f1, .int .u64 1000], .slice A X.length cap, .int .i64 20] w' (PrgsQ 2 n 20 X w')) := Lib.hid fun w' k => programs_any 2 100 100 200 f1 1000 n (by omega) (by omega) A cap X 20 (by omega) w' (hv.keeps k) hl (fun x h => ⟨(hx x h).1.keeps k, (hx x h).2⟩)
  obtain ⟨L, hL⟩ : ∃ L, X.length = L := ⟨_, rfl⟩
  obtain ⟨M, hM⟩ : ∃ M, Y.length = M := ⟨_, rfl⟩
  have HL := Lib.hid hL
  have HM := Lib.hid hM
  have HU := Lib.hid hu
  have HY := Lib.hid hY
  rw [hL] at p1 ⊢
  rw [hM] at hYl ⊢
  have kz := (Keeps.refl [] w).alloc (.cells #[.int .i64 0, .int .i64 0, .int .i64 0, .int .i64 0, .int .i64 0, .int .i64 0, .int .u64 0, .slice none 0 0, .slice none 0 0] 30)
  have bz := Blk.new w [.int .i64 0, .int .i64 0, .int .i64 0, .int .i64 0, .int .i64 0, .int .i64 0, .int .u64 0, .slice none 0 0, .slice none 0 0] 30
  change Blk (w.alloc (.cells #[.int .i64 0, .int .i64 0, .int .i64 0, .int .i64 0, .int .i64 0, .int .i64 0, .int .u64 0, .slice none 0 0, .slice none 0 0] 30)) _ _ at bz
  clear hL hM hu hY hv hx hl hf1 hr hf4 q0 q1
  go_enter Try.func6, Try.ntmps6
  obtain ⟨w1, hw1⟩ : ∃ w1, w.alloc (.cells #[.int .i64 0, .int .i64 0, .int .i64 0, .int .i64 0, .int .i64 0, .int .i64 0, .int .u64 0, .slice none 0 0, .slice none 0 0] 30) = w1 := ⟨_, rfl⟩
  obtain ⟨gz, hgz⟩ : ∃ gz, w.heap.size = gz := ⟨_, rfl⟩
  rw [hw1] at kz bz
  rw [hgz] at bz
  go_wp2_with fail
  refine (m1 _).mono ?_
  rintro q w2 ⟨rfl, rfl⟩
  have hwr : wrap64 (1 + r) = (n : Int) := by rw [hn]; exact IntWalk.wrap64_in _ ⟨by omega, by omega⟩
  go_wp2_with fail
  rw [← hn]
  clear hn hwr
  with_reducible refine (c1 _).mono ?_
  rintro q w3 ⟨rfl, k3⟩
  have bz3 := (k3.blk bz (by simp)).alloc (.cells #[.int .i64 (n : Int), .int .i64 2, .int .i64 100, .int .i64 100, .int .i64 200, .int .i64 f1, .int .u64 1000] 26)
  have bc3 := Blk.new w3 [.int .i64 (n : Int), .int .i64 2, .int .i64 100, .int .i64 100, .int .i64 200, .int .i64 f1, .int .u64 1000] 26
  change Blk (w3.alloc (.cells #[.int .i64 (n : Int), .int .i64 2, .int .i64 100, .int .i64 100, .int .i64 200, .int .i64 f1, .int .u64 1000] 26)) _ _ at bc3 bz3
  have kz3 := (kz.trans k3 (by simp)).alloc (.cells #[.int .i64 (n : Int), .int .i64 2, .int .i64 100, .int .i64 100, .int .i64 200, .int .i64 f1, .int .u64 1000] 26)
  have hgz3 : w.heap.size ≤ gz ∧ gz < w3.heap.size := ⟨by omega, (k3.blk bz (by simp)).lt⟩
  obtain ⟨gc, hgc⟩ : ∃ gc, w3.heap.size = gc := ⟨_, rfl⟩
  rw [hgc] at bc3 hgz3
  go_upto_region 2 with fail
  obtain ⟨w4, hw4⟩ : ∃ w4, w3.alloc (.cells #[.int .i64 (n : Int), .int .i64 2, .int .i64 100, .int .i64 100, .int .i64 200, .int .i64 f1, .int .u64 1000] 26) = w4 := ⟨_, rfl⟩
  rw [hw4] at bz3 bc3 kz3 ⊢
  have HZ3 := Lib.hid hgz3
  clear hw4 hgc hgz3 k3 c1 m1 bz kz hw1 hgz
  obtain ⟨d0, d1, d2, d3, d4, d5, d6, df, dl⟩ := bc3.o7
  have KD : Hid (Keeps [] w w4.drew) := Lib.hid kz3.drew
  have HK4 := Lib.hid kz3
  have HB3 := Lib.hid bc3
  have HBZ := Lib.hid bz3
  clear kz3 bc3 bz3
  go_cut [10] from 17 to 21 (fun s10 wx => ∃ (gt g10 : Nat) (rows : List (Value × List OV)), s10 = .pointer (some ⟨g10, 0, none⟩) ∧ rows.length = n ∧ Tab wx w.heap.size gt rows ∧ w.heap.size ≤ gt ∧ Hid (∀ p ∈ rows, p.2.length ≤ 20 ∧ ∀ y ∈ p.2, Made 2 X y) ∧
    Blk wx g10 [.int .i64 (n : Int), .int .i64 2, .int .i64 100, .int .i64 100, .int .i64 200, .int .i64 f1, .int .u64 1000, .slice (some ⟨gt, 0, none⟩) n n, .slice none 0 0] ∧ Blk wx gc [.int .i64 (n : Int), .int .i64 2, .int .i64 100, .int .i64 100, .int .i64 200, .int .i64 f1, .int .u64 1000] ∧ Blk wx gz [.int .i64 0, .int .i64 0, .int .i64 0, .int .i64 0, .int .i64 0, .int .i64 0, .int .u64 0, .slice none 0 0, .slice none 0 0] ∧ Keeps [] w wx ∧ Hid (g10 ≠ gt ∧ gc < g10 ∧ (∀ p ∈ rows, p.1.ownBlock ≠ some g10) ∧ gc < gt ∧ ∀ p ∈ rows, p.1.ownBlock ≠ some gz))
  case first =>
    have KD2 : Hid (Keeps [] w (w4.alloc (.cells #[.int .i64 0, .int .i64 0, .int .i64 0, .int .i64 0, .int .i64 0, .int .i64 0, .int .u64 0, .slice none 0 0, .slice none 0 0] 30)).drew) := Lib.hid (HK4.out.alloc _).drew
    have d0b := Lib.cell?_alloc_some (.cells #[.int .i64 0, .int .i64 0, .int .i64 0, .int .i64 0, .int .i64 0, .int .i64 0, .int .u64 0, .slice none 0 0, .slice none 0 0] 30) d0
    have d1b := Lib.cell?_alloc_some (.cells #[.int .i64 0, .int .i64 0, .int .i64 0, .int .i64 0, .int .i64 0, .int .i64 0, .int .u64 0, .slice none 0 0, .slice none 0 0] 30) d1
    have d2b := Lib.cell?_alloc_some (.cells #[.int .i64 0, .int .i64 0, .int .i64 0, .int .i64 0, .int .i64 0, .int .i64 0, .int .u64 0, .slice none 0 0, .slice none 0 0] 30) d2
    have d3b := Lib.cell?_alloc_some (.cells #[.int .i64 0, .int .i64 0, .int .i64 0, .int .i64 0, .int .i64 0, .int .i64 0, .int .u64 0, .slice none 0 0, .slice none 0 0] 30) d3
    have d4b := Lib.cell?_alloc_some (.cells #[.int .i64 0, .int .i64 0, .int .i64 0, .int .i64 0, .int .i64 0, .int .i64 0, .int .u64 0, .slice none 0 0, .slice none 0 0] 30) d4
    have d5b := Lib.cell?_alloc_some (.cells #[.int .i64 0, .int .i64 0, .int .i64 0, .int .i64 0, .int .i64 0, .int .i64 0, .int .u64 0, .slice none 0 0, .slice none 0 0] 30) d5
    have d6b := Lib.cell?_alloc_some (.cells #[.int .i64 0, .int .i64 0, .int .i64 0, .int .i64 0, .int .i64 0, .int .i64 0, .int .u64 0, .slice none 0 0, .slice none 0 0] 30) d6
    go_region_held3 (fun w' => w'.cell? ⟨gc, 0, none⟩ = some (.int .i64 (n : Int)) ∧ w'.cell? ⟨gc, 1, none⟩ = some (.int .i64 2) ∧ w'.cell? ⟨gc, 2, none⟩ = some (.int .i64 100) ∧ w'.cell? ⟨gc, 3, none⟩ = some (.int .i64 100) ∧ w'.cell? ⟨gc, 4, none⟩ = some (.int .i64 200) ∧ w'.cell? ⟨gc, 5, none⟩ = some (.int .i64 f1) ∧ w'.cell? ⟨gc, 6, none⟩ = some (.int .u64 1000))
      (first
        | (with_reducible exact ⟨d0, d1, d2, d3, d4, d5, d6⟩)
        | (with_reducible exact ⟨d0b, d1b, d2b, d3b, d4b, d5b, d6b⟩)
        | (with_reducible exact ⟨d0c, d1c, d2c, d3c, d4c, d5c, d6c⟩)
        | (with_reducible exact ⟨d0e, d1e, d2e, d3e, d4e, d5e, d6e⟩)
        | go_keep)
      (first
        | (go_at_call 18; with_reducible refine (p1.out _ KD.out).mono ?_; intro q w5 hpq; unfold PrgsQ at hpq; obtain ⟨k5, gt, rows, rfl, hrl, hT, hgt, hmd⟩ := hpq
           have d0c := k5.cellEq d0 (by simp)
           have d1c := k5.cellEq d1 (by simp)
           have d2c := k5.cellEq d2 (by simp)
           have d3c := k5.cellEq d3 (by simp)
           have d4c := k5.cellEq d4 (by simp)
           have d5c := k5.cellEq d5 (by simp)
           have d6c := k5.cellEq d6 (by simp)
           have HRL := Lib.hid hrl
           have HT := Lib.hid hT
           have HGT := Lib.hid hgt
           have K5 := Lib.hid k5
           have HMD := Lib.hid hmd
           clear hrl hT hgt k5 hmd)
        | (go_at_call 18; with_reducible refine (p1.out _ KD2.out).mono ?_; intro q w5 hpq; unfold PrgsQ at hpq; obtain ⟨k5, gt, rows, rfl, hrl, hT, hgt, hmd⟩ := hpq
           have e10 : Blk w5 w4.heap.size [.int .i64 0, .int .i64 0, .int .i64 0, .int .i64 0, .int .i64 0, .int .i64 0, .int .u64 0, .slice none 0 0, .slice none 0 0] := k5.blk (Blk.drew (Blk.new w4 [.int .i64 0, .int .i64 0, .int .i64 0, .int .i64 0, .int .i64 0, .int .i64 0, .int .u64 0, .slice none 0 0, .slice none 0 0] 30)) (by simp)
           obtain ⟨z0, z1, z2, z3, z4, z5, z6, z7, z8, zf, zl⟩ := e10.o9
           have kst := ((((((((((Keeps.refl [w4.heap.size] w5).setCell ⟨w4.heap.size, 0, none⟩ (.int .i64 (n : Int)) (.inl (by simp))).setCell ⟨w4.heap.size, 1, none⟩ (.int .i64 2) (.inl (by simp))).setCell ⟨w4.heap.size, 2, none⟩ (.int .i64 100) (.inl (by simp))).setCell ⟨w4.heap.size, 3, none⟩ (.int .i64 100) (.inl (by simp))).setCell ⟨w4.heap.size, 4, none⟩ (.int .i64 200) (.inl (by simp))).setCell ⟨w4.heap.size, 5, none⟩ (.int .i64 f1) (.inl (by simp))).setCell ⟨w4.heap.size, 6, none⟩ (.int .u64 1000) (.inl (by simp))).setCell ⟨w4.heap.size, 7, none⟩ (.slice (some ⟨gt, 0, none⟩) n n) (.inl (by simp))).setCell ⟨w4.heap.size, 8, none⟩ (.slice none 0 0) (.inl (by simp)))
           have hgne : gc ∉ [w4.heap.size] := by simp; omega
           have E10 := Lib.hid e10
           clear e10
           have d0c := k5.cellEq d0b (by simp)
           have d1c := k5.cellEq d1b (by simp)
           have d2c := k5.cellEq d2b (by simp)
           have d3c := k5.cellEq d3b (by simp)
           have d4c := k5.cellEq d4b (by simp)
           have d5c := k5.cellEq d5b (by simp)
           have d6c := k5.cellEq d6b (by simp)
           have d0e := kst.cellEq d0c hgne
           have d1e := kst.cellEq d1c hgne
           have d2e := kst.cellEq d2c hgne
           have d3e := kst.cellEq d3c hgne
           have d4e := kst.cellEq d4c hgne
           have d5e := kst.cellEq d5c hgne
           have d6e := kst.cellEq d6c hgne
           have HRL := Lib.hid hrl
           have HT := Lib.hid hT
           have HGT := Lib.hid hgt
           have K5 := Lib.hid k5
           have HMD := Lib.hid hmd
           clear hrl hT hgt k5 hmd))
    · go_wp2_with fail
      go_meet
      have hs := K5.out.size
      have hw4 := HK4.out.size
      have htl := HT.out.blk.lt
      have ka := (Keeps.refl [] w5).alloc (.cells #[.int .i64 (n : Int), .int .i64 2, .int .i64 100, .int .i64 100, .int .i64 200, .int .i64 f1, .int .u64 1000, .slice (some ⟨gt, 0, none⟩) n n, .slice none 0 0] 30)
      refine ⟨gt, w5.heap.size, rows, rfl, HRL.out, (HT.out.mono ?_).keepsN ka (by simp) (by simp), ?_, HMD, Blk.new w5 [.int .i64 (n : Int), .int .i64 2, .int .i64 100, .int .i64 100, .int .i64 200, .int .i64 f1, .int .u64 1000, .slice (some ⟨gt, 0, none⟩) n n, .slice none 0 0] 30, ka.blk (K5.out.blk HB3.out.drew (by simp)) (by simp), ka.blk (K5.out.blk HBZ.out.drew (by simp)) (by simp), ((HK4.out.drew).trans K5.out (by simp)).trans ka (by simp), Lib.hid ⟨by omega, by have : w4.heap.size ≤ w5.heap.size := hs; omega, fun p hp he => ?_, by have : w4.heap.size ≤ gt := HGT.out; omega, fun p hp he => ?_⟩⟩
      · exact hw4
      · have := HGT.out
        exact Nat.le_trans hw4 this
      · have := (HT.out.ok p hp).1.blk _ he
        omega
      · have : w4.heap.size ≤ gz := ((HT.out.ok p hp).2 _ he).1
        have := HZ3.out
        omega
    · go_wp2_with fail
      go_meet
      have hs := K5.out.size
      have hw4 := HK4.out.size
      have hal : (w4.alloc (.cells #[.int .i64 0, .int .i64 0, .int .i64 0, .int .i64 0, .int .i64 0, .int .i64 0, .int .u64 0, .slice none 0 0, .slice none 0 0] 30)).heap.size = w4.heap.size + 1 := by simp
      have hs' : w4.heap.size + 1 ≤ w5.heap.size := by rw [← hal]; exact hs
      have hgt' : w4.heap.size + 1 ≤ gt := by rw [← hal]; exact HGT.out
      have hbase : ∀ p ∈ rows, ∀ c, p.1.ownBlock = some c → w4.heap.size + 1 ≤ c := fun p hp c hc => by rw [← hal]; exact ((HT.out.ok p hp).2 c hc).1
      have bz9 := (((((((((E10.out.set 0 (.int .i64 (n : Int))).set 1 (.int .i64 2)).set 2 (.int .i64 100)).set 3 (.int .i64 100)).set 4 (.int .i64 200)).set 5 (.int .i64 f1)).set 6 (.int .u64 1000)).set 7 (.slice (some ⟨gt, 0, none⟩) n n)).set 8 (.slice none 0 0))
      simp only [List.set_cons_zero, List.set_cons_succ] at bz9
      refine ⟨gt, w4.heap.size, rows, rfl, HRL.out, (HT.out.mono ?_).keepsN kst (by simp; omega) (fun p hp c hc => by have := hbase p hp c hc; simp; omega), by omega, HMD, bz9, kst.blk (K5.out.blk ((HB3.out.alloc _).drew) (by simp)) hgne, kst.blk (K5.out.blk ((HBZ.out.alloc _).drew) (by simp)) (by have := HBZ.out.lt; simp; omega), ((HK4.out.alloc _).drew.trans K5.out (by simp)).trans kst (fun b hb => by simp at hb; right; omega), Lib.hid ⟨by omega, by omega, fun p hp he => ?_, by omega, fun p hp he => ?_⟩⟩
      · show w.heap.size ≤ (w4.alloc (.cells #[.int .i64 0, .int .i64 0, .int .i64 0, .int .i64 0, .int .i64 0, .int .i64 0, .int .u64 0, .slice none 0 0, .slice none 0 0] 30)).heap.size
        rw [hal]; omega
      · have := hbase p hp _ he
        omega
      · have := hbase p hp _ he
        have := HZ3.out
        omega
  case rest =>
    obtain ⟨gt, g10, rows, rfl, hrl, hT, hgt, hmd, b10, bc, bz, KK, hne⟩ := hcut
    clear HK4 HB3 HBZ KD d0 d1 d2 d3 d4 d5 d6 df dl
    have HRL := Lib.hid hrl
    have HG := Lib.hid hgt
    have hge10 : w.heap.size ≤ g10 := by have := HZ3.out; have := hne.out.2.1; omega
    have HG10 := Lib.hid hge10
    clear hrl hgt hge10
    go_wp2_with fail
    go_loopw [11] (fun i wr => ∃ (k : Nat) (pk : List Int) (kA : Option Addr) (kc : Nat), i = .int .i64 (k : Int) ∧ k ≤ M ∧ k ≤ 300 ∧ pk.length = k ∧ Ri wr w.heap.size (.slice kA k kc) pk ∧ Hid (∀ b, (Value.slice kA k kc).ownBlock = some b → b ≠ g10 ∧ b ≠ gt ∧ b ≠ gc ∧ b ≠ gz ∧ ∀ p ∈ rows, p.1.ownBlock ≠ some b) ∧
      Blk wr g10 [.int .i64 (n : Int), .int .i64 2, .int .i64 100, .int .i64 100, .int .i64 200, .int .i64 f1, .int .u64 1000, .slice (some ⟨gt, 0, none⟩) n n, .slice kA k kc] ∧ Blk wr gc [.int .i64 (n : Int), .int .i64 2, .int .i64 100, .int .i64 100, .int .i64 200, .int .i64 f1, .int .u64 1000] ∧ Blk wr gz [.int .i64 0, .int .i64 0, .int .i64 0, .int .i64 0, .int .i64 0, .int .i64 0, .int .u64 0, .slice none 0 0, .slice none 0 0] ∧ Tab wr w.heap.size gt rows ∧ Keeps [] w wr ∧ Hid (∀ p ∈ pk, 0 ≤ p ∧ p < (n : Int))) (fun i _ => 300 - (intOf i).toNat)
    case atStart => exact ⟨0, [], none, 0, rfl, by omega, by omega, rfl, Ri.nil _ _, Lib.hid (fun b hb => by simp [Value.ownBlock] at hb), b10, bc, bz, hT, KK, Lib.hid (by simp)⟩
    case round =>
      clear b10 bc bz hT KK
      obtain ⟨k, pk, kA, kc, rfl, hkM, hk3, hpl, hR, hown, b10, bc, bz, hT, KK, hpk⟩ := hrel
      by_cases hlt : k < M
      · by_cases hl3 : k < 300
        · obtain ⟨y, hy⟩ : ∃ y, Y[k]? = some y := ⟨_, List.getElem?_eq_getElem (by rw [HM.out]; exact hlt)⟩
          have hy255 : y ≤ 255 := HY.out y (List.mem_of_getElem? hy)
          obtain ⟨B', cB, bY, oY, hBv, hBA, hBr⟩ := HU.out
          injection hBv with e1 e2 e3
          have hB : B = some ⟨bY, oY, none⟩ := by rw [e1]; exact hBA (by rw [HM.out]; omega)
          have fy : wr.cell? ⟨bY, oY + k, none⟩ = some (.int .u8 (y : Int)) := by
            rw [(hBr.keeps KK (by simp)).cells k (by rw [List.length_map, HM.out]; exact hlt), List.getElem?_map, hy]; rfl
          obtain ⟨t, ht⟩ : ∃ t, y % n = t := ⟨_, rfl⟩
          have htn : t < n := by rw [← ht]; exact Nat.mod_lt _ hn1.1
          have hmod : (y : Int).tmod (n : Int) = (t : Int) := by rw [← ht]; exact (Int.ofNat_tmod y n).symm
          have hn0 : ¬ n = 0 := by omega
          have hwy : IntKind.i64.wrap (y : Int) = (y : Int) := by rw [IntKind.wrap_i64]; omega
          have hkI : (k : Int) < (M : Int) := by omega
          have hk3I : (k : Int) < 300 := by omega
          rw [hB]
          have Rd : Ri wr.drew w.heap.size (.slice kA k kc) pk := ⟨hR.row.keeps ((Keeps.refl [] wr).drew) (by simp), hR.ge⟩
          obtain ⟨v9, w9, hr, r9, k9, f9⟩ := int_append Rd (t : Int) KK.size (by omega) 1
          obtain ⟨A9, C9, hv9⟩ := r9.row.len
          rw [List.length_append, List.length_singleton, hpl] at hv9
          subst hv9
          obtain ⟨gw, hgw⟩ : ∃ gw, wr.drew.heap.size = gw := ⟨_, rfl⟩
          have hgw' : wr.heap.size = gw := hgw
          rw [hgw] at hr
          change ∀ ty, (Builtin.append_ #[28, 28] ty #[.slice kA k kc, .slice (some ⟨gw, 0, none⟩) 1 1]).run Try.prog (wr.alloc (.cells #[.int .i64 (t : Int)] 3)).drew = _ at hr
          obtain ⟨z0, z1, z2, z3, z4, z5, z6, z7, z8, zf, zl⟩ := b10.o9
          obtain ⟨d0, d1, d2, d3, d4, d5, d6, df, dl⟩ := bc.o7
          have hcl8 : ∀ o, (wr.alloc o).cell? ⟨g10, 8, none⟩ = some (.slice kA k kc) := fun o => Lib.cell?_alloc_some o z8
          have hkk9 : ∀ b, b ∈ (Value.slice kA k kc).ownBlock.toList → b ≠ g10 ∧ b ≠ gt ∧ b ≠ gc ∧ b ≠ gz ∧ ∀ p ∈ rows, p.1.ownBlock ≠ some b := fun b hb => hown.out b (by simpa using hb)
          have b109 := k9.blk b10.drew (fun hm => (hkk9 _ hm).1 rfl)
          have bc9 := k9.blk bc.drew (fun hm => (hkk9 _ hm).2.2.1 rfl)
          have bz9 := k9.blk bz.drew (fun hm => (hkk9 _ hm).2.2.2.1 rfl)
          have T9 := (hT.keeps ((Keeps.refl [] wr).drew)).keepsN k9 (fun hm => (hkk9 _ hm).2.1 rfl) (fun p hp c hc hm => (hkk9 _ hm).2.2.2.2 p hp hc)
          have cf9 := b109.frozen
          have cl9 := b109.lt
          have c89 := b109.cell 8
          simp only [List.getElem?_cons_succ, List.getElem?_cons_zero] at c89
          have K9 : Keeps [] w w9 := KK.drew.trans k9 (fun b hb => .inr (hR.ge b (by simpa using hb)))
          have own9 : ∀ b, (Value.slice A9 (k + 1) C9).ownBlock = some b → b ≠ g10 ∧ b ≠ gt ∧ b ≠ gc ∧ b ≠ gz ∧ ∀ p ∈ rows, p.1.ownBlock ≠ some b := fun b hb => by
            rcases f9 b hb with h1 | h1
            · exact hkk9 b (by simpa using h1)
            · have h1' : wr.heap.size ≤ b := h1
              have l1 := b10.lt; have l2 := bc.lt; have l3 := bz.lt; have l4 := hT.blk.lt
              exact ⟨by omega, by omega, by omega, by omega, fun p hp he => by have := (hT.ok p hp).1.blk b he; omega⟩
          have mixed : Try.prog.follows .mixedOrders = true := by kernel_rfl
          have HK := Lib.hid K9
          have HB := Lib.hid b109
          have HC := Lib.hid bc9
          have HZ := Lib.hid bz9
          have HT9 := Lib.hid T9
          have HR9 := Lib.hid r9
          have H9 := Lib.hid own9
          have HPL := Lib.hid hpl
          have HGE : Hid (Keeps [] w wr) := Lib.hid KK
          clear K9 b109 bc9 bz9 T9 r9 own9 f9 k9 Rd hkk9 hR hown b10 bc bz hT KK e1 e2 e3 hBA hBr hB hy ht hpl hgw
          go_upto_region 6 with fail
          go_region_law_o (first | (refine step_append_eq rfl _ _ 28 28 rfl (.slice kA k kc) (.slice (some ⟨gw, 0, none⟩) 1 1) (by simp [Act.eval, Act.put]) (by simp [Act.eval, Act.put]) (hr _) ?_))
          all_goals
            have kS := (Keeps.refl [g10] w9).setCell ⟨g10, 8, none⟩ (.slice A9 (k + 1) C9) (.inl (by simp))
            have bN := HB.out.set 8 (.slice A9 (k + 1) C9)
            simp only [List.set_cons_zero, List.set_cons_succ] at bN
            have RN : Ri (w9.setCell ⟨g10, 8, none⟩ (.slice A9 (k + 1) C9)) w.heap.size (.slice A9 (k + 1) C9) (pk ++ [(t : Int)]) := ⟨HR9.out.row.keeps kS (fun b hb hm => by simp at hm; exact (H9.out b hb).1 hm), HR9.out.ge⟩
            have cN := kS.blk HC.out (by have := hne.out.2.1; simp; omega)
            have zN := kS.blk HZ.out (by have := hne.out.2.1; have := HZ3.out; simp; omega)
            have TN := HT9.out.keepsN kS (by have := hne.out.1; simp; omega) (fun p hp c hc hm => by simp at hm; subst hm; exact hne.out.2.2.1 p hp hc)
            have KN := HK.out.trans kS (fun b hb => by simp at hb; have := HG10.out; right; omega)
            have pN : Hid (∀ p ∈ pk ++ [(t : Int)], 0 ≤ p ∧ p < (n : Int)) := Lib.hid fun p hp => by
              rcases List.mem_append.1 hp with h | h
              · exact hpk.out p h
              · simp at h; subst h; omega
            have lN : (pk ++ [(t : Int)]).length = k + 1 := by simp [HPL.out]
            clear hr z0 z1 z2 z3 z4 z5 z6 z7 z8 d0 d1 d2 d3 d4 d5 d6 hcl8 c89 HK HB HC HZ HT9 HR9
            go_wp2_with fail
            exact ⟨⟨k + 1, pk ++ [(t : Int)], A9, C9, by go_num, by omega, by omega, lN, RN, H9, bN, cN, zN, TN, KN, pN⟩, by simp [intOf] <;> omega⟩
        · obtain ⟨z0, z1, z2, z3, z4, z5, z6, z7, z8, zf, zl⟩ := b10.o9
          obtain ⟨d0, d1, d2, d3, d4, d5, d6, d7, d8, df, dl⟩ := bz.o9
          have kS := ((((((((((Keeps.refl [gz] wr).setCell ⟨gz, 0, none⟩ (.int .i64 (n : Int)) (.inl (by simp))).setCell ⟨gz, 1, none⟩ (.int .i64 2) (.inl (by simp))).setCell ⟨gz, 2, none⟩ (.int .i64 100) (.inl (by simp))).setCell ⟨gz, 3, none⟩ (.int .i64 100) (.inl (by simp))).setCell ⟨gz, 4, none⟩ (.int .i64 200) (.inl (by simp))).setCell ⟨gz, 5, none⟩ (.int .i64 f1) (.inl (by simp))).setCell ⟨gz, 6, none⟩ (.int .u64 1000) (.inl (by simp))).setCell ⟨gz, 7, none⟩ (.slice (some ⟨gt, 0, none⟩) n n) (.inl (by simp))).setCell ⟨gz, 8, none⟩ (.slice kA k kc) (.inl (by simp)))
          have bS := (((((((((bz.set 0 (.int .i64 (n : Int))).set 1 (.int .i64 2)).set 2 (.int .i64 100)).set 3 (.int .i64 100)).set 4 (.int .i64 200)).set 5 (.int .i64 f1)).set 6 (.int .u64 1000)).set 7 (.slice (some ⟨gt, 0, none⟩) n n)).set 8 (.slice kA k kc))
          simp only [List.set_cons_zero, List.set_cons_succ] at bS
          have RS := hR.row.keeps kS (fun b hb hm => by simp at hm; exact (hown.out b hb).2.2.2.1 hm)
          have TS := hT.keepsN kS (by have := hne.out.2.2.2.1; have := HZ3.out; simp; omega) (fun p hp c hc hm => by simp at hm; subst hm; exact hne.out.2.2.2.2 p hp hc)
          have KS := KK.trans kS (fun b hb => by simp at hb; have := HZ3.out; right; omega)
          have hfin : VdQ w X th fa (.returned (.agg #[.int .i64 (n : Int), .int .i64 2, .int .i64 100, .int .i64 100, .int .i64 200, .int .i64 f1, .int .u64 1000, .slice (some ⟨gt, 0, none⟩) n n, .slice kA k kc])) _ := ⟨KS, n, gt, f1, rows, kA, kc, pk, by have := HNF.out; omega, by have := HNF.out; exact this.2.1, ⟨hn1, HNF.out.2.2.2, HRL.out, TS, HG.out, hmd.out, by rw [hpl]; rw [hpl] at RS; exact RS, fun b hb => by rw [hpl] at hb; exact ⟨hR.ge b hb, (hown.out b hb).2.1, (hown.out b hb).2.2.2.2⟩, by omega, hpk.out⟩, by rw [hpl]⟩
          clear b10 bc bz hT KK kS TS KS RS hR hown hpl
          go_wp2_with fail
          refine bodyPost_ret (results_blk (cs := [.int .i64 (n : Int), .int .i64 2, .int .i64 100, .int .i64 100, .int .i64 200, .int .i64 f1, .int .u64 1000, .slice (some ⟨gt, 0, none⟩) n n, .slice kA k kc]) rfl _ _ gz _ rfl bS Try.underlying30 sizS) rfl ?_
          exact hfin
      · obtain ⟨z0, z1, z2, z3, z4, z5, z6, z7, z8, zf, zl⟩ := b10.o9
        obtain ⟨d0, d1, d2, d3, d4, d5, d6, d7, d8, df, dl⟩ := bz.o9
        have kS := ((((((((((Keeps.refl [gz] wr).setCell ⟨gz, 0, none⟩ (.int .i64 (n : Int)) (.inl (by simp))).setCell ⟨gz, 1, none⟩ (.int .i64 2) (.inl (by simp))).setCell ⟨gz, 2, none⟩ (.int .i64 100) (.inl (by simp))).setCell ⟨gz, 3, none⟩ (.int .i64 100) (.inl (by simp))).setCell ⟨gz, 4, none⟩ (.int .i64 200) (.inl (by simp))).setCell ⟨gz, 5, none⟩ (.int .i64 f1) (.inl (by simp))).setCell ⟨gz, 6, none⟩ (.int .u64 1000) (.inl (by simp))).setCell ⟨gz, 7, none⟩ (.slice (some ⟨gt, 0, none⟩) n n) (.inl (by simp))).setCell ⟨gz, 8, none⟩ (.slice kA k kc) (.inl (by simp)))
        have bS := (((((((((bz.set 0 (.int .i64 (n : Int))).set 1 (.int .i64 2)).set 2 (.int .i64 100)).set 3 (.int .i64 100)).set 4 (.int .i64 200)).set 5 (.int .i64 f1)).set 6 (.int .u64 1000)).set 7 (.slice (some ⟨gt, 0, none⟩) n n)).set 8 (.slice kA k kc))
        simp only [List.set_cons_zero, List.set_cons_succ] at bS
        have RS := hR.row.keeps kS (fun b hb hm => by simp at hm; exact (hown.out b hb).2.2.2.1 hm)
        have TS := hT.keepsN kS (by have := hne.out.2.2.2.1; have := HZ3.out; simp; omega) (fun p hp c hc hm => by simp at hm; subst hm; exact hne.out.2.2.2.2 p hp hc)
        have KS := KK.trans kS (fun b hb => by simp at hb; have := HZ3.out; right; omega)
        have hfin : VdQ w X th fa (.returned (.agg #[.int .i64 (n : Int), .int .i64 2, .int .i64 100, .int .i64 100, .int .i64 200, .int .i64 f1, .int .u64 1000, .slice (some ⟨gt, 0, none⟩) n n, .slice kA k kc])) _ := ⟨KS, n, gt, f1, rows, kA, kc, pk, by have := HNF.out; omega, by have := HNF.out; exact this.2.1, ⟨hn1, HNF.out.2.2.2, HRL.out, TS, HG.out, hmd.out, by rw [hpl]; rw [hpl] at RS; exact RS, fun b hb => by rw [hpl] at hb; exact ⟨hR.ge b hb, (hown.out b hb).2.1, (hown.out b hb).2.2.2.2⟩, by omega, hpk.out⟩, by rw [hpl]⟩
        clear b10 bc bz hT KK kS TS KS RS hR hown hpl
        go_wp2_with fail
        refine bodyPost_ret (results_blk (cs := [.int .i64 (n : Int), .int .i64 2, .int .i64 100, .int .i64 100, .int .i64 200, .int .i64 f1, .int .u64 1000, .slice (some ⟨gt, 0, none⟩) n n, .slice kA k kc]) rfl _ _ gz _ rfl bS Try.underlying30 sizS) rfl ?_
        exact hfin
end Go.Proofs.Ytkgmgnfcmnhhaaa
