/- The contract of kit.Programs. -/
import Derived.Test.YtkgmgnfcmnhhaaaKon
import Derived.Test.YtkgmgnfcmnhhaaaEng
import Derived.Deep.RegionHeld3
namespace Go.Proofs.Ytkgmgnfcmnhhaaa
open Go.RowKit
set_option linter.unusedSectionVars false
set_option linter.unusedVariables false
set_option linter.unusedSimpArgs false
set_option maxRecDepth 20000
set_option maxHeartbeats 4000000
/-- What Only makes of some operation of X. -/
def Made (S : Int) (X : List OV) (y : OV) : Prop := ∃ x ∈ X, y = onlyV (normV S x)
theorem madeCells_one (v : Value) (k : Nat) : madeCells #[v] k = Array.replicate k v := by
  apply Array.ext
  · simp [madeCells]
  · intro i h1 h2
    simp [madeCells, Nat.mod_one]
theorem make_ops (k : Nat) (h : k ≤ 64) (w : World) : (Instr.makeSlice 27 (.int .i64 (k : Int)) (.int .i64 (k : Int))).run Try.prog w = .ok (.slice (some ⟨w.heap.size, 0, none⟩) k k) (w.alloc (.cells (Array.replicate k (.slice none 0 0)) 22)) := by
  obtain ⟨i, hi, hz0, hz1, hz2⟩ := info_parts info27
  have := run_make (P := Try.prog) w 27 22 i _ Try.underlying27 hi hz0 .i64 .i64 k k (by omega) (by omega) (by rw [hz2]; omega) (by omega)
  rw [hz1] at this
  rw [this]
  congr 3
  rw [Nat.mul_one]
  exact madeCells_one _ _
/-- Rows of operations, each of its own, in the table at block g. -/
structure Tab (w : World) (base g : Nat) (rows : List (Value × List OV)) : Prop where
  blk : Blk w g (rows.map (·.1))
  ok : ∀ p ∈ rows, Row w p.1 p.2.length 7 (oCs p.2) ∧ ∀ b, p.1.ownBlock = some b → base ≤ b ∧ b ≠ g
  apart : ∀ (i j : Nat) (p q : Value × List OV), rows[i]? = some p → rows[j]? = some q → i ≠ j → ∀ b, p.1.ownBlock = some b → q.1.ownBlock ≠ some b
theorem Tab.keeps {w w' : World} {base g : Nat} {rows : List (Value × List OV)} (h : Tab w base g rows) (k : Keeps [] w w') : Tab w' base g rows :=
  ⟨k.blk h.blk (by simp), fun p hp => ⟨(h.ok p hp).1.keeps k (by simp), (h.ok p hp).2⟩, h.apart⟩
theorem Tab.first (w : World) (n : Nat) : Tab (w.alloc (.cells (Array.replicate n (.slice none 0 0)) 22)) w.heap.size w.heap.size (List.replicate n (.slice none 0 0, [])) := by
  refine ⟨?_, fun p hp => ?_, fun i j p q hp hq hij b hb => ?_⟩
  · rw [List.map_replicate]
    exact Blk.rep_at w _ n _ 22 rfl
  · obtain rfl := List.eq_of_mem_replicate hp
    exact ⟨Row.nil _ _, fun b hb => by simp [Value.ownBlock] at hb⟩
  · obtain rfl := List.eq_of_mem_replicate (List.mem_of_getElem? hp)
    simp [Value.ownBlock] at hb
theorem Tab.put {w w' : World} {base g : Nat} {rows : List (Value × List OV)} (h : Tab w base g rows) {i : Nat} {p : Value × List OV} (hp : rows[i]? = some p) {v' : Value} {ys' : List OV}
    (kk : Keeps p.1.ownBlock.toList w w') (r : Row w' v' ys'.length 7 (oCs ys')) (f : ∀ b, v'.ownBlock = some b → p.1.ownBlock = some b ∨ w.heap.size ≤ b) (hb : base ≤ w.heap.size) :
    Tab (w'.setCell ⟨g, i, none⟩ v') base g (rows.set i (v', ys')) := by
  have hpm := List.mem_of_getElem? hp
  have hg := h.blk.lt
  have kS := (Keeps.refl [g] w').setCell ⟨g, i, none⟩ v' (.inl (by simp))
  have hpg : ∀ b, p.1.ownBlock = some b → base ≤ b ∧ b ≠ g := (h.ok p hpm).2
  have hv' : ∀ b, v'.ownBlock = some b → base ≤ b ∧ b ≠ g := fun b hb' => by
    rcases f b hb' with h1 | h1
    · exact hpg b h1
    · exact ⟨by omega, by omega⟩
  have hold : ∀ (j : Nat) (q : Value × List OV), rows[j]? = some q → j ≠ i → ∀ b, q.1.ownBlock = some b → v'.ownBlock ≠ some b := fun j q hq hj b hb' he => by
    rcases f b he with h1 | h1
    · exact h.apart i j p q hp hq (fun e => hj e.symm) b h1 hb'
    · have := (h.ok q (List.mem_of_getElem? hq)).1.blk b hb'
      omega
  refine ⟨?_, fun q hq => ?_, fun a b p1 p2 h1 h2 hab c hc => ?_⟩
  · rw [List.map_set]
    exact (kk.blk h.blk (fun hm => by have := (hpg g (by simpa using hm)).2; omega)).set i v'
  · obtain ⟨j, hj⟩ := List.mem_iff_getElem?.1 hq
    rw [List.getElem?_set] at hj
    split at hj
    · split at hj
      · simp only [Option.some.injEq] at hj
        subst hj
        exact ⟨r.keeps kS (fun b hb' hm => by simp at hm; exact (hv' b hb').2 hm), hv'⟩
      · simp at hj
    · rename_i hij
      have hqm := List.mem_of_getElem? hj
      exact ⟨((h.ok q hqm).1.keeps kk (fun b hb' hm => h.apart i j p q hp hj hij b (by simpa using hm) hb')).keeps kS (fun b hb' hm => by simp at hm; exact ((h.ok q hqm).2 b hb').2 hm), (h.ok q hqm).2⟩
  · rw [List.getElem?_set] at h1 h2
    split at h1
    · rename_i hia
      subst hia
      split at h1
      · simp only [Option.some.injEq] at h1
        subst h1
        rw [if_neg hab] at h2
        exact fun he => hold b p2 h2 (fun e => hab e.symm) c he hc
      · simp at h1
    · rename_i hia
      split at h2
      · split at h2
        · simp only [Option.some.injEq] at h2
          subst h2
          exact hold a p1 h1 (fun e => hia e.symm) c hc
        · simp at h2
      · exact h.apart a b p1 p2 h1 h2 hab c hc
/-- One operation more at the end of a row. -/
theorem opr_append {w : World} {v : Value} {ys : List OV} (h : Row w v ys.length 7 (oCs ys)) (x : OV) (hn : ys.length + 1 ≤ 1073741824) (c : Nat) :
    ∃ v' w', (∀ ty, (Builtin.append_ #[22, 22] ty #[v, .slice (some ⟨w.heap.size, 0, none⟩) 1 c]).run Try.prog (w.alloc (.cells #[.int .i64 x.c, .string ⟨x.k.toArray⟩, .int .u64 (x.t : Int), .slice x.bA x.b.length x.bc, .int .i64 x.h, .int .i64 x.u, .int .i64 x.m] 45)) = .ok v' w') ∧ Row w' v' (ys ++ [x]).length 7 (oCs (ys ++ [x])) ∧ Keeps v.ownBlock.toList w w' ∧ ∀ g, v'.ownBlock = some g → v.ownBlock = some g ∨ w.heap.size ≤ g := by
  obtain ⟨i0, hi0, hz0, hz1, hz2⟩ := info_parts infoO
  have kw := (Keeps.refl [] w).alloc (.cells #[.int .i64 x.c, .string ⟨x.k.toArray⟩, .int .u64 (x.t : Int), .slice x.bA x.b.length x.bc, .int .i64 x.h, .int .i64 x.u, .int .i64 x.m] 45)
  have hbk := Blk.new w [.int .i64 x.c, .string ⟨x.k.toArray⟩, .int .u64 (x.t : Int), .slice x.bA x.b.length x.bc, .int .i64 x.h, .int .i64 x.u, .int .i64 x.m] 45
  change Blk (w.alloc (.cells #[.int .i64 x.c, .string ⟨x.k.toArray⟩, .int .u64 (x.t : Int), .slice x.bA x.b.length x.bc, .int .i64 x.h, .int .i64 x.u, .int .i64 x.m] 45)) _ _ at hbk
  have hsz : (w.alloc (.cells #[.int .i64 x.c, .string ⟨x.k.toArray⟩, .int .u64 (x.t : Int), .slice x.bA x.b.length x.bc, .int .i64 x.h, .int .i64 x.u, .int .i64 x.m] 45)).heap.size = w.heap.size + 1 := by simp
  have hsrc : ∀ (j : Nat) (u : Value), (oC x)[j]? = some u → (w.alloc (.cells #[.int .i64 x.c, .string ⟨x.k.toArray⟩, .int .u64 (x.t : Int), .slice x.bA x.b.length x.bc, .int .i64 x.h, .int .i64 x.u, .int .i64 x.m] 45)).cell? ((⟨w.heap.size, 0, none⟩ : Addr).add j) = some u := fun j u hj => by
    rw [Addr.add_lit, hbk.cell, Nat.zero_add]; exact hj
  obtain ⟨v', w', hr, r, k, f⟩ := row_append (h.keeps kw (by simp)) 22 22 45 i0 _ 80 Try.underlying22 hi0 hz0 hz1 hz2 rfl (by decide) ⟨w.heap.size, 0, none⟩ 1 c (oC x) rfl hsrc (oC_one x) hn (by decide)
  refine ⟨v', w', fun ty => by rw [← hr]; rfl, by rw [List.length_append, oCs_append, oCs_one]; exact r, (kw.mono (by simp)).trans k (fun i hi => .inl hi), fun g hg => ?_⟩
  rcases f g hg with h1 | h1
  · exact .inl h1
  · exact .inr (by omega)
def PrgsQ (S : Int) (n most : Nat) (X : List OV) (w : World) (q : Ending) (w' : World) : Prop :=
  Keeps [] w w' ∧ ∃ g rows, q = .returned (.slice (some ⟨g, 0, none⟩) n n) ∧ rows.length = n ∧ Tab w' w.heap.size g rows ∧ w.heap.size ≤ g ∧ ∀ p ∈ rows, p.2.length ≤ most ∧ ∀ y ∈ p.2, Made S X y
theorem programs_any (S N C R F K : Int) (n : Nat) (hn : 1 ≤ n ∧ n ≤ 64) (hS : 1 ≤ S ∧ S ≤ 8) (A : Option Addr) (cap : Nat) (X : List OV) (most : Nat) (hm : most ≤ 100) (w : World) (hv : Lst w (.slice A X.length cap) X.length (oCs X)) (hl : X.length ≤ 9223372036854775807)
    (hx : ∀ x ∈ X, OkB w x ∧ OpN x) :
    Calls Try.prog 18 #[.agg #[.int .i64 (n : Int), .int .i64 S, .int .i64 N, .int .i64 C, .int .i64 R, .int .i64 F, .int .u64 K], .slice A X.length cap, .int .i64 (most : Int)] w (PrgsQ S n most X w) := by
  have hmk := make_ops n hn.2
  obtain ⟨L, hL⟩ : ∃ L, X.length = L := ⟨_, rfl⟩
  have HL := Lib.hid hL
  have HV := Lib.hid hv
  have HX := Lib.hid hx
  have kc := (Keeps.refl [] w).alloc (.cells #[.int .i64 (n : Int), .int .i64 S, .int .i64 N, .int .i64 C, .int .i64 R, .int .i64 F, .int .u64 K] 26)
  have bc := Blk.new w [.int .i64 (n : Int), .int .i64 S, .int .i64 N, .int .i64 C, .int .i64 R, .int .i64 F, .int .u64 K] 26
  change Blk (w.alloc (.cells #[.int .i64 (n : Int), .int .i64 S, .int .i64 N, .int .i64 C, .int .i64 R, .int .i64 F, .int .u64 K] 26)) _ _ at bc
  rw [hL] at hl ⊢
  clear hL hv hx
  go_enter Try.func18, Try.ntmps18
  obtain ⟨w1, hw1⟩ : ∃ w1, w.alloc (.cells #[.int .i64 (n : Int), .int .i64 S, .int .i64 N, .int .i64 C, .int .i64 R, .int .i64 F, .int .u64 K] 26) = w1 := ⟨_, rfl⟩
  have hsz1 : w1.heap.size = w.heap.size + 1 := by rw [← hw1]; simp
  obtain ⟨gc, hgc⟩ : ∃ gc, w.heap.size = gc := ⟨_, rfl⟩
  rw [hw1] at kc bc
  rw [hgc] at bc hsz1
  obtain ⟨d0, d1, d2, d3, d4, d5, d6, df, dl⟩ := bc.o7
  have hT0 := Tab.first w1 n
  have kT := kc.alloc (.cells (Array.replicate n (.slice none 0 0)) 22)
  have bcT := bc.alloc (.cells (Array.replicate n (.slice none 0 0)) 22)
  obtain ⟨gt, hgt⟩ : ∃ gt, w1.heap.size = gt := ⟨_, rfl⟩
  rw [hgt] at hT0
  have hlt2 : gc < gt := by omega
  clear hsz1
  go_upto_region 2 with fail
  clear d0 d1 d2 d3 d4 d5 d6 df dl hw1 hmk
  obtain ⟨w2, hw2⟩ : ∃ w2, w1.alloc (.cells (Array.replicate n (.slice none 0 0)) 22) = w2 := ⟨_, rfl⟩
  rw [hw2] at hT0 kT bcT ⊢
  clear hw2 kc bc
  go_wp2_with fail
  go_loopw [8] (fun i wr => ∃ (k : Nat) (rows : List (Value × List OV)), i = .int .i64 (k : Int) ∧ k ≤ L ∧ k ≤ most ∧ rows.length = n ∧ Tab wr gt gt rows ∧ Keeps [] w wr ∧ Blk wr gc [.int .i64 (n : Int), .int .i64 S, .int .i64 N, .int .i64 C, .int .i64 R, .int .i64 F, .int .u64 K] ∧ Hid (∀ p ∈ rows, p.2.length ≤ k ∧ ∀ y ∈ p.2, Made S X y)) (fun i _ => most - (intOf i).toNat)
  case atStart => exact ⟨0, List.replicate n (.slice none 0 0, []), rfl, by omega, by omega, by simp, hT0, kT, bcT, Lib.hid fun p hp => by obtain rfl := List.eq_of_mem_replicate hp; simp⟩
  case round =>
    clear hT0 kT bcT
    obtain ⟨k, rows, rfl, hkL, hkm, hrl, hT, KK, bc, hmd⟩ := hrel
    have hfin : PrgsQ S n most X w (.returned (.slice (some ⟨gt, 0, none⟩) n n)) wr := ⟨KK, gt, rows, rfl, hrl, ⟨hT.blk, fun p hp => ⟨(hT.ok p hp).1, fun b hb => by have := (hT.ok p hp).2 b hb; omega⟩, hT.apart⟩, by omega, fun p hp => ⟨by have := (hmd.out p hp).1; omega, (hmd.out p hp).2⟩⟩
    have HF := Lib.hid hfin
    clear hfin
    by_cases hlt : k < L
    · by_cases hlm : k < most
      · obtain ⟨x, hx⟩ : ∃ x, X[k]? = some x := ⟨_, List.getElem?_eq_getElem (by rw [HL.out]; exact hlt)⟩
        have hxm := List.mem_of_getElem? hx
        obtain ⟨hxo, hxn⟩ := HX.out x hxm
        obtain ⟨gX, oX, capX, hAX, hcX, hgX⟩ := HV.out.at hx
        injection hAX with hA1 hA2 hA3
        rw [hA1]
        have hgXw : gX < w.heap.size := hgX
        obtain ⟨t, ht⟩ : ∃ t, k % n = t := ⟨_, rfl⟩
        have htn : t < n := by rw [← ht]; exact Nat.mod_lt _ hn.1
        have hmod : (k : Int).tmod (n : Int) = (t : Int) := by rw [← ht]; exact (Int.ofNat_tmod k n).symm
        have hn0 : ¬ (n : Int) = 0 := by omega
        obtain ⟨p, hp⟩ : ∃ p, rows[t]? = some p := ⟨_, List.getElem?_eq_getElem (by rw [hrl]; exact htn)⟩
        have hpm := List.mem_of_getElem? hp
        obtain ⟨hpr, hpo⟩ := hT.ok p hpm
        have f1 : wr.cell? ⟨gt, t, none⟩ = some p.1 := by
          rw [hT.blk.cell, List.getElem?_map, hp]; rfl
        have tf := hT.blk.frozen
        have tl := hT.blk.lt
        obtain ⟨A0, C0, hv0⟩ := hpr.len
        obtain ⟨m, hm2⟩ : ∃ m, p.2.length = m := ⟨_, rfl⟩
        have hmk : m ≤ k := by rw [← hm2]; exact (hmd.out p hpm).1
        rw [hm2] at hv0
        rw [hv0] at f1 hpo
        have R0 : Hid (Row wr (.slice A0 m C0) p.2.length 7 (oCs p.2)) := Lib.hid (by rw [← hv0]; exact hpr)
        have HM := Lib.hid hm2
        have HV0 := Lib.hid hv0
        obtain ⟨d0, d1, d2, d3, d4, d5, d6, df, dl⟩ := bc.o7
        obtain ⟨x0, x1, x2, x3, x4, x5, x6⟩ := (hcX.keeps KK (by simp)).all
        have hq : Hid (∀ w', Keeps [] w w' → Calls Try.prog 33 #[.agg #[.int .i64 (n : Int), .int .i64 S, .int .i64 N, .int .i64 C, .int .i64 R, .int .i64 F, .int .u64 K], .agg #[.int .i64 x.c, .string ⟨x.k.toArray⟩, .int .u64 (x.t : Int), .slice x.bA x.b.length x.bc, .int .i64 x.h, .int .i64 x.u, .int .i64 x.m]] w' fun q w'' => Keeps [] w' w'' ∧ ∃ y, y = onlyV (normV S x) ∧ q = .returned (.agg #[.int .i64 y.c, .string ⟨y.k.toArray⟩, .int .u64 (y.t : Int), .slice y.bA y.b.length y.bc, .int .i64 y.h, .int .i64 y.u, .int .i64 y.m])) := Lib.hid fun w' k' => kon_any (n : Int) S N C R F K hS x w' (hxo.keeps k') hxn
        have HXM : Hid (x ∈ X) := Lib.hid hxm
        have HP := Lib.hid hp
        have HPO := Lib.hid hpo
        have HT := Lib.hid hT
        have HKK := Lib.hid KK
        have HBC := Lib.hid bc
        have hgcw := Lib.hid (And.intro hgc hlt2)
        have hkI : (k : Int) < (L : Int) := by omega
        have hkM : (k : Int) < (most : Int) := by omega
        clear hA1 hA2 hA3 hx hxm hxo hxn hcX ht hp hpm hpr hpo hm2 hv0 hT KK bc hgc hgt hlt2
        go_upto_region 6 with fail
        have KD : Hid (Keeps [] w wr.drew) := Lib.hid HKK.out.drew
        go_region_held3 (fun w' => w'.cell? ⟨gt, t, none⟩ = some (.slice A0 m C0) ∧ w'.cell? ⟨gc, 0, none⟩ = some (.int .i64 (n : Int)) ∧ w'.cell? ⟨gc, 1, none⟩ = some (.int .i64 S) ∧ w'.cell? ⟨gc, 2, none⟩ = some (.int .i64 N) ∧ w'.cell? ⟨gc, 3, none⟩ = some (.int .i64 C) ∧ w'.cell? ⟨gc, 4, none⟩ = some (.int .i64 R) ∧ w'.cell? ⟨gc, 5, none⟩ = some (.int .i64 F) ∧ w'.cell? ⟨gc, 6, none⟩ = some (.int .u64 K) ∧ w'.cell? ⟨gX, oX + k * 7, none⟩ = some (.int .i64 x.c) ∧ w'.cell? ⟨gX, oX + k * 7 + 1, none⟩ = some (.string ⟨x.k.toArray⟩) ∧ w'.cell? ⟨gX, oX + k * 7 + 2, none⟩ = some (.int .u64 (x.t : Int)) ∧ w'.cell? ⟨gX, oX + k * 7 + 3, none⟩ = some (.slice x.bA x.b.length x.bc) ∧ w'.cell? ⟨gX, oX + k * 7 + 4, none⟩ = some (.int .i64 x.h) ∧ w'.cell? ⟨gX, oX + k * 7 + 5, none⟩ = some (.int .i64 x.u) ∧ w'.cell? ⟨gX, oX + k * 7 + 6, none⟩ = some (.int .i64 x.m))
          (first
            | (with_reducible exact ⟨f1, d0, d1, d2, d3, d4, d5, d6, x0, x1, x2, x3, x4, x5, x6⟩)
            | (with_reducible exact ⟨f1c, d0c, d1c, d2c, d3c, d4c, d5c, d6c, x0c, x1c, x2c, x3c, x4c, x5c, x6c⟩)
            | (with_reducible exact ⟨f1e, d0e, d1e, d2e, d3e, d4e, d5e, d6e, x0e, x1e, x2e, x3e, x4e, x5e, x6e⟩)
            | go_keep)
          (first
            | (refine step_append_eq rfl _ _ 22 22 rfl (.slice A0 m C0) (.slice (some ⟨gw, 0, none⟩) 1 1) (by simp [Act.eval, Act.put]) (by simp [Act.eval, Act.put]) (hr _) ?_)
            | (go_at_call 33; with_reducible refine (hq.out _ KD.out).mono ?_; rintro q w3 ⟨k3, y, hy, rfl⟩
               have f1c := k3.cellEq f1 (by simp)
               have d0c := k3.cellEq d0 (by simp)
               have d1c := k3.cellEq d1 (by simp)
               have d2c := k3.cellEq d2 (by simp)
               have d3c := k3.cellEq d3 (by simp)
               have d4c := k3.cellEq d4 (by simp)
               have d5c := k3.cellEq d5 (by simp)
               have d6c := k3.cellEq d6 (by simp)
               have x0c := k3.cellEq x0 (by simp)
               have x1c := k3.cellEq x1 (by simp)
               have x2c := k3.cellEq x2 (by simp)
               have x3c := k3.cellEq x3 (by simp)
               have x4c := k3.cellEq x4 (by simp)
               have x5c := k3.cellEq x5 (by simp)
               have x6c := k3.cellEq x6 (by simp)
               obtain ⟨v4, w4, hr, r4, k4, g4⟩ := opr_append ((R0.out.keeps (Keeps.refl [] wr).drew (by simp)).keeps k3 (by simp)) y (by rw [HM.out]; omega) 1
               have nb : ∀ b, b ∈ (Value.slice A0 m C0).ownBlock.toList → gt < b := fun b hb => by have := HPO.out b (by simpa using hb); omega
               have f1e := k4.cellEq f1c (fun hm => by have := nb _ hm; have := hgcw.out; omega)
               have d0e := k4.cellEq d0c (fun hm => by have := nb _ hm; have := hgcw.out; omega)
               have d1e := k4.cellEq d1c (fun hm => by have := nb _ hm; have := hgcw.out; omega)
               have d2e := k4.cellEq d2c (fun hm => by have := nb _ hm; have := hgcw.out; omega)
               have d3e := k4.cellEq d3c (fun hm => by have := nb _ hm; have := hgcw.out; omega)
               have d4e := k4.cellEq d4c (fun hm => by have := nb _ hm; have := hgcw.out; omega)
               have d5e := k4.cellEq d5c (fun hm => by have := nb _ hm; have := hgcw.out; omega)
               have d6e := k4.cellEq d6c (fun hm => by have := nb _ hm; have := hgcw.out; omega)
               have x0e := k4.cellEq x0c (fun hm => by have := nb _ hm; have := hgcw.out; omega)
               have x1e := k4.cellEq x1c (fun hm => by have := nb _ hm; have := hgcw.out; omega)
               have x2e := k4.cellEq x2c (fun hm => by have := nb _ hm; have := hgcw.out; omega)
               have x3e := k4.cellEq x3c (fun hm => by have := nb _ hm; have := hgcw.out; omega)
               have x4e := k4.cellEq x4c (fun hm => by have := nb _ hm; have := hgcw.out; omega)
               have x5e := k4.cellEq x5c (fun hm => by have := nb _ hm; have := hgcw.out; omega)
               have x6e := k4.cellEq x6c (fun hm => by have := nb _ hm; have := hgcw.out; omega)
               obtain ⟨A4, C4, hv4⟩ := r4.len
               rw [List.length_append, List.length_singleton, HM.out] at hv4
               have R4 := Lib.hid r4
               have HY := Lib.hid hy
               obtain ⟨gw, hgw⟩ : ∃ gw, w3.heap.size = gw := ⟨_, rfl⟩
               rw [hgw] at hr
               subst hv4
               have K4 : Hid (Keeps p.1.ownBlock.toList wr w4) := Lib.hid (by
                 rw [HV0.out]
                 exact (((Keeps.refl [] wr).drew.trans k3 (by simp)).mono (by simp)).trans k4 (fun i hi => .inl hi))
               have G4 : Hid (∀ b, (Value.slice A4 (m + 1) C4).ownBlock = some b → p.1.ownBlock = some b ∨ wr.heap.size ≤ b) := Lib.hid fun b hb => by
                 rw [HV0.out]
                 rcases g4 b hb with h1 | h1
                 · exact .inl h1
                 · exact .inr (Nat.le_trans ((Keeps.refl [] wr).drew.trans k3 (by simp)).size h1)
               clear hy r4 nb g4))
        have bt4 := K4.out.blk HT.out.blk (by rw [HV0.out]; exact fun hm => (HPO.out gt (by simpa using hm)).2 rfl)
        have t4f := bt4.frozen
        have t4l := bt4.lt
        have hput := HT.out.put HP.out K4.out R4.out G4.out (by have := HT.out.blk.lt; have := HKK.out.size; have := hgcw.out; omega)
        have kS := (Keeps.refl [gt] w4).setCell ⟨gt, t, none⟩ (.slice A4 (m + 1) C4) (.inl (by simp))
        have kall : Keeps [] w (w4.setCell ⟨gt, t, none⟩ (.slice A4 (m + 1) C4)) := (HKK.out.trans K4.out (fun b hb => by
          rw [HV0.out] at hb
          have := HPO.out b (by simpa using hb); have := hgcw.out; right; omega)).trans kS (fun b hb => by simp at hb; have := hgcw.out; right; omega)
        have bcS := kS.blk (K4.out.blk HBC.out (by
          rw [HV0.out]
          exact fun hm => by have := HPO.out gc (by simpa using hm); have := hgcw.out; omega)) (by simp; have := hgcw.out; omega)
        have hmd2 : Hid (∀ q ∈ rows.set t (Value.slice A4 (m + 1) C4, p.2 ++ [y]), q.2.length ≤ k + 1 ∧ ∀ z ∈ q.2, Made S X z) := Lib.hid fun q hq' => by
          rcases List.mem_or_eq_of_mem_set hq' with h1 | rfl
          · have := hmd.out q h1
            exact ⟨by omega, this.2⟩
          · have := hmd.out p (List.mem_of_getElem? HP.out)
            refine ⟨by rw [List.length_append, List.length_singleton]; have := HM.out; omega, fun z hz => ?_⟩
            rcases List.mem_append.1 hz with h2 | h2
            · exact this.2 z h2
            · simp at h2; subst h2; exact ⟨x, HXM.out, HY.out⟩
        clear HT K4 R4 G4 HPO HKK HBC HP KD k3 k4 d0 d1 d2 d3 d4 d5 d6 df dl f1 x0 x1 x2 x3 x4 x5 x6 tf tl bt4
        go_wp2_with fail
        go_roundw
        case rel => exact ⟨k + 1, rows.set t (Value.slice A4 (m + 1) C4, p.2 ++ [y]), by go_num, by omega, by omega, by rw [List.length_set]; exact hrl, hput, kall, bcS, hmd2⟩
        case measure => simp [intOf] <;> omega
      · go_wp2_with fail
        go_ret
        exact HF.out
    · go_wp2_with fail
      go_ret
      exact HF.out
end Go.Proofs.Ytkgmgnfcmnhhaaa
