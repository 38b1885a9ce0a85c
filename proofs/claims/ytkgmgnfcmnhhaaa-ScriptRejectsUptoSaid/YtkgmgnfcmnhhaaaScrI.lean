/- The reader of package script: the contract of program. -/
import Derived.Test.YtkgmgnfcmnhhaaaScrH
namespace Go.Proofs.Ytkgmgnfcmnhhaaa
open Go.RowKit
set_option linter.unusedSectionVars false
set_option linter.unusedVariables false
set_option linter.unusedSimpArgs false
set_option maxRecDepth 20000
theorem infoO : (Try.prog.info? 45).map (fun i => (i.zero, i.size, i.bytes)) = some (some (.agg #[.int .i64 0, .string ⟨#[]⟩, .int .u64 0, .slice none 0 0, .int .i64 0, .int .i64 0, .int .i64 0]), 7, 80) := by kernel_rfl
/-- The batch of an operation, as a value. -/
def OV.bv (x : OV) : Value := .slice x.bA x.b.length x.bc
/-- A list of operations in a block of its own, not below base, their batches in other blocks. -/
structure Pq (w : World) (base : Nat) (v : Value) (ys : List OV) : Prop where
  row : Row w v ys.length 7 (oCs ys)
  ge : ∀ g, v.ownBlock = some g → base ≤ g
  ok : ∀ y ∈ ys, Fr base w y ∧ ∀ g, v.ownBlock = some g → y.bv.ownBlock ≠ some g
theorem Fr.keeps {base : Nat} {w w' : World} {x : OV} {S : List Nat} (h : Fr base w x) (k : Keeps S w w') (hS : ∀ s ∈ S, x.bv.ownBlock ≠ some s) : Fr base w' x :=
  ⟨h.1.keeps k (fun g hg hm => hS g hm hg), h.2⟩
theorem Fr.mono {base base' : Nat} {w : World} {x : OV} (h : Fr base w x) (hb : base' ≤ base) : Fr base' w x := ⟨h.1, fun g hg => Nat.le_trans hb (h.2 g hg)⟩
theorem Pq.nil (w : World) (base : Nat) : Pq w base (.slice none 0 0) [] := ⟨Row.nil _ _, fun g hg => by simp [Value.ownBlock] at hg, by simp⟩
theorem Pq.keeps {w w' : World} {base : Nat} {v : Value} {ys : List OV} {S : List Nat} (h : Pq w base v ys) (k : Keeps S w w') (hS : ∀ s ∈ S, s < base) : Pq w' base v ys :=
  ⟨h.row.keeps k (fun g hg hm => by have := hS g hm; have := h.ge g hg; omega), h.ge, fun y hy => ⟨(h.ok y hy).1.keeps k (fun s hs hb => by have := hS s hs; have := (h.ok y hy).1.2 s hb; omega), (h.ok y hy).2⟩⟩
/-- One operation more, from a new array of one. -/
theorem op_append {w : World} {base : Nat} {v : Value} {ys : List OV} (h : Pq w base v ys) (x : OV) (hx : Fr base w x) (hxv : ∀ g, v.ownBlock = some g → x.bv.ownBlock ≠ some g) (hb : base ≤ w.heap.size) (hn : ys.length + 1 ≤ 1073741824) (c : Nat) :
    ∃ v' w', (∀ ty, (Builtin.append_ #[22, 22] ty #[v, .slice (some ⟨w.heap.size, 0, none⟩) 1 c]).run Try.prog (w.alloc (.cells #[.int .i64 x.c, .string ⟨x.k.toArray⟩, .int .u64 (x.t : Int), .slice x.bA x.b.length x.bc, .int .i64 x.h, .int .i64 x.u, .int .i64 x.m] 45)) = .ok v' w') ∧ Pq w' base v' (ys ++ [x]) ∧ Keeps v.ownBlock.toList w w' := by
  obtain ⟨i0, hi0, hz0, hz1, hz2⟩ := info_parts infoO
  have kw := (Keeps.refl [] w).alloc (.cells #[.int .i64 x.c, .string ⟨x.k.toArray⟩, .int .u64 (x.t : Int), .slice x.bA x.b.length x.bc, .int .i64 x.h, .int .i64 x.u, .int .i64 x.m] 45)
  have hbk := Blk.new w [.int .i64 x.c, .string ⟨x.k.toArray⟩, .int .u64 (x.t : Int), .slice x.bA x.b.length x.bc, .int .i64 x.h, .int .i64 x.u, .int .i64 x.m] 45
  change Blk (w.alloc (.cells #[.int .i64 x.c, .string ⟨x.k.toArray⟩, .int .u64 (x.t : Int), .slice x.bA x.b.length x.bc, .int .i64 x.h, .int .i64 x.u, .int .i64 x.m] 45)) _ _ at hbk
  have hsz : (w.alloc (.cells #[.int .i64 x.c, .string ⟨x.k.toArray⟩, .int .u64 (x.t : Int), .slice x.bA x.b.length x.bc, .int .i64 x.h, .int .i64 x.u, .int .i64 x.m] 45)).heap.size = w.heap.size + 1 := by simp
  have hsrc : ∀ (j : Nat) (u : Value), (oC x)[j]? = some u → (w.alloc (.cells #[.int .i64 x.c, .string ⟨x.k.toArray⟩, .int .u64 (x.t : Int), .slice x.bA x.b.length x.bc, .int .i64 x.h, .int .i64 x.u, .int .i64 x.m] 45)).cell? ((⟨w.heap.size, 0, none⟩ : Addr).add j) = some u := fun j u hj => by
    rw [Addr.add_lit, hbk.cell, Nat.zero_add]; exact hj
  obtain ⟨v', w', hr, r, k, f⟩ := row_append (h.row.keeps kw (by simp)) 22 22 45 i0 _ 80 Try.underlying22 hi0 hz0 hz1 hz2 rfl (by decide) ⟨w.heap.size, 0, none⟩ 1 c (oC x) rfl hsrc (oC_one x) hn (by decide)
  have hfr : ∀ y ∈ ys ++ [x], Fr base w y ∧ ∀ g, v.ownBlock = some g → y.bv.ownBlock ≠ some g := fun y hy => by
    rcases List.mem_append.1 hy with hy | hy
    · exact h.ok y hy
    · simp at hy; subst hy; exact ⟨hx, hxv⟩
  refine ⟨v', w', fun ty => by rw [← hr]; rfl, ⟨by rw [List.length_append, oCs_append, oCs_one]; exact r, fun g hg => ?_, fun y hy => ⟨?_, fun g hg he => ?_⟩⟩, (kw.mono (by simp)).trans k (fun i hi => .inl hi)⟩
  · rcases f g hg with h1 | h1
    · exact h.ge g h1
    · omega
  · exact ((hfr y hy).1.keeps kw (by simp)).keeps k (fun s hs => (hfr y hy).2 s (by simpa using hs))
  · rcases f g hg with h1 | h1
    · exact (hfr y hy).2 g h1 he
    · have := (hfr y hy).1.1.blk g he
      omega
def PrgQ (w : World) (g : Nat) (s : Except Nat Str) (q : Ending) (w' : World) : Prop :=
  ∃ v ys, q = .returned v ∧ Keeps [g] w w' ∧ Rs w' g (aft s rProg) ∧ vls s rProg (ys.map OV.op) ∧ Pq w' w.heap.size v ys
theorem prgQ (w : World) (g : Nat) (s : Except Nat Str) (h : Rs w g s) (hz : Sz s 1073741824) :
    Calls Try.prog 26 #[.pointer (some ⟨g, 0, none⟩)] w (PrgQ w g s) := by
  have hc1 := lenQ w g h
  have hg := h.lt
  go_enter Try.func26, Try.ntmps26
  go_wp2_with fail
  refine hc1.mono ?_
  rintro q w1 ⟨n0, rfl, K1, h1, u1⟩
  have U1 := Lib.hid u1
  obtain ⟨hz1, hn1⟩ := hz.len u1
  obtain ⟨s1, hs1⟩ : ∃ s1, aft s rLen = s1 := ⟨_, rfl⟩
  rw [hs1] at h1 hz1 hn1
  have HS1 := Lib.hid hs1
  have HN1 := Lib.hid hn1
  clear hs1 hn1 u1 hc1 h
  go_wp2_with fail
  go_loopw [3, 4] (fun v i wr => ∃ (m : Nat) (ys : List OV) (s' : Except Nat Str), i = .int .i64 (m : Int) ∧ Rs wr g s' ∧ Keeps [g] w wr ∧ Pq wr w.heap.size v ys ∧
    Hid (aft s1 (repR rOp n0) = aft s' (repR rOp m) ∧ (∀ zs, vls s' (repR rOp m) zs → vls s1 (repR rOp n0) (ys.map OV.op ++ zs)) ∧ (∀ L, s' = .ok L → ys.length + m ≤ 1073741824) ∧ Sz s' 1073741824)) (fun _ i _ => (intOf i).toNat)
  case atStart => exact ⟨n0, [], s1, rfl, h1, K1, Pq.nil _ _, Lib.hid ⟨rfl, fun ys hy => hy, fun L hL => by have := HN1.out L hL; simp; omega, hz1⟩⟩
  case round =>
    clear h1 K1
    obtain ⟨m, ys, s', rfl, h2, KK, hp, hsp⟩ := hrel
    obtain ⟨ee, he1, he2⟩ := h2.cell
    cases m with
    | zero =>
      have hE : aft s1 (repR rOp n0) = s' ∧ vls s1 (repR rOp n0) (ys.map OV.op) := by
        obtain ⟨q1, q2, _⟩ := hsp.out
        refine ⟨by rw [q1, aft_rep0], ?_⟩
        have := q2 [] (vls_rep0 _ _)
        rwa [List.append_nil] at this
      have HE := Lib.hid hE
      clear hE hsp
      go_wp2_with fail
      go_ret
      exact ⟨_, ys, rfl, KK, by unfold rProg; rw [aft_list U1.out, HS1.out, HE.out.1]; exact h2, vls_list U1.out (by rw [HS1.out]; exact HE.out.2), hp⟩
    | succ m =>
      cases s' with
      | error e =>
        have hee : ¬ (ee : Int) = 0 := by
          intro h0
          obtain ⟨L, hL⟩ := he2.1 (by omega)
          simp at hL
        have hE : aft s1 (repR rOp n0) = .error e ∧ vls s1 (repR rOp n0) (ys.map OV.op) := by
          obtain ⟨q1, q2, _⟩ := hsp.out
          refine ⟨by rw [q1]; rfl, ?_⟩
          have := q2 [] (vls_err _ _ _)
          rwa [List.append_nil] at this
        have HE := Lib.hid hE
        clear hE hsp
        have hmz : (0 : Int) < ((m + 1 : Nat) : Int) := by omega
        go_wp2_with fail
        go_ret
        exact ⟨_, ys, rfl, KK, by unfold rProg; rw [aft_list U1.out, HS1.out, HE.out.1]; exact h2, vls_list U1.out (by rw [HS1.out]; exact HE.out.2), hp⟩
      | ok L =>
        obtain rfl : ee = 0 := he2.2 ⟨L, rfl⟩
        clear he2
        have hroom : ys.length + 1 ≤ 1073741824 := by have := hsp.out.2.2.1 L rfl; omega
        have hm30 : m ≤ 1073741824 := by have := hsp.out.2.2.1 L rfl; omega
        have HR := Lib.hid hroom
        have hwm : wrap64 (m : Int) = (m : Int) := IntWalk.wrap64_in _ ⟨by omega, by omega⟩
        have HWM := Lib.hid hwm
        clear hroom hwm
        have hmz : (0 : Int) < ((m + 1 : Nat) : Int) := by omega
        have hm1 : ((m + 1 : Nat) : Int) - 1 = (m : Int) := by omega
        have hcq := opQ wr g _ h2 hsp.out.2.2.2
        have hszr : w.heap.size ≤ wr.heap.size := KK.size
        go_wp2_with fail
        refine hcq.mono ?_
        rintro q w3 ⟨x, rfl, K3, h3, x3, f3⟩
        have hsz3 : wr.heap.size ≤ w3.heap.size := K3.size
        have hp3 := hp.keeps K3 (by simp; omega)
        have hxv : ∀ b, u3.ownBlock = some b → x.bv.ownBlock ≠ some b := fun b hb he => by
          have := hp.row.blk b hb
          have := f3.2 b he
          omega
        have hgv : ∀ b, u3.ownBlock = some b → g < b := fun b hb => by have := hp.ge b hb; omega
        have hgw : ∀ b, u3.ownBlock = some b → w.heap.size ≤ b := hp.ge
        obtain ⟨A0, C0, hv0⟩ := hp.row.len
        obtain ⟨v', w4, hr, hp4, k4⟩ := op_append hp3 x (f3.mono hszr) hxv (by omega) HR.out 1
        obtain ⟨A4, C4, hv4⟩ := hp4.row.len
        have h4 := h3.keepsS k4 (fun b hb => hgv b (by simpa using hb))
        have K4 : Keeps [g] w w4 := (KK.trans K3 (by simp)).trans k4 (fun b hb => .inr (hgw b (by simpa using hb)))
        have hQ : aft s1 (repR rOp n0) = aft (aft (.ok L) rOp) (repR rOp m) ∧ (∀ zs, vls (aft (.ok L) rOp) (repR rOp m) zs → vls s1 (repR rOp n0) ((ys ++ [x]).map OV.op ++ zs)) ∧ (∀ L', aft (.ok L) rOp = .ok L' → (ys ++ [x]).length + m ≤ 1073741824) ∧ Sz (aft (.ok L) rOp) 1073741824 := by
          obtain ⟨q1, q2, q3, q4⟩ := hsp.out
          refine ⟨by rw [q1, aft_repS x3], fun zs hy => ?_, fun L' _ => ?_, q4.aft law_op⟩
          · rw [List.map_append, List.append_assoc]
            exact q2 (x.op :: zs) (vls_repS x3 hy)
          · have := q3 L rfl
            rw [List.length_append, List.length_singleton]; omega
        have HQ := Lib.hid hQ
        obtain ⟨gw, hgw2⟩ : ∃ gw, w3.heap.size = gw := ⟨_, rfl⟩
        rw [hgw2] at hr
        clear hQ hsp hcq h3 h2 x3 f3 hp hp3 hxv hgv hgw K3 KK he1 k4
        rw [List.length_append, List.length_singleton] at hv4
        subst hv0
        subst hv4
        go_wp2_with (at_builtin; refine list_append_eq rfl _ _ 22 22 rfl _ _ rfl rfl (hr _) ?_)
        exact ⟨⟨m, ys ++ [x], _, by first | rfl | rw [HWM.out], h4, K4, hp4, HQ⟩, by simp [intOf] <;> (try rw [HWM.out]) <;> omega⟩
end Go.Proofs.Ytkgmgnfcmnhhaaa
