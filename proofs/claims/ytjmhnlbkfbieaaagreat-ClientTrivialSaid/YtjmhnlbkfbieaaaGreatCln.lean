/- The contract of client.New. -/
import Derived.Test.YtjmhnlbkfbieaaaGreatClo
import Derived.Test.YtjmhnlbkfbieaaaGreatCli
import Derived.Test.YtjmhnlbkfbieaaaGreatLay
import Derived.Deep.RegionHeld3
import Derived.Deep.RegionLaw
namespace Go.Proofs.YtjmhnlbkfbieaaaGreat
open Go.RowKit
set_option linter.unusedSectionVars false
set_option linter.unusedVariables false
set_option linter.unusedSimpArgs false
set_option maxRecDepth 20000
set_option maxHeartbeats 4000000
@[go_sem] theorem field_Config_0 (a b c d e f g : Value) (w : World) : (Instr.field 27 (.agg #[a, b, c, d, e, f, g]) 0).run Tryz.prog w = .ok a w := by kernel_rfl
@[go_sem] theorem field_Config_1 (a b c d e f g : Value) (w : World) : (Instr.field 27 (.agg #[a, b, c, d, e, f, g]) 1).run Tryz.prog w = .ok b w := by kernel_rfl
theorem infoSn : (Tryz.prog.info? 105).map (fun i => (i.zero, i.size, i.bytes)) = some (some (.agg #[.bool false, .int .u64 0]), 2, 16) := by kernel_rfl
theorem make_snap (k : Nat) (h : k ≤ 64) (w : World) : (Instr.makeSlice 64 (.int .i64 (k : Int)) (.int .i64 (k : Int))).run Tryz.prog w = .ok (.slice (some ⟨w.heap.size, 0, none⟩) k k) (w.alloc (.cells (madeCells (Value.agg #[.bool false, .int .u64 0]).cells (k * 2)) 105)) := by
  obtain ⟨i, hi, hz0, hz1, hz2⟩ := info_parts infoSn
  have := run_make (P := Tryz.prog) w 64 105 i _ Tryz.underlying64 hi hz0 .i64 .i64 k k (by omega) (by omega) (by rw [hz2]; omega) (by omega)
  rw [hz1] at this
  rw [this]
  simp only [Int.toNat_natCast]
theorem set_self {cs : List Value} {i : Nat} {v : Value} (h : cs[i]? = some v) : cs.set i v = cs := by
  apply List.ext_getElem?
  intro j
  rw [List.getElem?_set]
  split
  · subst_vars
    split
    · exact h.symm
    · rw [List.getElem?_eq_none (by omega)] at h
      simp at h
  · rfl
theorem opx_append {w : World} {v : Value} {l : List OV} (h : Row w v l.length 7 (oCs l)) (x : OV) (hn : l.length + 1 ≤ 1073741824) (c : Nat) :
    ∃ v' w', (∀ ty, (Builtin.append_ #[37, 37] ty #[v, .slice (some ⟨w.heap.size, 0, none⟩) 1 c]).run Tryz.prog (w.alloc (.cells #[.int .i64 x.c, .string ⟨x.k.toArray⟩, .int .u64 (x.t : Int), .slice x.bA x.b.length x.bc, .int .i64 x.h, .int .i64 x.u, .int .i64 x.m] 25)) = .ok v' w') ∧ Row w' v' (l.length + 1) 7 (oCs (l ++ [x])) ∧ Keeps v.ownBlock.toList w w' ∧ ∀ g, v'.ownBlock = some g → v.ownBlock = some g ∨ w.heap.size ≤ g := by
  obtain ⟨i0, hi0, hz0, hz1, hz2⟩ := info_parts infoO
  have kw := (Keeps.refl [] w).alloc (.cells #[.int .i64 x.c, .string ⟨x.k.toArray⟩, .int .u64 (x.t : Int), .slice x.bA x.b.length x.bc, .int .i64 x.h, .int .i64 x.u, .int .i64 x.m] 25)
  have hbk := Blk.new w [.int .i64 x.c, .string ⟨x.k.toArray⟩, .int .u64 (x.t : Int), .slice x.bA x.b.length x.bc, .int .i64 x.h, .int .i64 x.u, .int .i64 x.m] 25
  change Blk (w.alloc (.cells #[.int .i64 x.c, .string ⟨x.k.toArray⟩, .int .u64 (x.t : Int), .slice x.bA x.b.length x.bc, .int .i64 x.h, .int .i64 x.u, .int .i64 x.m] 25)) _ _ at hbk
  have hsz : (w.alloc (.cells #[.int .i64 x.c, .string ⟨x.k.toArray⟩, .int .u64 (x.t : Int), .slice x.bA x.b.length x.bc, .int .i64 x.h, .int .i64 x.u, .int .i64 x.m] 25)).heap.size = w.heap.size + 1 := by simp
  have hsrc : ∀ (j : Nat) (u : Value), (oC x)[j]? = some u → (w.alloc (.cells #[.int .i64 x.c, .string ⟨x.k.toArray⟩, .int .u64 (x.t : Int), .slice x.bA x.b.length x.bc, .int .i64 x.h, .int .i64 x.u, .int .i64 x.m] 25)).cell? ((⟨w.heap.size, 0, none⟩ : Addr).add j) = some u := fun j u hj => by
    rw [Addr.add_lit, hbk.cell, Nat.zero_add]; exact hj
  obtain ⟨v', w', hr, r, k, f⟩ := row_append (h.keeps kw (by simp)) 37 37 25 i0 _ 80 Tryz.underlying37 hi0 hz0 hz1 hz2 rfl (by decide) ⟨w.heap.size, 0, none⟩ 1 c (oC x) rfl hsrc (oC_one x) hn (by decide)
  refine ⟨v', w', fun ty => by rw [← hr]; rfl, by rw [oCs_append, oCs_one]; exact r, (kw.mono (by simp)).trans k (fun i hi => .inl hi), fun g hg => ?_⟩
  rcases f g hg with h1 | h1
  · exact .inl h1
  · exact .inr (by omega)
def CNewQ (w : World) (ok : Bool) (q : Ending) (w' : World) : Prop :=
  Keeps [] w w' ∧ if ok = true then ∃ gc, q = .returned (.tuple #[.pointer (some ⟨gc, 0, none⟩), .int .i64 0]) else q = .returned (.tuple #[.pointer none, .int .i64 1])
theorem cnew_any (T S N C R F K : Int) (h : CfgOK T S N C R F K) (i : Int) (hi : 0 ≤ i ∧ i < T) (b : List OV) (hn : b.length ≤ 1073741824) (hb : ∀ x ∈ b, x.b.length ≤ 1073741824) (A : Option Addr) (cap : Nat) (w : World) (hv : Lst w (.slice A b.length cap) b.length (oCs b)) (hk : ∀ x ∈ b, OkB w x) :
    Calls Tryz.prog 11 #[.agg #[.int .i64 T, .int .i64 S, .int .i64 N, .int .i64 C, .int .i64 R, .int .i64 F, .int .u64 K], .int .i64 i, .slice A b.length cap] w (CNewQ w (vProg S (b.map OV.op))) := by
  have S0 := h.S0
  have S1 := h.S1
  have hin : (decide (0 ≤ i) && decide (i < T)) = true := by simp [hi.1, hi.2]
  have kl := (Keeps.refl [] w).alloc (.cells #[.int .i64 T, .int .i64 S, .int .i64 N, .int .i64 C, .int .i64 R, .int .i64 F, .int .u64 K] 31)
  have bl := Blk.new w [.int .i64 T, .int .i64 S, .int .i64 N, .int .i64 C, .int .i64 R, .int .i64 F, .int .u64 K] 31
  change Blk (w.alloc (.cells #[.int .i64 T, .int .i64 S, .int .i64 N, .int .i64 C, .int .i64 R, .int .i64 F, .int .u64 K] 31)) _ _ at bl
  obtain ⟨n, hnn⟩ : ∃ n, b.length = n := ⟨_, rfl⟩
  rw [hnn] at hn ⊢
  have Hn := Lib.hid hnn
  clear hnn h
  go_enter Tryz.func11, Tryz.ntmps11
  go_wp2_with fail
  refine (config_any T S N C R F K _).mono ?_
  rintro q w1 ⟨rfl, k1⟩
  have K1 := kl.trans k1 (by simp)
  have bl1 := k1.blk bl (by simp)
  go_wp2_with fail
  refine (inside_any i T _).mono ?_
  rintro q w2 ⟨rfl, rfl⟩
  rw [hin]
  by_cases hlen : n ≤ 4096
  · go_upto_region 3 with fail
    obtain ⟨s, rfl⟩ : ∃ s : Nat, S = (s : Int) := ⟨S.toNat, by omega⟩
    have hmk := make_snap s (by omega)
    obtain ⟨gl, hgl⟩ : ∃ gl, w.heap.size = gl := ⟨_, rfl⟩
    rw [hgl] at bl1 ⊢
    obtain ⟨l0, l1, l2, l3, l4, l5, l6, lf, ll⟩ := bl1.o7
    go_cut [8] from 14 to 29 (fun s8 wx => ∃ (gc : Nat) (cs : List Value), s8 = .pointer (some ⟨gc, 0, none⟩) ∧ w.heap.size ≤ gc ∧ Blk wx gc cs ∧ cs[8]? = some (.slice none 0 0) ∧ 8 < cs.length ∧ Blk wx gl [.int .i64 T, .int .i64 (s : Int), .int .i64 N, .int .i64 C, .int .i64 R, .int .i64 F, .int .u64 K] ∧ gc ≠ gl ∧ Keeps [] w wx)
    case first =>
      go_region_held3 (fun w' => w'.cell? ⟨gl, 0, none⟩ = some (.int .i64 T) ∧ w'.cell? ⟨gl, 1, none⟩ = some (.int .i64 (s : Int)) ∧ w'.cell? ⟨gl, 2, none⟩ = some (.int .i64 N) ∧ w'.cell? ⟨gl, 3, none⟩ = some (.int .i64 C) ∧ w'.cell? ⟨gl, 4, none⟩ = some (.int .i64 R) ∧ w'.cell? ⟨gl, 5, none⟩ = some (.int .i64 F) ∧ w'.cell? ⟨gl, 6, none⟩ = some (.int .u64 K))
        (first
          | exact ⟨b3.cell 0, b3.cell 1, b3.cell 2, b3.cell 3, b3.cell 4, b3.cell 5, b3.cell 6⟩
          | go_keep)
        ((go_at_call 23; refine (config_any T s N C R F K _).mono ?_; rintro q w3 ⟨rfl, k3⟩; have b3 := k3.blk bl1.drew (by simp); have hm3 := hmk w3; generalize madeCells (Value.agg #[.bool false, .int .u64 0]).cells (s * 2) = cs3 at hm3))
      go_wp2_with fail
      go_meet
      have hg3 := b3.lt
      have hs3 : w.heap.size ≤ w3.heap.size := by have := K1.size; have := k3.size; omega
      refine ⟨w3.heap.size + 1, _, rfl, by omega, Blk.new_at _ (w3.heap.size + 1) _ _ (by simp), rfl, by simp, (b3.alloc _).alloc _, by omega, (((K1.drew.trans k3 (by simp)).alloc _).alloc _)⟩
    case rest =>
    obtain ⟨gc, cs, rfl, hgcw, bc, hc8, hcl, bl2, hne, K2⟩ := hcut
    clear hmk l0 l1 l2 l3 l4 l5 l6 lf ll bl1 K1 bl kl k1
    go_wp2_with fail
    go_loopw [32] (fun i wr => ∃ (k : Nat) (l : List OV) (A5 : Option Addr) (C5 : Nat), i = .int .i64 (k : Int) ∧ k ≤ n ∧ l.length = k ∧ Row wr (.slice A5 k C5) k 7 (oCs l) ∧ (∀ b, (Value.slice A5 k C5).ownBlock = some b → w.heap.size ≤ b ∧ b ≠ gc ∧ b ≠ gl) ∧ Blk wr gc (cs.set 8 (.slice A5 k C5)) ∧ Blk wr gl [.int .i64 T, .int .i64 (s : Int), .int .i64 N, .int .i64 C, .int .i64 R, .int .i64 F, .int .u64 K] ∧ Keeps [] w wr ∧ Hid (∀ x ∈ b.take k, vOp (s : Int) x.op = true)) (fun i _ => n - (intOf i).toNat)
    case atStart => exact ⟨0, [], none, 0, rfl, by omega, rfl, Row.nil _ _, fun b hb => by simp [Value.ownBlock] at hb, by
      rw [set_self hc8]
      exact bc, bl2, K2, Lib.hid (by simp)⟩
    case round =>
      clear bc bl2 K2
      obtain ⟨k, l, A5, C5, rfl, hkn, hll, r, hown, bc, bl2, K2, hval⟩ := hrel
      by_cases hlt : k < n
      · have hkx : k < b.length := by rw [Hn.out]; exact hlt
        obtain ⟨x, hx⟩ : ∃ x, b[k]? = some x := ⟨_, List.getElem?_eq_getElem hkx⟩
        have hxm := List.mem_of_getElem? hx
        have hv' : Lst wr (.slice A n cap) n (oCs b) := by rw [← Hn.out]; exact hv.keeps K2
        obtain ⟨gx, ox, hAx, hc, hgx⟩ := hv'.atS Hn.out hx
        have hl0 := hc.load
        have hst := store_new wr x
        have kb := (Keeps.refl [] wr).alloc (.cells #[.int .i64 x.c, .string ⟨x.k.toArray⟩, .int .u64 (x.t : Int), .slice x.bA x.b.length x.bc, .int .i64 x.h, .int .i64 x.u, .int .i64 x.m] 25)
        have bo := new_op wr x
        have bla := kb.blk bl2 (by simp)
        have bca := kb.blk bc (by simp)
        have ra := r.keeps kb (by simp)
        have K3 := K2.trans kb (by simp)
        have hgol : gl < wr.heap.size := bl2.lt
        have hgoc : gc < wr.heap.size := bc.lt
        have hgoo : ∀ b, (Value.slice A5 k C5).ownBlock = some b → b < wr.heap.size := r.blk
        obtain ⟨go, hgo⟩ : ∃ go, wr.heap.size = go := ⟨_, rfl⟩
        rw [hgo] at bo hgol hgoc hgoo hst
        have htake : b.take (k + 1) = b.take k ++ [x] := by rw [List.take_add_one, hx]; rfl
        have Ht := Lib.hid htake
        rw [hAx]
        clear hx hv' hc bl2 bc r htake
        go_upto_region 7 with (first
          | (refine list_load_eq rfl 25 _ rfl _ rfl _ hl0 ?_)
          | (refine list_store_eq rfl 25 _ _ rfl _ rfl _ rfl (hst _ rfl) ?_))
        obtain ⟨w3, hw3⟩ : ∃ w3, wr.alloc (.cells #[.int .i64 x.c, .string ⟨x.k.toArray⟩, .int .u64 (x.t : Int), .slice x.bA x.b.length x.bc, .int .i64 x.h, .int .i64 x.u, .int .i64 x.m] 25) = w3 := ⟨_, rfl⟩
        rw [hw3] at bo bla bca ra K3 ⊢
        obtain ⟨l0, l1, l2, l3, l4, l5, l6, lf, ll⟩ := bla.o7
        obtain ⟨o0, o1, o2, o3, o4, o5, o6, of, ol⟩ := bo.o7
        clear hw3 kb hl0 hst
        have bld := bla.drew
        have bod := bo.drew
        go_region_held3 (fun w' => (w'.cell? ⟨gl, 0, none⟩ = some (.int .i64 T) ∧ w'.cell? ⟨gl, 1, none⟩ = some (.int .i64 (s : Int)) ∧ w'.cell? ⟨gl, 2, none⟩ = some (.int .i64 N) ∧ w'.cell? ⟨gl, 3, none⟩ = some (.int .i64 C) ∧ w'.cell? ⟨gl, 4, none⟩ = some (.int .i64 R) ∧ w'.cell? ⟨gl, 5, none⟩ = some (.int .i64 F) ∧ w'.cell? ⟨gl, 6, none⟩ = some (.int .u64 K)) ∧
            w'.cell? ⟨go, 0, none⟩ = some (.int .i64 x.c) ∧ w'.cell? ⟨go, 1, none⟩ = some (.string ⟨x.k.toArray⟩) ∧ w'.cell? ⟨go, 2, none⟩ = some (.int .u64 (x.t : Int)) ∧ w'.cell? ⟨go, 3, none⟩ = some (.slice x.bA x.b.length x.bc) ∧ w'.cell? ⟨go, 4, none⟩ = some (.int .i64 x.h) ∧ w'.cell? ⟨go, 5, none⟩ = some (.int .i64 x.u) ∧ w'.cell? ⟨go, 6, none⟩ = some (.int .i64 x.m))
          (first
            | exact ⟨⟨bl6.cell 0, bl6.cell 1, bl6.cell 2, bl6.cell 3, bl6.cell 4, bl6.cell 5, bl6.cell 6⟩, bo6.cell 0, bo6.cell 1, bo6.cell 2, bo6.cell 3, bo6.cell 4, bo6.cell 5, bo6.cell 6⟩
            | exact ⟨⟨bl5.cell 0, bl5.cell 1, bl5.cell 2, bl5.cell 3, bl5.cell 4, bl5.cell 5, bl5.cell 6⟩, bo5.cell 0, bo5.cell 1, bo5.cell 2, bo5.cell 3, bo5.cell 4, bo5.cell 5, bo5.cell 6⟩
            | go_keep)
          ((first
            | (go_at_call 12; refine (cliValid_any T s N C R F K x _).mono ?_; rintro q w6 ⟨rfl, k6⟩; have bl6 := k6.blk bl5 (by simp); have bo6 := k6.blk bo5 (by simp))
            | (go_at_call 23; refine (config_any T s N C R F K _).mono ?_; rintro q w5 ⟨rfl, k5⟩; have bl5 := k5.blk bld (by simp); have bo5 := k5.blk bod (by simp))))
        have K6 := (K3.drew.trans k5 (by simp)).trans k6 (by simp)
        have bc6 := k6.blk (k5.blk bca.drew (by simp)) (by simp)
        have r6 := ((ra.keeps ((Keeps.refl [] w3).drew) (by simp)).keeps k5 (by simp)).keeps k6 (by simp)
        clear bld bod bl5 bo5 bla bo bca ra K3 k5 k6 l0 l1 l2 l3 l4 l5 l6 lf ll o0 o1 o2 o3 o4 o5 o6 of ol
        obtain ⟨o0, o1, o2, o3, o4, o5, o6, of, ol⟩ := bo6.o7
        cases hvx : vOp (s : Int) x.op with
        | false =>
          have hvv : vProg (s : Int) (b.map OV.op) = false := by
            cases hh : vProg (s : Int) (b.map OV.op) with
            | false => rfl
            | true =>
              simp only [vProg, Bool.and_eq_true, List.all_eq_true] at hh
              have := hh.2 x.op (List.mem_map.2 ⟨x, hxm, rfl⟩)
              rw [hvx] at this
              exact absurd this (by simp)
          go_wp2_with fail
          go_ret2
          refine ⟨K6, ?_⟩
          rw [hvv]
          rfl
        | true =>
          have hval2 : Hid (∀ y ∈ b.take (k + 1), vOp (s : Int) y.op = true) := Lib.hid (by
            rw [Ht.out]
            intro y hy
            rcases List.mem_append.1 hy with hy | hy
            · exact hval.out y hy
            · simp at hy; subst hy; exact hvx)
          have hq := cloW x.b (hb x hxm) x.bA x.bc w6 ((hk x hxm).keeps K6)
          clear hvx hval Ht
          go_wp2_with fail
          refine hq.mono ?_
          rintro q w7 ⟨v7, rfl, r7, f7, k7⟩
          obtain ⟨A7, C7, rfl⟩ := r7.len
          have bo7 := k7.blk bo6 (by simp)
          have bl7 := k7.blk bl6 (by simp)
          have bc7 := k7.blk bc6 (by simp)
          have rr7 := r6.keeps k7 (by simp)
          have K7 := K6.trans k7 (by simp)
          clear bo6 bl6 bc6 r6 K6 k7 hq o0 o1 o2 o3 o4 o5 o6 of ol r7
          obtain ⟨o0, o1, o2, o3, o4, o5, o6, of, ol⟩ := bo7.o7
          have kS := (Keeps.refl [go] w7).setCell ⟨go, 3, none⟩ (.slice A7 x.b.length C7) (.inl (by simp))
          obtain ⟨x', hx'⟩ : ∃ x' : OV, ({ x with bA := A7, bc := C7 } : OV) = x' := ⟨_, rfl⟩
          have bo8 : Blk (w7.setCell ⟨go, 3, none⟩ (.slice A7 x.b.length C7)) go [.int .i64 x'.c, .string ⟨x'.k.toArray⟩, .int .u64 (x'.t : Int), .slice x'.bA x'.b.length x'.bc, .int .i64 x'.h, .int .i64 x'.u, .int .i64 x'.m] := by
            have := bo7.set 3 (.slice A7 x.b.length C7)
            rw [← hx']
            simpa [List.set] using this
          have hne1 : gl ≠ go := by omega
          have hne2 : gc ≠ go := by omega
          have bl8 := kS.blk bl7 (by simpa using hne1)
          have bc8 := kS.blk bc7 (by simpa using hne2)
          have rr8 := rr7.keeps kS (fun b hb hm => by simp at hm; subst hm; have := hgoo _ hb; omega)
          have hwgo : w.heap.size ≤ go := by have := K2.size; omega
          have K8 := K7.trans kS (by simp; omega)
          clear bo7 bl7 bc7 rr7 K7
          go_upto_region 10 with fail
          obtain ⟨w8, hw8⟩ : ∃ w8, w7.setCell ⟨go, 3, none⟩ (.slice A7 x.b.length C7) = w8 := ⟨_, rfl⟩
          rw [hw8] at bo8 bl8 bc8 rr8 K8 ⊢
          clear hw8 o0 o1 o2 o3 o4 o5 o6 of ol kS
          obtain ⟨o0, o1, o2, o3, o4, o5, o6, of, ol⟩ := bo8.o7
          have c8 := bc8.cell 8
          rw [List.getElem?_set_self hcl] at c8
          have cf := bc8.frozen
          have cl := bc8.lt
          have rd : Row w8.drew (.slice A5 l.length C5) l.length 7 (oCs l) := by rw [hll]; exact rr8.keeps ((Keeps.refl [] w8).drew) (by simp)
          obtain ⟨v9, w9, hr, r9, k9, f9⟩ := opx_append rd x' (by omega) 1
          rw [hll] at hr r9 k9 f9
          obtain ⟨A9, C9, rfl⟩ := r9.len
          obtain ⟨gw, hgw⟩ : ∃ gw, w8.drew.heap.size = gw := ⟨_, rfl⟩
          have hgw' : w8.heap.size = gw := hgw
          rw [hgw] at hr
          have hcl8 : ∀ o, (w8.alloc o).cell? ⟨gc, 8, none⟩ = some (.slice A5 k C5) := fun o => Lib.cell?_alloc_some o c8
          have hb0 : ∀ o, (w8.alloc o).cell? ⟨go, 0, none⟩ = some (.int .i64 x'.c) := fun o => Lib.cell?_alloc_some o o0
          change ∀ ty, (Builtin.append_ #[37, 37] ty #[.slice A5 k C5, .slice (some ⟨gw, 0, none⟩) 1 1]).run Tryz.prog (w8.alloc (.cells #[.int .i64 x'.c, .string ⟨x'.k.toArray⟩, .int .u64 (x'.t : Int), .slice x'.bA x'.b.length x'.bc, .int .i64 x'.h, .int .i64 x'.u, .int .i64 x'.m] 25)).drew = _ at hr
          have bc9 : Blk w9 gc (cs.set 8 (.slice A5 k C5)) := k9.blk bc8.drew (fun hm => (hown gc (by simpa using hm)).2.1 rfl)
          have bl9 := k9.blk bl8.drew (fun hm => (hown gl (by simpa using hm)).2.2 rfl)
          have cf9 := bc9.frozen
          have cl9 := bc9.lt
          have c89 := bc9.cell 8
          rw [List.getElem?_set_self hcl] at c89
          have K9 : Keeps [] w w9 := K8.drew.trans k9 (fun b hb => .inr (hown b (by simpa using hb)).1)
          have mixed : Tryz.prog.follows .mixedOrders = true := by kernel_rfl
          have HK := Lib.hid K9
          have HB := Lib.hid bc9
          have HL := Lib.hid bl9
          have HRR := Lib.hid r9
          have H9 := Lib.hid f9
          clear K9 bc9 bl9 rd rr8 bc8 bl8 bo8 K8 k9 r9 f9 hx'
          go_region_law_o (first | (refine step_append_eq rfl _ _ 37 37 rfl (.slice A5 k C5) (.slice (some ⟨gw, 0, none⟩) 1 1) (by simp [Act.eval, Act.put]) (by simp [Act.eval, Act.put]) (hr _) ?_))
          all_goals
            have kSS := (Keeps.refl [gc] w9).setCell ⟨gc, 8, none⟩ (.slice A9 (k + 1) C9) (.inl (by simp))
            have hownA : ∀ b, (Value.slice A9 (k + 1) C9).ownBlock = some b → w.heap.size ≤ b ∧ b ≠ gc ∧ b ≠ gl := fun b hb => by
              rcases H9.out b hb with h1 | h1
              · exact hown b h1
              · have hsz8 : w8.drew.heap.size = w8.heap.size := rfl
                refine ⟨by omega, by omega, by omega⟩
            have bcN : Blk (w9.setCell ⟨gc, 8, none⟩ (.slice A9 (k + 1) C9)) gc (cs.set 8 (.slice A9 (k + 1) C9)) := by
              have := HB.out.set 8 (.slice A9 (k + 1) C9)
              rwa [List.set_set] at this
            have blN := kSS.blk HL.out (by simp; exact fun h => hne h.symm)
            have rN := HRR.out.keeps kSS (fun b hb hm => by simp at hm; exact (hownA b hb).2.1 hm)
            have KN := HK.out.trans kSS (by simp; omega)
            have hllN : (l ++ [x']).length = k + 1 := by simp [hll]
            clear hr c8 c89 hcl8 hb0 HB HL HRR HK H9
            clear hAx
            go_wp2_with fail
            exact ⟨⟨k + 1, l ++ [x'], A9, C9, by go_num, by omega, hllN, rN, hownA, bcN, blN, KN, hval2⟩, by simp [intOf] <;> omega⟩
      · obtain rfl : k = n := by omega
        have hvv : vProg (s : Int) (b.map OV.op) = true := by
          unfold vProg
          simp only [Bool.and_eq_true, decide_eq_true_eq, List.all_eq_true, List.length_map, List.mem_map]
          refine ⟨by rw [Hn.out]; exact hlen, ?_⟩
          rintro z ⟨x, hx, rfl⟩
          have := hval.out x
          rw [← Hn.out, List.take_length] at this
          exact this hx
        go_wp2_with fail
        go_ret2
        refine ⟨K2, ?_⟩
        rw [hvv]
        exact ⟨gc, rfl⟩
  · have hlen' : (4096 : Int) < (n : Int) := by omega
    have hv : vProg S (b.map OV.op) = false := by unfold vProg; rw [List.length_map, Hn.out]; simp [hlen]
    rw [hv]
    go_wp2_with fail
    go_ret2
    exact ⟨K1, by simp [hv]⟩
end Go.Proofs.YtjmhnlbkfbieaaaGreat
