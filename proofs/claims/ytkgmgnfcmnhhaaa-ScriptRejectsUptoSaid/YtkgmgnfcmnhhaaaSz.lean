/- What valid makes is a valid script whose encoding fits. -/
import Derived.Test.YtkgmgnfcmnhhaaaVal
import Derived.Test.YtkgmgnfcmnhhaaaGs
namespace Go.Proofs.Ytkgmgnfcmnhhaaa
open Go.RowKit
set_option linter.unusedSectionVars false
set_option linter.unusedVariables false
set_option linter.unusedSimpArgs false
set_option maxRecDepth 20000
theorem vi_le (k : Nat) : ∀ u : Nat, u < 2 ^ (7 * (k + 1)) → (vi u).length ≤ k + 1 := by
  induction k with
  | zero =>
    intro u hu
    unfold vi
    rw [if_pos (by omega)]
    simp
  | succ k ih =>
    intro u hu
    unfold vi
    split
    · simp
    · rw [List.length_cons]
      have : u / 128 < 2 ^ (7 * (k + 1)) := by
        rw [Nat.div_lt_iff_lt_mul (by omega)]
        have e : 2 ^ (7 * (k + 1)) * 128 = 2 ^ (7 * (k + 1 + 1)) := by rw [show 7 * (k + 1 + 1) = 7 * (k + 1) + 7 by omega, Nat.pow_add]
        omega
      have := ih _ this
      omega
theorem vi_len {u : Nat} (h : u < 2 ^ 64) : (vi u).length ≤ 10 := vi_le 9 u (by omega)
theorem eInt_len (n : Int) : (eInt n).length ≤ 10 := vi_len (ofI_lt n)
theorem eTxt_len {s : Str} {N : Nat} (h : s.length ≤ N) (hN : N ≤ 1048576) : (eTxt s).length ≤ 10 + N := by
  unfold eTxt
  rw [List.length_append]
  have := vi_len (u := s.length) (by omega)
  omega
theorem flatMap_len_le {α : Type} (f : α → Str) (m : Nat) : ∀ l : List α, (∀ x ∈ l, (f x).length ≤ m) → (l.flatMap f).length ≤ l.length * m
  | [], _ => by simp
  | x :: l, h => by
    rw [List.flatMap_cons, List.length_append, List.length_cons, Nat.succ_mul]
    have := h x (by simp)
    have := flatMap_len_le f m l fun y hy => h y (by simp [hy])
    omega
theorem eWrt_len {y : Wrt} {N : Nat} (h : WrtB N y) (hN : N ≤ 1048576) : (eWrt y).length ≤ 21 + 2 * N := by
  unfold eWrt
  rw [List.length_append, List.length_append]
  have := eTxt_len h.1 hN
  have := eTxt_len h.2 hN
  simp
  omega
theorem eOp_len {z : Opn} {N B : Nat} (hN : N ≤ 1048576) (hk : z.k.length ≤ N) (ht : z.t < 2 ^ 64) (hb : ∀ y ∈ z.b, WrtB N y) (hB : z.b.length ≤ B) (hB' : B ≤ 1000) : (eOp z).length ≤ 41 + N + B * (21 + 2 * N) := by
  have h1 := eTxt_len hk hN
  have h2 := vi_len ht
  have h3 := eInt_len z.h
  have h4 := eInt_len z.u
  have h5 := eInt_len z.m
  have h6 : (eBatch z.b).length ≤ 10 + B * (21 + 2 * N) := by
    unfold eBatch
    rw [List.length_append]
    have a1 := vi_len (u := z.b.length) (by omega)
    have a2 := flatMap_len_le eWrt (21 + 2 * N) z.b fun y hy => eWrt_len (hb y hy) hN
    have a3 := Nat.mul_le_mul_right (21 + 2 * N) hB
    omega
  generalize B * (21 + 2 * N) = Q at h6 ⊢
  unfold eOp
  rw [List.length_cons]
  unfold eBody
  split <;> (try simp only [List.length_append, List.length_nil]) <;> omega
theorem only_parts (z : OV) : ((onlyV z).k = z.k ∨ (onlyV z).k = []) ∧ ((onlyV z).t = z.t ∨ (onlyV z).t = 0) ∧ (((onlyV z).bA = z.bA ∧ (onlyV z).bc = z.bc ∧ (onlyV z).b = z.b) ∨ ((onlyV z).bA = none ∧ (onlyV z).bc = 0 ∧ (onlyV z).b = [])) := by
  unfold onlyV
  repeat' split
  all_goals simp
theorem only_vld (z : OV) (S : Int) (hc : 1 ≤ z.c ∧ z.c ≤ 9) (hh : 0 ≤ z.h ∧ z.h < S) (hu : 0 ≤ z.u ∧ z.u < 8) (hm : 0 ≤ z.m ∧ z.m < 5) : vOp S (onlyV z).op = true := by
  obtain ⟨c, k, t, bA, bc, b, h, u, m⟩ := z
  simp only at hc hh hu hm
  have hS : 0 < S := by omega
  obtain rfl | rfl | rfl | rfl | rfl | rfl | rfl | rfl | rfl : c = 1 ∨ c = 2 ∨ c = 3 ∨ c = 4 ∨ c = 5 ∨ c = 6 ∨ c = 7 ∨ c = 8 ∨ c = 9 := by omega
  case inr.inr.inr.inr.inr.inr.inl =>
    by_cases h0 : m = 0 <;> simp [onlyV, vOp, zrB, OV.op, h0, hS, hu.1, hu.2, hm.1, hm.2]
  all_goals simp [onlyV, vOp, zrB, OV.op, hS, hh.1, hh.2, hu.1, hu.2]
theorem only_okB {w : World} {z : OV} (h : OkB w z) : OkB w (onlyV z) := by
  obtain ⟨_, _, ⟨h1, h2, h3⟩ | ⟨h1, h2, h3⟩⟩ := only_parts z
  · unfold OkB at *
    rw [h1, h2, h3]; exact h
  · unfold OkB
    rw [h1, h2, h3]
    exact Lst.nil w
theorem wCs_take (l : List Wrt) (n : Nat) : wCs (l.take n) = (wCs l).take (n * 3) := by
  induction l generalizing n with
  | nil => simp [wCs]
  | cons x l ih =>
    cases n with
    | zero => simp [wCs]
    | succ n =>
      show wC x ++ wCs (l.take n) = (wC x ++ wCs l).take ((n + 1) * 3)
      have e : (wC x).length = 3 := rfl
      rw [ih, List.take_append, List.take_of_length_le (l := wC x) (by rw [e]; omega), e, show (n + 1) * 3 - 3 = n * 3 by omega]
theorem norm_okB {w : World} {S : Int} {z : OV} (h : OkB w z) : OkB w (normV S z) := by
  obtain ⟨A, cap, b, o, e, hA, har⟩ := h
  injection e with e1 e2 e3
  unfold OkB
  show Lst w (.slice z.bA (z.b.take 4).length z.bc) (z.b.take 4).length (wCs (z.b.take 4))
  have hl : (z.b.take 4).length ≤ z.b.length := by rw [List.length_take]; omega
  refine ⟨z.bA, z.bc, b, o, rfl, fun h0 => by rw [e1]; exact hA (by omega), ⟨fun i hi => ?_, fun h0 => har.lt ?_⟩⟩
  · rw [wCs_take] at hi ⊢
    rw [List.length_take] at hi
    rw [har.cells i (by omega), List.getElem?_take, if_pos (by omega)]
  · rw [wCs_take, List.length_take] at h0
    omega
/-- What is known of an operation that Only has made. -/
structure OpF (w : World) (N : Nat) (y : OV) : Prop where
  ok : OkB w y
  t : y.t < 2 ^ 64
  b : OpB N y
  n : y.b.length ≤ 4
  v : vOp 2 y.op = true
theorem made_fit {w : World} {N : Nat} {X : List OV} {y : OV} (hx : ∀ x ∈ X, OkB w x ∧ OpN x ∧ OpB N x) (h : Made 2 X y) : OpF w N y := by
  obtain ⟨x, hxm, rfl⟩ := h
  obtain ⟨h1, h2, h3⟩ := hx x hxm
  obtain ⟨p1, p2, p3⟩ := only_parts (normV 2 x)
  refine ⟨only_okB (norm_okB h1), ?_, ⟨?_, ?_⟩, ?_, only_vld _ 2 ?_ ?_ ?_ ?_⟩
  · have e : (normV 2 x).t = x.t % 12 := rfl
    rcases p2 with h | h <;> rw [h] <;> omega
  · have e : (normV 2 x).k = x.k := rfl
    rcases p1 with h | h
    · rw [h, e]; exact h3.1
    · rw [h]; simp
  · have e : (normV 2 x).b = x.b.take 4 := rfl
    rcases p3 with ⟨_, _, h⟩ | ⟨_, _, h⟩
    · rw [h, e]; exact fun y hy => h3.2 y (List.mem_of_mem_take hy)
    · rw [h]; simp
  · have e : (normV 2 x).b = x.b.take 4 := rfl
    rcases p3 with ⟨_, _, h⟩ | ⟨_, _, h⟩
    · rw [h, e, List.length_take]; omega
    · rw [h]; simp
  · show 1 ≤ 1 + x.c % 9 ∧ 1 + x.c % 9 ≤ 9; omega
  · show 0 ≤ x.h % 2 ∧ x.h % 2 < 2; omega
  · show 0 ≤ x.u % 2 ∧ x.u % 2 < 8; omega
  · show 0 ≤ x.m % 5 ∧ x.m % 5 < 5; omega
def svOf (n gt : Nat) (f1 : Int) (rows : List (Value × List OV)) (kA : Option Addr) (kc : Nat) (pk : List Int) : SV := ⟨n, 2, 100, 100, 200, f1, 1000, some ⟨gt, 0, none⟩, n, rows, kA, kc, pk⟩
structure GS (w : World) (y : SV) : Prop where
  ok : OkS w y
  sz : SzV y
  t : ∀ p ∈ y.ps, ∀ z ∈ p.2, z.t < 2 ^ 64
  len : (eScr y.scr).length ≤ 1000000000
  vld : vld y.scr = true
  scr : ScrOk y.scr
  th : 0 ≤ y.th
theorem scr_len {x : Scr} {P M K : Nat} (hth : x.th < 2 ^ 64) (hcl : x.cl < 2 ^ 64) (hp : ∀ p ∈ x.ps, (eProg p).length ≤ M) (hn : x.ps.length ≤ P) (hk : x.pk.length ≤ K) (hK : K ≤ 1048576) : (eScr x).length ≤ 80 + P * M + K * 10 := by
  have h1 := vi_len hth
  have h2 := eInt_len x.sn
  have h3 := eInt_len x.no
  have h4 := eInt_len x.ch
  have h5 := eInt_len x.re
  have h6 := eInt_len x.fa
  have h7 := vi_len hcl
  have h8 := flatMap_len_le eProg M x.ps hp
  have h9 := Nat.mul_le_mul_right M hn
  have h10 : (ePicks x.pk).length ≤ 10 + K * 10 := by
    unfold ePicks
    rw [List.length_append]
    have a1 := vi_len (u := x.pk.length) (by omega)
    have a2 := flatMap_len_le eInt 10 x.pk fun y _ => eInt_len y
    have a3 := Nat.mul_le_mul_right 10 hk
    omega
  unfold eScr
  simp only [List.length_append]
  omega
theorem prog_len {l : List Opn} {m c : Nat} (hm : m ≤ 1000) (hn : l.length ≤ m) (h : ∀ z ∈ l, (eOp z).length ≤ c) : (eProg l).length ≤ 10 + m * c := by
  unfold eProg
  rw [List.length_append]
  have a1 := vi_len (u := l.length) (by omega)
  have a2 := flatMap_len_le eOp c l h
  have a3 := Nat.mul_le_mul_right c hn
  omega
theorem gs_of {w w' : World} {X : List OV} {n gt : Nat} {f1 : Int} {rows : List (Value × List OV)} {kA : Option Addr} {kc : Nat} {pk : List Int} {N : Nat} (hN : N ≤ 1048576) (k : Keeps [] w w') (h : Vd w w' X n gt f1 rows kA kc pk) (hx : ∀ x ∈ X, OkB w x ∧ OpN x ∧ OpB N x) :
    GS w' (svOf n gt f1 rows kA kc pk) := by
  have hf : ∀ p ∈ rows, p.2.length ≤ 20 ∧ ∀ y ∈ p.2, OpF w N y := fun p hp => ⟨(h.made p hp).1, fun y hy => made_fit hx ((h.made p hp).2 y hy)⟩
  have hn4 := h.n1
  have hf4 := h.f4
  have hpk := h.picks
  have hlen := h.len
  have hvl : vld (svOf n gt f1 rows kA kc pk).scr = true := by
    refine (vld_iff _).2 ⟨?_, ?_, ?_, ?_, ?_⟩
    · show (1 ≤ (n : Int).toNat ∧ (n : Int).toNat ≤ 64) ∧ _
      refine ⟨by omega, ?_, ?_, ?_, ?_, ?_, ?_⟩
      · show (1 : Int) ≤ 2 ∧ (2 : Int) ≤ 8; omega
      · show (1 : Int) ≤ 100 ∧ (100 : Int) ≤ 4096; omega
      · show (1 : Int) ≤ 100 ∧ (100 : Int) ≤ 16384; omega
      · show (1 : Int) ≤ 200 ∧ (200 : Int) ≤ 65536; omega
      · show (4 : Int) ≤ f1 ∧ f1 ≤ 32; omega
      · show 1 ≤ 1000 ∧ 1000 ≤ 1099511627776; omega
    · show (rows.map _).length = (n : Int).toNat
      rw [List.length_map]; omega
    · intro l hl
      obtain ⟨p, hp, rfl⟩ := List.mem_map.1 hl
      unfold vProg
      rw [Bool.and_eq_true, List.all_eq_true, decide_eq_true_eq, List.length_map]
      refine ⟨by have := (hf p hp).1; omega, fun z hz => ?_⟩
      obtain ⟨y, hy, rfl⟩ := List.mem_map.1 hz
      exact ((hf p hp).2 y hy).v
    · show pk.length ≤ _; omega
    · intro p hp
      have := hpk.2 p hp
      show 0 ≤ p ∧ p < (((n : Int).toNat : Nat) : Int)
      omega
  refine ⟨⟨?_, fun p hp => ⟨(h.tab.ok p hp).1.lst, fun y hy => ((hf p hp).2 y hy).ok.keeps k⟩, h.row.lst⟩, ⟨?_, fun p hp => ⟨?_, fun z hz => ?_⟩, ?_⟩, fun p hp z hz => ((hf p hp).2 z hz).t, ?_, hvl, vld_ok hvl ?_, ?_⟩
  · have := Lst.blk (n := rows.length) (cap := n) (rest := []) (by rw [List.append_nil]; exact h.tab.blk)
    exact this
  · show rows.length ≤ _; omega
  · have := (hf p hp).1; omega
  · have := ((hf p hp).2 z hz).n; omega
  · show pk.length ≤ _; omega
  · have hop : ∀ p ∈ rows, (eProg (p.2.map OV.op)).length ≤ 10 + 20 * (41 + N + 4 * (21 + 2 * N)) := fun p hp => by
      refine prog_len (by omega) (by rw [List.length_map]; exact (hf p hp).1) fun z hz => ?_
      obtain ⟨y, hy, rfl⟩ := List.mem_map.1 hz
      have hy' := (hf p hp).2 y hy
      exact eOp_len hN hy'.b.1 hy'.t hy'.b.2 hy'.n (by omega)
    have := scr_len (x := (svOf n gt f1 rows kA kc pk).scr) (P := 4) (M := 10 + 20 * (41 + N + 4 * (21 + 2 * N))) (K := 300) (by show (n : Int).toNat < _; omega) (by show 1000 < _; omega) (fun l hl => by
      obtain ⟨p, hp, rfl⟩ := List.mem_map.1 hl
      exact hop p hp) (by show (rows.map _).length ≤ 4; rw [List.length_map]; omega) hpk.1 (by omega)
    omega
  · rintro l hl z hz
    obtain ⟨p, hp, rfl⟩ := List.mem_map.1 hl
    obtain ⟨y, hy, rfl⟩ := List.mem_map.1 hz
    have hy' := (hf p hp).2 y hy
    have h1 := hy'.b.1
    have h2 := hy'.n
    have h3 := hy'.b.2
    exact ⟨by show y.k.length < _; omega, hy'.t, by show y.b.length < _; omega, fun u hu => ⟨by have := (h3 u hu).1; omega, by have := (h3 u hu).2; omega⟩⟩
  · show (0 : Int) ≤ (n : Int); omega
theorem GS.keeps {w w' : World} {y : SV} (h : GS w y) (k : Keeps [] w w') : GS w' y := ⟨h.ok.keeps k, h.sz, h.t, h.len, h.vld, h.scr, h.th⟩
theorem val_gs (N : Nat) (hN : N ≤ 1048576) (th fa : Int) (hth : I64 th) (hfa : I64 fa) (A : Option Addr) (cap : Nat) (X : List OV) (w : World) (hv : Lst w (.slice A X.length cap) X.length (oCs X)) (hl : X.length ≤ 9223372036854775807) (hx : ∀ x ∈ X, OkB w x ∧ OpN x ∧ OpB N x)
    (B : Option Addr) (capB : Nat) (Y : List Nat) (hu : Lst w (.slice B Y.length capB) Y.length (Y.map vU8)) (hY : ∀ y ∈ Y, y ≤ 255) (hYl : Y.length ≤ 9223372036854775807) :
    Calls Try.prog 6 #[.int .i64 th, .int .i64 fa, .slice A X.length cap, .slice B Y.length capB] w fun q w' => Keeps [] w w' ∧ ∃ y : SV, GS w' y ∧ q = .returned (.agg #[.int .i64 y.th, .int .i64 y.sn, .int .i64 y.no, .int .i64 y.ch, .int .i64 y.re, .int .i64 y.fa, .int .u64 (y.cl : Int), .slice y.pA y.ps.length y.pc, .slice y.kA y.pk.length y.kc]) := by
  refine (val_any th fa hth hfa A cap X w hv hl (fun x h => ⟨(hx x h).1, (hx x h).2.1⟩) B capB Y hu hY hYl).mono ?_
  intro q w' hq
  unfold VdQ at hq
  obtain ⟨k, n, gt, f1, rows, kA, kc, pk, _, _, hvd, rfl⟩ := hq
  refine ⟨k, svOf n gt f1 rows kA kc pk, gs_of hN k hvd hx, ?_⟩
  show Ending.returned _ = Ending.returned _
  simp only [svOf, hvd.len]
  rfl
theorem vB_nat {n : Nat} (h : n ≤ 255) : vB (UInt8.ofNat n) = vU8 n := by
  unfold vB vU8
  rw [UInt8.toNat_ofNat']
  congr 1
  omega
theorem eScr_pos (x : Scr) : 0 < (eScr x).length := by
  unfold eScr
  rw [List.length_append]
  have := vi_pos x.th
  omega
/-- Bytes of whatever slice, appended to bytes in a row of their own. -/
theorem bys_append {w : World} {v : Value} {L : Str} (h : Bw w v L) (hL : 0 < L.length) {u : Value} {T : Str} (hu : Lst w u T.length (T.map vB)) (hn : L.length + T.length ≤ 1073741824) :
    ∃ v' w', (∀ ty, (Builtin.append_ #[23, 23] ty #[v, u]).run Try.prog w = .ok v' w') ∧ BQ w v w' v' (L ++ T) := by
  obtain ⟨i0, hi0, hz0, hz1, hz2⟩ := info_parts infoU8
  have hnil : ∀ (c : Nat), T = [] → ∃ v' w', (∀ ty, (Builtin.append_ #[23, 23] ty #[v, .slice none 0 c]).run Try.prog w = .ok v' w') ∧ BQ w v w' v' (L ++ T) := by
    intro c h0
    subst h0
    obtain ⟨h1, ⟨rfl, h0⟩ | ⟨g, cap, rest, rfl, hb, h2, h3, h4⟩⟩ := id h
    · omega
    · refine ⟨_, w, fun ty => ?_, by rw [List.append_nil]; exact BQ.refl h⟩
      simp [Builtin.append_, run_underlying (P := Try.prog) Try.underlying23, sizeOf, typeInfo, hi0, hz1, Builtin.lenOf, Builtin.firstCells, h2, storeCells]
  rcases hu.src (k := 1) (by simp) with ⟨rfl, h0⟩ | ⟨cap, rfl, h0⟩ | ⟨a, cap, rfl, hsrc⟩
  · exact hnil 0 (List.eq_nil_of_length_eq_zero h0)
  · exact hnil cap (List.eq_nil_of_length_eq_zero h0)
  · obtain ⟨v', w', hr, r, k, f⟩ := row_append h 23 23 5 i0 _ 1 Try.underlying23 hi0 hz0 hz1 hz2 rfl (by decide) a T.length cap (T.map vB) (by simp) hsrc (vB_one T) hn (by decide)
    refine ⟨v', w', fun ty => by rw [← hr]; rfl, ⟨?_, k, f⟩⟩
    unfold Bw
    rw [List.length_append, List.map_append]
    exact r
end Go.Proofs.Ytkgmgnfcmnhhaaa
