/- Lemmas on the way to LinearAcceptsSequential. No condition. -/
import Derived.Test.YtbcgpjfejpcgnaaGreatRBa
import Derived.Deep.RegionHeld3
import Derived.Deep.CutRange
set_option linter.unusedSimpArgs false
set_option linter.unusedVariables false
set_option linter.unusedSectionVars false
section
namespace Go.Proofs.YtbcgpjfejpcgnaaGreat
open Go.RowKit Go.Maps Go.MapKept Go.ChangeMaps
set_option maxRecDepth 100000
set_option linter.unusedSimpArgs false
set_option linter.unusedVariables false
set_option linter.unusedSectionVars false
structure PR (w : World) (base p m ns nc : Nat) (Q : List Nat) (N : Nat) (s : WS) : Prop where
  hp : Blk w p [.pointer (some ⟨m, 0, none⟩), .map (some ns), .map (some nc)]
  mo : MoP w base Q m N s.Bs s.F s.Ss
  sn : SnP w ns N s.Ss
  cu : CuP w nc N s.Cs
  q : p ∈ Q ∧ ns ∈ Q ∧ nc ∈ Q
  ne : ns ≠ nc
  ge : base ≤ ns ∧ base ≤ nc
def Kq (base : Nat) (Q : List Nat) (ns nc : Nat) (w w' : World) : Prop := ∃ S, (∀ i ∈ S, base ≤ i ∧ (i ∉ Q ∨ i = ns ∨ i = nc)) ∧ Keeps S w w'
variable {w w' w'' : World} {base p m ns nc N : Nat} {Q Q' : List Nat} {s : WS}
theorem Kq.of (h : Keeps [] w w') : Kq base Q ns nc w w' := ⟨[], by simp, h⟩
theorem Kq.ofp (h : Kp base Q w w') : Kq base Q ns nc w w' := by
  obtain ⟨S, h1, h2⟩ := h
  exact ⟨S, fun i hi => ⟨(h1 i hi).1, .inl (h1 i hi).2⟩, h2⟩
theorem Kq.ofn (h : Keeps [ns] w w') (hb : base ≤ ns) : Kq base Q ns nc w w' := ⟨[ns], fun i hi => by simp at hi; subst hi; exact ⟨hb, .inr (.inl rfl)⟩, h⟩
theorem Kq.ofc (h : Keeps [nc] w w') (hb : base ≤ nc) : Kq base Q ns nc w w' := ⟨[nc], fun i hi => by simp at hi; subst hi; exact ⟨hb, .inr (.inr rfl)⟩, h⟩
theorem Kq.trans (h : Kq base Q ns nc w w') (k : Kq base Q ns nc w' w'') : Kq base Q ns nc w w'' := by
  obtain ⟨S, h1, h2⟩ := h
  obtain ⟨S', h3, h4⟩ := k
  exact ⟨S ++ S', fun i hi => (List.mem_append.1 hi).elim (h1 i) (h3 i), (h2.mono (fun i hi => .inl (List.mem_append_left _ hi))).trans h4 (fun i hi => .inl (List.mem_append_right _ hi))⟩
theorem Kq.subQ (h : Kq base Q' ns nc w w') (hQ : ∀ q ∈ Q, q ∈ Q') : Kq base Q ns nc w w' := by
  obtain ⟨S, h1, h2⟩ := h
  exact ⟨S, fun i hi => ⟨(h1 i hi).1, (h1 i hi).2.imp (fun h hm => h (hQ i hm)) id⟩, h2⟩
theorem Kq.blk (h : Kq base Q ns nc w w') {g : Nat} {cs : List Value} (hb : Blk w g cs) (hg : g < base ∨ (g ∈ Q ∧ g ≠ ns ∧ g ≠ nc)) : Blk w' g cs := by
  obtain ⟨S, h1, h2⟩ := h
  refine h2.blk hb (fun hm => ?_)
  have := h1 g hm
  rcases hg with hg | ⟨g1, g2, g3⟩
  · omega
  · rcases this.2 with h | h | h
    · exact h g1
    · exact g2 h
    · exact g3 h
theorem Kq.size (h : Kq base Q ns nc w w') : w.heap.size ≤ w'.heap.size := by
  obtain ⟨S, h1, h2⟩ := h
  exact h2.size
theorem Kq.keeps (h : Kq base Q ns nc w w') {W : World} (k : Keeps [] W w) (hb : W.heap.size ≤ base) : Keeps [] W w' := by
  obtain ⟨S, h1, h2⟩ := h
  exact k.trans h2 (fun i hi => .inr (by have := (h1 i hi).1; omega))
theorem Kq.fresh {g : Nat} (h : Kq base Q ns nc w w') (k : Keeps [g] w' w'') (hg : w.heap.size ≤ g) : Kq base Q ns nc w w'' := by
  obtain ⟨S, h1, h2⟩ := h
  exact ⟨S, h1, h2.trans k (fun i hi => .inr (by simp at hi; omega))⟩
theorem PR.keeps (h : PR w base p m ns nc Q N s) (k : Keeps [] w w') : PR w' base p m ns nc Q N s :=
  ⟨k.blk h.hp (by simp), h.mo.keeps k, h.sn.keeps k (by simp), h.cu.keeps k (by simp), h.q, h.ne, h.ge⟩
theorem PR.nel (h : PR w base p m ns nc Q N s) : ns < w.heap.size ∧ nc < w.heap.size ∧ p < w.heap.size := by
  obtain ⟨_, _, _, h1, _⟩ := h.sn
  obtain ⟨_, _, _, h2, _⟩ := h.cu
  exact ⟨h1.lt, h2.lt, h.hp.lt⟩
theorem map_ne {w : World} {g b : Nat} {cs : List Value} {T : TypeId} {R : Value → Option (DataW Value × List MemPlace)} {n : Nat} {D : DataW Value} (hb : Blk w g cs) (h : w.ownsMap Tryz.prog T R b n D) : g ≠ b := by
  rintro rfl
  obtain ⟨es, clock, h1, _⟩ := h
  obtain ⟨T, h2⟩ := hb
  rw [h1] at h2
  cases h2
theorem PR.nep (h : PR w base p m ns nc Q N s) {g : Nat} {cs : List Value} (hb : Blk w g cs) : g ≠ ns ∧ g ≠ nc := by
  obtain ⟨_, _, _, h1, _⟩ := h.sn
  obtain ⟨_, _, _, h2, _⟩ := h.cu
  exact ⟨map_ne hb h1, map_ne hb h2⟩
theorem PR.addQ (h : PR w base p m ns nc Q N s) (k : Keeps [] w w') {L : List Nat} (hL : ∀ g ∈ L, w.heap.size ≤ g ∧ g < w'.heap.size) : PR w' base p m ns nc (Q ++ L) N s :=
  ⟨k.blk h.hp (by simp), h.mo.addQ k hL, h.sn.keeps k (by simp), h.cu.keeps k (by simp), ⟨List.mem_append_left _ h.q.1, List.mem_append_left _ h.q.2.1, List.mem_append_left _ h.q.2.2⟩, h.ne, h.ge⟩
theorem PR.subQ (h : PR w base p m ns nc Q' N s) (hQ : ∀ q ∈ Q, q ∈ Q') (hq : p ∈ Q ∧ ns ∈ Q ∧ nc ∈ Q) : PR w base p m ns nc Q N s :=
  ⟨h.hp, h.mo.subQ hQ, h.sn, h.cu, hq, h.ne, h.ge⟩
theorem PR.mono {N' : Nat} (h : PR w base p m ns nc Q N s) (hN : N ≤ N') : PR w base p m ns nc Q N' s :=
  ⟨h.hp, h.mo.mono hN, h.sn.mono hN, h.cu.mono hN, h.q, h.ne, h.ge⟩
theorem PR.beside {S : List Nat} (h : PR w base p m ns nc Q N s) (k : Keeps S w w') (hS : ∀ i ∈ S, i ∈ Q ∧ i ≠ p ∧ i ≠ ns ∧ i ≠ nc) : PR w' base p m ns nc Q N s :=
  ⟨k.blk h.hp (fun hm => (hS _ hm).2.1 rfl), h.mo.beside k (fun i hi => (hS i hi).1), h.sn.keeps k (fun hm => (hS _ hm).2.2.1 rfl), h.cu.keeps k (fun hm => (hS _ hm).2.2.2 rfl), h.q, h.ne, h.ge⟩
theorem PR.fresh {g : Nat} (h : PR w base p m ns nc Q N s) (k : Keeps [] w w') (k2 : Keeps [g] w' w'') (hg : w.heap.size ≤ g) (hl : g < w'.heap.size) : PR w'' base p m ns nc Q N s := by
  have h1 := h.addQ k (L := [g]) (by simpa using ⟨hg, hl⟩)
  have hn := h.nel
  have h2 := h1.beside k2 (fun i hi => by simp at hi; subst hi; exact ⟨by simp, by omega, by omega, by omega⟩)
  exact h2.subQ (fun q hq => List.mem_append_left _ hq) h.q
theorem PR.model (h : PR w base p m ns nc Q N s) (k : Kp base Q w w') {Bs : List (List Wrt)} {F : Nat} {Ss : List SnE} (hm : MoP w' base Q m N Bs F Ss) : Blk w' p [.pointer (some ⟨m, 0, none⟩), .map (some ns), .map (some nc)] ∧ SnP w' ns N s.Ss ∧ CuP w' nc N s.Cs := by
  obtain ⟨S, h1, h2⟩ := k
  exact ⟨h2.blk h.hp (fun hm => (h1 _ hm).2 h.q.1), h.sn.keeps h2 (fun hm => (h1 _ hm).2 h.q.2.1), h.cu.keeps h2 (fun hm => (h1 _ hm).2 h.q.2.2)⟩
def PoP (w : World) (base p m ns nc : Nat) (Q : List Nat) (N : Nat) (r : An × WS) (e : Ending) (w' : World) : Prop := e = .returned (ansV r.1) ∧ PR w' base p m ns nc Q N r.2 ∧ Kq base Q ns nc w w'
set_option maxHeartbeats 4000000 in
theorem pread_any (h : PR w base p m ns nc Q N s) {n : Nat} (hi : Inv n s) (hn : n ≤ 99) (x : RX) (hcd : x.code = 1 ∨ x.code = 2) (ht : x.time ≤ 18446744073709551615) :
    Calls Tryz.prog 65 #[.pointer (some ⟨p, 0, none⟩), .agg #[.int .i64 (x.code : Int), .string ⟨x.key.toArray⟩, .int .u64 (x.time : Int), .slice x.bA x.b.length x.bc, .int .i64 (x.hd : Int), .int .i64 (x.cu : Int), .int .i64 (x.mo : Int)]] w fun e w' => e = .returned (ansV (getW s x)) ∧ Keeps [] w w' := by
  have K := ((Keeps.refl [] w).alloc (.cells #[.int .i64 (x.code : Int), .string ⟨x.key.toArray⟩, .int .u64 (x.time : Int), .slice x.bA x.b.length x.bc, .int .i64 (x.hd : Int), .int .i64 (x.cu : Int), .int .i64 (x.mo : Int)] 29)).alloc (.cells #[.int .i64 0, .int .u64 0, .string ⟨#[]⟩, .string ⟨#[]⟩] 32)
  have bO := (Blk.new w [.int .i64 (x.code : Int), .string ⟨x.key.toArray⟩, .int .u64 (x.time : Int), .slice x.bA x.b.length x.bc, .int .i64 (x.hd : Int), .int .i64 (x.cu : Int), .int .i64 (x.mo : Int)] 29).alloc (.cells #[.int .i64 0, .int .u64 0, .string ⟨#[]⟩, .string ⟨#[]⟩] 32)
  have bA := Blk.new_at (w.alloc (.cells #[.int .i64 (x.code : Int), .string ⟨x.key.toArray⟩, .int .u64 (x.time : Int), .slice x.bA x.b.length x.bc, .int .i64 (x.hd : Int), .int .i64 (x.cu : Int), .int .i64 (x.mo : Int)] 29)) (w.heap.size + 1) [.int .i64 0, .int .u64 0, .string ⟨#[]⟩, .string ⟨#[]⟩] 32 (by simp)
  obtain ⟨W, hW⟩ : ∃ W, W = (w.alloc (.cells #[.int .i64 (x.code : Int), .string ⟨x.key.toArray⟩, .int .u64 (x.time : Int), .slice x.bA x.b.length x.bc, .int .i64 (x.hd : Int), .int .i64 (x.cu : Int), .int .i64 (x.mo : Int)] 29)).alloc (.cells #[.int .i64 0, .int .u64 0, .string ⟨#[]⟩, .string ⟨#[]⟩] 32) := ⟨_, rfl⟩
  rw [← hW] at K bO bA
  have hR := h.keeps K
  have hBs := hi.nB
  have htm := fun u (k : Keeps [] W u) => (hR.keeps k).mo.time (by omega)
  have hfl := fun u (k : Keeps [] W u) => (hR.keeps k).mo.floor
  have hge := fun T hT u (k : Keeps [] W u) => (hR.keeps k).mo.get (by omega) hi.b16 x.key T hT
  obtain ⟨B, hB⟩ : ∃ B, s.Bs.length = B := ⟨_, rfl⟩
  rw [hB] at htm hBs
  obtain ⟨R, hRr⟩ : ∃ R, getW s x = R := ⟨_, rfl⟩
  rw [hRr]
  have HR := Lib.hid hRr
  have HB := Lib.hid hB
  have HW := Lib.hid hW
  obtain ⟨z0, z1, z2, zf, zl⟩ := hR.hp.o3
  have p0 : W.cell? ⟨w.heap.size, 0, none⟩ = some (.int .i64 (x.code : Int)) := bO.cell 0
  have p1 : W.cell? ⟨w.heap.size, 1, none⟩ = some (.string ⟨x.key.toArray⟩) := bO.cell 1
  have p2 : W.cell? ⟨w.heap.size, 2, none⟩ = some (.int .u64 (x.time : Int)) := bO.cell 2
  have pl := bO.lt
  have HZ := Lib.hid (And.intro K (And.intro bO bA))
  have Hcd := Lib.hid hcd
  have pz : p ≠ w.heap.size := by have := h.hp.lt; omega
  have q0 := (h.hp.o3).1
  have ql := h.hp.lt
  have htW := htm W (Keeps.refl [] W)
  clear hR h hRr hW K bO bA hcd hB
  go_enter Tryz.func65, Tryz.ntmps65
  go_wp2_with fail
  rw [← HW.out]
  refine htW.mono ?_
  rintro e w1 ⟨rfl, hw1⟩
  have hw1' := hw1.symm
  subst hw1'
  clear hw1
  clear q0 ql htW
  go_wp2_with fail
  refine (kvalidK_any _ _).mono ?_
  rintro e w4 ⟨rfl, hw4⟩
  have hw4' := hw4.symm
  subst hw4'
  clear hw4
  by_cases hk : 32 < x.key.length
  · have hRv : R = errA 8 := by rw [← HR.out]; unfold getW; rw [if_pos hk]
    have HRv := Lib.hid hRv
    have hk' : decide (x.key.length ≤ 32) = false := decide_eq_false (by omega)
    obtain ⟨K, bO, bA⟩ := HZ.out
    obtain ⟨bS, kS⟩ := bA.set4 (.int .i64 8) (.int .u64 0) (.string ⟨#[]⟩) (.string ⟨#[]⟩)
    obtain ⟨o0, o1, o2, o3, o4, o5⟩ := bA.o4
    have HX := Lib.hid (Keeps.fresh (w := w) K kS (by omega))
    have HbS := Lib.hid bS
    clear bS kS
    clear K bO bA HZ hRv hk htm hfl hge
    go_wp2_with fail
    refine bodyPost_ret (O.results_blk rfl _ _ (w.heap.size + 1) [.int .i64 8, .int .u64 0, .string ⟨#[]⟩, .string ⟨#[]⟩] _ rfl HbS.out Tryz.underlying32 sizAn) rfl ?_
    exact ⟨by first | (rw [HRv.out]; rfl) | rw [HRv.out], HX.out⟩
  · have hk' : decide (x.key.length ≤ 32) = true := decide_eq_true (by omega)
    rcases Hcd.out with h1 | h2
    · have e2 : ((x.code : Int) == 2) = false := by rw [beq_eq_false_iff_ne]; omega
      have hRv : R = entW s.Bs x.key B := by rw [← HR.out, ← HB.out]; unfold getW; rw [if_neg hk, if_pos h1]
      have hget := hge B (by omega)
      go_wp2_with fail
      go_cut [30] from 31 to 44 (fun s30 wx => s30 = .bool false ∧ Keeps [] W wx)
      case first =>
        go_region
        all_goals
          go_wp2_with fail
          go_meet
          exact ⟨rfl, (Keeps.refl [] W).drew⟩
      case rest =>
      obtain ⟨rfl, kc0⟩ := hcut
      obtain ⟨w0, hw0⟩ : ∃ w0, w0 = wc := ⟨_, rfl⟩
      rw [← hw0] at kc0 ⊢
      clear hw0
      obtain ⟨W1, hW1⟩ : ∃ W1, W1 = w0 := ⟨_, rfl⟩
      have kW1 : Keeps [] W W1 := by rw [hW1]; exact kc0
      have y0 : W1.cell? ⟨p, 0, none⟩ = some (.pointer (some ⟨m, 0, none⟩)) := kW1.cellEq z0 (by simp)
      have y1 : W1.cell? ⟨w.heap.size, 0, none⟩ = some (.int .i64 (x.code : Int)) := kW1.cellEq p0 (by simp)
      have y2 : W1.cell? ⟨w.heap.size, 1, none⟩ = some (.string ⟨x.key.toArray⟩) := kW1.cellEq p1 (by simp)
      have y3 : W1.cell? ⟨w.heap.size, 2, none⟩ = some (.int .u64 (x.time : Int)) := kW1.cellEq p2 (by simp)
      have yl : w.heap.size < W1.heap.size := Nat.lt_of_lt_of_le pl kW1.size
      have ym : p < W1.heap.size := Nat.lt_of_lt_of_le zl kW1.size
      have HZ1 := Lib.hid (And.intro (HZ.out.1.trans kW1 (by simp)) (And.intro (kW1.blk HZ.out.2.1 (by simp)) (kW1.blk HZ.out.2.2 (by simp))))
      have hg1 := hget W1.drew kW1.drew
      obtain ⟨v, hv⟩ : ∃ v, lk (lstAt s.Bs B) x.key = v := ⟨_, rfl⟩
      rw [hv] at hg1
      have hS : ∀ w' : World, Keeps [] W1 w' → (w'.cell? ⟨p, 0, none⟩ = some (.pointer (some ⟨m, 0, none⟩)) ∧ w'.cell? ⟨w.heap.size, 1, none⟩ = some (.string ⟨x.key.toArray⟩)) := fun w' k => ⟨k.cellEq y0 (by simp), k.cellEq y2 (by simp)⟩
      rw [← hW1]
      clear hW1 kW1 kc0 z0 z1 z2 zf zl p0 p1 p2 pl HZ htm hfl hge hget
      go_wp2_with fail
      go_cut [6, 7] from 52 to 63 (fun s6 s7 wx => s6 = .string ⟨(v.getD []).toArray⟩ ∧ s7 = .bool v.isSome ∧ Keeps [] W1 wx)
      case first =>
        go_region_held3 (fun w' => w'.cell? ⟨p, 0, none⟩ = some (.pointer (some ⟨m, 0, none⟩)) ∧ w'.cell? ⟨w.heap.size, 1, none⟩ = some (.string ⟨x.key.toArray⟩))
          (first
            | (with_reducible exact hS _ ((Keeps.refl [] W1).drew))
            | (with_reducible exact hS _ k5)
            | fail)
          ((first
            | (go_at_call 78; refine hg1.mono ?_; rintro e w5 ⟨rfl, k5r⟩; have k5 : Keeps [] W1 w5 := k5r.undrew)
            | fail))
        all_goals
          go_wp2_with fail
          go_meet
          exact ⟨rfl, rfl, k5⟩
      case rest =>
      obtain ⟨rfl, rfl, kc⟩ := hcut
      have x1 : wc.cell? ⟨w.heap.size, 1, none⟩ = some (.string ⟨x.key.toArray⟩) := kc.cellEq y2 (by simp)
      have xl : w.heap.size < wc.heap.size := Nat.lt_of_lt_of_le yl kc.size
      obtain ⟨K, bO, bA⟩ := HZ1.out
      have K2 := K.trans kc (by simp)
      have bA2 := kc.blk bA (by simp)
      cases v with
      | none =>
        have hRv2 : R = ⟨3, B, x.key, []⟩ := by rw [hRv]; unfold entW; rw [hv]
        have HRv := Lib.hid hRv2
        obtain ⟨bS, kS⟩ := bA2.set4 (.int .i64 3) (.int .u64 (B : Int)) (.string ⟨x.key.toArray⟩) (.string ⟨#[]⟩)
        obtain ⟨o0, o1, o2, o3, o4, o5⟩ := bA2.o4
        have HX := Lib.hid (Keeps.fresh (w := w) K2 kS (by omega))
        have HbS := Lib.hid bS
        clear bS kS
        clear K bO bA bA2 K2 HZ1 hRv hRv2 hv hg1 hS y0 y1 y2 y3 yl ym kc
        go_wp2_with fail
        refine bodyPost_ret (O.results_blk rfl _ _ (w.heap.size + 1) [.int .i64 3, .int .u64 (B : Int), .string ⟨x.key.toArray⟩, .string ⟨#[]⟩] _ rfl HbS.out Tryz.underlying32 sizAn) rfl ?_
        exact ⟨by first | (rw [HRv.out]; rfl) | rw [HRv.out], HX.out⟩
      | some val =>
        have hRv2 : R = ⟨0, B, x.key, val⟩ := by rw [hRv]; unfold entW; rw [hv]
        have HRv := Lib.hid hRv2
        obtain ⟨bS, kS⟩ := bA2.set4 (.int .i64 0) (.int .u64 (B : Int)) (.string ⟨x.key.toArray⟩) (.string ⟨val.toArray⟩)
        obtain ⟨o0, o1, o2, o3, o4, o5⟩ := bA2.o4
        have HX := Lib.hid (Keeps.fresh (w := w) K2 kS (by omega))
        have HbS := Lib.hid bS
        clear bS kS
        clear K bO bA bA2 K2 HZ1 hRv hRv2 hv hg1 hS y0 y1 y2 y3 yl ym kc
        go_wp2_with fail
        refine bodyPost_ret (O.results_blk rfl _ _ (w.heap.size + 1) [.int .i64 0, .int .u64 (B : Int), .string ⟨x.key.toArray⟩, .string ⟨val.toArray⟩] _ rfl HbS.out Tryz.underlying32 sizAn) rfl ?_
        exact ⟨by first | (rw [HRv.out]; rfl) | rw [HRv.out], HX.out⟩
    · have e2 : ((x.code : Int) == 2) = true := by rw [beq_iff_eq]; omega
      have hg : getW s x = if s.Bs.length < x.time then errA 4 else if x.time < s.F then errA 5 else entW s.Bs x.key x.time := by
        unfold getW
        rw [if_neg hk, if_neg (by omega)]
      rw [hg, HB.out] at HR
      by_cases h4 : B < x.time
      · have hRv : R = errA 4 := by rw [← HR.out, if_pos h4]
        have HRv := Lib.hid hRv
        have h4' : (B : Int) < (x.time : Int) := by omega
        obtain ⟨K, bO, bA⟩ := HZ.out
        obtain ⟨bS, kS⟩ := bA.set4 (.int .i64 4) (.int .u64 0) (.string ⟨#[]⟩) (.string ⟨#[]⟩)
        obtain ⟨o0, o1, o2, o3, o4, o5⟩ := bA.o4
        have HX := Lib.hid (Keeps.fresh (w := w) K kS (by omega))
        have HbS := Lib.hid bS
        clear bS kS
        clear K bO bA HZ hRv hk htm hfl hge hg
        go_wp2_with fail
        refine bodyPost_ret (O.results_blk rfl _ _ (w.heap.size + 1) [.int .i64 4, .int .u64 0, .string ⟨#[]⟩, .string ⟨#[]⟩] _ rfl HbS.out Tryz.underlying32 sizAn) rfl ?_
        exact ⟨by first | (rw [HRv.out]; rfl) | rw [HRv.out], HX.out⟩
      · have h4' : ¬ (B : Int) < (x.time : Int) := by omega
        have hS0 : ∀ w' : World, Keeps [] W w' → (w'.cell? ⟨w.heap.size, 0, none⟩ = some (.int .i64 (x.code : Int)) ∧ w'.cell? ⟨w.heap.size, 2, none⟩ = some (.int .u64 (x.time : Int)) ∧ w'.cell? ⟨p, 0, none⟩ = some (.pointer (some ⟨m, 0, none⟩))) := fun w' k => ⟨k.cellEq p0 (by simp), k.cellEq p2 (by simp), k.cellEq z0 (by simp)⟩
        have hfd := hfl W.drew (Keeps.refl [] W).drew
        go_wp2_with fail
        go_cut [30] from 31 to 44 (fun s30 wx => s30 = .bool (decide (x.time < s.F)) ∧ Keeps [] W wx)
        case first =>
          go_region_held3 (fun w' => w'.cell? ⟨w.heap.size, 0, none⟩ = some (.int .i64 (x.code : Int)) ∧ w'.cell? ⟨w.heap.size, 2, none⟩ = some (.int .u64 (x.time : Int)) ∧ w'.cell? ⟨p, 0, none⟩ = some (.pointer (some ⟨m, 0, none⟩)))
            (first
              | (with_reducible exact hS0 _ ((Keeps.refl [] W).drew))
              | fail)
            ((first
              | (go_at_call 77; refine hfd.mono ?_; rintro e w5 ⟨rfl, rfl⟩)
              | fail))
          all_goals
            go_wp2_with fail
            go_meet
            exact ⟨rfl, (Keeps.refl [] W).drew⟩
        case rest =>
        obtain ⟨rfl, kc0⟩ := hcut
        clear hS0 hfd
        by_cases h5 : x.time < s.F
        · have hRv : R = errA 5 := by rw [← HR.out, if_neg h4, if_pos h5]
          have HRv := Lib.hid hRv
          have h5' : decide (x.time < s.F) = true := decide_eq_true h5
          rw [h5']
          obtain ⟨K, bO, bA⟩ := HZ.out
          have bA2 := kc0.blk bA (by simp)
          have K2 := K.trans kc0 (by simp)
          obtain ⟨bS, kS⟩ := bA2.set4 (.int .i64 5) (.int .u64 0) (.string ⟨#[]⟩) (.string ⟨#[]⟩)
          obtain ⟨o0, o1, o2, o3, o4, o5⟩ := bA2.o4
          have HX := Lib.hid (Keeps.fresh (w := w) K2 kS (by omega))
          have HbS := Lib.hid bS
          clear bS kS
          clear K bO bA bA2 K2 HZ hRv hk htm hfl hge hg
          go_wp2_with fail
          refine bodyPost_ret (O.results_blk rfl _ _ (w.heap.size + 1) [.int .i64 5, .int .u64 0, .string ⟨#[]⟩, .string ⟨#[]⟩] _ rfl HbS.out Tryz.underlying32 sizAn) rfl ?_
          exact ⟨by first | (rw [HRv.out]; rfl) | rw [HRv.out], HX.out⟩
        · have hRv : R = entW s.Bs x.key x.time := by rw [← HR.out, if_neg h4, if_neg h5]
          have h5' : decide (x.time < s.F) = false := decide_eq_false h5
          rw [h5']
          have hget := hge x.time ht
          obtain ⟨w0, hw0⟩ : ∃ w0, w0 = wc := ⟨_, rfl⟩
          rw [← hw0] at kc0 ⊢
          clear hw0
          obtain ⟨W1, hW1⟩ : ∃ W1, W1 = w0 := ⟨_, rfl⟩
          have kW1 : Keeps [] W W1 := by rw [hW1]; exact kc0
          have y0 : W1.cell? ⟨p, 0, none⟩ = some (.pointer (some ⟨m, 0, none⟩)) := kW1.cellEq z0 (by simp)
          have y1 : W1.cell? ⟨w.heap.size, 0, none⟩ = some (.int .i64 (x.code : Int)) := kW1.cellEq p0 (by simp)
          have y2 : W1.cell? ⟨w.heap.size, 1, none⟩ = some (.string ⟨x.key.toArray⟩) := kW1.cellEq p1 (by simp)
          have y3 : W1.cell? ⟨w.heap.size, 2, none⟩ = some (.int .u64 (x.time : Int)) := kW1.cellEq p2 (by simp)
          have yl : w.heap.size < W1.heap.size := Nat.lt_of_lt_of_le pl kW1.size
          have ym : p < W1.heap.size := Nat.lt_of_lt_of_le zl kW1.size
          have HZ1 := Lib.hid (And.intro (HZ.out.1.trans kW1 (by simp)) (And.intro (kW1.blk HZ.out.2.1 (by simp)) (kW1.blk HZ.out.2.2 (by simp))))
          have hg1 := hget W1.drew kW1.drew
          obtain ⟨v, hv⟩ : ∃ v, lk (lstAt s.Bs x.time) x.key = v := ⟨_, rfl⟩
          rw [hv] at hg1
          have hS : ∀ w' : World, Keeps [] W1 w' → (w'.cell? ⟨p, 0, none⟩ = some (.pointer (some ⟨m, 0, none⟩)) ∧ w'.cell? ⟨w.heap.size, 1, none⟩ = some (.string ⟨x.key.toArray⟩)) := fun w' k => ⟨k.cellEq y0 (by simp), k.cellEq y2 (by simp)⟩
          rw [← hW1]
          clear hW1 kW1 kc0 z0 z1 z2 zf zl p0 p1 p2 pl HZ htm hfl hge hget
          go_wp2_with fail
          go_cut [6, 7] from 52 to 63 (fun s6 s7 wx => s6 = .string ⟨(v.getD []).toArray⟩ ∧ s7 = .bool v.isSome ∧ Keeps [] W1 wx)
          case first =>
            go_region_held3 (fun w' => w'.cell? ⟨p, 0, none⟩ = some (.pointer (some ⟨m, 0, none⟩)) ∧ w'.cell? ⟨w.heap.size, 1, none⟩ = some (.string ⟨x.key.toArray⟩))
              (first
                | (with_reducible exact hS _ ((Keeps.refl [] W1).drew))
                | (with_reducible exact hS _ k5)
                | fail)
              ((first
                | (go_at_call 78; refine hg1.mono ?_; rintro e w5 ⟨rfl, k5r⟩; have k5 : Keeps [] W1 w5 := k5r.undrew)
                | fail))
            all_goals
              go_wp2_with fail
              go_meet
              exact ⟨rfl, rfl, k5⟩
          case rest =>
          obtain ⟨rfl, rfl, kc⟩ := hcut
          have x1 : wc.cell? ⟨w.heap.size, 1, none⟩ = some (.string ⟨x.key.toArray⟩) := kc.cellEq y2 (by simp)
          have xl : w.heap.size < wc.heap.size := Nat.lt_of_lt_of_le yl kc.size
          obtain ⟨K, bO, bA⟩ := HZ1.out
          have K2 := K.trans kc (by simp)
          have bA2 := kc.blk bA (by simp)
          cases v with
          | none =>
            have hRv2 : R = ⟨3, x.time, x.key, []⟩ := by rw [hRv]; unfold entW; rw [hv]
            have HRv := Lib.hid hRv2
            obtain ⟨bS, kS⟩ := bA2.set4 (.int .i64 3) (.int .u64 (x.time : Int)) (.string ⟨x.key.toArray⟩) (.string ⟨#[]⟩)
            obtain ⟨o0, o1, o2, o3, o4, o5⟩ := bA2.o4
            have HX := Lib.hid (Keeps.fresh (w := w) K2 kS (by omega))
            have HbS := Lib.hid bS
            clear bS kS
            clear K bO bA bA2 K2 HZ1 hRv hRv2 hv hg1 hS y0 y1 y2 y3 yl ym kc
            go_wp2_with fail
            refine bodyPost_ret (O.results_blk rfl _ _ (w.heap.size + 1) [.int .i64 3, .int .u64 (x.time : Int), .string ⟨x.key.toArray⟩, .string ⟨#[]⟩] _ rfl HbS.out Tryz.underlying32 sizAn) rfl ?_
            exact ⟨by first | (rw [HRv.out]; rfl) | rw [HRv.out], HX.out⟩
          | some val =>
            have hRv2 : R = ⟨0, x.time, x.key, val⟩ := by rw [hRv]; unfold entW; rw [hv]
            have HRv := Lib.hid hRv2
            obtain ⟨bS, kS⟩ := bA2.set4 (.int .i64 0) (.int .u64 (x.time : Int)) (.string ⟨x.key.toArray⟩) (.string ⟨val.toArray⟩)
            obtain ⟨o0, o1, o2, o3, o4, o5⟩ := bA2.o4
            have HX := Lib.hid (Keeps.fresh (w := w) K2 kS (by omega))
            have HbS := Lib.hid bS
            clear bS kS
            clear K bO bA bA2 K2 HZ1 hRv hRv2 hv hg1 hS y0 y1 y2 y3 yl ym kc
            go_wp2_with fail
            refine bodyPost_ret (O.results_blk rfl _ _ (w.heap.size + 1) [.int .i64 0, .int .u64 (x.time : Int), .string ⟨x.key.toArray⟩, .string ⟨val.toArray⟩] _ rfl HbS.out Tryz.underlying32 sizAn) rfl ?_
            exact ⟨by first | (rw [HRv.out]; rfl) | rw [HRv.out], HX.out⟩
end Go.Proofs.YtbcgpjfejpcgnaaGreat
end
section
namespace Go.Proofs.YtbcgpjfejpcgnaaGreat
open Go.RowKit Go.Maps Go.MapKept Go.ChangeMaps
set_option maxRecDepth 100000
set_option linter.unusedSimpArgs false
set_option linter.unusedVariables false
set_option linter.unusedSectionVars false
variable {w w' : World} {base p m ns nc N : Nat} {Q : List Nat} {s : WS}
theorem PR.addQ13 {w0 w1 w2 w3 : World} {g g' : Nat} (_ : PR w2 base p m ns nc Q N s) (h : PR w0 base p m ns nc Q N s) (k : Keeps [] w0 w1) (k1 : Keeps [g] w1 w2) (k2 : Keeps [g'] w2 w3) (hg : w0.heap.size ≤ g) (hl : g < w1.heap.size) (hg' : w0.heap.size ≤ g') (hl' : g' < w1.heap.size) : PR w3 base p m ns nc Q N s := by
  have h1 := h.addQ k (L := [g, g']) (by simp; omega)
  have hn := h.nel
  have h2 := h1.beside (k1.mono (S' := [g, g']) (by simp)) (fun i hi => by simp at hi; rcases hi with rfl | rfl <;> exact ⟨by simp, by omega, by omega, by omega⟩)
  have h3 := h2.beside (k2.mono (S' := [g, g']) (by simp)) (fun i hi => by simp at hi; rcases hi with rfl | rfl <;> exact ⟨by simp, by omega, by omega, by omega⟩)
  exact h3.subQ (fun q hq => List.mem_append_left _ hq) h.q
theorem PR.fresh0 {g : Nat} (h : PR w' base p m ns nc Q N s) (hn : ns < w.heap.size ∧ nc < w.heap.size ∧ p < w.heap.size) {w2 : World} (k2 : Keeps [g] w' w2) (hg : w.heap.size ≤ g) (hl : g < w'.heap.size) (hQ : g ∈ Q := by simp) : PR w2 base p m ns nc Q N s :=
  h.beside k2 (fun i hi => by simp at hi; subst hi; exact ⟨hQ, by omega, by omega, by omega⟩)
theorem popen0 (h : PR w base p m ns nc Q N s) {n : Nat} (hi : Inv n s) (hN : N ≤ 10000) (x : RX) (hx : OkX x) (o : Option SnE) (ho : snF s.Ss x.t x.hd = o) (hcd : x.code = 6) :
    Calls Tryz.prog 68 #[.pointer (some ⟨p, 0, none⟩), .int .i64 (x.t : Int), .agg #[.int .i64 (x.code : Int), .string ⟨x.key.toArray⟩, .int .u64 (x.time : Int), .slice x.bA x.b.length x.bc, .int .i64 (x.hd : Int), .int .i64 (x.cu : Int), .int .i64 (x.mo : Int)], .int .u64 (snT o : Int), .bool o.isSome] w (PoP w base p m ns nc (Q ++ [w.heap.size, w.heap.size + 1, w.heap.size + 1 + 1]) (N + 1) ((opnW s x).1, (opnW s x).2.2)) := by
  have K := (((Keeps.refl [] w).alloc (.cells #[.int .i64 (x.code : Int), .string ⟨x.key.toArray⟩, .int .u64 (x.time : Int), .slice x.bA x.b.length x.bc, .int .i64 (x.hd : Int), .int .i64 (x.cu : Int), .int .i64 (x.mo : Int)] 29)).alloc (.cells #[.int .i64 0, .int .u64 0, .string ⟨#[]⟩, .string ⟨#[]⟩] 32)).alloc (.cells #[.int .i64 (x.t : Int), .int .i64 (x.cu : Int)] 117)
  have bO := ((Blk.new w [.int .i64 (x.code : Int), .string ⟨x.key.toArray⟩, .int .u64 (x.time : Int), .slice x.bA x.b.length x.bc, .int .i64 (x.hd : Int), .int .i64 (x.cu : Int), .int .i64 (x.mo : Int)] 29).alloc (.cells #[.int .i64 0, .int .u64 0, .string ⟨#[]⟩, .string ⟨#[]⟩] 32)).alloc (.cells #[.int .i64 (x.t : Int), .int .i64 (x.cu : Int)] 117)
  have bA := (Blk.new_at (w.alloc (.cells #[.int .i64 (x.code : Int), .string ⟨x.key.toArray⟩, .int .u64 (x.time : Int), .slice x.bA x.b.length x.bc, .int .i64 (x.hd : Int), .int .i64 (x.cu : Int), .int .i64 (x.mo : Int)] 29)) (w.heap.size + 1) [.int .i64 0, .int .u64 0, .string ⟨#[]⟩, .string ⟨#[]⟩] 32 (by simp)).alloc (.cells #[.int .i64 (x.t : Int), .int .i64 (x.cu : Int)] 117)
  have bC := Blk.new_at ((w.alloc (.cells #[.int .i64 (x.code : Int), .string ⟨x.key.toArray⟩, .int .u64 (x.time : Int), .slice x.bA x.b.length x.bc, .int .i64 (x.hd : Int), .int .i64 (x.cu : Int), .int .i64 (x.mo : Int)] 29)).alloc (.cells #[.int .i64 0, .int .u64 0, .string ⟨#[]⟩, .string ⟨#[]⟩] 32)) (w.heap.size + 1 + 1) [.int .i64 (x.t : Int), .int .i64 (x.cu : Int)] 117 (by simp)
  obtain ⟨W, hW⟩ : ∃ W, W = ((w.alloc (.cells #[.int .i64 (x.code : Int), .string ⟨x.key.toArray⟩, .int .u64 (x.time : Int), .slice x.bA x.b.length x.bc, .int .i64 (x.hd : Int), .int .i64 (x.cu : Int), .int .i64 (x.mo : Int)] 29)).alloc (.cells #[.int .i64 0, .int .u64 0, .string ⟨#[]⟩, .string ⟨#[]⟩] 32)).alloc (.cells #[.int .i64 (x.t : Int), .int .i64 (x.cu : Int)] 117) := ⟨_, rfl⟩
  rw [← hW] at K bO bA bC
  have hsz := h.nel
  have hR := h.addQ K (L := [w.heap.size, w.heap.size + 1, w.heap.size + 1 + 1]) (by have := bC.lt; intro g hg; simp at hg; omega)
  have HW := Lib.hid hW
  obtain ⟨RR, hRR⟩ : ∃ RR, ((opnW s x).1, (opnW s x).2.2) = RR := ⟨_, rfl⟩
  rw [hRR]
  have HR := Lib.hid hRR
  have Ho := Lib.hid ho
  clear hcd
  obtain ⟨cu, hcu⟩ : ∃ cu, cuF s.Cs x.t x.cu = cu := ⟨_, rfl⟩
  have Hcu := Lib.hid hcu
  have hlk := (hR.cu.keeps ((Keeps.refl [] W).drew) (by simp)).look hi.bdC hx.t hx.cu cu hcu
  have hlk2 := (hR.cu.keeps (((Keeps.refl [] W).alloc (.cells #[.int .i64 0, .int .i64 0, .string ⟨#[]⟩] 123)).drew) (by simp)).look hi.bdC hx.t hx.cu cu hcu
  obtain ⟨z0, z1, z2, zf, zl⟩ := hR.hp.o3
  obtain ⟨c0, c1, cf, cl⟩ := bC.o2
  have p4 : W.cell? ⟨w.heap.size, 4, none⟩ = some (.int .i64 (x.hd : Int)) := bO.cell 4
  have pl := bO.lt
  have q5 : (w.alloc (.cells #[.int .i64 (x.code : Int), .string ⟨x.key.toArray⟩, .int .u64 (x.time : Int), .slice x.bA x.b.length x.bc, .int .i64 (x.hd : Int), .int .i64 (x.cu : Int), .int .i64 (x.mo : Int)] 29)).cell? ⟨w.heap.size, 5, none⟩ = some (.int .i64 (x.cu : Int)) := (Blk.new w [.int .i64 (x.code : Int), .string ⟨x.key.toArray⟩, .int .u64 (x.time : Int), .slice x.bA x.b.length x.bc, .int .i64 (x.hd : Int), .int .i64 (x.cu : Int), .int .i64 (x.mo : Int)] 29).cell 5
  have HZ := Lib.hid (And.intro K (And.intro bO (And.intro bA (And.intro bC hR))))
  clear hR h hRR hW K bO bA bC ho hcu
  cases o with
  | none =>
    have hRv : RR = (errA 6, s) := by rw [← HR.out]; unfold opnW; rw [Ho.out]
    have HRv := Lib.hid hRv
    obtain ⟨K, bO, bA, bC, hR⟩ := HZ.out
    obtain ⟨bS, kS⟩ := bA.set4 (.int .i64 6) (.int .u64 0) (.string ⟨#[]⟩) (.string ⟨#[]⟩)
    obtain ⟨o0, o1, o2, o3, o4, o5⟩ := bA.o4
    have HX := Lib.hid (And.intro (hR.fresh0 hsz kS (by omega) o5) ((show Kq base (Q ++ [w.heap.size, w.heap.size + 1, w.heap.size + 1 + 1]) ns nc w _ from Kq.of K).fresh kS (by omega)))
    have HbS := Lib.hid bS
    clear bS kS
    clear K bO bA bC hR HZ hRv hlk hlk2 z0 z1 z2 zf zl c0 c1 cf cl p4 pl
    go_enter Tryz.func68, Tryz.ntmps68
    go_upto_region 2 with fail
    rw [← HW.out]
    go_wp2_with fail
    refine bodyPost_ret (O.results_blk rfl _ _ (w.heap.size + 1) [.int .i64 6, .int .u64 0, .string ⟨#[]⟩, .string ⟨#[]⟩] _ rfl HbS.out Tryz.underlying32 sizAn) rfl ?_
    exact ⟨by first | (rw [HRv.out]; rfl) | rw [HRv.out], by rw [HRv.out]; exact HX.out.1.mono (by omega), HX.out.2⟩
  | some q =>
    go_enter Tryz.func68, Tryz.ntmps68
    go_upto_region 2 with fail
    rw [← HW.out]
    go_upto_region 4 with fail
    go_cut [13] from 12 to 30 (fun s13 wx => s13 = .bool cu.isSome ∧ Keeps [] W wx)
    case first =>
      go_region
      all_goals
        go_wp2_with fail
        go_meet
        first
          | exact ⟨rfl, ((Keeps.refl [] W).drew).alloc _⟩
          | exact ⟨rfl, ((Keeps.refl [] W).alloc _).drew⟩
    case rest =>
    obtain ⟨rfl, kc⟩ := hcut
    obtain ⟨K, bO, bA, bC, hR⟩ := HZ.out
    have K2 := K.trans kc (by simp)
    have bO2 := kc.blk bO (by simp)
    have bA2 := kc.blk bA (by simp)
    have bC2 := kc.blk bC (by simp)
    have hR2 := hR.keeps kc
    clear K bO bA bC hR z0 z1 z2 zf zl c0 c1 cf cl p4 pl hlk hlk2
    cases cu with
    | some k =>
      have hRv : RR = (errA 7, s) := by rw [← HR.out]; unfold opnW; rw [Ho.out]; simp only; rw [Hcu.out]
      have HRv := Lib.hid hRv
      obtain ⟨bS, kS⟩ := bA2.set4 (.int .i64 7) (.int .u64 0) (.string ⟨#[]⟩) (.string ⟨#[]⟩)
      obtain ⟨o0, o1, o2, o3, o4, o5⟩ := bA2.o4
      have HX := Lib.hid (And.intro (hR2.fresh0 hsz kS (by omega) o5) ((show Kq base (Q ++ [w.heap.size, w.heap.size + 1, w.heap.size + 1 + 1]) ns nc w _ from Kq.of K2).fresh kS (by omega)))
      have HbS := Lib.hid bS
      clear bS kS
      clear K2 bO2 bA2 bC2 hR2 HZ hRv kc
      go_wp2_with fail
      refine bodyPost_ret (O.results_blk rfl _ _ (w.heap.size + 1) [.int .i64 7, .int .u64 0, .string ⟨#[]⟩, .string ⟨#[]⟩] _ rfl HbS.out Tryz.underlying32 sizAn) rfl ?_
      exact ⟨by first | (rw [HRv.out]; rfl) | rw [HRv.out], by rw [HRv.out]; exact HX.out.1.mono (by omega), HX.out.2⟩
    | none =>
      have hRv : RR = (okA q.T, ⟨s.Bs, s.F, s.Ss, s.Cs ++ [⟨x.t, x.cu, x.hd, q.T, 0, []⟩]⟩) := by rw [← HR.out]; unfold opnW; rw [Ho.out]; simp only; rw [Hcu.out]
      have HRv := Lib.hid hRv
      obtain ⟨w5, hrun, hC5, k5⟩ := (hR2.cu.keeps ((Keeps.refl [] wc).drew) (by simp)).put_new hi.bdC (by omega) hx.t hx.cu x.hd q.T Hcu.out
      obtain ⟨z0, z1, z2, zf, zl⟩ := hR2.hp.o3
      obtain ⟨c0, c1, cf, cl⟩ := bC2.o2
      have p4 : wc.cell? ⟨w.heap.size, 4, none⟩ = some (.int .i64 (x.hd : Int)) := bO2.cell 4
      have pl := bO2.lt
      have kd := (Keeps.refl [] wc).drew
      have hR5 : PR w5 base p m ns nc (Q ++ [w.heap.size, w.heap.size + 1, w.heap.size + 1 + 1]) (N + 1) ⟨s.Bs, s.F, s.Ss, s.Cs ++ [⟨x.t, x.cu, x.hd, q.T, 0, []⟩]⟩ := by
        have hR3 := hR2.keeps kd
        have hpn := (hR3.nep hR3.hp).2
        exact ⟨k5.blk hR3.hp (by simpa using hpn), (hR3.mo.beside k5 (by intro i hi'; simp at hi'; subst hi'; exact hR3.q.2.2)).mono (by omega), (hR3.sn.keeps k5 (by simpa using hR3.ne)).mono (by omega), hC5, hR3.q, hR3.ne, hR3.ge⟩
      have bA5 := k5.blk (kd.blk bA2 (by simp)) (by simp; omega)
      have kq5 : Kq base (Q ++ [w.heap.size, w.heap.size + 1, w.heap.size + 1 + 1]) ns nc w w5 := (Kq.of (K2.trans kd (by simp))).trans (Kq.ofc k5 hR2.ge.2)
      obtain ⟨bS, kS⟩ := bA5.set4 (.int .i64 0) (.int .u64 (q.T : Int)) (.string ⟨#[]⟩) (.string ⟨#[]⟩)
      obtain ⟨o0, o1, o2, o3, o4, o5⟩ := bA5.o4
      have HX := Lib.hid (And.intro (hR5.fresh0 hsz kS (by omega) o5) ((show Kq base (Q ++ [w.heap.size, w.heap.size + 1, w.heap.size + 1 + 1]) ns nc w _ from kq5).fresh kS (by omega)))
      have HbS := Lib.hid bS
      clear bS kS
      clear K2 bO2 bA2 bC2 hR2 HZ hRv kc kd hR5 bA5 kq5 hC5 k5
      go_wp2_with fail
      go_region
      all_goals
        go_wp2_with fail
        refine bodyPost_ret (O.results_blk rfl _ _ (w.heap.size + 1) [.int .i64 0, .int .u64 (q.T : Int), .string ⟨#[]⟩, .string ⟨#[]⟩] _ rfl HbS.out Tryz.underlying32 sizAn) rfl ?_
        exact ⟨by first | (rw [HRv.out]; rfl) | rw [HRv.out], by rw [HRv.out]; exact HX.out.1, HX.out.2⟩
theorem popen_any (h : PR w base p m ns nc Q N s) {n : Nat} (hi : Inv n s) (hN : N ≤ 10000) (x : RX) (hx : OkX x) (o : Option SnE) (ho : snF s.Ss x.t x.hd = o) (hcd : x.code = 6) :
    Calls Tryz.prog 68 #[.pointer (some ⟨p, 0, none⟩), .int .i64 (x.t : Int), .agg #[.int .i64 (x.code : Int), .string ⟨x.key.toArray⟩, .int .u64 (x.time : Int), .slice x.bA x.b.length x.bc, .int .i64 (x.hd : Int), .int .i64 (x.cu : Int), .int .i64 (x.mo : Int)], .int .u64 (snT o : Int), .bool o.isSome] w (PoP w base p m ns nc Q (N + 1) ((opnW s x).1, (opnW s x).2.2)) := by
  refine (popen0 h hi hN x hx o ho hcd).mono ?_
  rintro e w' ⟨h1, h2, h3⟩
  exact ⟨h1, h2.subQ (fun q hq => List.mem_append_left _ hq) h.q, h3.subQ (fun q hq => List.mem_append_left _ hq)⟩
end Go.Proofs.YtbcgpjfejpcgnaaGreat
end
