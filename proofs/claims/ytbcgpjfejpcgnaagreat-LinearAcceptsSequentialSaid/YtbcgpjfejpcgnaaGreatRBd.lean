/- Lemmas on the way to LinearAcceptsSequential. No condition. -/
import Derived.Test.YtbcgpjfejpcgnaaGreatRBc
import Derived.Deep.RegionHeld3
import Derived.Deep.CutRange
set_option linter.unusedSimpArgs false
set_option linter.unusedVariables false
set_option linter.unusedSectionVars false
section
namespace Go.Proofs.YtbcgpjfejpcgnaaGreat
open Go.RowKit Go.Maps Go.MapKept Go.ChangeMaps
set_option maxRecDepth 100000
set_option linter.unusedSimpArgs false
set_option linter.unusedVariables false
set_option linter.unusedSectionVars false
variable {w w' : World} {base p m ns nc N : Nat} {Q : List Nat} {s : WS}
def appO (s : WS) (x : RX) : An × WS := if checkR 8 1 x.b = 0 then (okA (s.Bs.length + 1), ⟨s.Bs ++ [x.b], s.F, s.Ss, s.Cs⟩) else (errA (checkR 8 1 x.b), s)
def perfO (s : WS) (x : RX) : An × WS :=
  if x.code = 1 ∨ x.code = 2 then (getW s x, s) else
  if x.code = 3 then appO s x else
  if x.code = 4 then ((snpW s x).1, (snpW s x).2.2) else
  if x.code = 5 then ((relW s x).1, (relW s x).2.2) else
  if x.code = 6 then ((opnW s x).1, (opnW s x).2.2) else scrW s x
def relK (Cs : List CuE) (t hd k : Nat) : List CuE := Cs.filter fun p => !(onS t hd p && decide (p.c < k))
theorem relK_zero (Cs : List CuE) (t hd : Nat) : relK Cs t hd 0 = Cs := by
  unfold relK
  exact List.filter_eq_self.2 fun p _ => by simp
theorem relK_all {Cs : List CuE} (hb : BdC Cs) (t hd : Nat) : relK Cs t hd 8 = Cs.filter fun p => !onS t hd p := by
  unfold relK
  refine List.filter_congr fun p hp => ?_
  have := (hb.2 p hp).2
  simp [this]
theorem BdC.filter {Cs : List CuE} (h : BdC Cs) (f : CuE → Bool) : BdC (Cs.filter f) := ⟨h.1.filter _, fun p hp => h.2 p (List.mem_filter.1 hp).1⟩
theorem BdS.filter {Ss : List SnE} (h : BdS Ss) (f : SnE → Bool) : BdS (Ss.filter f) := ⟨h.1.filter _, fun p hp => h.2 p (List.mem_filter.1 hp).1⟩
theorem relK_same {Cs : List CuE} {t hd k : Nat} (h : ∀ p ∈ relK Cs t hd k, ¬ (p.t = t ∧ p.c = k ∧ p.j = hd)) : relK Cs t hd (k + 1) = relK Cs t hd k := by
  unfold relK at h ⊢
  refine List.filter_congr fun p hp => ?_
  by_cases ho : onS t hd p = true
  · by_cases hk : p.c < k
    · simp [ho, hk, Nat.lt_succ_of_lt hk]
    · have hm : p ∈ Cs.filter fun p => !(onS t hd p && decide (p.c < k)) := List.mem_filter.2 ⟨hp, by simp [hk]⟩
      have hn := h p hm
      simp only [onS, Bool.and_eq_true, beq_iff_eq] at ho
      have : ¬ p.c < k + 1 := fun hlt => hn ⟨ho.1, by omega, ho.2⟩
      simp [hk, this]
  · simp only [Bool.not_eq_true] at ho
    simp [ho]
theorem relK_hit {Cs : List CuE} (hb : BdC Cs) {t hd k : Nat} {e : CuE} (he : cuF (relK Cs t hd k) t k = some e) (hj : e.j = hd) : relK Cs t hd (k + 1) = (relK Cs t hd k).filter fun p => !isC t k p := by
  obtain ⟨hm, ht, hc⟩ := cuF_some he
  unfold relK
  rw [List.filter_filter]
  refine List.filter_congr fun p hp => ?_
  have hme := (List.mem_filter.1 hm).1
  by_cases hi : isC t k p = true
  · simp only [isC, Bool.and_eq_true, beq_iff_eq] at hi
    have hpe : p = e := by
      obtain ⟨i, hi'⟩ := List.mem_iff_getElem?.1 hp
      obtain ⟨j, hj'⟩ := List.mem_iff_getElem?.1 hme
      have := pair_uniq hb.1 (fun p q h => ⟨h.1.symm, h.2.symm⟩) hi' hj' ⟨hi.1.trans ht.symm, hi.2.trans hc.symm⟩
      subst this
      rw [hi'] at hj'
      exact Option.some.inj hj'
    subst hpe
    have : isC t k p = true := by simp [isC, hi]
    rw [this]
    simp [onS, ht, hj, hc]
  · simp only [Bool.not_eq_true] at hi
    rw [hi]
    have : (onS t hd p && decide (p.c < k + 1)) = (onS t hd p && decide (p.c < k)) := by
      by_cases ho : onS t hd p = true
      · rw [ho]
        simp only [onS, Bool.and_eq_true, beq_iff_eq] at ho
        have hne : p.c ≠ k := fun e => by simp [isC, ho.1, e] at hi
        have : decide (p.c < k + 1) = decide (p.c < k) := by
          rw [decide_eq_decide]; omega
        rw [this]
      · simp only [Bool.not_eq_true] at ho
        rw [ho]; rfl
    rw [this]
    simp
theorem snF_snoc {Ss : List SnE} {t j T : Nat} (h : snF Ss t j = none) : snF (Ss ++ [⟨t, j, T⟩]) t j = some ⟨t, j, T⟩ := by
  unfold snF at h ⊢
  rw [List.find?_append, h]
  simp [isS]
theorem SnP.nb {w : World} {ns N : Nat} {Ss : List SnE} (h : SnP w ns N Ss) {g : Nat} {cs : List Value} (hb : Blk w g cs) : g ≠ ns := by
  obtain ⟨k, D, _, hD, _⟩ := h
  exact map_ne hb hD
theorem PR.model' {w w' : World} {base p m ns nc N : Nat} {Q : List Nat} {s : WS} (h : PR w base p m ns nc Q N s) (k : Kp base Q w w') : Blk w' p [.pointer (some ⟨m, 0, none⟩), .map (some ns), .map (some nc)] ∧ SnP w' ns N s.Ss ∧ CuP w' nc N s.Cs := by
  obtain ⟨S, h1, h2⟩ := k
  exact ⟨h2.blk h.hp (fun hm => (h1 _ hm).2 h.q.1), h.sn.keeps h2 (fun hm => (h1 _ hm).2 h.q.2.1), h.cu.keeps h2 (fun hm => (h1 _ hm).2 h.q.2.2)⟩
theorem BdS.snoc {Ss : List SnE} (hb : BdS Ss) {t j T : Nat} (ht : t < 64) (hj : j < 8) (h : snF Ss t j = none) : BdS (Ss ++ [⟨t, j, T⟩]) :=
  ⟨pair_snoc hb.1 fun y hy => snF_none h y hy, fun p hp => by
    rcases List.mem_append.1 hp with hp | hp
    · exact hb.2 p hp
    · simp at hp; subst hp; exact ⟨ht, hj⟩⟩
set_option maxHeartbeats 4000000 in
theorem pp12 (h : PR w base p m ns nc Q N s) {n : Nat} (hi : Inv n s) (hn : n ≤ 25) (hN : N ≤ 4000) (x : RX) (hx : OkX x) (hok : OkX' w x) (hbl : x.b.length ≤ 1000) (ht : x.time ≤ 18446744073709551615) (hcd : x.code = 1 ∨ x.code = 2) :
    Calls Tryz.prog 50 #[.pointer (some ⟨p, 0, none⟩), .int .i64 (x.t : Int), .agg #[.int .i64 (x.code : Int), .string ⟨x.key.toArray⟩, .int .u64 (x.time : Int), .slice x.bA x.b.length x.bc, .int .i64 (x.hd : Int), .int .i64 (x.cu : Int), .int .i64 (x.mo : Int)]] w (PoP w base p m ns nc (Q ++ [w.heap.size, w.heap.size + 1, w.heap.size + 1 + 1]) (N + 1) ((getW s x, s))) := by
  have K := (((Keeps.refl [] w).alloc (.cells #[.int .i64 (x.code : Int), .string ⟨x.key.toArray⟩, .int .u64 (x.time : Int), .slice x.bA x.b.length x.bc, .int .i64 (x.hd : Int), .int .i64 (x.cu : Int), .int .i64 (x.mo : Int)] 29)).alloc (.cells #[.int .i64 0, .int .u64 0, .string ⟨#[]⟩, .string ⟨#[]⟩] 32)).alloc (.cells #[.int .i64 (x.t : Int), .int .i64 (x.hd : Int)] 117)
  have bO := ((Blk.new w [.int .i64 (x.code : Int), .string ⟨x.key.toArray⟩, .int .u64 (x.time : Int), .slice x.bA x.b.length x.bc, .int .i64 (x.hd : Int), .int .i64 (x.cu : Int), .int .i64 (x.mo : Int)] 29).alloc (.cells #[.int .i64 0, .int .u64 0, .string ⟨#[]⟩, .string ⟨#[]⟩] 32)).alloc (.cells #[.int .i64 (x.t : Int), .int .i64 (x.hd : Int)] 117)
  have bA := (Blk.new_at (w.alloc (.cells #[.int .i64 (x.code : Int), .string ⟨x.key.toArray⟩, .int .u64 (x.time : Int), .slice x.bA x.b.length x.bc, .int .i64 (x.hd : Int), .int .i64 (x.cu : Int), .int .i64 (x.mo : Int)] 29)) (w.heap.size + 1) [.int .i64 0, .int .u64 0, .string ⟨#[]⟩, .string ⟨#[]⟩] 32 (by simp)).alloc (.cells #[.int .i64 (x.t : Int), .int .i64 (x.hd : Int)] 117)
  have bC := Blk.new_at ((w.alloc (.cells #[.int .i64 (x.code : Int), .string ⟨x.key.toArray⟩, .int .u64 (x.time : Int), .slice x.bA x.b.length x.bc, .int .i64 (x.hd : Int), .int .i64 (x.cu : Int), .int .i64 (x.mo : Int)] 29)).alloc (.cells #[.int .i64 0, .int .u64 0, .string ⟨#[]⟩, .string ⟨#[]⟩] 32)) (w.heap.size + 1 + 1) [.int .i64 (x.t : Int), .int .i64 (x.hd : Int)] 117 (by simp)
  obtain ⟨W, hW⟩ : ∃ W, W = ((w.alloc (.cells #[.int .i64 (x.code : Int), .string ⟨x.key.toArray⟩, .int .u64 (x.time : Int), .slice x.bA x.b.length x.bc, .int .i64 (x.hd : Int), .int .i64 (x.cu : Int), .int .i64 (x.mo : Int)] 29)).alloc (.cells #[.int .i64 0, .int .u64 0, .string ⟨#[]⟩, .string ⟨#[]⟩] 32)).alloc (.cells #[.int .i64 (x.t : Int), .int .i64 (x.hd : Int)] 117) := ⟨_, rfl⟩
  rw [← hW] at K bO bA bC
  have hsz := h.nel
  have hR := h.addQ K (L := [w.heap.size, w.heap.size + 1, w.heap.size + 1 + 1]) (by have := bC.lt; intro g hg; simp at hg; omega)
  have HW := Lib.hid hW
  have e3 : ((x.code : Int) == 3) = false := by rw [beq_eq_false_iff_ne]; have := hcd; omega
  obtain ⟨RR, hRR⟩ : ∃ RR, (getW s x, s) = RR := ⟨_, rfl⟩
  rw [hRR]
  have HR := Lib.hid hRR
  have Hcd := Lib.hid hcd
  obtain ⟨sn, hsn⟩ : ∃ sn, snF s.Ss x.t x.hd = sn := ⟨_, rfl⟩
  have Hsn := Lib.hid hsn
  have hlk := (hR.sn.keeps ((Keeps.refl [] W).drew) (by simp)).look hi.bdS hx.t hx.hd sn hsn
  obtain ⟨z0, z1, z2, zf, zl⟩ := hR.hp.o3
  obtain ⟨c0, c1, cf, cl⟩ := bC.o2
  have hok1 : OkX' W x := hok.keeps K
  have HZ := Lib.hid (And.intro K (And.intro bO (And.intro bA (And.intro bC (And.intro hR hok1)))))
  clear hR h hRR hW K bO bA bC hsn hcd hok hok1
  go_enter Tryz.func50, Tryz.ntmps50
  go_upto_region 2 with fail
  rw [← HW.out]
  go_cut [8, 9] from 14 to 27 (fun s8 s9 wx => s8 = .int .u64 (snT sn : Int) ∧ s9 = .bool sn.isSome ∧ Keeps [] W wx)
  case first =>
    go_region
    all_goals
      go_wp2_with fail
      go_meet
      exact ⟨rfl, rfl, (Keeps.refl [] W).drew⟩
  case rest =>
  obtain ⟨rfl, rfl, kc⟩ := hcut
  obtain ⟨K0, bO0, bA0, bC0, hR0, hok0⟩ := HZ.out
  obtain ⟨w1, hw1⟩ : ∃ w1, w1 = wc := ⟨_, rfl⟩
  rw [← hw1] at kc ⊢
  have K1 := K0.trans kc (by simp)
  have bO1 := kc.blk bO0 (by simp)
  have bA1 := kc.blk bA0 (by simp)
  have bC1 := kc.blk bC0 (by simp)
  have hR1 := hR0.keeps kc
  have hok1 : OkX' w1 x := hok0.keeps kc
  have hcl := bC1.lt
  clear K0 bO0 bA0 bC0 hR0 hok0 z0 z1 z2 zf zl c0 c1 cf cl hlk HW hw1 kc HZ
  have p0 : w1.cell? ⟨w.heap.size, 0, none⟩ = some (.int .i64 (x.code : Int)) := bO1.cell 0
  have pl := bO1.lt
  have hrd := pread_any hR1 hi (by omega) x Hcd.out ht
  obtain ⟨a, ha⟩ : ∃ a, getW s x = a := ⟨_, rfl⟩
  rw [ha] at hrd
  have hRv : RR = (a, s) := by rw [← HR.out, ha]
  have HRv := Lib.hid hRv
  have p1 : w1.cell? ⟨w.heap.size, 1, none⟩ = some (.string ⟨x.key.toArray⟩) := bO1.cell 1
  have p2 : w1.cell? ⟨w.heap.size, 2, none⟩ = some (.int .u64 (x.time : Int)) := bO1.cell 2
  have p3 : w1.cell? ⟨w.heap.size, 3, none⟩ = some (.slice x.bA x.b.length x.bc) := bO1.cell 3
  have p4 : w1.cell? ⟨w.heap.size, 4, none⟩ = some (.int .i64 (x.hd : Int)) := bO1.cell 4
  have p5 : w1.cell? ⟨w.heap.size, 5, none⟩ = some (.int .i64 (x.cu : Int)) := bO1.cell 5
  have p6 : w1.cell? ⟨w.heap.size, 6, none⟩ = some (.int .i64 (x.mo : Int)) := bO1.cell 6
  have HZ := Lib.hid (And.intro K1 (And.intro bA1 hR1))
  clear K1 bO1 bA1 bC1 hR1 hok1 hRv ha
  rcases Hcd.out with h1 | h1
  · have e1 : ((x.code : Int) == 1) = true := by rw [beq_iff_eq]; omega
    clear h1
    go_wp2_with fail
    refine hrd.mono ?_
    rintro e w2 ⟨rfl, k2⟩
    obtain ⟨K1, bA1, hR1⟩ := HZ.out
    have hR2 := hR1.keeps k2
    have K2 := K1.trans k2 (by simp)
    have bA2 := k2.blk bA1 (by simp)
    obtain ⟨bS, kS⟩ := bA2.set4 (.int .i64 a.er) (.int .u64 (a.tm : Int)) (.string ⟨a.k.toArray⟩) (.string ⟨a.v.toArray⟩)
    obtain ⟨o0, o1, o2, o3, o4, o5⟩ := bA2.o4
    have HX := Lib.hid (And.intro (hR2.fresh0 hsz kS (by omega) o5) ((show Kq base (Q ++ [w.heap.size, w.heap.size + 1, w.heap.size + 1 + 1]) ns nc w _ from Kq.of K2).fresh kS (by omega)))
    have HbS := Lib.hid bS
    clear bS kS
    clear K1 bA1 hR1 hR2 K2 bA2 HZ hrd k2 p0 p1 p2 p3 p4 p5 p6 pl
    go_wp2_with fail
    refine bodyPost_ret (O.results_blk rfl _ _ (w.heap.size + 1) [.int .i64 a.er, .int .u64 (a.tm : Int), .string ⟨a.k.toArray⟩, .string ⟨a.v.toArray⟩] _ rfl HbS.out Tryz.underlying32 sizAn) rfl ?_
    exact ⟨by first | (rw [HRv.out]; rfl) | rw [HRv.out], by rw [HRv.out]; exact HX.out.1.mono (by omega), HX.out.2⟩
  · have e1 : ((x.code : Int) == 1) = false := by rw [beq_eq_false_iff_ne]; omega
    have e2 : ((x.code : Int) == 2) = true := by rw [beq_iff_eq]; omega
    clear h1
    go_wp2_with fail
    refine hrd.mono ?_
    rintro e w2 ⟨rfl, k2⟩
    obtain ⟨K1, bA1, hR1⟩ := HZ.out
    have hR2 := hR1.keeps k2
    have K2 := K1.trans k2 (by simp)
    have bA2 := k2.blk bA1 (by simp)
    obtain ⟨bS, kS⟩ := bA2.set4 (.int .i64 a.er) (.int .u64 (a.tm : Int)) (.string ⟨a.k.toArray⟩) (.string ⟨a.v.toArray⟩)
    obtain ⟨o0, o1, o2, o3, o4, o5⟩ := bA2.o4
    have HX := Lib.hid (And.intro (hR2.fresh0 hsz kS (by omega) o5) ((show Kq base (Q ++ [w.heap.size, w.heap.size + 1, w.heap.size + 1 + 1]) ns nc w _ from Kq.of K2).fresh kS (by omega)))
    have HbS := Lib.hid bS
    clear bS kS
    clear K1 bA1 hR1 hR2 K2 bA2 HZ hrd k2 p0 p1 p2 p3 p4 p5 p6 pl
    go_wp2_with fail
    refine bodyPost_ret (O.results_blk rfl _ _ (w.heap.size + 1) [.int .i64 a.er, .int .u64 (a.tm : Int), .string ⟨a.k.toArray⟩, .string ⟨a.v.toArray⟩] _ rfl HbS.out Tryz.underlying32 sizAn) rfl ?_
    exact ⟨by first | (rw [HRv.out]; rfl) | rw [HRv.out], by rw [HRv.out]; exact HX.out.1.mono (by omega), HX.out.2⟩
set_option maxHeartbeats 4000000 in
theorem pp3 (h : PR w base p m ns nc Q N s) {n : Nat} (hi : Inv n s) (hn : n ≤ 25) (hN : N ≤ 4000) (x : RX) (hx : OkX x) (hok : OkX' w x) (hbl : x.b.length ≤ 1000) (ht : x.time ≤ 18446744073709551615) (hcd : x.code = 3) :
    Calls Tryz.prog 50 #[.pointer (some ⟨p, 0, none⟩), .int .i64 (x.t : Int), .agg #[.int .i64 (x.code : Int), .string ⟨x.key.toArray⟩, .int .u64 (x.time : Int), .slice x.bA x.b.length x.bc, .int .i64 (x.hd : Int), .int .i64 (x.cu : Int), .int .i64 (x.mo : Int)]] w (PoP w base p m ns nc (Q ++ [w.heap.size, w.heap.size + 1, w.heap.size + 1 + 1]) (N + 1) (appO s x)) := by
  have K := (((Keeps.refl [] w).alloc (.cells #[.int .i64 (x.code : Int), .string ⟨x.key.toArray⟩, .int .u64 (x.time : Int), .slice x.bA x.b.length x.bc, .int .i64 (x.hd : Int), .int .i64 (x.cu : Int), .int .i64 (x.mo : Int)] 29)).alloc (.cells #[.int .i64 0, .int .u64 0, .string ⟨#[]⟩, .string ⟨#[]⟩] 32)).alloc (.cells #[.int .i64 (x.t : Int), .int .i64 (x.hd : Int)] 117)
  have bO := ((Blk.new w [.int .i64 (x.code : Int), .string ⟨x.key.toArray⟩, .int .u64 (x.time : Int), .slice x.bA x.b.length x.bc, .int .i64 (x.hd : Int), .int .i64 (x.cu : Int), .int .i64 (x.mo : Int)] 29).alloc (.cells #[.int .i64 0, .int .u64 0, .string ⟨#[]⟩, .string ⟨#[]⟩] 32)).alloc (.cells #[.int .i64 (x.t : Int), .int .i64 (x.hd : Int)] 117)
  have bA := (Blk.new_at (w.alloc (.cells #[.int .i64 (x.code : Int), .string ⟨x.key.toArray⟩, .int .u64 (x.time : Int), .slice x.bA x.b.length x.bc, .int .i64 (x.hd : Int), .int .i64 (x.cu : Int), .int .i64 (x.mo : Int)] 29)) (w.heap.size + 1) [.int .i64 0, .int .u64 0, .string ⟨#[]⟩, .string ⟨#[]⟩] 32 (by simp)).alloc (.cells #[.int .i64 (x.t : Int), .int .i64 (x.hd : Int)] 117)
  have bC := Blk.new_at ((w.alloc (.cells #[.int .i64 (x.code : Int), .string ⟨x.key.toArray⟩, .int .u64 (x.time : Int), .slice x.bA x.b.length x.bc, .int .i64 (x.hd : Int), .int .i64 (x.cu : Int), .int .i64 (x.mo : Int)] 29)).alloc (.cells #[.int .i64 0, .int .u64 0, .string ⟨#[]⟩, .string ⟨#[]⟩] 32)) (w.heap.size + 1 + 1) [.int .i64 (x.t : Int), .int .i64 (x.hd : Int)] 117 (by simp)
  obtain ⟨W, hW⟩ : ∃ W, W = ((w.alloc (.cells #[.int .i64 (x.code : Int), .string ⟨x.key.toArray⟩, .int .u64 (x.time : Int), .slice x.bA x.b.length x.bc, .int .i64 (x.hd : Int), .int .i64 (x.cu : Int), .int .i64 (x.mo : Int)] 29)).alloc (.cells #[.int .i64 0, .int .u64 0, .string ⟨#[]⟩, .string ⟨#[]⟩] 32)).alloc (.cells #[.int .i64 (x.t : Int), .int .i64 (x.hd : Int)] 117) := ⟨_, rfl⟩
  rw [← hW] at K bO bA bC
  have hsz := h.nel
  have hR := h.addQ K (L := [w.heap.size, w.heap.size + 1, w.heap.size + 1 + 1]) (by have := bC.lt; intro g hg; simp at hg; omega)
  have HW := Lib.hid hW
  have e3 : ((x.code : Int) == 3) = true := by rw [beq_iff_eq]; have := hcd; omega
  obtain ⟨RR, hRR⟩ : ∃ RR, appO s x = RR := ⟨_, rfl⟩
  rw [hRR]
  have HR := Lib.hid hRR
  have Hcd := Lib.hid hcd
  obtain ⟨sn, hsn⟩ : ∃ sn, snF s.Ss x.t x.hd = sn := ⟨_, rfl⟩
  have Hsn := Lib.hid hsn
  have hlk := (hR.sn.keeps ((Keeps.refl [] W).drew) (by simp)).look hi.bdS hx.t hx.hd sn hsn
  obtain ⟨z0, z1, z2, zf, zl⟩ := hR.hp.o3
  obtain ⟨c0, c1, cf, cl⟩ := bC.o2
  have hok1 : OkX' W x := hok.keeps K
  have HZ := Lib.hid (And.intro K (And.intro bO (And.intro bA (And.intro bC (And.intro hR hok1)))))
  clear hR h hRR hW K bO bA bC hsn hcd hok hok1
  go_enter Tryz.func50, Tryz.ntmps50
  go_upto_region 2 with fail
  rw [← HW.out]
  go_cut [8, 9] from 14 to 27 (fun s8 s9 wx => s8 = .int .u64 (snT sn : Int) ∧ s9 = .bool sn.isSome ∧ Keeps [] W wx)
  case first =>
    go_region
    all_goals
      go_wp2_with fail
      go_meet
      exact ⟨rfl, rfl, (Keeps.refl [] W).drew⟩
  case rest =>
  obtain ⟨rfl, rfl, kc⟩ := hcut
  obtain ⟨K0, bO0, bA0, bC0, hR0, hok0⟩ := HZ.out
  obtain ⟨w1, hw1⟩ : ∃ w1, w1 = wc := ⟨_, rfl⟩
  rw [← hw1] at kc ⊢
  have K1 := K0.trans kc (by simp)
  have bO1 := kc.blk bO0 (by simp)
  have bA1 := kc.blk bA0 (by simp)
  have bC1 := kc.blk bC0 (by simp)
  have hR1 := hR0.keeps kc
  have hok1 : OkX' w1 x := hok0.keeps kc
  have hcl := bC1.lt
  clear K0 bO0 bA0 bC0 hR0 hok0 z0 z1 z2 zf zl c0 c1 cf cl hlk HW hw1 kc HZ
  have p0 : w1.cell? ⟨w.heap.size, 0, none⟩ = some (.int .i64 (x.code : Int)) := bO1.cell 0
  have pl := bO1.lt
  have hck := check_any x.b (by omega) _ w1 hok1
  obtain ⟨c, hc⟩ : ∃ c, checkR 8 1 x.b = c := ⟨_, rfl⟩
  rw [hc] at hck
  have Hc := Lib.hid hc
  have p1 : w1.cell? ⟨w.heap.size, 1, none⟩ = some (.string ⟨x.key.toArray⟩) := bO1.cell 1
  have p2 : w1.cell? ⟨w.heap.size, 2, none⟩ = some (.int .u64 (x.time : Int)) := bO1.cell 2
  have p3 : w1.cell? ⟨w.heap.size, 3, none⟩ = some (.slice x.bA x.b.length x.bc) := bO1.cell 3
  have p4 : w1.cell? ⟨w.heap.size, 4, none⟩ = some (.int .i64 (x.hd : Int)) := bO1.cell 4
  have p5 : w1.cell? ⟨w.heap.size, 5, none⟩ = some (.int .i64 (x.cu : Int)) := bO1.cell 5
  have p6 : w1.cell? ⟨w.heap.size, 6, none⟩ = some (.int .i64 (x.mo : Int)) := bO1.cell 6
  have HZ := Lib.hid (And.intro K1 (And.intro bO1 (And.intro bA1 (And.intro hR1 hok1))))
  clear K1 bO1 bA1 bC1 hR1 hok1 hc
  go_wp2_with fail
  refine hck.mono ?_
  rintro e w2 ⟨rfl, k2⟩
  obtain ⟨K1, bO1, bA1, hR1, hok1⟩ := HZ.out
  have K2 := K1.trans k2 (by simp)
  have bO2 := k2.blk bO1 (by simp)
  have bA2 := k2.blk bA1 (by simp)
  have hR2 := hR1.keeps k2
  have hok2 : OkX' w2 x := hok1.keeps k2
  clear K1 bO1 bA1 hR1 hok1 k2 HZ p0 p1 p2 p3 p4 p5 p6 pl hck
  by_cases hc0 : c = 0
  · have hRv : RR = (okA (s.Bs.length + 1), ⟨s.Bs ++ [x.b], s.F, s.Ss, s.Cs⟩) := by rw [← HR.out]; unfold appO; rw [if_pos (by rw [Hc.out]; exact hc0)]
    have hc1 : (c != 0) = false := by rw [bne_eq_false_iff_eq]; exact hc0
    have hl16 := checkR_len (Hc.out.trans hc0)
    have hap := (hR2.keeps (Keeps.refl [] w2).drew).mo.apply (by have := hi.nB; omega) hi.b16 x.b hl16 _ (hok2.keeps (Keeps.refl [] w2).drew)
    obtain ⟨B1, hB1⟩ : ∃ B1, s.Bs.length + 1 = B1 := ⟨_, rfl⟩
    rw [hB1] at hap hRv
    have HRv := Lib.hid hRv
    clear hB1
    obtain ⟨z0, z1, z2, zf, zl⟩ := hR2.hp.o3
    have p3 : w2.cell? ⟨w.heap.size, 3, none⟩ = some (.slice x.bA x.b.length x.bc) := bO2.cell 3
    have pl := bO2.lt
    have hS : ∀ w' : World, Keeps [] w2 w' → (w'.cell? ⟨p, 0, none⟩ = some (.pointer (some ⟨m, 0, none⟩)) ∧ w'.cell? ⟨w.heap.size, 3, none⟩ = some (.slice x.bA x.b.length x.bc)) := fun w' k => ⟨k.cellEq z0 (by simp), k.cellEq p3 (by simp)⟩
    have HZ := Lib.hid (And.intro K2 (And.intro bO2 (And.intro bA2 hR2)))
    clear K2 bO2 bA2 hR2 hok2 hc0 hRv
    go_wp2_with fail
    go_region_held3 (fun w' => w'.cell? ⟨p, 0, none⟩ = some (.pointer (some ⟨m, 0, none⟩)) ∧ w'.cell? ⟨w.heap.size, 3, none⟩ = some (.slice x.bA x.b.length x.bc))
      (first
        | (with_reducible exact hS _ ((Keeps.refl [] w2).drew))
        | (with_reducible exact t5)
        | (with_reducible exact t6)
        | fail)
      ((first
        | (go_at_call 64; refine hap.mono ?_; rintro e w5 ⟨rfl, hm5, k5⟩; have bP5 := k5.blk (HZ.out.2.2.2.hp.drew) (.inl HZ.out.2.2.2.q.1); have bO5 := k5.blk (HZ.out.2.1.drew) (.inl (by simp)); have bA5 := k5.blk (HZ.out.2.2.1.drew) (.inl (by simp)); have t5 : w5.cell? ⟨p, 0, none⟩ = some (.pointer (some ⟨m, 0, none⟩)) ∧ w5.cell? ⟨w.heap.size, 3, none⟩ = some (.slice x.bA x.b.length x.bc) := ⟨bP5.cell 0, bO5.cell 3⟩; have hS5 := bA5.set4 (.int .i64 0) (.int .u64 (B1 : Int)) (.string ⟨#[]⟩) (.string ⟨#[]⟩); have o5 := bA5.o4; have bP6 := hS5.2.blk bP5 (by simp; omega); have bO6 := hS5.2.blk bO5 (by simp); have t6 : (((((w5.setCell ⟨w.heap.size + 1, 0, none⟩ (.int .i64 0)).setCell ⟨w.heap.size + 1, 1, none⟩ (.int .u64 (B1 : Int))).setCell ⟨w.heap.size + 1, 2, none⟩ (.string ⟨#[]⟩)).setCell ⟨w.heap.size + 1, 3, none⟩ (.string ⟨#[]⟩))).cell? ⟨p, 0, none⟩ = some (.pointer (some ⟨m, 0, none⟩)) ∧ (((((w5.setCell ⟨w.heap.size + 1, 0, none⟩ (.int .i64 0)).setCell ⟨w.heap.size + 1, 1, none⟩ (.int .u64 (B1 : Int))).setCell ⟨w.heap.size + 1, 2, none⟩ (.string ⟨#[]⟩)).setCell ⟨w.heap.size + 1, 3, none⟩ (.string ⟨#[]⟩))).cell? ⟨w.heap.size, 3, none⟩ = some (.slice x.bA x.b.length x.bc) := ⟨bP6.cell 0, bO6.cell 3⟩)
        | fail))
    all_goals
      have hmod := HZ.out.2.2.2.keeps (Keeps.refl [] w2).drew
      obtain ⟨g1, g2, g3⟩ := hmod.model k5 hm5
      have hR5 : PR w5 base p m ns nc (Q ++ [w.heap.size, w.heap.size + 1, w.heap.size + 1 + 1]) N ⟨s.Bs ++ [x.b], s.F, s.Ss, s.Cs⟩ := ⟨g1, hm5, g2, g3, hmod.q, hmod.ne, hmod.ge⟩
      have kq5 : Kq base (Q ++ [w.heap.size, w.heap.size + 1, w.heap.size + 1 + 1]) ns nc w w5 := (Kq.of (HZ.out.1.trans (Keeps.refl [] w2).drew (by simp))).trans (Kq.ofp k5)
      have HX := Lib.hid (And.intro (hR5.fresh0 hsz hS5.2 (by omega) bA5.lt) (kq5.fresh hS5.2 (by omega)))
      have HbS := Lib.hid hS5.1
      clear hmod g1 g2 g3 hR5 kq5 hS5 k5 hm5 bP5 bO5 bA5 t5 t6 o5 bP6 bO6
      go_wp2_with fail
      refine bodyPost_ret (O.results_blk rfl _ _ (w.heap.size + 1) [.int .i64 0, .int .u64 (B1 : Int), .string ⟨#[]⟩, .string ⟨#[]⟩] _ rfl HbS.out Tryz.underlying32 sizAn) rfl ?_
      exact ⟨by first | (rw [HRv.out]; rfl) | rw [HRv.out], by rw [HRv.out]; exact HX.out.1.mono (by omega), HX.out.2⟩
  · have hRv : RR = (errA c, s) := by rw [← HR.out]; unfold appO; rw [if_neg (by rw [Hc.out]; exact hc0), Hc.out]
    have HRv := Lib.hid hRv
    have hc1 : (c != 0) = true := by rw [bne_iff_ne]; exact hc0
    obtain ⟨bS, kS⟩ := bA2.set4 (.int .i64 c) (.int .u64 0) (.string ⟨#[]⟩) (.string ⟨#[]⟩)
    obtain ⟨o0, o1, o2, o3, o4, o5⟩ := bA2.o4
    have HX := Lib.hid (And.intro (hR2.fresh0 hsz kS (by omega) o5) ((show Kq base (Q ++ [w.heap.size, w.heap.size + 1, w.heap.size + 1 + 1]) ns nc w _ from Kq.of K2).fresh kS (by omega)))
    have HbS := Lib.hid bS
    clear bS kS
    clear K2 bO2 bA2 hR2 hok2 hc0 hRv
    go_wp2_with fail
    refine bodyPost_ret (O.results_blk rfl _ _ (w.heap.size + 1) [.int .i64 c, .int .u64 0, .string ⟨#[]⟩, .string ⟨#[]⟩] _ rfl HbS.out Tryz.underlying32 sizAn) rfl ?_
    exact ⟨by first | (rw [HRv.out]; rfl) | rw [HRv.out], by rw [HRv.out]; exact HX.out.1.mono (by omega), HX.out.2⟩
set_option maxHeartbeats 4000000 in
theorem pp4 (h : PR w base p m ns nc Q N s) {n : Nat} (hi : Inv n s) (hn : n ≤ 25) (hN : N ≤ 4000) (x : RX) (hx : OkX x) (hok : OkX' w x) (hbl : x.b.length ≤ 1000) (ht : x.time ≤ 18446744073709551615) (hcd : x.code = 4) :
    Calls Tryz.prog 50 #[.pointer (some ⟨p, 0, none⟩), .int .i64 (x.t : Int), .agg #[.int .i64 (x.code : Int), .string ⟨x.key.toArray⟩, .int .u64 (x.time : Int), .slice x.bA x.b.length x.bc, .int .i64 (x.hd : Int), .int .i64 (x.cu : Int), .int .i64 (x.mo : Int)]] w (PoP w base p m ns nc (Q ++ [w.heap.size, w.heap.size + 1, w.heap.size + 1 + 1]) (N + 1) (((snpW s x).1, (snpW s x).2.2))) := by
  have K := (((Keeps.refl [] w).alloc (.cells #[.int .i64 (x.code : Int), .string ⟨x.key.toArray⟩, .int .u64 (x.time : Int), .slice x.bA x.b.length x.bc, .int .i64 (x.hd : Int), .int .i64 (x.cu : Int), .int .i64 (x.mo : Int)] 29)).alloc (.cells #[.int .i64 0, .int .u64 0, .string ⟨#[]⟩, .string ⟨#[]⟩] 32)).alloc (.cells #[.int .i64 (x.t : Int), .int .i64 (x.hd : Int)] 117)
  have bO := ((Blk.new w [.int .i64 (x.code : Int), .string ⟨x.key.toArray⟩, .int .u64 (x.time : Int), .slice x.bA x.b.length x.bc, .int .i64 (x.hd : Int), .int .i64 (x.cu : Int), .int .i64 (x.mo : Int)] 29).alloc (.cells #[.int .i64 0, .int .u64 0, .string ⟨#[]⟩, .string ⟨#[]⟩] 32)).alloc (.cells #[.int .i64 (x.t : Int), .int .i64 (x.hd : Int)] 117)
  have bA := (Blk.new_at (w.alloc (.cells #[.int .i64 (x.code : Int), .string ⟨x.key.toArray⟩, .int .u64 (x.time : Int), .slice x.bA x.b.length x.bc, .int .i64 (x.hd : Int), .int .i64 (x.cu : Int), .int .i64 (x.mo : Int)] 29)) (w.heap.size + 1) [.int .i64 0, .int .u64 0, .string ⟨#[]⟩, .string ⟨#[]⟩] 32 (by simp)).alloc (.cells #[.int .i64 (x.t : Int), .int .i64 (x.hd : Int)] 117)
  have bC := Blk.new_at ((w.alloc (.cells #[.int .i64 (x.code : Int), .string ⟨x.key.toArray⟩, .int .u64 (x.time : Int), .slice x.bA x.b.length x.bc, .int .i64 (x.hd : Int), .int .i64 (x.cu : Int), .int .i64 (x.mo : Int)] 29)).alloc (.cells #[.int .i64 0, .int .u64 0, .string ⟨#[]⟩, .string ⟨#[]⟩] 32)) (w.heap.size + 1 + 1) [.int .i64 (x.t : Int), .int .i64 (x.hd : Int)] 117 (by simp)
  obtain ⟨W, hW⟩ : ∃ W, W = ((w.alloc (.cells #[.int .i64 (x.code : Int), .string ⟨x.key.toArray⟩, .int .u64 (x.time : Int), .slice x.bA x.b.length x.bc, .int .i64 (x.hd : Int), .int .i64 (x.cu : Int), .int .i64 (x.mo : Int)] 29)).alloc (.cells #[.int .i64 0, .int .u64 0, .string ⟨#[]⟩, .string ⟨#[]⟩] 32)).alloc (.cells #[.int .i64 (x.t : Int), .int .i64 (x.hd : Int)] 117) := ⟨_, rfl⟩
  rw [← hW] at K bO bA bC
  have hsz := h.nel
  have hR := h.addQ K (L := [w.heap.size, w.heap.size + 1, w.heap.size + 1 + 1]) (by have := bC.lt; intro g hg; simp at hg; omega)
  have HW := Lib.hid hW
  have e3 : ((x.code : Int) == 3) = false := by rw [beq_eq_false_iff_ne]; have := hcd; omega
  have e1 : ((x.code : Int) == 1) = false := by rw [beq_eq_false_iff_ne]; have := hcd; omega
  have e2 : ((x.code : Int) == 2) = false := by rw [beq_eq_false_iff_ne]; have := hcd; omega
  have e4 : ((x.code : Int) == 4) = true := by rw [beq_iff_eq]; have := hcd; omega
  obtain ⟨RR, hRR⟩ : ∃ RR, ((snpW s x).1, (snpW s x).2.2) = RR := ⟨_, rfl⟩
  rw [hRR]
  have HR := Lib.hid hRR
  have Hcd := Lib.hid hcd
  obtain ⟨sn, hsn⟩ : ∃ sn, snF s.Ss x.t x.hd = sn := ⟨_, rfl⟩
  have Hsn := Lib.hid hsn
  have hlk := (hR.sn.keeps ((Keeps.refl [] W).drew) (by simp)).look hi.bdS hx.t hx.hd sn hsn
  obtain ⟨z0, z1, z2, zf, zl⟩ := hR.hp.o3
  obtain ⟨c0, c1, cf, cl⟩ := bC.o2
  have hok1 : OkX' W x := hok.keeps K
  have HZ := Lib.hid (And.intro K (And.intro bO (And.intro bA (And.intro bC (And.intro hR hok1)))))
  clear hR h hRR hW K bO bA bC hsn hcd hok hok1
  go_enter Tryz.func50, Tryz.ntmps50
  go_upto_region 2 with fail
  rw [← HW.out]
  go_cut [8, 9] from 14 to 27 (fun s8 s9 wx => s8 = .int .u64 (snT sn : Int) ∧ s9 = .bool sn.isSome ∧ Keeps [] W wx)
  case first =>
    go_region
    all_goals
      go_wp2_with fail
      go_meet
      exact ⟨rfl, rfl, (Keeps.refl [] W).drew⟩
  case rest =>
  obtain ⟨rfl, rfl, kc⟩ := hcut
  obtain ⟨K0, bO0, bA0, bC0, hR0, hok0⟩ := HZ.out
  obtain ⟨w1, hw1⟩ : ∃ w1, w1 = wc := ⟨_, rfl⟩
  rw [← hw1] at kc ⊢
  have K1 := K0.trans kc (by simp)
  have bO1 := kc.blk bO0 (by simp)
  have bA1 := kc.blk bA0 (by simp)
  have bC1 := kc.blk bC0 (by simp)
  have hR1 := hR0.keeps kc
  have hok1 : OkX' w1 x := hok0.keeps kc
  have hcl := bC1.lt
  clear K0 bO0 bA0 bC0 hR0 hok0 z0 z1 z2 zf zl c0 c1 cf cl hlk HW hw1 kc HZ
  have p0 : w1.cell? ⟨w.heap.size, 0, none⟩ = some (.int .i64 (x.code : Int)) := bO1.cell 0
  have pl := bO1.lt
  cases sn with
  | some q =>
    have hRv : RR = (errA 7, s) := by rw [← HR.out]; unfold snpW; rw [Hsn.out]
    have HRv := Lib.hid hRv
    obtain ⟨bS, kS⟩ := bA1.set4 (.int .i64 7) (.int .u64 0) (.string ⟨#[]⟩) (.string ⟨#[]⟩)
    obtain ⟨o0, o1, o2, o3, o4, o5⟩ := bA1.o4
    have HX := Lib.hid (And.intro (hR1.fresh0 hsz kS (by omega) o5) ((show Kq base (Q ++ [w.heap.size, w.heap.size + 1, w.heap.size + 1 + 1]) ns nc w _ from Kq.of K1).fresh kS (by omega)))
    have HbS := Lib.hid bS
    clear bS kS
    clear K1 bO1 bA1 bC1 hR1 hok1 hRv
    go_wp2_with fail
    refine bodyPost_ret (O.results_blk rfl _ _ (w.heap.size + 1) [.int .i64 7, .int .u64 0, .string ⟨#[]⟩, .string ⟨#[]⟩] _ rfl HbS.out Tryz.underlying32 sizAn) rfl ?_
    exact ⟨by first | (rw [HRv.out]; rfl) | rw [HRv.out], by rw [HRv.out]; exact HX.out.1.mono (by omega), HX.out.2⟩
  | none =>
    have hRv : RR = (okA s.Bs.length, ⟨s.Bs, s.F, s.Ss ++ [⟨x.t, x.hd, s.Bs.length⟩], s.Cs⟩) := by rw [← HR.out]; unfold snpW; rw [Hsn.out]
    have hop := (hR1.keeps (Keeps.refl [] w1).drew).mo.open_ (by have := hi.nB; omega) (by omega) hi.bdS hx.t hx.hd Hsn.out
    have hbd : BdS (s.Ss ++ [⟨x.t, x.hd, s.Bs.length⟩]) := hi.bdS.snoc hx.t hx.hd Hsn.out
    have hsn2 : snF (s.Ss ++ [⟨x.t, x.hd, s.Bs.length⟩]) x.t x.hd = some ⟨x.t, x.hd, s.Bs.length⟩ := snF_snoc Hsn.out
    obtain ⟨B, hB⟩ : ∃ B, s.Bs.length = B := ⟨_, rfl⟩
    rw [hB] at hop hRv hbd hsn2
    have HRv := Lib.hid hRv
    obtain ⟨z0, z1, z2, zf, zl⟩ := hR1.hp.o3
    obtain ⟨c0, c1, cf, cl⟩ := bC1.o2
    have p4 : w1.cell? ⟨w.heap.size, 4, none⟩ = some (.int .i64 (x.hd : Int)) := bO1.cell 4
    have hS : ∀ w' : World, Keeps [] w1 w' → (w'.cell? ⟨p, 0, none⟩ = some (.pointer (some ⟨m, 0, none⟩)) ∧ w'.cell? ⟨p, 1, none⟩ = some (.map (some ns)) ∧ w'.cell? ⟨w.heap.size + 1 + 1, 0, none⟩ = some (.int .i64 (x.t : Int)) ∧ w'.cell? ⟨w.heap.size + 1 + 1, 1, none⟩ = some (.int .i64 (x.hd : Int)) ∧ w'.cell? ⟨w.heap.size, 4, none⟩ = some (.int .i64 (x.hd : Int))) := fun w' k => ⟨k.cellEq z0 (by simp), k.cellEq z1 (by simp), k.cellEq c0 (by simp), k.cellEq c1 (by simp), k.cellEq p4 (by simp)⟩
    have HZ := Lib.hid (And.intro K1 (And.intro bO1 (And.intro bA1 (And.intro bC1 hR1))))
    have HB4 := Lib.hid (And.intro hbd hsn2)
    clear K1 bO1 bA1 bC1 hR1 hok1 hRv hB hbd hsn2
    go_wp2_with fail
    go_region_held3 (fun w' => w'.cell? ⟨p, 0, none⟩ = some (.pointer (some ⟨m, 0, none⟩)) ∧ w'.cell? ⟨p, 1, none⟩ = some (.map (some ns)) ∧ w'.cell? ⟨w.heap.size + 1 + 1, 0, none⟩ = some (.int .i64 (x.t : Int)) ∧ w'.cell? ⟨w.heap.size + 1 + 1, 1, none⟩ = some (.int .i64 (x.hd : Int)) ∧ w'.cell? ⟨w.heap.size, 4, none⟩ = some (.int .i64 (x.hd : Int)))
      (first
        | (with_reducible exact hS _ ((Keeps.refl [] w1).drew))
        | (with_reducible exact t5)
        | (with_reducible exact t6)
        | fail)
      ((first
        | (go_at_call 66; refine hop.mono ?_; rintro e w5 ⟨rfl, hm5, k5⟩; have bP5 := k5.blk (HZ.out.2.2.2.2.hp.drew) (.inl HZ.out.2.2.2.2.q.1); have bO5 := k5.blk (HZ.out.2.1.drew) (.inl (by simp)); have bA5 := k5.blk (HZ.out.2.2.1.drew) (.inl (by simp)); have bC5 := k5.blk (HZ.out.2.2.2.1.drew) (.inl (by simp)); have t5 : w5.cell? ⟨p, 0, none⟩ = some (.pointer (some ⟨m, 0, none⟩)) ∧ w5.cell? ⟨p, 1, none⟩ = some (.map (some ns)) ∧ w5.cell? ⟨w.heap.size + 1 + 1, 0, none⟩ = some (.int .i64 (x.t : Int)) ∧ w5.cell? ⟨w.heap.size + 1 + 1, 1, none⟩ = some (.int .i64 (x.hd : Int)) ∧ w5.cell? ⟨w.heap.size, 4, none⟩ = some (.int .i64 (x.hd : Int)) := ⟨bP5.cell 0, bP5.cell 1, bC5.cell 0, bC5.cell 1, bO5.cell 4⟩; have hmod := (HZ.out.2.2.2.2.keeps (Keeps.refl [] w1).drew).model' k5; obtain ⟨w6, hrun, hS6, k6⟩ := hmod.2.1.put hi.bdS (by omega) hx.t hx.hd B Hsn.out; have bP6 := k6.blk bP5 (by simpa using hmod.2.1.nb bP5); have bO6 := k6.blk bO5 (by simpa using hmod.2.1.nb bO5); have bA6 := k6.blk bA5 (by simpa using hmod.2.1.nb bA5); have bC6 := k6.blk bC5 (by simpa using hmod.2.1.nb bC5); have t6 : w6.cell? ⟨p, 0, none⟩ = some (.pointer (some ⟨m, 0, none⟩)) ∧ w6.cell? ⟨p, 1, none⟩ = some (.map (some ns)) ∧ w6.cell? ⟨w.heap.size + 1 + 1, 0, none⟩ = some (.int .i64 (x.t : Int)) ∧ w6.cell? ⟨w.heap.size + 1 + 1, 1, none⟩ = some (.int .i64 (x.hd : Int)) ∧ w6.cell? ⟨w.heap.size, 4, none⟩ = some (.int .i64 (x.hd : Int)) := ⟨bP6.cell 0, bP6.cell 1, bC6.cell 0, bC6.cell 1, bO6.cell 4⟩)
        | fail))
    all_goals
      have hR1d := HZ.out.2.2.2.2.keeps (Keeps.refl [] w1).drew
      have hR6 : PR w6 base p m ns nc (Q ++ [w.heap.size, w.heap.size + 1, w.heap.size + 1 + 1]) (N + 1) ⟨s.Bs, s.F, s.Ss ++ [⟨x.t, x.hd, B⟩], s.Cs⟩ := ⟨bP6, hm5.beside k6 (by intro i hi'; simp at hi'; subst hi'; exact hR1d.q.2.1), hS6, (hmod.2.2.keeps k6 (by simpa using hR1d.ne.symm)).mono (by omega), hR1d.q, hR1d.ne, hR1d.ge⟩
      have kq6 : Kq base (Q ++ [w.heap.size, w.heap.size + 1, w.heap.size + 1 + 1]) ns nc w w6 := ((Kq.of (HZ.out.1.trans (Keeps.refl [] w1).drew (by simp))).trans (Kq.ofp k5)).trans (Kq.ofn k6 hR1d.ge.1)
      have hget := (hR6.sn.keeps ((Keeps.refl [] w6).drew) (by simp)).get HB4.out.1 hx.t hx.hd _ HB4.out.2
      have hget' : (Instr.lookup 77 (.map (some ns)) (.agg #[.int .i64 (x.t : Int), .int .i64 (x.hd : Int)]) false).run Tryz.prog w6.drew = .ok (.int .u64 (B : Int)) w6.drew := hget
      have kd6 : Keeps [] w6 w6.drew := (Keeps.refl [] w6).drew
      obtain ⟨bS, kS⟩ := bA6.set4 (.int .i64 0) (.int .u64 (B : Int)) (.string ⟨#[]⟩) (.string ⟨#[]⟩)
      have HX := Lib.hid (And.intro (hR6.fresh0 hsz kS (by omega) bA6.lt) (kq6.fresh kS (by omega)))
      have HbS := Lib.hid bS
      obtain ⟨z0, z1, z2, zf, zl⟩ := bP6.o3
      obtain ⟨c0, c1, cf, cl⟩ := bC6.o2
      obtain ⟨o0, o1, o2, o3, o4, o5⟩ := bA6.o4
      clear hR1d hR6 kq6 hget kd6 bS kS bP5 bO5 bA5 bC5 t5 hmod bP6 bO6 bA6 bC6 t6 hS6 k6 k5 hm5 hrun hop hS
      go_wp2_with fail
      go_region
      all_goals
        go_wp2_with fail
        refine bodyPost_ret (O.results_blk rfl _ _ (w.heap.size + 1) [.int .i64 0, .int .u64 (B : Int), .string ⟨#[]⟩, .string ⟨#[]⟩] _ rfl HbS.out.drew Tryz.underlying32 sizAn) rfl ?_
        exact ⟨by first | (rw [HRv.out]; rfl) | rw [HRv.out], by rw [HRv.out]; exact HX.out.1.keeps ((Keeps.refl [] _).drew), HX.out.2.trans (Kq.of (Keeps.refl [] _).drew)⟩
set_option maxHeartbeats 4000000 in
theorem pp5 (h : PR w base p m ns nc Q N s) {n : Nat} (hi : Inv n s) (hn : n ≤ 25) (hN : N ≤ 4000) (x : RX) (hx : OkX x) (hok : OkX' w x) (hbl : x.b.length ≤ 1000) (ht : x.time ≤ 18446744073709551615) (hcd : x.code = 5) :
    Calls Tryz.prog 50 #[.pointer (some ⟨p, 0, none⟩), .int .i64 (x.t : Int), .agg #[.int .i64 (x.code : Int), .string ⟨x.key.toArray⟩, .int .u64 (x.time : Int), .slice x.bA x.b.length x.bc, .int .i64 (x.hd : Int), .int .i64 (x.cu : Int), .int .i64 (x.mo : Int)]] w (PoP w base p m ns nc (Q ++ [w.heap.size, w.heap.size + 1, w.heap.size + 1 + 1]) (N + 1) (((relW s x).1, (relW s x).2.2))) := by
  have K := (((Keeps.refl [] w).alloc (.cells #[.int .i64 (x.code : Int), .string ⟨x.key.toArray⟩, .int .u64 (x.time : Int), .slice x.bA x.b.length x.bc, .int .i64 (x.hd : Int), .int .i64 (x.cu : Int), .int .i64 (x.mo : Int)] 29)).alloc (.cells #[.int .i64 0, .int .u64 0, .string ⟨#[]⟩, .string ⟨#[]⟩] 32)).alloc (.cells #[.int .i64 (x.t : Int), .int .i64 (x.hd : Int)] 117)
  have bO := ((Blk.new w [.int .i64 (x.code : Int), .string ⟨x.key.toArray⟩, .int .u64 (x.time : Int), .slice x.bA x.b.length x.bc, .int .i64 (x.hd : Int), .int .i64 (x.cu : Int), .int .i64 (x.mo : Int)] 29).alloc (.cells #[.int .i64 0, .int .u64 0, .string ⟨#[]⟩, .string ⟨#[]⟩] 32)).alloc (.cells #[.int .i64 (x.t : Int), .int .i64 (x.hd : Int)] 117)
  have bA := (Blk.new_at (w.alloc (.cells #[.int .i64 (x.code : Int), .string ⟨x.key.toArray⟩, .int .u64 (x.time : Int), .slice x.bA x.b.length x.bc, .int .i64 (x.hd : Int), .int .i64 (x.cu : Int), .int .i64 (x.mo : Int)] 29)) (w.heap.size + 1) [.int .i64 0, .int .u64 0, .string ⟨#[]⟩, .string ⟨#[]⟩] 32 (by simp)).alloc (.cells #[.int .i64 (x.t : Int), .int .i64 (x.hd : Int)] 117)
  have bC := Blk.new_at ((w.alloc (.cells #[.int .i64 (x.code : Int), .string ⟨x.key.toArray⟩, .int .u64 (x.time : Int), .slice x.bA x.b.length x.bc, .int .i64 (x.hd : Int), .int .i64 (x.cu : Int), .int .i64 (x.mo : Int)] 29)).alloc (.cells #[.int .i64 0, .int .u64 0, .string ⟨#[]⟩, .string ⟨#[]⟩] 32)) (w.heap.size + 1 + 1) [.int .i64 (x.t : Int), .int .i64 (x.hd : Int)] 117 (by simp)
  obtain ⟨W, hW⟩ : ∃ W, W = ((w.alloc (.cells #[.int .i64 (x.code : Int), .string ⟨x.key.toArray⟩, .int .u64 (x.time : Int), .slice x.bA x.b.length x.bc, .int .i64 (x.hd : Int), .int .i64 (x.cu : Int), .int .i64 (x.mo : Int)] 29)).alloc (.cells #[.int .i64 0, .int .u64 0, .string ⟨#[]⟩, .string ⟨#[]⟩] 32)).alloc (.cells #[.int .i64 (x.t : Int), .int .i64 (x.hd : Int)] 117) := ⟨_, rfl⟩
  rw [← hW] at K bO bA bC
  have hsz := h.nel
  have hR := h.addQ K (L := [w.heap.size, w.heap.size + 1, w.heap.size + 1 + 1]) (by have := bC.lt; intro g hg; simp at hg; omega)
  have HW := Lib.hid hW
  have e3 : ((x.code : Int) == 3) = false := by rw [beq_eq_false_iff_ne]; have := hcd; omega
  have e1 : ((x.code : Int) == 1) = false := by rw [beq_eq_false_iff_ne]; have := hcd; omega
  have e2 : ((x.code : Int) == 2) = false := by rw [beq_eq_false_iff_ne]; have := hcd; omega
  have e4 : ((x.code : Int) == 4) = false := by rw [beq_eq_false_iff_ne]; have := hcd; omega
  have e5 : ((x.code : Int) == 5) = true := by rw [beq_iff_eq]; have := hcd; omega
  obtain ⟨RR, hRR⟩ : ∃ RR, ((relW s x).1, (relW s x).2.2) = RR := ⟨_, rfl⟩
  rw [hRR]
  have HR := Lib.hid hRR
  have Hcd := Lib.hid hcd
  obtain ⟨sn, hsn⟩ : ∃ sn, snF s.Ss x.t x.hd = sn := ⟨_, rfl⟩
  have Hsn := Lib.hid hsn
  have hlk := (hR.sn.keeps ((Keeps.refl [] W).drew) (by simp)).look hi.bdS hx.t hx.hd sn hsn
  obtain ⟨z0, z1, z2, zf, zl⟩ := hR.hp.o3
  obtain ⟨c0, c1, cf, cl⟩ := bC.o2
  have hok1 : OkX' W x := hok.keeps K
  have HZ := Lib.hid (And.intro K (And.intro bO (And.intro bA (And.intro bC (And.intro hR hok1)))))
  clear hR h hRR hW K bO bA bC hsn hcd hok hok1
  go_enter Tryz.func50, Tryz.ntmps50
  go_upto_region 2 with fail
  rw [← HW.out]
  go_cut [8, 9] from 14 to 27 (fun s8 s9 wx => s8 = .int .u64 (snT sn : Int) ∧ s9 = .bool sn.isSome ∧ Keeps [] W wx)
  case first =>
    go_region
    all_goals
      go_wp2_with fail
      go_meet
      exact ⟨rfl, rfl, (Keeps.refl [] W).drew⟩
  case rest =>
  obtain ⟨rfl, rfl, kc⟩ := hcut
  obtain ⟨K0, bO0, bA0, bC0, hR0, hok0⟩ := HZ.out
  obtain ⟨w1, hw1⟩ : ∃ w1, w1 = wc := ⟨_, rfl⟩
  rw [← hw1] at kc ⊢
  have K1 := K0.trans kc (by simp)
  have bO1 := kc.blk bO0 (by simp)
  have bA1 := kc.blk bA0 (by simp)
  have bC1 := kc.blk bC0 (by simp)
  have hR1 := hR0.keeps kc
  have hok1 : OkX' w1 x := hok0.keeps kc
  have hcl := bC1.lt
  clear K0 bO0 bA0 bC0 hR0 hok0 z0 z1 z2 zf zl c0 c1 cf cl hlk HW hw1 kc HZ
  have p0 : w1.cell? ⟨w.heap.size, 0, none⟩ = some (.int .i64 (x.code : Int)) := bO1.cell 0
  have pl := bO1.lt
  cases sn with
  | none =>
    have hRv : RR = (errA 6, s) := by rw [← HR.out]; unfold relW; rw [Hsn.out]
    have HRv := Lib.hid hRv
    obtain ⟨bS, kS⟩ := bA1.set4 (.int .i64 6) (.int .u64 0) (.string ⟨#[]⟩) (.string ⟨#[]⟩)
    obtain ⟨o0, o1, o2, o3, o4, o5⟩ := bA1.o4
    have HX := Lib.hid (And.intro (hR1.fresh0 hsz kS (by omega) o5) ((show Kq base (Q ++ [w.heap.size, w.heap.size + 1, w.heap.size + 1 + 1]) ns nc w _ from Kq.of K1).fresh kS (by omega)))
    have HbS := Lib.hid bS
    clear bS kS
    clear K1 bO1 bA1 bC1 hR1 hok1 hRv
    go_wp2_with fail
    refine bodyPost_ret (O.results_blk rfl _ _ (w.heap.size + 1) [.int .i64 6, .int .u64 0, .string ⟨#[]⟩, .string ⟨#[]⟩] _ rfl HbS.out Tryz.underlying32 sizAn) rfl ?_
    exact ⟨by first | (rw [HRv.out]; rfl) | rw [HRv.out], by rw [HRv.out]; exact HX.out.1.mono (by omega), HX.out.2⟩
  | some q =>
    have hRv : RR = (okA q.T, ⟨s.Bs, s.F, s.Ss.filter (fun p => !isS x.t x.hd p), s.Cs.filter (fun p => !onS x.t x.hd p)⟩) := by rw [← HR.out]; unfold relW; rw [Hsn.out]
    rw [← relK_all hi.bdC] at hRv
    have HRv := Lib.hid hRv
    have hre := (hR1.keeps (Keeps.refl [] w1).drew).mo.rel hi.bdS hx.t hx.hd
    obtain ⟨z0, z1, z2, zf, zl⟩ := hR1.hp.o3
    have p4 : w1.cell? ⟨w.heap.size, 4, none⟩ = some (.int .i64 (x.hd : Int)) := bO1.cell 4
    have hS : ∀ w' : World, Keeps [] w1 w' → (w'.cell? ⟨p, 0, none⟩ = some (.pointer (some ⟨m, 0, none⟩)) ∧ w'.cell? ⟨w.heap.size, 4, none⟩ = some (.int .i64 (x.hd : Int))) := fun w' k => ⟨k.cellEq z0 (by simp), k.cellEq p4 (by simp)⟩
    have HZ := Lib.hid (And.intro K1 (And.intro bO1 (And.intro bA1 (And.intro bC1 hR1))))
    clear K1 bO1 bA1 bC1 hR1 hok1 hRv
    go_upto_region 20 with fail
    go_cut [6] from 81 to 89 (fun s6 wx => s6 = .pointer (some ⟨w.heap.size + 1, 0, none⟩) ∧ Blk wx p [.pointer (some ⟨m, 0, none⟩), .map (some ns), .map (some nc)] ∧ MoP wx base (Q ++ [w.heap.size, w.heap.size + 1, w.heap.size + 1 + 1]) m N s.Bs s.F (s.Ss.filter fun p => !isS x.t x.hd p) ∧ SnP wx ns N s.Ss ∧ CuP wx nc N s.Cs ∧ Blk wx w.heap.size [.int .i64 (x.code : Int), .string ⟨x.key.toArray⟩, .int .u64 (x.time : Int), .slice x.bA x.b.length x.bc, .int .i64 (x.hd : Int), .int .i64 (x.cu : Int), .int .i64 (x.mo : Int)] ∧ Blk wx (w.heap.size + 1) [.int .i64 0, .int .u64 0, .string ⟨#[]⟩, .string ⟨#[]⟩] ∧ Blk wx (w.heap.size + 1 + 1) [.int .i64 (x.t : Int), .int .i64 (x.hd : Int)] ∧ Kq base (Q ++ [w.heap.size, w.heap.size + 1, w.heap.size + 1 + 1]) ns nc w wx)
    case first =>
      go_region_held3 (fun w' => w'.cell? ⟨p, 0, none⟩ = some (.pointer (some ⟨m, 0, none⟩)) ∧ w'.cell? ⟨w.heap.size, 4, none⟩ = some (.int .i64 (x.hd : Int)))
        (first
          | (with_reducible exact hS _ ((Keeps.refl [] w1).drew))
          | (with_reducible exact t5)
          | fail)
        ((first
          | (go_at_call 67; refine hre.mono ?_; rintro e w5 ⟨rfl, hm5, k5⟩; have bP5 := k5.blk (HZ.out.2.2.2.2.hp.drew) (.inl HZ.out.2.2.2.2.q.1); have bO5 := k5.blk (HZ.out.2.1.drew) (.inl (by simp)); have t5 : w5.cell? ⟨p, 0, none⟩ = some (.pointer (some ⟨m, 0, none⟩)) ∧ w5.cell? ⟨w.heap.size, 4, none⟩ = some (.int .i64 (x.hd : Int)) := ⟨bP5.cell 0, bO5.cell 4⟩)
          | fail))
      all_goals
        have hmod := (HZ.out.2.2.2.2.keeps (Keeps.refl [] w1).drew).model' k5
        have HY := Lib.hid (And.intro bP5 (And.intro hm5 (And.intro hmod.2.1 (And.intro hmod.2.2 (And.intro bO5 (And.intro (k5.blk (HZ.out.2.2.1.drew) (.inl (by simp))) (And.intro (k5.blk (HZ.out.2.2.2.1.drew) (.inl (by simp))) (show Kq base (Q ++ [w.heap.size, w.heap.size + 1, w.heap.size + 1 + 1]) ns nc w w5 from (Kq.of (HZ.out.1.trans (Keeps.refl [] w1).drew (by simp))).trans (Kq.ofp k5)))))))))
        clear hmod k5 bP5 bO5 hm5 t5
        go_wp2_with fail
        go_meet
        exact ⟨rfl, HY.out⟩
    case rest =>
    obtain ⟨rfl, bP5, hm5, hS5, hC5, bO5, bA5, bC5, kq5⟩ := hcut
    obtain ⟨w5, hw5⟩ : ∃ w5, w5 = wc := ⟨_, rfl⟩
    rw [← hw5] at bP5 hm5 hS5 hC5 bO5 bA5 bC5 kq5 ⊢
    clear hw5 z0 z1 z2 zf zl p4 hS hre p0 pl
    obtain ⟨w6, hrun0, hS6, k6⟩ := (hS5.keeps ((Keeps.refl [] w5).drew) (by simp)).del hi.bdS hx.t hx.hd 0
    have hrun : ∀ ty, (Builtin.delete_ #[77, 117] ty #[.map (some ns), .agg #[.int .i64 (x.t : Int), .int .i64 (x.hd : Int)]]).run Tryz.prog w5.drew = .ok (.tuple #[]) w6 := fun ty => hrun0
    have kd := (Keeps.refl [] w5).drew
    have hq := HZ.out.2.2.2.2
    have nO := hS5.nb bO5
    have nA := hS5.nb bA5
    have nP := hS5.nb bP5
    have hR6 : PR w6 base p m ns nc (Q ++ [w.heap.size, w.heap.size + 1, w.heap.size + 1 + 1]) N ⟨s.Bs, s.F, s.Ss.filter (fun p => !isS x.t x.hd p), s.Cs⟩ := ⟨k6.blk (kd.blk bP5 (by simp)) (by simpa using nP), (hm5.keeps kd).beside k6 (by intro i hi'; simp at hi'; subst hi'; exact hq.q.2.1), hS6, (hC5.keeps kd (by simp)).keeps k6 (by simpa using hq.ne.symm), hq.q, hq.ne, hq.ge⟩
    have HY := Lib.hid (And.intro hR6 (And.intro (k6.blk (kd.blk bO5 (by simp)) (by simpa using nO)) (And.intro (k6.blk (kd.blk bA5 (by simp)) (by simpa using nA)) (show Kq base (Q ++ [w.heap.size, w.heap.size + 1, w.heap.size + 1 + 1]) ns nc w w6 from (kq5.trans (Kq.of kd)).trans (Kq.ofn k6 hq.ge.1)))))
    obtain ⟨z0, z1, z2, zf, zl⟩ := bP5.o3
    obtain ⟨c0, c1, cf, cl⟩ := bC5.o2
    clear hrun0 kd hq nO nA nP hR6 hS6 k6 hm5 hS5 hC5 bO5 bA5 kq5 bP5 bC5
    go_upto_region 21 with fail
    go_cut [6] from 89 to 94 (fun s6 wx => s6 = .pointer (some ⟨w.heap.size + 1, 0, none⟩) ∧ PR wx base p m ns nc (Q ++ [w.heap.size, w.heap.size + 1, w.heap.size + 1 + 1]) N ⟨s.Bs, s.F, s.Ss.filter (fun p => !isS x.t x.hd p), s.Cs⟩ ∧ Blk wx w.heap.size [.int .i64 (x.code : Int), .string ⟨x.key.toArray⟩, .int .u64 (x.time : Int), .slice x.bA x.b.length x.bc, .int .i64 (x.hd : Int), .int .i64 (x.cu : Int), .int .i64 (x.mo : Int)] ∧ Blk wx (w.heap.size + 1) [.int .i64 0, .int .u64 0, .string ⟨#[]⟩, .string ⟨#[]⟩] ∧ Kq base (Q ++ [w.heap.size, w.heap.size + 1, w.heap.size + 1 + 1]) ns nc w wx)
    case first =>
      go_region
      all_goals
        go_wp2_with fail
        go_meet
        exact ⟨rfl, HY.out⟩
    case rest =>
    obtain ⟨rfl, hR6, bO6, bA6, kq6⟩ := hcut
    have HL := Lib.hid (And.intro hR6 (And.intro bO6 (And.intro bA6 kq6)))
    clear hR6 bO6 bA6 kq6 z0 z1 z2 zf zl c0 c1 cf cl hrun HY HZ
    go_wp2_with fail
    go_loopw [94] (fun i wr => ∃ k : Nat, k ≤ 8 ∧ i = .int .i64 k ∧ PR wr base p m ns nc (Q ++ [w.heap.size, w.heap.size + 1, w.heap.size + 1 + 1]) N ⟨s.Bs, s.F, s.Ss.filter (fun p => !isS x.t x.hd p), relK s.Cs x.t x.hd k⟩ ∧ Blk wr w.heap.size [.int .i64 (x.code : Int), .string ⟨x.key.toArray⟩, .int .u64 (x.time : Int), .slice x.bA x.b.length x.bc, .int .i64 (x.hd : Int), .int .i64 (x.cu : Int), .int .i64 (x.mo : Int)] ∧ Blk wr (w.heap.size + 1) [.int .i64 0, .int .u64 0, .string ⟨#[]⟩, .string ⟨#[]⟩] ∧ Kq base (Q ++ [w.heap.size, w.heap.size + 1, w.heap.size + 1 + 1]) ns nc w wr) (fun i _ => 8 - (intOf i).toNat)
    case atStart => exact ⟨0, by omega, rfl, by rw [relK_zero]; exact HL.out.1, HL.out.2.1, HL.out.2.2.1, HL.out.2.2.2⟩
    case round =>
      obtain ⟨k, hk, rfl, hRk, bO, bA, kq⟩ := hrel
      clear HL
      have hbd : BdC (relK s.Cs x.t x.hd k) := hi.bdC.filter _
      by_cases hlt : k < 8
      · obtain ⟨cu, hcu⟩ : ∃ cu, cuF (relK s.Cs x.t x.hd k) x.t k = cu := ⟨_, rfl⟩
        have hlook := hRk.cu.look hbd hx.t hlt cu hcu
        obtain ⟨z0, z1, z2, zf, zl⟩ := hRk.hp.o3
        have p4 : wr.cell? ⟨w.heap.size, 4, none⟩ = some (.int .i64 (x.hd : Int)) := bO.cell 4
        have pl := bO.lt
        have hkn : (k : Int) < 8 := by omega
        have ka := (Keeps.refl [] wr).alloc (.cells #[.int .i64 ((cu.getD cuZ).j : Int), .int .i64 ((cu.getD cuZ).pl : Int), .string ⟨(cu.getD cuZ).key.toArray⟩] 123)
        have hRa := hRk.keeps ka
        have bOa := ka.blk bO (by simp)
        have bAa := ka.blk bA (by simp)
        have kqa := kq.trans (Kq.of ka)
        by_cases hhit : ∃ e, cu = some e ∧ e.j = x.hd
        · obtain ⟨e, rfl, hej⟩ := hhit
          obtain ⟨w7, hrun0, hC7, k7⟩ := hRa.cu.del hbd hx.t hlt 0
          have hrun : ∀ ty, (Builtin.delete_ #[78, 117] ty #[.map (some nc), .agg #[.int .i64 (x.t : Int), .int .i64 (k : Int)]]).run Tryz.prog (wr.alloc (.cells #[.int .i64 (e.j : Int), .int .i64 (e.pl : Int), .string ⟨e.key.toArray⟩] 123)) = .ok (.tuple #[]) w7 := fun ty => hrun0
          have hn := hRa.nep hRa.hp
          have hR7 : PR w7 base p m ns nc (Q ++ [w.heap.size, w.heap.size + 1, w.heap.size + 1 + 1]) N ⟨s.Bs, s.F, s.Ss.filter (fun p => !isS x.t x.hd p), relK s.Cs x.t x.hd (k + 1)⟩ := by
            rw [relK_hit hi.bdC hcu hej]
            exact ⟨k7.blk hRa.hp (by simpa using hn.2), hRa.mo.beside k7 (by intro i hi'; simp at hi'; subst hi'; exact hRa.q.2.2), hRa.sn.keeps k7 (by simpa using hRa.ne), hC7, hRa.q, hRa.ne, hRa.ge⟩
          have bO7 := k7.blk bOa (by simpa using (hRa.nep bOa).2)
          have bA7 := k7.blk bAa (by simpa using (hRa.nep bAa).2)
          have kq7 := kqa.trans (Kq.ofc k7 hRa.ge.2)
          have hlook' : (Instr.lookup 78 (.map (some nc)) (.agg #[.int .i64 (x.t : Int), .int .i64 (k : Int)]) true).run Tryz.prog wr = .ok (.tuple #[.agg #[.int .i64 (e.j : Int), .int .i64 (e.pl : Int), .string ⟨e.key.toArray⟩], .bool true]) wr := hlook
          have hjj : ((e.j : Int) == (x.hd : Int)) = true := by rw [beq_iff_eq]; omega
          have HY := Lib.hid (And.intro hR7 (And.intro bO7 (And.intro bA7 kq7)))
          clear hlook hrun0 hR7 bO7 bA7 kq7 hn hC7 k7 ka hRa bOa bAa kqa hRk bO bA kq hcu hej hbd
          go_wp2_with fail
          exact ⟨⟨k + 1, by omega, by go_num, HY.out.1, HY.out.2.1, HY.out.2.2.1, HY.out.2.2.2⟩, by simp [intOf]; omega⟩
        · have hsame : relK s.Cs x.t x.hd (k + 1) = relK s.Cs x.t x.hd k := relK_same fun p hp ⟨h1, h2, h3⟩ => by
            cases cu with
            | none => exact cuF_none hcu p hp ⟨h1, h2⟩
            | some e =>
              obtain ⟨m1, m2, m3⟩ := cuF_some hcu
              obtain ⟨i, hi'⟩ := List.mem_iff_getElem?.1 hp
              obtain ⟨j, hj'⟩ := List.mem_iff_getElem?.1 m1
              have := pair_uniq hbd.1 (fun p q h => ⟨h.1.symm, h.2.symm⟩) hi' hj' ⟨h1.trans m2.symm, h2.trans m3.symm⟩
              subst this
              rw [hi'] at hj'
              have e4 := Option.some.inj hj'
              subst e4
              exact hhit ⟨_, rfl, h3⟩
          rw [← hsame] at hRa
          have HY := Lib.hid (And.intro hRa (And.intro bOa (And.intro bAa kqa)))
          clear hsame ka hRa bOa bAa kqa hRk bO bA kq hbd
          cases cu with
          | none =>
            have hlook' : (Instr.lookup 78 (.map (some nc)) (.agg #[.int .i64 (x.t : Int), .int .i64 (k : Int)]) true).run Tryz.prog wr = .ok (.tuple #[.agg #[.int .i64 0, .int .i64 0, .string ⟨#[]⟩], .bool false]) wr := hlook
            clear hlook hcu hhit
            go_wp2_with fail
            exact ⟨⟨k + 1, by omega, by go_num, HY.out.1, HY.out.2.1, HY.out.2.2.1, HY.out.2.2.2⟩, by simp [intOf]; omega⟩
          | some e =>
            have hlook' : (Instr.lookup 78 (.map (some nc)) (.agg #[.int .i64 (x.t : Int), .int .i64 (k : Int)]) true).run Tryz.prog wr = .ok (.tuple #[.agg #[.int .i64 (e.j : Int), .int .i64 (e.pl : Int), .string ⟨e.key.toArray⟩], .bool true]) wr := hlook
            have hjj : ((e.j : Int) == (x.hd : Int)) = false := by rw [beq_eq_false_iff_ne]; intro h; exact hhit ⟨e, rfl, by omega⟩
            clear hlook hcu hhit
            go_wp2_with fail
            exact ⟨⟨k + 1, by omega, by go_num, HY.out.1, HY.out.2.1, HY.out.2.2.1, HY.out.2.2.2⟩, by simp [intOf]; omega⟩
      · obtain rfl : k = 8 := by omega
        obtain ⟨bS, kS⟩ := bA.set4 (.int .i64 0) (.int .u64 (q.T : Int)) (.string ⟨#[]⟩) (.string ⟨#[]⟩)
        obtain ⟨o0, o1, o2, o3, o4, o5⟩ := bA.o4
        have HX := Lib.hid (And.intro (hRk.fresh0 hsz kS (by omega) o5) ((show Kq base (Q ++ [w.heap.size, w.heap.size + 1, w.heap.size + 1 + 1]) ns nc w _ from kq).fresh kS (by omega)))
        have HbS := Lib.hid bS
        clear bS kS
        clear hRk bO bA kq hbd hlt hk
        have hqq : (snT (some q) : Int) = (q.T : Int) := rfl
        rw [hqq]
        go_wp2_with fail
        refine bodyPost_ret (O.results_blk rfl _ _ (w.heap.size + 1) [.int .i64 0, .int .u64 (q.T : Int), .string ⟨#[]⟩, .string ⟨#[]⟩] _ rfl HbS.out Tryz.underlying32 sizAn) rfl ?_
        exact ⟨by first | (rw [HRv.out]; rfl) | rw [HRv.out], by rw [HRv.out]; exact HX.out.1.mono (by omega), HX.out.2⟩
set_option maxHeartbeats 4000000 in
theorem pp6 (h : PR w base p m ns nc Q N s) {n : Nat} (hi : Inv n s) (hn : n ≤ 25) (hN : N ≤ 4000) (x : RX) (hx : OkX x) (hok : OkX' w x) (hbl : x.b.length ≤ 1000) (ht : x.time ≤ 18446744073709551615) (hcd : x.code = 6) :
    Calls Tryz.prog 50 #[.pointer (some ⟨p, 0, none⟩), .int .i64 (x.t : Int), .agg #[.int .i64 (x.code : Int), .string ⟨x.key.toArray⟩, .int .u64 (x.time : Int), .slice x.bA x.b.length x.bc, .int .i64 (x.hd : Int), .int .i64 (x.cu : Int), .int .i64 (x.mo : Int)]] w (PoP w base p m ns nc (Q ++ [w.heap.size, w.heap.size + 1, w.heap.size + 1 + 1]) (N + 1) (((opnW s x).1, (opnW s x).2.2))) := by
  have K := (((Keeps.refl [] w).alloc (.cells #[.int .i64 (x.code : Int), .string ⟨x.key.toArray⟩, .int .u64 (x.time : Int), .slice x.bA x.b.length x.bc, .int .i64 (x.hd : Int), .int .i64 (x.cu : Int), .int .i64 (x.mo : Int)] 29)).alloc (.cells #[.int .i64 0, .int .u64 0, .string ⟨#[]⟩, .string ⟨#[]⟩] 32)).alloc (.cells #[.int .i64 (x.t : Int), .int .i64 (x.hd : Int)] 117)
  have bO := ((Blk.new w [.int .i64 (x.code : Int), .string ⟨x.key.toArray⟩, .int .u64 (x.time : Int), .slice x.bA x.b.length x.bc, .int .i64 (x.hd : Int), .int .i64 (x.cu : Int), .int .i64 (x.mo : Int)] 29).alloc (.cells #[.int .i64 0, .int .u64 0, .string ⟨#[]⟩, .string ⟨#[]⟩] 32)).alloc (.cells #[.int .i64 (x.t : Int), .int .i64 (x.hd : Int)] 117)
  have bA := (Blk.new_at (w.alloc (.cells #[.int .i64 (x.code : Int), .string ⟨x.key.toArray⟩, .int .u64 (x.time : Int), .slice x.bA x.b.length x.bc, .int .i64 (x.hd : Int), .int .i64 (x.cu : Int), .int .i64 (x.mo : Int)] 29)) (w.heap.size + 1) [.int .i64 0, .int .u64 0, .string ⟨#[]⟩, .string ⟨#[]⟩] 32 (by simp)).alloc (.cells #[.int .i64 (x.t : Int), .int .i64 (x.hd : Int)] 117)
  have bC := Blk.new_at ((w.alloc (.cells #[.int .i64 (x.code : Int), .string ⟨x.key.toArray⟩, .int .u64 (x.time : Int), .slice x.bA x.b.length x.bc, .int .i64 (x.hd : Int), .int .i64 (x.cu : Int), .int .i64 (x.mo : Int)] 29)).alloc (.cells #[.int .i64 0, .int .u64 0, .string ⟨#[]⟩, .string ⟨#[]⟩] 32)) (w.heap.size + 1 + 1) [.int .i64 (x.t : Int), .int .i64 (x.hd : Int)] 117 (by simp)
  obtain ⟨W, hW⟩ : ∃ W, W = ((w.alloc (.cells #[.int .i64 (x.code : Int), .string ⟨x.key.toArray⟩, .int .u64 (x.time : Int), .slice x.bA x.b.length x.bc, .int .i64 (x.hd : Int), .int .i64 (x.cu : Int), .int .i64 (x.mo : Int)] 29)).alloc (.cells #[.int .i64 0, .int .u64 0, .string ⟨#[]⟩, .string ⟨#[]⟩] 32)).alloc (.cells #[.int .i64 (x.t : Int), .int .i64 (x.hd : Int)] 117) := ⟨_, rfl⟩
  rw [← hW] at K bO bA bC
  have hsz := h.nel
  have hR := h.addQ K (L := [w.heap.size, w.heap.size + 1, w.heap.size + 1 + 1]) (by have := bC.lt; intro g hg; simp at hg; omega)
  have HW := Lib.hid hW
  have e3 : ((x.code : Int) == 3) = false := by rw [beq_eq_false_iff_ne]; have := hcd; omega
  have e1 : ((x.code : Int) == 1) = false := by rw [beq_eq_false_iff_ne]; have := hcd; omega
  have e2 : ((x.code : Int) == 2) = false := by rw [beq_eq_false_iff_ne]; have := hcd; omega
  have e4 : ((x.code : Int) == 4) = false := by rw [beq_eq_false_iff_ne]; have := hcd; omega
  have e5 : ((x.code : Int) == 5) = false := by rw [beq_eq_false_iff_ne]; have := hcd; omega
  have e6 : ((x.code : Int) == 6) = true := by rw [beq_iff_eq]; have := hcd; omega
  obtain ⟨RR, hRR⟩ : ∃ RR, ((opnW s x).1, (opnW s x).2.2) = RR := ⟨_, rfl⟩
  rw [hRR]
  have HR := Lib.hid hRR
  have Hcd := Lib.hid hcd
  obtain ⟨sn, hsn⟩ : ∃ sn, snF s.Ss x.t x.hd = sn := ⟨_, rfl⟩
  have Hsn := Lib.hid hsn
  have hlk := (hR.sn.keeps ((Keeps.refl [] W).drew) (by simp)).look hi.bdS hx.t hx.hd sn hsn
  obtain ⟨z0, z1, z2, zf, zl⟩ := hR.hp.o3
  obtain ⟨c0, c1, cf, cl⟩ := bC.o2
  have hok1 : OkX' W x := hok.keeps K
  have HZ := Lib.hid (And.intro K (And.intro bO (And.intro bA (And.intro bC (And.intro hR hok1)))))
  clear hR h hRR hW K bO bA bC hsn hcd hok hok1
  go_enter Tryz.func50, Tryz.ntmps50
  go_upto_region 2 with fail
  rw [← HW.out]
  go_cut [8, 9] from 14 to 27 (fun s8 s9 wx => s8 = .int .u64 (snT sn : Int) ∧ s9 = .bool sn.isSome ∧ Keeps [] W wx)
  case first =>
    go_region
    all_goals
      go_wp2_with fail
      go_meet
      exact ⟨rfl, rfl, (Keeps.refl [] W).drew⟩
  case rest =>
  obtain ⟨rfl, rfl, kc⟩ := hcut
  obtain ⟨K0, bO0, bA0, bC0, hR0, hok0⟩ := HZ.out
  obtain ⟨w1, hw1⟩ : ∃ w1, w1 = wc := ⟨_, rfl⟩
  rw [← hw1] at kc ⊢
  have K1 := K0.trans kc (by simp)
  have bO1 := kc.blk bO0 (by simp)
  have bA1 := kc.blk bA0 (by simp)
  have bC1 := kc.blk bC0 (by simp)
  have hR1 := hR0.keeps kc
  have hok1 : OkX' w1 x := hok0.keeps kc
  have hcl := bC1.lt
  clear K0 bO0 bA0 bC0 hR0 hok0 z0 z1 z2 zf zl c0 c1 cf cl hlk HW hw1 kc HZ
  have p0 : w1.cell? ⟨w.heap.size, 0, none⟩ = some (.int .i64 (x.code : Int)) := bO1.cell 0
  have pl := bO1.lt
  have hcall := popen_any hR1 hi (by omega) x hx sn Hsn.out Hcd.out
  obtain ⟨⟨a, s'⟩, hr⟩ : ∃ r, ((opnW s x).1, (opnW s x).2.2) = r := ⟨_, rfl⟩
  rw [hr] at hcall
  have hRv : RR = (a, s') := by rw [← HR.out, hr]
  have HRv := Lib.hid hRv
  have p1 : w1.cell? ⟨w.heap.size, 1, none⟩ = some (.string ⟨x.key.toArray⟩) := bO1.cell 1
  have p2 : w1.cell? ⟨w.heap.size, 2, none⟩ = some (.int .u64 (x.time : Int)) := bO1.cell 2
  have p3 : w1.cell? ⟨w.heap.size, 3, none⟩ = some (.slice x.bA x.b.length x.bc) := bO1.cell 3
  have p4 : w1.cell? ⟨w.heap.size, 4, none⟩ = some (.int .i64 (x.hd : Int)) := bO1.cell 4
  have p5 : w1.cell? ⟨w.heap.size, 5, none⟩ = some (.int .i64 (x.cu : Int)) := bO1.cell 5
  have p6 : w1.cell? ⟨w.heap.size, 6, none⟩ = some (.int .i64 (x.mo : Int)) := bO1.cell 6
  have HZ := Lib.hid (And.intro K1 (And.intro bA1 hR1))
  clear K1 bO1 bA1 bC1 hR1 hok1 hRv hr
  go_wp2_with fail
  refine hcall.mono ?_
  rintro e w2 ⟨rfl, hR2, k2⟩
  obtain ⟨K1, bA1, hR1⟩ := HZ.out
  have bA2 := k2.blk bA1 (.inr ⟨by simp, (hR1.nep bA1).1, (hR1.nep bA1).2⟩)
  have kq2 : Kq base (Q ++ [w.heap.size, w.heap.size + 1, w.heap.size + 1 + 1]) ns nc w w2 := (Kq.of K1).trans k2
  obtain ⟨bS, kS⟩ := bA2.set4 (.int .i64 a.er) (.int .u64 (a.tm : Int)) (.string ⟨a.k.toArray⟩) (.string ⟨a.v.toArray⟩)
  obtain ⟨o0, o1, o2, o3, o4, o5⟩ := bA2.o4
  have HX := Lib.hid (And.intro (hR2.fresh0 hsz kS (by omega) o5) ((show Kq base (Q ++ [w.heap.size, w.heap.size + 1, w.heap.size + 1 + 1]) ns nc w _ from kq2).fresh kS (by omega)))
  have HbS := Lib.hid bS
  clear bS kS
  clear K1 bA1 hR1 hR2 bA2 kq2 HZ hcall k2 p0 p1 p2 p3 p4 p5 p6 pl
  go_wp2_with fail
  refine bodyPost_ret (O.results_blk rfl _ _ (w.heap.size + 1) [.int .i64 a.er, .int .u64 (a.tm : Int), .string ⟨a.k.toArray⟩, .string ⟨a.v.toArray⟩] _ rfl HbS.out Tryz.underlying32 sizAn) rfl ?_
  exact ⟨by first | (rw [HRv.out]; rfl) | rw [HRv.out], by rw [HRv.out]; exact HX.out.1, HX.out.2⟩
set_option maxHeartbeats 4000000 in
theorem pp78 (h : PR w base p m ns nc Q N s) {n : Nat} (hi : Inv n s) (hn : n ≤ 25) (hN : N ≤ 4000) (x : RX) (hx : OkX x) (hok : OkX' w x) (hbl : x.b.length ≤ 1000) (ht : x.time ≤ 18446744073709551615) (hcd : x.code = 7 ∨ x.code = 8) :
    Calls Tryz.prog 50 #[.pointer (some ⟨p, 0, none⟩), .int .i64 (x.t : Int), .agg #[.int .i64 (x.code : Int), .string ⟨x.key.toArray⟩, .int .u64 (x.time : Int), .slice x.bA x.b.length x.bc, .int .i64 (x.hd : Int), .int .i64 (x.cu : Int), .int .i64 (x.mo : Int)]] w (PoP w base p m ns nc (Q ++ [w.heap.size, w.heap.size + 1, w.heap.size + 1 + 1]) (N + 1) (scrW s x)) := by
  have K := (((Keeps.refl [] w).alloc (.cells #[.int .i64 (x.code : Int), .string ⟨x.key.toArray⟩, .int .u64 (x.time : Int), .slice x.bA x.b.length x.bc, .int .i64 (x.hd : Int), .int .i64 (x.cu : Int), .int .i64 (x.mo : Int)] 29)).alloc (.cells #[.int .i64 0, .int .u64 0, .string ⟨#[]⟩, .string ⟨#[]⟩] 32)).alloc (.cells #[.int .i64 (x.t : Int), .int .i64 (x.hd : Int)] 117)
  have bO := ((Blk.new w [.int .i64 (x.code : Int), .string ⟨x.key.toArray⟩, .int .u64 (x.time : Int), .slice x.bA x.b.length x.bc, .int .i64 (x.hd : Int), .int .i64 (x.cu : Int), .int .i64 (x.mo : Int)] 29).alloc (.cells #[.int .i64 0, .int .u64 0, .string ⟨#[]⟩, .string ⟨#[]⟩] 32)).alloc (.cells #[.int .i64 (x.t : Int), .int .i64 (x.hd : Int)] 117)
  have bA := (Blk.new_at (w.alloc (.cells #[.int .i64 (x.code : Int), .string ⟨x.key.toArray⟩, .int .u64 (x.time : Int), .slice x.bA x.b.length x.bc, .int .i64 (x.hd : Int), .int .i64 (x.cu : Int), .int .i64 (x.mo : Int)] 29)) (w.heap.size + 1) [.int .i64 0, .int .u64 0, .string ⟨#[]⟩, .string ⟨#[]⟩] 32 (by simp)).alloc (.cells #[.int .i64 (x.t : Int), .int .i64 (x.hd : Int)] 117)
  have bC := Blk.new_at ((w.alloc (.cells #[.int .i64 (x.code : Int), .string ⟨x.key.toArray⟩, .int .u64 (x.time : Int), .slice x.bA x.b.length x.bc, .int .i64 (x.hd : Int), .int .i64 (x.cu : Int), .int .i64 (x.mo : Int)] 29)).alloc (.cells #[.int .i64 0, .int .u64 0, .string ⟨#[]⟩, .string ⟨#[]⟩] 32)) (w.heap.size + 1 + 1) [.int .i64 (x.t : Int), .int .i64 (x.hd : Int)] 117 (by simp)
  obtain ⟨W, hW⟩ : ∃ W, W = ((w.alloc (.cells #[.int .i64 (x.code : Int), .string ⟨x.key.toArray⟩, .int .u64 (x.time : Int), .slice x.bA x.b.length x.bc, .int .i64 (x.hd : Int), .int .i64 (x.cu : Int), .int .i64 (x.mo : Int)] 29)).alloc (.cells #[.int .i64 0, .int .u64 0, .string ⟨#[]⟩, .string ⟨#[]⟩] 32)).alloc (.cells #[.int .i64 (x.t : Int), .int .i64 (x.hd : Int)] 117) := ⟨_, rfl⟩
  rw [← hW] at K bO bA bC
  have hsz := h.nel
  have hR := h.addQ K (L := [w.heap.size, w.heap.size + 1, w.heap.size + 1 + 1]) (by have := bC.lt; intro g hg; simp at hg; omega)
  have HW := Lib.hid hW
  have e3 : ((x.code : Int) == 3) = false := by rw [beq_eq_false_iff_ne]; have := hcd; omega
  have e1 : ((x.code : Int) == 1) = false := by rw [beq_eq_false_iff_ne]; have := hcd; omega
  have e2 : ((x.code : Int) == 2) = false := by rw [beq_eq_false_iff_ne]; have := hcd; omega
  have e4 : ((x.code : Int) == 4) = false := by rw [beq_eq_false_iff_ne]; have := hcd; omega
  have e5 : ((x.code : Int) == 5) = false := by rw [beq_eq_false_iff_ne]; have := hcd; omega
  have e6 : ((x.code : Int) == 6) = false := by rw [beq_eq_false_iff_ne]; have := hcd; omega
  obtain ⟨RR, hRR⟩ : ∃ RR, scrW s x = RR := ⟨_, rfl⟩
  rw [hRR]
  have HR := Lib.hid hRR
  have Hcd := Lib.hid hcd
  obtain ⟨sn, hsn⟩ : ∃ sn, snF s.Ss x.t x.hd = sn := ⟨_, rfl⟩
  have Hsn := Lib.hid hsn
  have hlk := (hR.sn.keeps ((Keeps.refl [] W).drew) (by simp)).look hi.bdS hx.t hx.hd sn hsn
  obtain ⟨z0, z1, z2, zf, zl⟩ := hR.hp.o3
  obtain ⟨c0, c1, cf, cl⟩ := bC.o2
  have hok1 : OkX' W x := hok.keeps K
  have HZ := Lib.hid (And.intro K (And.intro bO (And.intro bA (And.intro bC (And.intro hR hok1)))))
  clear hR h hRR hW K bO bA bC hsn hcd hok hok1
  go_enter Tryz.func50, Tryz.ntmps50
  go_upto_region 2 with fail
  rw [← HW.out]
  go_cut [8, 9] from 14 to 27 (fun s8 s9 wx => s8 = .int .u64 (snT sn : Int) ∧ s9 = .bool sn.isSome ∧ Keeps [] W wx)
  case first =>
    go_region
    all_goals
      go_wp2_with fail
      go_meet
      exact ⟨rfl, rfl, (Keeps.refl [] W).drew⟩
  case rest =>
  obtain ⟨rfl, rfl, kc⟩ := hcut
  obtain ⟨K0, bO0, bA0, bC0, hR0, hok0⟩ := HZ.out
  obtain ⟨w1, hw1⟩ : ∃ w1, w1 = wc := ⟨_, rfl⟩
  rw [← hw1] at kc ⊢
  have K1 := K0.trans kc (by simp)
  have bO1 := kc.blk bO0 (by simp)
  have bA1 := kc.blk bA0 (by simp)
  have bC1 := kc.blk bC0 (by simp)
  have hR1 := hR0.keeps kc
  have hok1 : OkX' w1 x := hok0.keeps kc
  have hcl := bC1.lt
  clear K0 bO0 bA0 bC0 hR0 hok0 z0 z1 z2 zf zl c0 c1 cf cl hlk HW hw1 kc HZ
  have p0 : w1.cell? ⟨w.heap.size, 0, none⟩ = some (.int .i64 (x.code : Int)) := bO1.cell 0
  have pl := bO1.lt
  have hcall := pscroll_any hR1 hi (by omega) (by omega) x hx Hcd.out
  obtain ⟨⟨a, s'⟩, hr⟩ : ∃ r, scrW s x = r := ⟨_, rfl⟩
  rw [hr] at hcall
  have hRv : RR = (a, s') := by rw [← HR.out, hr]
  have HRv := Lib.hid hRv
  have p1 : w1.cell? ⟨w.heap.size, 1, none⟩ = some (.string ⟨x.key.toArray⟩) := bO1.cell 1
  have p2 : w1.cell? ⟨w.heap.size, 2, none⟩ = some (.int .u64 (x.time : Int)) := bO1.cell 2
  have p3 : w1.cell? ⟨w.heap.size, 3, none⟩ = some (.slice x.bA x.b.length x.bc) := bO1.cell 3
  have p4 : w1.cell? ⟨w.heap.size, 4, none⟩ = some (.int .i64 (x.hd : Int)) := bO1.cell 4
  have p5 : w1.cell? ⟨w.heap.size, 5, none⟩ = some (.int .i64 (x.cu : Int)) := bO1.cell 5
  have p6 : w1.cell? ⟨w.heap.size, 6, none⟩ = some (.int .i64 (x.mo : Int)) := bO1.cell 6
  have HZ := Lib.hid (And.intro K1 (And.intro bA1 hR1))
  clear K1 bO1 bA1 bC1 hR1 hok1 hRv hr
  go_wp2_with fail
  refine hcall.mono ?_
  rintro e w2 ⟨rfl, hR2, k2⟩
  obtain ⟨K1, bA1, hR1⟩ := HZ.out
  have bA2 := k2.blk bA1 (.inr ⟨by simp, (hR1.nep bA1).1, (hR1.nep bA1).2⟩)
  have kq2 : Kq base (Q ++ [w.heap.size, w.heap.size + 1, w.heap.size + 1 + 1]) ns nc w w2 := (Kq.of K1).trans k2
  obtain ⟨bS, kS⟩ := bA2.set4 (.int .i64 a.er) (.int .u64 (a.tm : Int)) (.string ⟨a.k.toArray⟩) (.string ⟨a.v.toArray⟩)
  obtain ⟨o0, o1, o2, o3, o4, o5⟩ := bA2.o4
  have HX := Lib.hid (And.intro (hR2.fresh0 hsz kS (by omega) o5) ((show Kq base (Q ++ [w.heap.size, w.heap.size + 1, w.heap.size + 1 + 1]) ns nc w _ from kq2).fresh kS (by omega)))
  have HbS := Lib.hid bS
  clear bS kS
  clear K1 bA1 hR1 hR2 bA2 kq2 HZ hcall k2 p0 p1 p2 p3 p4 p5 p6 pl
  go_wp2_with fail
  refine bodyPost_ret (O.results_blk rfl _ _ (w.heap.size + 1) [.int .i64 a.er, .int .u64 (a.tm : Int), .string ⟨a.k.toArray⟩, .string ⟨a.v.toArray⟩] _ rfl HbS.out Tryz.underlying32 sizAn) rfl ?_
  exact ⟨by first | (rw [HRv.out]; rfl) | rw [HRv.out], by rw [HRv.out]; exact HX.out.1, HX.out.2⟩
theorem pperf_any (h : PR w base p m ns nc Q N s) {n : Nat} (hi : Inv n s) (hn : n ≤ 25) (hN : N ≤ 4000) (x : RX) (hx : OkX x) (hok : OkX' w x) (hbl : x.b.length ≤ 1000) (ht : x.time ≤ 18446744073709551615) (hcd : x.code ≠ 9) :
    Calls Tryz.prog 50 #[.pointer (some ⟨p, 0, none⟩), .int .i64 (x.t : Int), .agg #[.int .i64 (x.code : Int), .string ⟨x.key.toArray⟩, .int .u64 (x.time : Int), .slice x.bA x.b.length x.bc, .int .i64 (x.hd : Int), .int .i64 (x.cu : Int), .int .i64 (x.mo : Int)]] w (PoP w base p m ns nc Q (N + 1) (perfO s x)) := by
  have key : Calls Tryz.prog 50 #[.pointer (some ⟨p, 0, none⟩), .int .i64 (x.t : Int), .agg #[.int .i64 (x.code : Int), .string ⟨x.key.toArray⟩, .int .u64 (x.time : Int), .slice x.bA x.b.length x.bc, .int .i64 (x.hd : Int), .int .i64 (x.cu : Int), .int .i64 (x.mo : Int)]] w (PoP w base p m ns nc (Q ++ [w.heap.size, w.heap.size + 1, w.heap.size + 1 + 1]) (N + 1) (perfO s x)) := by
    have hc := hx.code
    have e : (x.code = 1 ∨ x.code = 2) ∨ x.code = 3 ∨ x.code = 4 ∨ x.code = 5 ∨ x.code = 6 ∨ (x.code = 7 ∨ x.code = 8) := by omega
    rcases e with e | e | e | e | e | e
    · have h2 : perfO s x = (getW s x, s) := by unfold perfO; rw [if_pos e]
      rw [h2]; exact pp12 h hi hn hN x hx hok hbl ht e
    · have h2 : perfO s x = appO s x := by unfold perfO; rw [if_neg (by omega), if_pos e]
      rw [h2]; exact pp3 h hi hn hN x hx hok hbl ht e
    · have h2 : perfO s x = ((snpW s x).1, (snpW s x).2.2) := by unfold perfO; rw [if_neg (by omega), if_neg (by omega), if_pos e]
      rw [h2]; exact pp4 h hi hn hN x hx hok hbl ht e
    · have h2 : perfO s x = ((relW s x).1, (relW s x).2.2) := by unfold perfO; rw [if_neg (by omega), if_neg (by omega), if_neg (by omega), if_pos e]
      rw [h2]; exact pp5 h hi hn hN x hx hok hbl ht e
    · have h2 : perfO s x = ((opnW s x).1, (opnW s x).2.2) := by unfold perfO; rw [if_neg (by omega), if_neg (by omega), if_neg (by omega), if_neg (by omega), if_pos e]
      rw [h2]; exact pp6 h hi hn hN x hx hok hbl ht e
    · have h2 : perfO s x = scrW s x := by unfold perfO; rw [if_neg (by omega), if_neg (by omega), if_neg (by omega), if_neg (by omega), if_neg (by omega)]
      rw [h2]; exact pp78 h hi hn hN x hx hok hbl ht e
  refine key.mono ?_
  rintro e w' ⟨h1, h2, h3⟩
  exact ⟨h1, h2.subQ (fun q hq => List.mem_append_left _ hq) h.q, h3.subQ (fun q hq => List.mem_append_left _ hq)⟩
def expO (s : WS) (x : RX) : Bool × WS :=
  if x.code = 9 then (if anB (ansX x) (okA x.at_) = true then (decide (x.at_ ≤ minT s.Ss s.Bs.length), ⟨s.Bs, if x.at_ ≤ minT s.Ss s.Bs.length then max s.F x.at_ else s.F, s.Ss, s.Cs⟩) else (false, s)) else
  if x.code = 3 ∧ checkR 8 1 x.b = 0 ∧ (x.er = 2 ∨ x.er = 9) then (anB (ansX x) (errA x.er), s) else
  (decide (x.rs = -1) || anB (ansX x) (perfO s x).1, (perfO s x).2)
theorem anB_comm (a b : An) : anB a b = anB b a := by
  rw [Bool.eq_iff_iff, anB_iff, anB_iff]
  exact eq_comm
theorem expO_eq (s : WS) (x : RX) (hx : OkX x) : (expO s x).1 = fitsW (perfW s x) x ∧ ((expO s x).1 = true → (expO s x).2 = (perfW s x).2.2) := by
  have hc := hx.code
  have e : (x.code = 1 ∨ x.code = 2) ∨ x.code = 3 ∨ x.code = 4 ∨ x.code = 5 ∨ x.code = 6 ∨ x.code = 7 ∨ x.code = 8 ∨ x.code = 9 := by omega
  unfold expO fitsW
  rcases e with e | e | e | e | e | e | e | e
  · rw [if_neg (by omega), if_neg (by omega)]
    have h1 : perfO s x = (getW s x, s) := by unfold perfO; rw [if_pos e]
    have h2 : perfW s x = (getW s x, true, s) := by unfold perfW; rw [if_pos e]
    rw [h1, h2]
    simp [anB_comm]
  · rw [if_neg (by omega)]
    have h1 : perfO s x = appO s x := by unfold perfO; rw [if_neg (by omega), if_pos e]
    have h2 : perfW s x = appW s x := by unfold perfW; rw [if_neg (by omega), if_pos e]
    rw [h1, h2]
    unfold appO appW
    by_cases hk : checkR 8 1 x.b = 0
    · by_cases he : x.er = 2 ∨ x.er = 9
      · rw [if_pos ⟨e, hk, he⟩, if_pos hk, if_pos he]
        have : anB (ansX x) (ansX x) = true := (anB_iff _ _).2 rfl
        simp [this]
      · rw [if_neg (fun h => he h.2.2), if_pos hk, if_pos hk, if_neg he]
        simp [anB_comm]
    · rw [if_neg (fun h => hk h.2.1), if_neg hk, if_neg hk]
      simp [anB_comm]
  · rw [if_neg (by omega), if_neg (by omega)]
    have h1 : perfO s x = ((snpW s x).1, (snpW s x).2.2) := by unfold perfO; rw [if_neg (by omega), if_neg (by omega), if_pos e]
    have h2 : perfW s x = snpW s x := by unfold perfW; rw [if_neg (by omega), if_neg (by omega), if_neg (by omega), if_pos e]
    rw [h1, h2]
    have h3 : (snpW s x).2.1 = true := by unfold snpW; split <;> rfl
    simp [h3, anB_comm]
  · rw [if_neg (by omega), if_neg (by omega)]
    have h1 : perfO s x = ((relW s x).1, (relW s x).2.2) := by unfold perfO; rw [if_neg (by omega), if_neg (by omega), if_neg (by omega), if_pos e]
    have h2 : perfW s x = relW s x := by unfold perfW; rw [if_neg (by omega), if_neg (by omega), if_neg (by omega), if_neg (by omega), if_pos e]
    rw [h1, h2]
    have h3 : (relW s x).2.1 = true := by unfold relW; split <;> rfl
    simp [h3, anB_comm]
  · rw [if_neg (by omega), if_neg (by omega)]
    have h1 : perfO s x = ((opnW s x).1, (opnW s x).2.2) := by unfold perfO; rw [if_neg (by omega), if_neg (by omega), if_neg (by omega), if_neg (by omega), if_pos e]
    have h2 : perfW s x = opnW s x := by unfold perfW; rw [if_neg (by omega), if_neg (by omega), if_neg (by omega), if_neg (by omega), if_neg (by omega), if_pos e]
    rw [h1, h2]
    have h3 : (opnW s x).2.1 = true := by unfold opnW; split; rfl; split <;> rfl
    simp [h3, anB_comm]
  · rw [if_neg (by omega), if_neg (by omega)]
    have h1 : perfO s x = ((movW s x).1, (movW s x).2.2) := by unfold perfO scrW; rw [if_neg (by omega), if_neg (by omega), if_neg (by omega), if_neg (by omega), if_neg (by omega), if_neg (by omega)]
    have h2 : perfW s x = movW s x := by unfold perfW; rw [if_neg (by omega), if_neg (by omega), if_neg (by omega), if_neg (by omega), if_neg (by omega), if_neg (by omega), if_neg (by omega)]
    rw [h1, h2]
    have h3 : (movW s x).2.1 = true := by unfold movW; split; rfl; split <;> rfl
    simp [h3, anB_comm]
  · rw [if_neg (by omega), if_neg (by omega)]
    have h1 : perfO s x = ((cloW s x).1, (cloW s x).2.2) := by unfold perfO scrW; rw [if_neg (by omega), if_neg (by omega), if_neg (by omega), if_neg (by omega), if_neg (by omega), if_pos e]
    have h2 : perfW s x = cloW s x := by unfold perfW; rw [if_neg (by omega), if_neg (by omega), if_neg (by omega), if_neg (by omega), if_neg (by omega), if_neg (by omega), if_pos e]
    rw [h1, h2]
    have h3 : (cloW s x).2.1 = true := by unfold cloW; split <;> rfl
    simp [h3, anB_comm]
  · rw [if_pos e]
    have h2 : perfW s x = vacW s x := by unfold perfW; rw [if_neg (by omega), if_neg (by omega), if_pos e]
    rw [h2]
    unfold vacW
    have ha : anB (ansX x) (ansX x) = true := (anB_iff _ _).2 rfl
    by_cases h1 : anB (ansX x) (okA x.at_) = true
    · rw [if_pos h1]
      by_cases h3 : x.at_ ≤ minT s.Ss s.Bs.length
      · rw [if_pos h3, if_pos (by simp [h1, h3])]
        simp [ha, h3]
      · rw [if_neg h3, if_neg (by simp [h3])]
        simp [h3]
    · rw [if_neg h1, if_neg (by simp [h1])]
      simp
end Go.Proofs.YtbcgpjfejpcgnaaGreat
end
