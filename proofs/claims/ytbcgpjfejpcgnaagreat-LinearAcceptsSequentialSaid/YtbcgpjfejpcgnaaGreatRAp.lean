/- Lemmas on the way to LinearAcceptsSequential. No condition. -/
import Derived.Test.YtbcgpjfejpcgnaaGreatRAo
set_option linter.unusedSimpArgs false
set_option linter.unusedVariables false
set_option linter.unusedSectionVars false
section
namespace Go.Proofs.YtbcgpjfejpcgnaaGreat
open Go.RowKit Go.Shelf Go.Lib Go.Sort
theorem split_at {α : Type} (p : α → Bool) : ∀ l : List α, l.Pairwise (fun x y => p y = true → p x = true) → ∃ l1 l2, l = l1 ++ l2 ∧ (∀ x ∈ l1, p x = true) ∧ ∀ x ∈ l2, p x = false
  | [], _ => ⟨[], [], rfl, by simp, by simp⟩
  | x :: l, h => by
    obtain ⟨h1, h2⟩ := List.pairwise_cons.1 h
    obtain ⟨l1, l2, e, q1, q2⟩ := split_at p l h2
    by_cases hx : p x = true
    · exact ⟨x :: l1, l2, by rw [e]; rfl, fun y hy => by rcases List.mem_cons.1 hy with rfl | hy; exact hx; exact q1 y hy, q2⟩
    · refine ⟨[], x :: l, rfl, by simp, fun y hy => ?_⟩
      rcases List.mem_cons.1 hy with rfl | hy
      · simpa using hx
      · cases hp : p y with
        | false => rfl
        | true => exact absurd (h1 y hy hp) hx
theorem get_at {α : Type} [Inhabited α] (l : List α) (i : Nat) (x : α) (h : l[i]? = some x) : l.toArray[i]! = x := by
  rw [List.getElem!_toArray, List.getElem!_eq_getElem?_getD, h]; rfl
variable {P : Program} {α : Type} [Inhabited α] {enc : α → List Value} {k : Nat} {w0 : World} {blk off : Nat} {d0 : Array α}
def SymPost (enc : α → List Value) (k : Nat) (w0 : World) (blk off : Nat) (T : List α) (e : Ending) (w' : World) : Prop := e = .returned (.tuple #[]) ∧ SWK enc k w0 blk off T.toArray w'
set_option maxHeartbeats 4000000 in
set_option maxRecDepth 1000000 in
theorem sym_one (L : SL P k) (R : RowK enc k w0 blk off d0) (key : α → Int) (cf : α → α → Int) (cap g : Nat) (cb : Array Value) (eg : ∀ args w, (callFunc g args).run P w = .ok (.enter g args) w) (hcf0 : ∀ x y, (cf x y < 0) = (key x < key y)) (hC : CmpLays P g cb enc k cf blk off d0.size w0)
    (X M Y : List α) (x : α) (a b N : Nat) (hX : X.length = a) (hb : a + 1 + M.length = b) (hN : (X ++ (x :: (M ++ Y))).length = N) (hd : d0.size = N) (hsz : N < 4611686018427387904) (hM : SortK key M)
    (w : World) (S : SWK enc k w0 blk off (X ++ (x :: (M ++ Y))).toArray w) :
    Calls P 73 #[.slice (some ⟨blk, off, none⟩) N cap, .int .i64 a, .int .i64 (a + 1), .int .i64 b, .func (.func g) #[] cb] w (SymPost enc k w0 blk off (X ++ (stab key ([x] ++ M) ++ Y))) := by
  have mixed := L.mixed; have t3 := L.t3; have a3 := L.a3; have z3 := L.z3; have v3 := L.v3; have t4 := L.t4; have a4 := L.a4; have z4 := L.z4; have v4 := L.v4; have t22 := L.t25; have a22 := L.a25; have z22 := L.z25; have v22 := L.v25; have t67 := L.t136; have a67 := L.a136; have z67 := L.z136; have v67 := L.v136; have aE := L.aE; have zE := L.zE
  obtain ⟨M1, M2, rfl, h1, h2⟩ := split_at (fun y => decide (key y < key x)) M (hM.imp fun {u v} h hv => by simp at hv ⊢; omega)
  have h1' : ∀ y ∈ M1, key y < key x := fun y hy => by simpa using h1 y hy
  have h2' : ∀ y ∈ M2, key x ≤ key y := fun y hy => by simpa using h2 y hy
  rw [stab_front hM h1' h2']
  obtain ⟨q, hq⟩ : ∃ q, M1.length = q := ⟨_, rfl⟩
  have hbN : b ≤ N := by simp at hN hb; omega
  have hqb : a + 1 + q ≤ b := by simp at hb; omega
  have hgetx : (X ++ (x :: (M1 ++ M2 ++ Y))).toArray[a]! = x := get_at _ _ _ (by rw [List.getElem?_append_right (by omega), show a - X.length = 0 by omega]; rfl)
  have hlow : ∀ h, a + 1 ≤ h → h < a + 1 + q → key (X ++ (x :: (M1 ++ M2 ++ Y))).toArray[h]! < key x := fun h g1 g2 => by
    have hm : M1[h - (a + 1)]? = some (M1[h - (a + 1)]'(by omega)) := List.getElem?_eq_getElem _
    rw [get_at _ h _ (show (X ++ (x :: (M1 ++ M2 ++ Y)))[h]? = some (M1[h - (a + 1)]'(by omega)) by
      rw [List.getElem?_append_right (by omega), show h - X.length = (h - (a + 1)) + 1 by omega, List.getElem?_cons_succ, List.append_assoc, List.getElem?_append_left (by omega), hm])]
    exact h1' _ (List.getElem_mem _)
  have hhigh : ∀ h, a + 1 + q ≤ h → h < b → ¬ key (X ++ (x :: (M1 ++ M2 ++ Y))).toArray[h]! < key x := fun h g1 g2 => by
    have hlen : h - (a + 1 + q) < M2.length := by simp at hb; omega
    have hm : M2[h - (a + 1 + q)]? = some (M2[h - (a + 1 + q)]'hlen) := List.getElem?_eq_getElem _
    rw [get_at _ h _ (show (X ++ (x :: (M1 ++ M2 ++ Y)))[h]? = some (M2[h - (a + 1 + q)]'hlen) by
      rw [List.getElem?_append_right (by omega), show h - X.length = (h - (a + 1)) + 1 by omega, List.getElem?_cons_succ, List.append_assoc, List.getElem?_append_right (by omega), List.getElem?_append_left (by omega), ← hm]
      congr 1; omega)]
    have := h2' _ (List.getElem_mem hlen)
    omega
  have hstep : ∀ t, t < q → swp (X ++ (M1.take t ++ (x :: (M1.drop t ++ (M2 ++ Y))))).toArray (a + t) (a + t + 1) = (X ++ (M1.take (t + 1) ++ (x :: (M1.drop (t + 1) ++ (M2 ++ Y))))).toArray := fun t ht => by
    obtain ⟨v, e1, e3⟩ : ∃ v, M1.drop t = v :: M1.drop (t + 1) ∧ M1.take (t + 1) = M1.take t ++ [v] := ⟨M1[t]'(by omega), List.drop_eq_getElem_cons (by omega), by rw [List.take_add_one, List.getElem?_eq_getElem (by omega)]; rfl⟩
    have h := swp_list (X ++ M1.take t) [] (M1.drop (t + 1) ++ (M2 ++ Y)) x v (a + t) (a + t + 1) (by simp; omega) (by simp; omega)
    rw [e1, e3]
    simpa [List.append_assoc] using h
  have hsz2 : ∀ t, (X ++ (M1.take t ++ (x :: (M1.drop t ++ (M2 ++ Y))))).toArray.size = N := fun t => by
    have : (M1.take t ++ M1.drop t).length = M1.length := by rw [List.take_append_drop]
    simp only [List.size_toArray, List.length_append, List.length_cons] at hN this ⊢
    omega
  have hS0 : SWK enc k w0 blk off (X ++ (x :: (M1 ++ M2 ++ Y))).toArray w := S
  have hshape : (X ++ (x :: (M1 ++ M2 ++ Y))).toArray = (X ++ (M1.take 0 ++ (x :: (M1.drop 0 ++ (M2 ++ Y))))).toArray := by simp
  have hsz1 : (X ++ (x :: (M1 ++ M2 ++ Y))).toArray.size = N := by rw [List.size_toArray]; exact hN
  obtain ⟨dk, hdk⟩ : ∃ dk, (X ++ (x :: (M1 ++ M2 ++ Y))).toArray = dk := ⟨_, rfl⟩
  rw [hdk] at hgetx hlow hhigh hS0 hshape hsz1
  have S0 : Aside (SWK enc k w0 blk off dk w) := hS0
  have HG := Lib.hid hgetx
  have HLO := Lib.hid hlow
  have HHI := Lib.hid hhigh
  have HST := Lib.hid hstep
  have HSZ := Lib.hid hsz2
  have HSH := Lib.hid hshape
  have hd1 : dk.size = d0.size := by rw [hsz1, hd]
  have HC : Aside _ := hC
  have hcf := Lib.hid hcf0
  have HQ : Hid (M1.length = q) := hq
  have HD : Hid (d0.size = N) := hd
  clear S hS0 hX hb hN hM h1 h2 h1' h2' hgetx hlow hhigh hstep hsz2 hshape hsz1 hdk hC hcf0 hq
  have wm : IntKind.i64.wrap ((a : Int) + 1 - (a : Int)) = 1 := by rw [IntKind.wrap_i64]; omega
  have b1 : ((1 : Int) == 1) = true := rfl
  have em : (a : Int) + 1 - (a : Int) = 1 := by omega
  go_enter L.f73, Tryz.ntmps73
  go_wp2_with fail
  go_loopg [10, 11] (b - a) (fun kx s t wr => ∃ i j : Nat, s = .int .i64 i ∧ t = .int .i64 j ∧ a + 1 ≤ i ∧ i ≤ a + 1 + q ∧ a + 1 + q ≤ j ∧ j ≤ b ∧ j - i ≤ kx ∧ Aside (SWK enc k w0 blk off dk wr))
  case atStart => exact ⟨a + 1, b, by go_num, rfl, Nat.le_refl _, by omega, hqb, Nat.le_refl _, by omega, S0⟩
  case round =>
    clear S0
    obtain ⟨i, j, rfl, rfl, hi1, hi2, hj1, hj2, hkx, S1⟩ := hrel
    by_cases hlt : i < j
    · have hltz : (i : Int) < (j : Int) := by omega
      obtain ⟨h, hh⟩ : ∃ h, (i + j) / 2 = h := ⟨_, rfl⟩
      have hh1 : i ≤ h := by omega
      have hh2 : h < j := by omega
      have hsum : ((i : Int) + (j : Int)) / 2 = (h : Int) := by omega
      have hsum2 : IntKind.i64.wrap ((i : Int) + (j : Int)) = (i : Int) + (j : Int) := by rw [IntKind.wrap_i64]; omega
      have hsum3 : IntKind.u64.wrap ((i : Int) + (j : Int)) = (i : Int) + (j : Int) := IntWalk.u64_in _ ⟨by omega, by omega⟩
      have Hh := Lib.hid hh
      clear hh
      by_cases hc : h < a + 1 + q
      · have eat1 : ((h : Int)).toNat = h := by omega
        have pat1 : (0 : Int) ≤ (h : Int) := by omega
        have bat1 : (h : Int) < (N : Int) := by omega
        have rat1 : IntKind.i64.wrap ((h : Int)) = (h : Int) := by rw [IntKind.wrap_i64]; omega
        have ect1 : ((a : Int)).toNat = a := by omega
        have pct1 : (0 : Int) ≤ (a : Int) := by omega
        have bct1 : (a : Int) < (N : Int) := by omega
        have rct1 : IntKind.i64.wrap ((a : Int)) = (a : Int) := by rw [IntKind.wrap_i64]; omega
        obtain ⟨xt1, hxt1⟩ : ∃ x, x = dk[h]! := ⟨_, rfl⟩
        obtain ⟨yt1, hyt1⟩ : ∃ x, x = dk[a]! := ⟨_, rfl⟩
        have lt1a := S1.out.ld R (by omega) P (h) (by omega)
        have lt1b := S1.out.ld R (by omega) P (a) (by omega)
        rw [← hxt1] at lt1a
        rw [← hyt1] at lt1b
        have hct1 := S1.out.cmp HC.out (by omega) xt1 yt1
        have hvt1 : cf xt1 yt1 < 0 := by rw [hcf.out, hxt1, hyt1]; exact (by rw [HG.out]; have := HLO.out h (by omega) hc; omega)
        have hdt1 : decide (cf xt1 yt1 < 0) = true := decide_eq_true hvt1
        clear hxt1 hyt1
        go_wp2_with fail
        go_quiet_grown (first | (go_at_fn g; refine Calls.grown_of (hct1 _ _)))
        have SV : Aside (SWK enc k w0 blk off dk (grow (wr.drewN nq) osq)) := S1.out.grown nq osq
        clear lt1a lt1b hct1 S1
        generalize grow (wr.drewN nq) osq = wv1 at SV ⊢
        clear nq osq
        go_wp2_with fail
        go_roundg (j - (h + 1))
        case measure => omega
        case rel => exact ⟨h + 1, j, by go_num, rfl, by omega, by omega, hj1, hj2, Nat.le_refl _, SV⟩
      · have eat2 : ((h : Int)).toNat = h := by omega
        have pat2 : (0 : Int) ≤ (h : Int) := by omega
        have bat2 : (h : Int) < (N : Int) := by omega
        have rat2 : IntKind.i64.wrap ((h : Int)) = (h : Int) := by rw [IntKind.wrap_i64]; omega
        have ect2 : ((a : Int)).toNat = a := by omega
        have pct2 : (0 : Int) ≤ (a : Int) := by omega
        have bct2 : (a : Int) < (N : Int) := by omega
        have rct2 : IntKind.i64.wrap ((a : Int)) = (a : Int) := by rw [IntKind.wrap_i64]; omega
        obtain ⟨xt2, hxt2⟩ : ∃ x, x = dk[h]! := ⟨_, rfl⟩
        obtain ⟨yt2, hyt2⟩ : ∃ x, x = dk[a]! := ⟨_, rfl⟩
        have lt2a := S1.out.ld R (by omega) P (h) (by omega)
        have lt2b := S1.out.ld R (by omega) P (a) (by omega)
        rw [← hxt2] at lt2a
        rw [← hyt2] at lt2b
        have hct2 := S1.out.cmp HC.out (by omega) xt2 yt2
        have hvt2 : ¬ cf xt2 yt2 < 0 := by rw [hcf.out, hxt2, hyt2]; exact (by rw [HG.out]; have := HHI.out h (by omega) (by omega); omega)
        have hdt2 : decide (cf xt2 yt2 < 0) = false := decide_eq_false hvt2
        clear hxt2 hyt2
        go_wp2_with fail
        go_quiet_grown (first | (go_at_fn g; refine Calls.grown_of (hct2 _ _)))
        have SV : Aside (SWK enc k w0 blk off dk (grow (wr.drewN nq) osq)) := S1.out.grown nq osq
        clear lt2a lt2b hct2 S1
        generalize grow (wr.drewN nq) osq = wv1 at SV ⊢
        clear nq osq
        go_wp2_with fail
        go_roundg (h - i)
        case measure => omega
        case rel => exact ⟨i, h, rfl, by go_num, hi1, hi2, by omega, by omega, Nat.le_refl _, SV⟩
    · obtain rfl : i = a + 1 + q := by omega
      obtain rfl : j = a + 1 + q := by omega
      have e1 : ((a + 1 + q : Nat) : Int) = (a : Int) + 1 + (q : Int) := by omega
      have e2 : IntKind.i64.wrap ((a : Int) + 1 + (q : Int) - 1) = (a : Int) + (q : Int) := by rw [IntKind.wrap_i64]; omega
      have e3 : (a : Int) + 1 + (q : Int) - 1 = (a : Int) + (q : Int) := by omega
      rw [e1]
      rw [HSH.out] at S1
      go_wp2_with fail
      go_loopg [13] q (fun kx s wr => ∃ t : Nat, s = .int .i64 ((a : Int) + (t : Int)) ∧ t ≤ q ∧ q - t ≤ kx ∧ Aside (SWK enc k w0 blk off (X ++ (M1.take t ++ (x :: (M1.drop t ++ (M2 ++ Y))))).toArray wr))
      case atStart => exact ⟨0, by simp, by omega, by omega, S1⟩
      case round =>
        clear S1
        obtain ⟨t, rfl, ht, hkt, S1⟩ := hrel
        by_cases hlt : t < q
        · have hltz : (a : Int) + (t : Int) < (a : Int) + (q : Int) := by omega
          have hsw := HST.out t hlt
          have hsz3 := HSZ.out t
          obtain ⟨dq, hdq⟩ : ∃ dq, (X ++ (M1.take t ++ (x :: (M1.drop t ++ (M2 ++ Y))))).toArray = dq := ⟨_, rfl⟩
          rw [hdq] at S1 hsw hsz3
          have HSW := Lib.hid hsw
          have hd2 : dq.size = d0.size := by rw [hsz3, HD.out]
          clear hdq hsw
          have eat3 : ((a : Int) + (t : Int)).toNat = a + t := by omega
          have pat3 : (0 : Int) ≤ (a : Int) + (t : Int) := by omega
          have bat3 : (a : Int) + (t : Int) < (N : Int) := by omega
          have rat3 : IntKind.i64.wrap ((a : Int) + (t : Int)) = (a : Int) + (t : Int) := by rw [IntKind.wrap_i64]; omega
          have ect3 : ((a : Int) + (t : Int) + 1).toNat = a + t + 1 := by omega
          have pct3 : (0 : Int) ≤ (a : Int) + (t : Int) + 1 := by omega
          have bct3 : (a : Int) + (t : Int) + 1 < (N : Int) := by omega
          have rct3 : IntKind.i64.wrap ((a : Int) + (t : Int) + 1) = (a : Int) + (t : Int) + 1 := by rw [IntKind.wrap_i64]; omega
          have S2 : Aside (SWK enc k w0 blk off (swp dq (a + t) (a + t + 1)) ((wr.drew.setCells blk (off + (a + t) * k) (enc dq[a + t + 1]!)).setCells blk (off + (a + t + 1) * k) (enc dq[a + t]!))) := S1.out.swapped R (a + t) (a + t + 1) (by omega) (by omega)
          have lt3a := S1.out.ld1 R (by omega) P (a + t) (by omega)
          have lt3b := S1.out.ld1 R (by omega) P (a + t + 1) (by omega)
          have st3a := S1.out.st1 R (by omega) P (a + t) (by omega) dq[a + t + 1]!
          have st3b := S1.out.st2 R (by omega) P (a + t) (a + t + 1) (by omega) (by omega) dq[a + t + 1]! dq[a + t]!
          have nt3a : (enc dq[a + t]!).length = k := R.hk _
          have nt3b : (enc dq[a + t + 1]!).length = k := R.hk _
          generalize enc dq[a + t]! = cIt3 at S2 lt3a st3b nt3a
          generalize enc dq[a + t + 1]! = cJt3 at S2 lt3b st3a st3b nt3b
          clear S1
          go_wp2_with fail
          go_big_region_o
          clear lt3a lt3b st3a st3b
          generalize (wr.drew.setCells blk (off + (a + t) * k) cJt3).setCells blk (off + (a + t + 1) * k) cIt3 = w2 at S2 ⊢
          go_wp2_with fail
          go_roundg (q - (t + 1))
          case measure => omega
          case rel =>
            refine ⟨t + 1, by go_num, by omega, Nat.le_refl _, ?_⟩
            show SWK enc k w0 blk off _ _
            rw [← HSW.out]
            exact S2
        · obtain rfl : t = q := by omega
          have hltz : ¬ (a : Int) + (t : Int) < (a : Int) + (t : Int) := by omega
          have SF : Aside (SWK enc k w0 blk off (X ++ (M1 ++ ([x] ++ M2) ++ Y)).toArray wr) := by
            have := S1.out
            rw [List.take_of_length_le (by rw [HQ.out]; exact Nat.le_refl _), List.drop_of_length_le (by rw [HQ.out]; exact Nat.le_refl _)] at this
            show SWK enc k w0 blk off _ _
            simpa [List.append_assoc] using this
          clear S1
          go_wp2_with fail
          go_end0
          exact ⟨rfl, by have := SF.out; simpa [List.append_assoc] using this⟩
end Go.Proofs.YtbcgpjfejpcgnaaGreat
end
section
namespace Go.Proofs.YtbcgpjfejpcgnaaGreat
open Go.RowKit Go.Shelf Go.Lib Go.Sort
variable {P : Program} {α : Type} [Inhabited α] {enc : α → List Value} {k : Nat} {w0 : World} {blk off : Nat} {d0 : Array α}
set_option maxHeartbeats 4000000 in
set_option maxRecDepth 1000000 in
theorem sym_last (L : SL P k) (R : RowK enc k w0 blk off d0) (key : α → Int) (cf : α → α → Int) (cap g : Nat) (cb : Array Value) (eg : ∀ args w, (callFunc g args).run P w = .ok (.enter g args) w) (hcf0 : ∀ x y, (cf x y < 0) = (key x < key y)) (hC : CmpLays P g cb enc k cf blk off d0.size w0)
    (X M Y : List α) (y : α) (a m N : Nat) (hX : X.length = a) (hm : a + M.length = m) (hM2 : 2 ≤ M.length) (hN : (X ++ (M ++ (y :: Y))).length = N) (hd : d0.size = N) (hsz : N < 4611686018427387904) (hM : SortK key M)
    (w : World) (S : SWK enc k w0 blk off (X ++ (M ++ (y :: Y))).toArray w) :
    Calls P 73 #[.slice (some ⟨blk, off, none⟩) N cap, .int .i64 a, .int .i64 m, .int .i64 (m + 1), .func (.func g) #[] cb] w (SymPost enc k w0 blk off (X ++ (stab key (M ++ [y]) ++ Y))) := by
  have mixed := L.mixed; have t3 := L.t3; have a3 := L.a3; have z3 := L.z3; have v3 := L.v3; have t4 := L.t4; have a4 := L.a4; have z4 := L.z4; have v4 := L.v4; have t22 := L.t25; have a22 := L.a25; have z22 := L.z25; have v22 := L.v25; have t67 := L.t136; have a67 := L.a136; have z67 := L.z136; have v67 := L.v136; have aE := L.aE; have zE := L.zE
  obtain ⟨M1, M2, rfl, h1, h2⟩ := split_at (fun z => decide (key z ≤ key y)) M (hM.imp fun {u v} h hv => by simp at hv ⊢; omega)
  have h1' : ∀ z ∈ M1, key z ≤ key y := fun z hz => by simpa using h1 z hz
  have h2' : ∀ z ∈ M2, key y < key z := fun z hz => by have := h2 z hz; simp at this; omega
  rw [stab_back hM h1' h2']
  obtain ⟨q, hq⟩ : ∃ q, M1.length = q := ⟨_, rfl⟩
  obtain ⟨r, hr⟩ : ∃ r, M2.length = r := ⟨_, rfl⟩
  rw [List.length_append, hq, hr] at hm hM2
  have hmN : m + 1 ≤ N := by simp at hN; omega
  have hgety : (X ++ (M1 ++ M2 ++ (y :: Y))).toArray[m]! = y := get_at _ _ _ (by rw [List.getElem?_append_right (by omega), List.getElem?_append_right (by simp; omega), show m - X.length - (M1 ++ M2).length = 0 by simp; omega]; rfl)
  have hlow : ∀ h, a ≤ h → h < a + q → key (X ++ (M1 ++ M2 ++ (y :: Y))).toArray[h]! ≤ key y := fun h g1 g2 => by
    have hm : M1[h - a]? = some (M1[h - a]'(by omega)) := List.getElem?_eq_getElem _
    rw [get_at _ h _ (show (X ++ (M1 ++ M2 ++ (y :: Y)))[h]? = some (M1[h - a]'(by omega)) by
      rw [List.getElem?_append_right (by omega), show h - X.length = h - a by omega, List.append_assoc, List.getElem?_append_left (by omega), hm])]
    exact h1' _ (List.getElem_mem _)
  have hhigh : ∀ h, a + q ≤ h → h < m → key y < key (X ++ (M1 ++ M2 ++ (y :: Y))).toArray[h]! := fun h g1 g2 => by
    have hlen : h - (a + q) < M2.length := by omega
    have hm : M2[h - (a + q)]? = some (M2[h - (a + q)]'hlen) := List.getElem?_eq_getElem _
    rw [get_at _ h _ (show (X ++ (M1 ++ M2 ++ (y :: Y)))[h]? = some (M2[h - (a + q)]'hlen) by
      rw [List.getElem?_append_right (by omega), show h - X.length = h - a by omega, List.append_assoc, List.getElem?_append_right (by omega), List.getElem?_append_left (by omega), ← hm]
      congr 1; omega)]
    exact h2' _ (List.getElem_mem hlen)
  have hstep : ∀ t, t < r → swp (X ++ (M1 ++ (M2.take (t + 1) ++ (y :: (M2.drop (t + 1) ++ Y))))).toArray (a + q + t + 1) (a + q + t) = (X ++ (M1 ++ (M2.take t ++ (y :: (M2.drop t ++ Y))))).toArray := fun t ht => by
    obtain ⟨v, e1, e3⟩ : ∃ v, M2.drop t = v :: M2.drop (t + 1) ∧ M2.take (t + 1) = M2.take t ++ [v] := ⟨M2[t]'(by omega), List.drop_eq_getElem_cons (by omega), by rw [List.take_add_one, List.getElem?_eq_getElem (by omega)]; rfl⟩
    have h := swp_list' (X ++ (M1 ++ M2.take t)) [] (M2.drop (t + 1) ++ Y) v y (a + q + t) (a + q + t + 1) (by simp; omega) (by simp; omega)
    rw [e1, e3]
    simpa [List.append_assoc] using h
  have hsz2 : ∀ t, (X ++ (M1 ++ (M2.take t ++ (y :: (M2.drop t ++ Y))))).toArray.size = N := fun t => by
    have : (M2.take t ++ M2.drop t).length = M2.length := by rw [List.take_append_drop]
    simp only [List.size_toArray, List.length_append, List.length_cons] at hN this ⊢
    omega
  have hS0 : SWK enc k w0 blk off (X ++ (M1 ++ M2 ++ (y :: Y))).toArray w := S
  have hshape : (X ++ (M1 ++ M2 ++ (y :: Y))).toArray = (X ++ (M1 ++ (M2.take r ++ (y :: (M2.drop r ++ Y))))).toArray := by
    rw [List.take_of_length_le (by omega), List.drop_of_length_le (by omega)]; simp
  have hsz1 : (X ++ (M1 ++ M2 ++ (y :: Y))).toArray.size = N := by rw [List.size_toArray]; exact hN
  obtain ⟨dk, hdk⟩ : ∃ dk, (X ++ (M1 ++ M2 ++ (y :: Y))).toArray = dk := ⟨_, rfl⟩
  rw [hdk] at hgety hlow hhigh hS0 hshape hsz1
  have S0 : Aside (SWK enc k w0 blk off dk w) := hS0
  have HG := Lib.hid hgety
  have HLO := Lib.hid hlow
  have HHI := Lib.hid hhigh
  have HST := Lib.hid hstep
  have HSZ := Lib.hid hsz2
  have HSH := Lib.hid hshape
  have hd1 : dk.size = d0.size := by rw [hsz1, hd]
  have HC : Aside _ := hC
  have hcf := Lib.hid hcf0
  have HD : Hid (d0.size = N) := hd
  have HM := Lib.hid hm
  clear S hS0 hX hN hM h1 h2 h1' h2' hgety hlow hhigh hstep hsz2 hshape hsz1 hdk hC hcf0 hq hr
  have wm : IntKind.i64.wrap ((m : Int) - (a : Int)) = (m : Int) - (a : Int) := by rw [IntKind.wrap_i64]; omega
  have b0 : (((m : Int) - (a : Int)) == 1) = false := by rw [beq_eq_false_iff_ne]; omega
  have wb : IntKind.i64.wrap ((m : Int) + 1 - (m : Int)) = 1 := by rw [IntKind.wrap_i64]; omega
  have em : (m : Int) + 1 - (m : Int) = 1 := by omega
  have ham : a + q ≤ m := by omega
  clear hm
  go_enter L.f73, Tryz.ntmps73
  go_wp2_with fail
  go_loopg [14, 15] (m - a) (fun kx s t wr => ∃ i j : Nat, s = .int .i64 i ∧ t = .int .i64 j ∧ a ≤ i ∧ i ≤ a + q ∧ a + q ≤ j ∧ j ≤ m ∧ j - i ≤ kx ∧ Aside (SWK enc k w0 blk off dk wr))
  case atStart => exact ⟨a, m, rfl, rfl, Nat.le_refl _, by omega, ham, Nat.le_refl _, by omega, S0⟩
  case round =>
    clear S0
    obtain ⟨i, j, rfl, rfl, hi1, hi2, hj1, hj2, hkx, S1⟩ := hrel
    by_cases hlt : i < j
    · have hltz : (i : Int) < (j : Int) := by omega
      obtain ⟨h, hh⟩ : ∃ h, (i + j) / 2 = h := ⟨_, rfl⟩
      have hh1 : i ≤ h := by omega
      have hh2 : h < j := by omega
      have hsum : ((i : Int) + (j : Int)) / 2 = (h : Int) := by omega
      have hsum2 : IntKind.i64.wrap ((i : Int) + (j : Int)) = (i : Int) + (j : Int) := by rw [IntKind.wrap_i64]; omega
      have hsum3 : IntKind.u64.wrap ((i : Int) + (j : Int)) = (i : Int) + (j : Int) := IntWalk.u64_in _ ⟨by omega, by omega⟩
      have Hh := Lib.hid hh
      clear hh
      by_cases hc : h < a + q
      · have eat1 : ((m : Int)).toNat = m := by omega
        have pat1 : (0 : Int) ≤ (m : Int) := by omega
        have bat1 : (m : Int) < (N : Int) := by omega
        have rat1 : IntKind.i64.wrap ((m : Int)) = (m : Int) := by rw [IntKind.wrap_i64]; omega
        have ect1 : ((h : Int)).toNat = h := by omega
        have pct1 : (0 : Int) ≤ (h : Int) := by omega
        have bct1 : (h : Int) < (N : Int) := by omega
        have rct1 : IntKind.i64.wrap ((h : Int)) = (h : Int) := by rw [IntKind.wrap_i64]; omega
        obtain ⟨xt1, hxt1⟩ : ∃ x, x = dk[m]! := ⟨_, rfl⟩
        obtain ⟨yt1, hyt1⟩ : ∃ x, x = dk[h]! := ⟨_, rfl⟩
        have lt1a := S1.out.ld R (by omega) P (m) (by omega)
        have lt1b := S1.out.ld R (by omega) P (h) (by omega)
        rw [← hxt1] at lt1a
        rw [← hyt1] at lt1b
        have hct1 := S1.out.cmp HC.out (by omega) xt1 yt1
        have hvt1 : ¬ cf xt1 yt1 < 0 := by rw [hcf.out, hxt1, hyt1]; exact (by rw [HG.out]; have := HLO.out h (by omega) hc; omega)
        have hdt1 : decide (cf xt1 yt1 < 0) = false := decide_eq_false hvt1
        clear hxt1 hyt1
        go_wp2_with fail
        go_quiet_grown (first | (go_at_fn g; refine Calls.grown_of (hct1 _ _)))
        have SV : Aside (SWK enc k w0 blk off dk (grow (wr.drewN nq) osq)) := S1.out.grown nq osq
        clear lt1a lt1b hct1 S1
        generalize grow (wr.drewN nq) osq = wv1 at SV ⊢
        clear nq osq
        go_wp2_with fail
        go_roundg (j - (h + 1))
        case measure => omega
        case rel => exact ⟨h + 1, j, by go_num, rfl, by omega, by omega, hj1, hj2, Nat.le_refl _, SV⟩
      · have eat2 : ((m : Int)).toNat = m := by omega
        have pat2 : (0 : Int) ≤ (m : Int) := by omega
        have bat2 : (m : Int) < (N : Int) := by omega
        have rat2 : IntKind.i64.wrap ((m : Int)) = (m : Int) := by rw [IntKind.wrap_i64]; omega
        have ect2 : ((h : Int)).toNat = h := by omega
        have pct2 : (0 : Int) ≤ (h : Int) := by omega
        have bct2 : (h : Int) < (N : Int) := by omega
        have rct2 : IntKind.i64.wrap ((h : Int)) = (h : Int) := by rw [IntKind.wrap_i64]; omega
        obtain ⟨xt2, hxt2⟩ : ∃ x, x = dk[m]! := ⟨_, rfl⟩
        obtain ⟨yt2, hyt2⟩ : ∃ x, x = dk[h]! := ⟨_, rfl⟩
        have lt2a := S1.out.ld R (by omega) P (m) (by omega)
        have lt2b := S1.out.ld R (by omega) P (h) (by omega)
        rw [← hxt2] at lt2a
        rw [← hyt2] at lt2b
        have hct2 := S1.out.cmp HC.out (by omega) xt2 yt2
        have hvt2 : cf xt2 yt2 < 0 := by rw [hcf.out, hxt2, hyt2]; exact (by rw [HG.out]; have := HHI.out h (by omega) (by omega); omega)
        have hdt2 : decide (cf xt2 yt2 < 0) = true := decide_eq_true hvt2
        clear hxt2 hyt2
        go_wp2_with fail
        go_quiet_grown (first | (go_at_fn g; refine Calls.grown_of (hct2 _ _)))
        have SV : Aside (SWK enc k w0 blk off dk (grow (wr.drewN nq) osq)) := S1.out.grown nq osq
        clear lt2a lt2b hct2 S1
        generalize grow (wr.drewN nq) osq = wv1 at SV ⊢
        clear nq osq
        go_wp2_with fail
        go_roundg (h - i)
        case measure => omega
        case rel => exact ⟨i, h, rfl, by go_num, hi1, hi2, by omega, by omega, Nat.le_refl _, SV⟩
    · obtain rfl : i = a + q := by omega
      obtain rfl : j = a + q := by omega
      have e1 : ((a + q : Nat) : Int) = (a : Int) + (q : Int) := by omega
      rw [e1]
      rw [HSH.out] at S1
      have em2 : (m : Int) = (a : Int) + (q : Int) + (r : Int) := by have := HM.out; omega
      have HEM := Lib.hid em2
      clear em2
      go_wp2_with fail
      go_loopg [17] r (fun kx s wr => ∃ t : Nat, s = .int .i64 ((a : Int) + (q : Int) + (t : Int)) ∧ t ≤ r ∧ t ≤ kx ∧ Aside (SWK enc k w0 blk off (X ++ (M1 ++ (M2.take t ++ (y :: (M2.drop t ++ Y))))).toArray wr))
      case atStart => exact ⟨r, by rw [HEM.out], by omega, by omega, S1⟩
      case round =>
        clear S1
        obtain ⟨t, rfl, ht, hkt, S1⟩ := hrel
        have hrm : a + q + r = m := by have := HM.out; omega
        by_cases hlt : 0 < t
        · obtain ⟨t, rfl⟩ : ∃ t', t = t' + 1 := ⟨t - 1, by omega⟩
          have hltz : (a : Int) + (q : Int) < (a : Int) + (q : Int) + ((t : Int) + 1) := by omega
          have ecast : ((t + 1 : Nat) : Int) = (t : Int) + 1 := by omega
          rw [ecast]
          have hsw := HST.out t (by omega)
          have hsz3 := HSZ.out (t + 1)
          obtain ⟨dq, hdq⟩ : ∃ dq, (X ++ (M1 ++ (M2.take (t + 1) ++ (y :: (M2.drop (t + 1) ++ Y))))).toArray = dq := ⟨_, rfl⟩
          rw [hdq] at S1 hsw hsz3
          have HSW := Lib.hid hsw
          have hd2 : dq.size = d0.size := by rw [hsz3, HD.out]
          have HRM := Lib.hid hrm
          have hb2 : a + q + t + 1 < N := by omega
          have em1 : (a : Int) + (q : Int) + ((t : Int) + 1) - 1 = (a : Int) + (q : Int) + (t : Int) := by omega
          clear hdq hsw ecast hrm
          have eat3 : ((a : Int) + (q : Int) + ((t : Int) + 1)).toNat = a + q + t + 1 := by omega
          have pat3 : (0 : Int) ≤ (a : Int) + (q : Int) + ((t : Int) + 1) := by omega
          have bat3 : (a : Int) + (q : Int) + ((t : Int) + 1) < (N : Int) := by omega
          have rat3 : IntKind.i64.wrap ((a : Int) + (q : Int) + ((t : Int) + 1)) = (a : Int) + (q : Int) + ((t : Int) + 1) := by rw [IntKind.wrap_i64]; omega
          have ect3 : ((a : Int) + (q : Int) + (t : Int)).toNat = a + q + t := by omega
          have pct3 : (0 : Int) ≤ (a : Int) + (q : Int) + (t : Int) := by omega
          have bct3 : (a : Int) + (q : Int) + (t : Int) < (N : Int) := by omega
          have rct3 : IntKind.i64.wrap ((a : Int) + (q : Int) + (t : Int)) = (a : Int) + (q : Int) + (t : Int) := by rw [IntKind.wrap_i64]; omega
          have S2 : Aside (SWK enc k w0 blk off (swp dq (a + q + t + 1) (a + q + t)) ((wr.drew.setCells blk (off + (a + q + t + 1) * k) (enc dq[a + q + t]!)).setCells blk (off + (a + q + t) * k) (enc dq[a + q + t + 1]!))) := S1.out.swapped R (a + q + t + 1) (a + q + t) (by omega) (by omega)
          have lt3a := S1.out.ld1 R (by omega) P (a + q + t + 1) (by omega)
          have lt3b := S1.out.ld1 R (by omega) P (a + q + t) (by omega)
          have st3a := S1.out.st1 R (by omega) P (a + q + t + 1) (by omega) dq[a + q + t]!
          have st3b := S1.out.st2 R (by omega) P (a + q + t + 1) (a + q + t) (by omega) (by omega) dq[a + q + t]! dq[a + q + t + 1]!
          have nt3a : (enc dq[a + q + t + 1]!).length = k := R.hk _
          have nt3b : (enc dq[a + q + t]!).length = k := R.hk _
          generalize enc dq[a + q + t + 1]! = cIt3 at S2 lt3a st3b nt3a
          generalize enc dq[a + q + t]! = cJt3 at S2 lt3b st3a st3b nt3b
          clear S1
          go_wp2_with fail
          go_big_region_o
          clear lt3a lt3b st3a st3b
          generalize (wr.drew.setCells blk (off + (a + q + t + 1) * k) cJt3).setCells blk (off + (a + q + t) * k) cIt3 = w2 at S2 ⊢
          go_wp2_with fail
          go_roundg t
          case measure => omega
          case rel =>
            refine ⟨t, by first | go_num | (congr 1; omega), by omega, Nat.le_refl _, ?_⟩
            show SWK enc k w0 blk off _ _
            rw [← HSW.out]
            exact S2
        · obtain rfl : t = 0 := by omega
          have hltz : ¬ (a : Int) + (q : Int) < (a : Int) + (q : Int) + ((0 : Nat) : Int) := by omega
          have SF : Aside (SWK enc k w0 blk off (X ++ (M1 ++ (y :: (M2 ++ Y)))).toArray wr) := by
            have := S1.out
            show SWK enc k w0 blk off _ _
            simpa using this
          clear S1 hrm
          go_wp2_with fail
          go_end0
          exact ⟨rfl, by have := SF.out; simpa [List.append_assoc] using this⟩
end Go.Proofs.YtbcgpjfejpcgnaaGreat
end
