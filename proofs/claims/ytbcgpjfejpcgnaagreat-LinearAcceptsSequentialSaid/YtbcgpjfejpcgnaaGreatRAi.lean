/- Lemmas on the way to LinearAcceptsSequential. No condition. -/
import Derived.Test.YtbcgpjfejpcgnaaGreatRAa
import Derived.Test.YtbcgpjfejpcgnaaGreatRAc
import Derived.Test.YtbcgpjfejpcgnaaGreatRAh
import Derived.Deep.RegionHeld3
import Derived.Deep.QuietTactic
import Derived.BigQuiet
import Derived.Deep.CutBlock
import Derived.Lib.Overlaps
import Derived.Lib.AppendZerosOnto
import Derived.Laws.Externs
import Derived.Deep.RegionLaw
import Derived.Lib.SliceRun
import Derived.Shelf.RegionOpenPlain
import Derived.Shelf.SlicesQ.Load
set_option linter.unusedSimpArgs false
set_option linter.unusedVariables false
set_option linter.unusedSectionVars false
section
namespace Go.Proofs.YtbcgpjfejpcgnaaGreat
open Go.RowKit
variable {w w' : World} {base ww : Nat} {bv sv cv : Value} {vs : List Value} {s : WS}
theorem CuAt.fnd {Cs : List CuE} {t c : Nat} {r : Int} (h : CuAt Cs t c r) (hd : Cs.Pairwise (fun p q => ¬ (p.t = q.t ∧ p.c = q.c))) :
    (r = -1 ∧ cuF Cs t c = none) ∨ ∃ (k : Nat) (p : CuE), r = k ∧ Cs[k]? = some p ∧ cuF Cs t c = some p ∧ Cs.filter (fun p => !isC t c p) = Cs.take k ++ Cs.drop (k + 1) ∧ ∀ pl key, putC Cs t c pl key = Cs.set k ⟨p.t, p.c, p.j, p.T, pl, key⟩ := by
  rcases h with ⟨h1, h2⟩ | ⟨k, p, h1, h2, h3, h4⟩
  · refine .inl ⟨h1, List.find?_eq_none.2 fun p hp => ?_⟩
    have := h2 p hp
    simpa [isC] using this
  · right
    refine ⟨k, p, h1, h2, ?_⟩
    obtain ⟨hk, hkp⟩ := List.getElem?_eq_some_iff.1 h2
    have hsplit : Cs = Cs.take k ++ p :: Cs.drop (k + 1) := by
      rw [← hkp]
      exact (List.take_append_drop k Cs).symm.trans (by rw [List.drop_eq_getElem_cons hk])
    have hpw := hd
    rw [hsplit] at hpw
    obtain ⟨p1, p2, p3⟩ := List.pairwise_append.1 hpw
    have hA : ∀ x ∈ Cs.take k, isC t c x = false := fun x hx => by
      have := p3 x hx p (by simp)
      simp only [isC, Bool.and_eq_false_iff, beq_eq_false_iff_ne]
      rw [h3, h4] at this
      omega
    have hB : ∀ x ∈ Cs.drop (k + 1), isC t c x = false := fun x hx => by
      have := (List.pairwise_cons.1 p2).1 x hx
      simp only [isC, Bool.and_eq_false_iff, beq_eq_false_iff_ne]
      rw [h3, h4] at this
      omega
    have hp : isC t c p = true := by simp [isC, h3, h4]
    refine ⟨?_, ?_, fun pl key => ?_⟩
    · unfold cuF
      rw [hsplit, List.find?_append, List.find?_eq_none.2 (fun x hx => by rw [hA x hx]; simp), List.find?_cons_of_pos hp]
      rfl
    · rw [hsplit]
      rw [List.filter_append, List.filter_cons_of_neg (by rw [hp]; simp), List.filter_eq_self.2 (fun x hx => by rw [hA x hx]; rfl), List.filter_eq_self.2 (fun x hx => by rw [hB x hx]; rfl)]
      rw [← hsplit]
    · apply List.ext_getElem?
      intro i
      unfold putC
      rw [List.getElem?_map, List.getElem?_set]
      by_cases hik : k = i
      · subst hik
        rw [if_pos rfl, if_pos hk, h2]
        simp [hp]
      · rw [if_neg hik]
        cases hi : Cs[i]? with
        | none => rfl
        | some y =>
          have hy : isC t c y = false := by
            rcases Nat.lt_or_ge i k with hlt | hge
            · exact hA y (List.mem_of_getElem? (i := i) (by rw [List.getElem?_take_of_lt hlt]; exact hi))
            · exact hB y (List.mem_of_getElem? (i := i - (k + 1)) (by rw [List.getElem?_drop, show k + 1 + (i - (k + 1)) = i by omega]; exact hi))
          simp [hy]
set_option maxHeartbeats 1000000 in
set_option maxRecDepth 100000 in
theorem xsnap_any (h : WX w base ww bv sv cv vs s) (hs : s.Ss.length ≤ 4096) (t j : Nat) :
    Calls Tryz.prog 25 #[.pointer (some ⟨ww, 0, none⟩), .int .i64 (t : Int), .int .i64 (j : Int)] w fun e w' => ∃ r : Int, e = .returned (.int .i64 r) ∧ SnAt s.Ss t j r ∧ ∃ z, w' = w.drewN z := by
  obtain ⟨d0, d1, d2, d3, d4, d5⟩ := h.hw.o4
  obtain ⟨A, cap, rfl⟩ := h.hs.len
  have H := Lib.hid h.hs
  obtain ⟨Ss, hSs⟩ : ∃ Ss, s.Ss = Ss := ⟨_, rfl⟩
  obtain ⟨q, hq⟩ : ∃ q, Ss.length = q := ⟨_, rfl⟩
  rw [hSs] at hs d2 H ⊢
  rw [hq] at hs d2
  have Hq := Lib.hid hq
  clear h hq hSs d0 d1 d3
  go_enter Tryz.func25, Tryz.ntmps25
  go_wp2_with fail
  go_loopw [7] (fun i wr => ∃ (k z : Nat), k ≤ q ∧ i = .int .i64 k ∧ Hid (∀ p ∈ Ss.take k, ¬ (p.t = t ∧ p.j = j)) ∧ wr = w.drewN z) (fun i _ => q - (intOf i).toNat)
  case atStart => exact ⟨0, 0, by omega, rfl, Lib.hid (by simp), rfl⟩
  case round =>
    obtain ⟨k, z, hk, rfl, hno, rfl⟩ := hrel
    by_cases hlt : k < q
    · obtain ⟨p, hp⟩ : ∃ p, Ss[k]? = some p := ⟨_, List.getElem?_eq_getElem (by rw [Hq.out]; exact hlt)⟩
      have HH := H.out
      rw [Hq.out] at HH
      obtain ⟨g, cap', hv, c0, c1, c2, hg⟩ := Row.at3 (by rw [Hq.out]; exact HH) hp
      rw [Hq.out] at hv
      injection hv with hA _ hcap
      subst hA
      have hkq : (k : Int) < (q : Int) := by omega
      have Hp := Lib.hid hp
      have hnx : ¬ (p.t = t ∧ p.j = j) → ∀ x ∈ Ss.take (k + 1), ¬ (x.t = t ∧ x.j = j) := fun hpe x hx => by
        rw [List.take_add_one, Hp.out] at hx
        rcases List.mem_append.1 hx with hx | hx
        · exact hno.out x hx
        · simp at hx; subst hx; exact hpe
      have Hnx := Lib.hid hnx
      clear hp c2 HH hnx
      by_cases h1 : p.t = t
      · have b1 : ((p.t : Int) == (t : Int)) = true := by rw [beq_iff_eq]; omega
        by_cases h2 : p.j = j
        · have b2 : ((p.j : Int) == (j : Int)) = true := by rw [beq_iff_eq]; omega
          have Hpe := Lib.hid (And.intro h1 h2)
          clear h1 h2
          go_wp2_with fail
          go_ret
          exact ⟨_, rfl, .inr ⟨k, p, rfl, Hp.out, Hpe.out.1, Hpe.out.2⟩, _, rfl⟩
        · have b2 : ((p.j : Int) == (j : Int)) = false := by rw [beq_eq_false_iff_ne]; omega
          have Hpe := Lib.hid (Hnx.out (fun e => h2 e.2))
          clear h1 h2
          go_wp2_with fail
          exact ⟨⟨k + 1, _, by omega, by go_num, Lib.hid Hpe.out, rfl⟩, by simp [intOf]; omega⟩
      · have b1 : ((p.t : Int) == (t : Int)) = false := by rw [beq_eq_false_iff_ne]; omega
        have Hpe := Lib.hid (Hnx.out (fun e => h1 e.1))
        clear h1
        go_wp2_with fail
        exact ⟨⟨k + 1, _, by omega, by go_num, Lib.hid Hpe.out, rfl⟩, by simp [intOf]; omega⟩
    · obtain rfl : k = q := by omega
      have e := hno.out
      rw [List.take_of_length_le (by rw [Hq.out]; omega)] at e
      have He := Lib.hid e
      clear e hno
      go_wp2_with fail
      go_ret
      exact ⟨-1, rfl, .inl ⟨rfl, He.out⟩, z, rfl⟩
set_option maxHeartbeats 1000000 in
set_option maxRecDepth 100000 in
theorem xcur_any (h : WX w base ww bv sv cv vs s) (hs : s.Cs.length ≤ 4096) (t j : Nat) :
    Calls Tryz.prog 38 #[.pointer (some ⟨ww, 0, none⟩), .int .i64 (t : Int), .int .i64 (j : Int)] w fun e w' => ∃ r : Int, e = .returned (.int .i64 r) ∧ CuAt s.Cs t j r ∧ ∃ z, w' = w.drewN z := by
  obtain ⟨d0, d1, d2, d3, d4, d5⟩ := h.hw.o4
  obtain ⟨A, cap, rfl⟩ := h.hc.len
  have H := Lib.hid h.hc
  obtain ⟨Cs, hCs⟩ : ∃ Cs, s.Cs = Cs := ⟨_, rfl⟩
  obtain ⟨q, hq⟩ : ∃ q, Cs.length = q := ⟨_, rfl⟩
  rw [hCs] at hs d3 H ⊢
  rw [hq] at hs d3
  have Hq := Lib.hid hq
  clear h hq hCs d0 d1 d2
  go_enter Tryz.func38, Tryz.ntmps38
  go_wp2_with fail
  go_loopw [7] (fun i wr => ∃ (k z : Nat), k ≤ q ∧ i = .int .i64 k ∧ Hid (∀ p ∈ Cs.take k, ¬ (p.t = t ∧ p.c = j)) ∧ wr = w.drewN z) (fun i _ => q - (intOf i).toNat)
  case atStart => exact ⟨0, 0, by omega, rfl, Lib.hid (by simp), rfl⟩
  case round =>
    obtain ⟨k, z, hk, rfl, hno, rfl⟩ := hrel
    by_cases hlt : k < q
    · obtain ⟨p, hp⟩ : ∃ p, Cs[k]? = some p := ⟨_, List.getElem?_eq_getElem (by rw [Hq.out]; exact hlt)⟩
      have HH := H.out
      rw [Hq.out] at HH
      obtain ⟨g, cap', hv, c0, c1, -, -, -, -, hg⟩ := Row.at6 (by rw [Hq.out]; exact HH) hp
      rw [Hq.out] at hv
      injection hv with hA _ hcap
      subst hA
      have hkq : (k : Int) < (q : Int) := by omega
      have Hp := Lib.hid hp
      have hnx : ¬ (p.t = t ∧ p.c = j) → ∀ x ∈ Cs.take (k + 1), ¬ (x.t = t ∧ x.c = j) := fun hpe x hx => by
        rw [List.take_add_one, Hp.out] at hx
        rcases List.mem_append.1 hx with hx | hx
        · exact hno.out x hx
        · simp at hx; subst hx; exact hpe
      have Hnx := Lib.hid hnx
      clear hp HH hnx
      by_cases h1 : p.t = t
      · have b1 : ((p.t : Int) == (t : Int)) = true := by rw [beq_iff_eq]; omega
        by_cases h2 : p.c = j
        · have b2 : ((p.c : Int) == (j : Int)) = true := by rw [beq_iff_eq]; omega
          have Hpe := Lib.hid (And.intro h1 h2)
          clear h1 h2
          go_wp2_with fail
          go_ret
          exact ⟨_, rfl, .inr ⟨k, p, rfl, Hp.out, Hpe.out.1, Hpe.out.2⟩, _, rfl⟩
        · have b2 : ((p.c : Int) == (j : Int)) = false := by rw [beq_eq_false_iff_ne]; omega
          have Hpe := Lib.hid (Hnx.out (fun e => h2 e.2))
          clear h1 h2
          go_wp2_with fail
          exact ⟨⟨k + 1, _, by omega, by go_num, Lib.hid Hpe.out, rfl⟩, by simp [intOf]; omega⟩
      · have b1 : ((p.t : Int) == (t : Int)) = false := by rw [beq_eq_false_iff_ne]; omega
        have Hpe := Lib.hid (Hnx.out (fun e => h1 e.1))
        clear h1
        go_wp2_with fail
        exact ⟨⟨k + 1, _, by omega, by go_num, Lib.hid Hpe.out, rfl⟩, by simp [intOf]; omega⟩
    · obtain rfl : k = q := by omega
      have e := hno.out
      rw [List.take_of_length_le (by rw [Hq.out]; omega)] at e
      have He := Lib.hid e
      clear e hno
      go_wp2_with fail
      go_ret
      exact ⟨-1, rfl, .inl ⟨rfl, He.out⟩, z, rfl⟩
set_option maxHeartbeats 1000000 in
set_option maxRecDepth 100000 in
theorem xraise_any (h : WX w base ww bv sv cv vs s) (hn : s.Bs.length ≤ 4096) (hs : s.Ss.length ≤ 4096) (T : Nat) :
    Calls Tryz.prog 24 #[.pointer (some ⟨ww, 0, none⟩), .int .u64 (T : Int)] w fun e w' => e = .returned (.bool (decide (T ≤ minT s.Ss s.Bs.length))) ∧ WX w' base ww bv sv cv vs ⟨s.Bs, if T ≤ minT s.Ss s.Bs.length then max s.F T else s.F, s.Ss, s.Cs⟩ ∧ Ef (OwnW ww bv sv cv vs) w w' (OwnW ww bv sv cv vs) := by
  have hw := xwm_any h hn hs
  obtain ⟨M, hM⟩ : ∃ M, minT s.Ss s.Bs.length = M := ⟨_, rfl⟩
  rw [hM] at hw ⊢
  have H := Lib.hid h
  clear hM h
  by_cases hT : T ≤ M
  · rw [if_pos hT, decide_eq_true hT]
    go_enter Tryz.func24, Tryz.ntmps24
    go_wp2_with fail
    refine hw.mono ?_
    rintro e w1 ⟨rfl, z, rfl⟩
    have kz := (Keeps.refl [] w).drewN z
    have h1 := H.out.keeps kz
    obtain ⟨d0, d1, d2, d3, d4, d5⟩ := h1.hw.o4
    have hT2 : ¬ (M : Int) < (T : Int) := by omega
    have hmx : max (s.F : Int) (T : Int) = ((max s.F T : Nat) : Int) := by omega
    have K1 := Ef.before kz (h1.own 1 (.int .u64 ((max s.F T : Nat) : Int))).2
    have h2 := h1.setF (max s.F T)
    have Hx := Lib.hid (And.intro h2 K1)
    clear hT h2 K1
    go_wp2_with fail
    go_ret
    exact ⟨rfl, Hx.out.1, Hx.out.2⟩
  · rw [if_neg hT, decide_eq_false hT]
    go_enter Tryz.func24, Tryz.ntmps24
    go_wp2_with fail
    refine hw.mono ?_
    rintro e w1 ⟨rfl, z, rfl⟩
    have kz := (Keeps.refl [] w).drewN z
    have hT2 : (M : Int) < (T : Int) := by omega
    clear hT
    go_wp2_with fail
    go_ret
    exact ⟨rfl, H.out.keeps kz, Ef.refl kz⟩
set_option maxHeartbeats 1000000 in
set_option maxRecDepth 100000 in
theorem xlist_any (h : WX w base ww bv sv cv vs s) (hn : s.Bs.length ≤ 100) (hb5 : ∀ b ∈ s.Bs, b.length ≤ 16) (T : Nat) (hT : T ≤ 18446744073709551615) :
    Calls Tryz.prog 33 #[.pointer (some ⟨ww, 0, none⟩), .int .u64 (T : Int)] w fun e w' => ∃ v, e = .returned v ∧ Lst w' v (lstAt s.Bs T).length (eCs (lstAt s.Bs T)) ∧ Keeps [] w w' := by
  obtain ⟨A, cap, rfl⟩ := h.hb.len
  have H := Lib.hid h
  have Hb := Lib.hid hb5
  obtain ⟨Bs, hBs⟩ : ∃ Bs, s.Bs = Bs := ⟨_, rfl⟩
  obtain ⟨n, hn'⟩ : ∃ n, Bs.length = n := ⟨_, rfl⟩
  have hmin : lstAt Bs T = lstAt Bs (min T n) := by
    rcases Nat.le_total T n with h1 | h1
    · rw [Nat.min_eq_left h1]
    · rw [Nat.min_eq_right h1, ← hn', lstAt_over (by omega)]
  rw [hBs] at hn Hb H ⊢
  have Hbs := Lib.hid hBs
  have Hlen := Lib.hid (lstAt_len Hb.out)
  rw [hmin]
  have Hn := Lib.hid hn'
  rw [hn'] at hn H
  clear h hb5 hn' hBs hmin
  go_enter Tryz.func33, Tryz.ntmps33
  go_wp2_with fail
  go_loopw [5, 6] (fun v i wr => ∃ (k : Nat) (l : List Ent), k ≤ min T n ∧ i = .int .i64 k ∧ Hid (lstAt Bs k = l) ∧ Lst wr v l.length (eCs l) ∧ Keeps [] w wr) (fun _ i _ => n - (intOf i).toNat)
  case atStart => exact ⟨0, [], by omega, rfl, Lib.hid rfl, Lst.nil w, Keeps.refl _ _⟩
  case round =>
    obtain ⟨k, l, hk, rfl, hst, hlv, kk⟩ := hrel
    have hW := (H.out.keeps kk).hw
    obtain ⟨d0, d1, d2, d3, d4, d5⟩ := hW.o4
    have hwk : IntKind.u64.wrap (k : Int) = (k : Int) := IntWalk.u64_in _ ⟨by omega, by omega⟩
    by_cases hlt : k < n
    · have hkn : (k : Int) < (n : Int) := by omega
      by_cases hkT : k < T
      · have hkT' : (k : Int) < (T : Int) := by omega
        obtain ⟨b, hb⟩ : ∃ b, Bs[k]? = some b := ⟨_, List.getElem?_eq_getElem (by rw [Hn.out]; exact hlt)⟩
        have hR := (H.out.keeps kk).hb
        have hbx := hb
        rw [← Hbs.out] at hbx
        obtain ⟨hvl, ⟨hv, h0⟩ | ⟨g, cap', rest, hv, hgb, h2, h3, h4⟩⟩ := hR
        · rw [Hbs.out, Hn.out] at h0; omega
        · rw [Hbs.out, Hn.out] at hvl
          rw [Hbs.out, Hn.out] at hv
          injection hv with hA _ hcap
          subst hA
          subst hcap
          obtain ⟨y, hy⟩ : ∃ y, vs[k]? = some y := ⟨_, List.getElem?_eq_getElem (by rw [hvl]; omega)⟩
          have hc := hgb.cell k
          rw [List.getElem?_append_left (by rw [hvl]; omega), hy] at hc
          have hgl := hgb.lt
          have hyl := ((H.out.keeps kk).he k y b hy hbx).1
          obtain ⟨yA, yc, rfl⟩ := hyl.len
          have hb5 := Hb.out b (List.mem_of_getElem? hb)
          have hl3 := (Hlen.out k).1
          rw [hst.out, Hn.out] at hl3
          have hnx := lstAt_succ hb
          rw [hst.out] at hnx
          have Hnx := Lib.hid hnx
          have hl4 : l.length + b.length ≤ 4000 := by omega
          clear hnx hst hy hb hgb h2 h3 h4 hvl hbx hl3 hb5
          go_wp2_with fail
          refine (refApply_any l b hl4 _ _ _ hlv hyl.lst).mono ?_
          rintro e w3 ⟨u, rfl, h3, k3⟩
          go_wp2_with fail
          exact ⟨⟨k + 1, _, by omega, by go_num, Lib.hid Hnx.out, h3, kk.trans k3 (by simp)⟩, by simp [intOf]; omega⟩
      · have hkT' : decide ((k : Int) < (T : Int)) = false := decide_eq_false (by omega)
        have hke : min T n = k := by omega
        have Hke := Lib.hid hke
        clear hke
        go_wp2_with fail
        go_ret
        exact ⟨_, rfl, by rw [Hke.out, hst.out]; exact hlv, kk⟩
    · obtain rfl : k = n := by omega
      have hke : min T k = k := by omega
      have Hke := Lib.hid hke
      clear hke
      go_wp2_with fail
      go_ret
      exact ⟨_, rfl, by rw [Hke.out, hst.out]; exact hlv, kk⟩
end Go.Proofs.YtbcgpjfejpcgnaaGreat
end
section
namespace Go.Proofs.YtbcgpjfejpcgnaaGreat.O
set_option linter.unusedVariables false
set_option linter.unusedSimpArgs false
def vi (u : Nat) : Str := if u < 128 then [UInt8.ofNat u] else UInt8.ofNat (u % 128 + 128) :: vi (u / 128)
termination_by u
decreasing_by omega
theorem vi_small {u : Nat} (h : u < 128) : vi u = [UInt8.ofNat u] := by rw [vi, if_pos h]
theorem vi_big {u : Nat} (h : 128 ≤ u) : vi u = UInt8.ofNat (u % 128 + 128) :: vi (u / 128) := by rw [vi, if_neg (by omega)]
abbrev Rd (α : Type) := Except Nat (α × Str)
def rv : Nat → Str → Rd Nat
  | _, [] => .error 11
  | i, c :: r =>
    if i = 9 ∧ 1 < c.toNat ∨ 0 < i ∧ c.toNat = 0 then .error 12
    else if c.toNat < 128 then .ok (c.toNat, r)
    else match rv (i + 1) r with
      | .error e => .error e
      | .ok (u, r') => .ok (c.toNat % 128 + 128 * u, r')
theorem toNat_ofNat {n : Nat} (h : n < 256) : (UInt8.ofNat n).toNat = n := by
  simp [UInt8.toNat_ofNat', Nat.mod_eq_of_lt h]
theorem ofNat_toNat (c : UInt8) : UInt8.ofNat c.toNat = c := by simp
theorem rv_vi (i u : Nat) (t : Str) (hi : i ≤ 9) (h : u < 2 ^ (64 - 7 * i)) (h0 : 0 < i → u ≠ 0) : rv i (vi u ++ t) = .ok (u, t) := by
  induction u using Nat.strongRecOn generalizing i with
  | _ u ih =>
    by_cases hu : u < 128
    · rw [vi_small hu]
      have hc : ¬ (i = 9 ∧ 1 < u ∨ 0 < i ∧ u = 0) := by
        rintro (⟨rfl, h1⟩ | ⟨h1, h2⟩)
        · simp at h; omega
        · exact h0 h1 h2
      simp only [List.cons_append, List.nil_append, rv, toNat_ofNat (show u < 256 by omega)]
      rw [if_neg hc, if_pos hu]
    · have hb : u % 128 + 128 < 256 := by omega
      rw [vi_big (by omega)]
      have hi9 : i ≠ 9 := by
        rintro rfl
        simp at h; omega
      have hc : ¬ (i = 9 ∧ 1 < u % 128 + 128 ∨ 0 < i ∧ u % 128 + 128 = 0) := by omega
      have hlt : u / 128 < 2 ^ (64 - 7 * (i + 1)) := by
        rw [Nat.div_lt_iff_lt_mul (by omega)]
        have : 2 ^ (64 - 7 * (i + 1)) * 128 = 2 ^ (64 - 7 * i) := by
          rw [show (128 : Nat) = 2 ^ 7 by decide, ← Nat.pow_add]
          congr 1
          omega
        omega
      simp only [List.cons_append, rv, toNat_ofNat hb]
      rw [if_neg hc, if_neg (by omega), ih (u / 128) (by omega) (i + 1) (by omega) hlt (by omega)]
      simp only [Except.ok.injEq, Prod.mk.injEq, and_true]
      omega
theorem rv_ok (b : Str) : ∀ (i u : Nat) (r : Str), i ≤ 9 → rv i b = .ok (u, r) → b = vi u ++ r ∧ u < 2 ^ (64 - 7 * i) ∧ (0 < i → u ≠ 0) := by
  induction b with
  | nil => intro i u r _ h; simp [rv] at h
  | cons c b ih =>
    intro i u r hi h
    simp only [rv] at h
    split at h
    · simp at h
    · rename_i hc
      split at h
      · rename_i hs
        simp only [Except.ok.injEq, Prod.mk.injEq] at h
        obtain ⟨rfl, rfl⟩ := h
        refine ⟨by rw [vi_small hs, ofNat_toNat]; rfl, ?_, fun h0 h1 => hc (.inr ⟨h0, h1⟩)⟩
        by_cases h9 : i = 9
        · subst h9
          have : ¬ 1 < c.toNat := fun h => hc (.inl ⟨rfl, h⟩)
          simp; omega
        · have : 2 ^ 7 ≤ 2 ^ (64 - 7 * i) := Nat.pow_le_pow_right (by omega) (by omega)
          omega
      · rename_i hs
        cases hr : rv (i + 1) b with
        | error e => simp [hr] at h
        | ok x =>
          obtain ⟨u', r'⟩ := x
          simp only [hr, Except.ok.injEq, Prod.mk.injEq] at h
          obtain ⟨rfl, rfl⟩ := h
          have hi9 : i ≠ 9 := by
            rintro rfl
            exact hc (.inl ⟨rfl, by omega⟩)
          obtain ⟨h1, h2, h3⟩ := ih (i + 1) u' r' (by omega) hr
          have h3 := h3 (by omega)
          have hcl : c.toNat < 256 := c.toNat_lt
          have hd : (c.toNat % 128 + 128 * u') / 128 = u' := by omega
          have hm : (c.toNat % 128 + 128 * u') % 128 + 128 = c.toNat := by omega
          refine ⟨?_, ?_, fun _ => by omega⟩
          · rw [vi_big (by omega), hd, hm, ofNat_toNat, h1]; rfl
          · have : 2 ^ (64 - 7 * (i + 1)) * 128 = 2 ^ (64 - 7 * i) := by
              rw [show (128 : Nat) = 2 ^ 7 by decide, ← Nat.pow_add]
              congr 1
              omega
            omega
theorem rv_pre (u : Nat) : ∀ (i : Nat) (p q : Str), i ≤ 9 → u < 2 ^ (64 - 7 * i) → p ++ q = vi u → q ≠ [] → rv i p = .error 11 := by
  induction u using Nat.strongRecOn with
  | _ u ih =>
    intro i p q hi h hp hq
    cases p with
    | nil => rfl
    | cons c p =>
      by_cases hu : u < 128
      · rw [vi_small hu] at hp
        simp only [List.cons_append, List.cons.injEq, List.append_eq_nil_iff] at hp
        exact absurd hp.2.2 hq
      · have hb : u % 128 + 128 < 256 := by omega
        rw [vi_big (by omega)] at hp
        simp only [List.cons_append, List.cons.injEq] at hp
        obtain ⟨rfl, hp⟩ := hp
        have hi9 : i ≠ 9 := by
          rintro rfl
          simp at h; omega
        have hlt : u / 128 < 2 ^ (64 - 7 * (i + 1)) := by
          rw [Nat.div_lt_iff_lt_mul (by omega)]
          have : 2 ^ (64 - 7 * (i + 1)) * 128 = 2 ^ (64 - 7 * i) := by
            rw [show (128 : Nat) = 2 ^ 7 by decide, ← Nat.pow_add]
            congr 1
            omega
          omega
        simp only [rv, toNat_ofNat hb]
        rw [if_neg (by omega), if_neg (by omega), ih (u / 128) (by omega) (i + 1) p q (by omega) hlt hp hq]
end Go.Proofs.YtbcgpjfejpcgnaaGreat.O
end
section
namespace Go.Proofs.YtbcgpjfejpcgnaaGreat.O
set_option linter.unusedVariables false
set_option linter.unusedSimpArgs false
structure Law {α : Type} (P : Str → Rd α) (e : α → Str) (ok : α → Prop) : Prop where
  fwd : ∀ x t, ok x → P (e x ++ t) = .ok (x, t)
  bwd : ∀ b x r, P b = .ok (x, r) → b = e x ++ r ∧ ok x
  pre : ∀ x p q, ok x → p ++ q = e x → q ≠ [] → P p = .error 11
def seqR {α β : Type} (P : Str → Rd α) (Q : α → Str → Rd β) (b : Str) : Rd (α × β) := match P b with
  | .error e => .error e
  | .ok (x, r) => match Q x r with
    | .error e => .error e
    | .ok (y, r') => .ok ((x, y), r')
def mapR {α β : Type} (g : α → β) (P : Str → Rd α) (b : Str) : Rd β := match P b with
  | .error e => .error e
  | .ok (x, r) => .ok (g x, r)
theorem Law.seq {α β : Type} {P : Str → Rd α} {e : α → Str} {okA : α → Prop} {Q : α → Str → Rd β} {f : α → β → Str} {okB : α → β → Prop}
    (hP : Law P e okA) (hQ : ∀ x, okA x → Law (Q x) (f x) (okB x)) : Law (seqR P Q) (fun z => e z.1 ++ f z.1 z.2) (fun z => okA z.1 ∧ okB z.1 z.2) where
  fwd := fun ⟨x, y⟩ t ⟨h1, h2⟩ => by
    simp only [seqR, List.append_assoc, hP.fwd x _ h1, (hQ x h1).fwd y t h2]
  bwd := fun b ⟨x, y⟩ r h => by
    simp only [seqR] at h
    cases h1 : P b with
    | error e => simp [h1] at h
    | ok z =>
      obtain ⟨x', r1⟩ := z
      simp only [h1] at h
      cases h2 : Q x' r1 with
      | error e => simp [h2] at h
      | ok z =>
        obtain ⟨y', r2⟩ := z
        simp only [h2, Except.ok.injEq, Prod.mk.injEq] at h
        obtain ⟨⟨rfl, rfl⟩, rfl⟩ := h
        obtain ⟨rfl, hA⟩ := hP.bwd _ _ _ h1
        obtain ⟨rfl, hB⟩ := (hQ _ hA).bwd _ _ _ h2
        exact ⟨by simp, hA, hB⟩
  pre := fun ⟨x, y⟩ p q ⟨h1, h2⟩ hp hq => by
    simp only at hp
    simp only [seqR]
    rcases List.append_eq_append_iff.1 hp with ⟨s, hs, hs2⟩ | ⟨s, rfl, hs2⟩
    · by_cases h0 : s = []
      · subst h0
        simp only [List.append_nil] at hs
        simp only [List.nil_append] at hs2
        have := hP.fwd x [] h1
        rw [List.append_nil, hs] at this
        rw [this]
        simp only
        rw [(hQ x h1).pre y [] q h2 (by simpa using hs2) hq]
      · rw [hP.pre x p s h1 hs.symm h0]
    · rw [hP.fwd x s h1]
      simp only
      rw [(hQ x h1).pre y s q h2 hs2.symm hq]
theorem Law.map {α β : Type} {P : Str → Rd α} {e : α → Str} {ok : α → Prop} (hP : Law P e ok) (g : α → β) (e' : β → Str) (ok' : β → Prop)
    (h1 : ∀ y, ok' y → ∃ x, ok x ∧ g x = y) (h2 : ∀ x, ok x → ok' (g x) ∧ e' (g x) = e x) : Law (mapR g P) e' ok' where
  fwd := fun y t hy => by
    obtain ⟨x, hx, rfl⟩ := h1 y hy
    simp only [mapR, (h2 x hx).2, hP.fwd x t hx]
  bwd := fun b y r h => by
    simp only [mapR] at h
    cases h3 : P b with
    | error e => simp [h3] at h
    | ok z =>
      obtain ⟨x, r1⟩ := z
      simp only [h3, Except.ok.injEq, Prod.mk.injEq] at h
      obtain ⟨rfl, rfl⟩ := h
      obtain ⟨rfl, hx⟩ := hP.bwd _ _ _ h3
      exact ⟨by rw [(h2 x hx).2], (h2 x hx).1⟩
  pre := fun y p q hy hp hq => by
    obtain ⟨x, hx, rfl⟩ := h1 y hy
    simp only [mapR, hP.pre x p q hx (by rw [hp, (h2 x hx).2]) hq]
def repR {α : Type} (Q : Str → Rd α) : Nat → Str → Rd (List α)
  | 0, b => .ok ([], b)
  | n + 1, b => mapR (fun z => z.1 :: z.2) (seqR Q (fun _ => repR Q n)) b
theorem Law.rep {α : Type} {Q : Str → Rd α} {e : α → Str} {ok : α → Prop} (hQ : Law Q e ok) : ∀ n, Law (repR Q n) (fun l => l.flatMap e) (fun l => l.length = n ∧ ∀ x ∈ l, ok x)
  | 0 => {
    fwd := fun x t ⟨h, _⟩ => by
      obtain rfl := List.length_eq_zero_iff.1 h
      rfl
    bwd := fun b x r h => by
      simp only [repR, Except.ok.injEq, Prod.mk.injEq] at h
      obtain ⟨rfl, rfl⟩ := h
      exact ⟨rfl, rfl, by simp⟩
    pre := fun x p q ⟨h, _⟩ hp hq => by
      obtain rfl := List.length_eq_zero_iff.1 h
      simp at hp
      exact absurd hp.2 hq }
  | n + 1 => by
    have := (hQ.seq (fun _ _ => hQ.rep n)).map (fun z => z.1 :: z.2) (fun l => l.flatMap e) (fun l => l.length = n + 1 ∧ ∀ x ∈ l, ok x)
      (fun y ⟨hy, hy2⟩ => by
        cases y with
        | nil => simp at hy
        | cons a l => exact ⟨(a, l), ⟨hy2 a (by simp), by simpa using hy, fun x hx => hy2 x (by simp [hx])⟩, rfl⟩)
      (fun ⟨a, l⟩ ⟨h1, h2, h3⟩ => ⟨⟨by simpa using h2, fun x hx => by
        rcases List.mem_cons.1 hx with rfl | hx
        · exact h1
        · exact h3 x hx⟩, by simp⟩)
    exact this
def rLen (b : Str) : Rd Nat := match rv 0 b with
  | .error e => .error e
  | .ok (n, r) => if r.length < n then .error 11 else .ok (n, r)
def rList {α : Type} (Q : Str → Rd α) (b : Str) : Rd (List α) := match rLen b with
  | .error e => .error e
  | .ok (n, r) => repR Q n r
theorem flatQ_length {α : Type} {e : α → Str} {l : List α} (h : ∀ x ∈ l, 0 < (e x).length) : l.length ≤ (l.flatMap e).length := by
  induction l with
  | nil => simp
  | cons a l ih =>
    have h1 := h a (by simp)
    have := ih fun x hx => h x (by simp [hx])
    simp only [List.flatMap_cons, List.length_append, List.length_cons]
    omega
theorem Law.list {α : Type} {Q : Str → Rd α} {e : α → Str} {ok : α → Prop} (hQ : Law Q e ok) (hpos : ∀ x, ok x → 0 < (e x).length) :
    Law (rList Q) (fun l => vi l.length ++ l.flatMap e) (fun l => l.length < 2 ^ 64 ∧ ∀ x ∈ l, ok x) where
  fwd := fun l t ⟨h1, h2⟩ => by
    have := flatQ_length fun x hx => hpos x (h2 x hx)
    simp only [rList, rLen, List.append_assoc]
    rw [rv_vi 0 _ _ (by omega) (by simpa using h1) (by omega)]
    simp only [List.length_append]
    rw [if_neg (by omega)]
    exact (hQ.rep l.length).fwd l t ⟨rfl, h2⟩
  bwd := fun b l r h => by
    simp only [rList, rLen] at h
    cases h1 : rv 0 b with
    | error e => simp [h1] at h
    | ok z =>
      obtain ⟨n, r1⟩ := z
      simp only [h1] at h
      split at h
      · simp at h
      · rename_i n' r1' h0
        split at h0
        · simp at h0
        · simp only [Except.ok.injEq, Prod.mk.injEq] at h0
          obtain ⟨rfl, rfl⟩ := h0
          obtain ⟨rfl, hn, _⟩ := rv_ok _ _ _ _ (by omega) h1
          obtain ⟨rfl, rfl, hl⟩ := (hQ.rep _).bwd _ _ _ h
          exact ⟨by simp, by simpa using hn, hl⟩
  pre := fun l p q ⟨h1, h2⟩ hp hq => by
    replace hp : p ++ q = vi l.length ++ l.flatMap e := hp
    simp only [rList, rLen]
    rcases List.append_eq_append_iff.1 hp with ⟨s, hs, hs2⟩ | ⟨s, rfl, hs2⟩
    · by_cases h0 : s = []
      · subst h0
        simp only [List.append_nil] at hs
        simp only [List.nil_append] at hs2
        have := rv_vi 0 l.length [] (by omega) (by simpa using h1) (by omega)
        rw [List.append_nil, hs] at this
        rw [this]
        simp only [List.length_nil]
        by_cases hl : 0 < l.length
        · rw [if_pos hl]
        · obtain rfl := List.length_eq_zero_iff.1 (by omega : l.length = 0)
          simp at hs2
          exact absurd hs2 hq
      · rw [rv_pre l.length 0 p s (by omega) (by simpa using h1) hs.symm h0]
    · rw [rv_vi 0 _ _ (by omega) (by simpa using h1) (by omega)]
      simp only
      by_cases hs : s.length < l.length
      · rw [if_pos hs]
      · rw [if_neg hs]
        exact (hQ.rep l.length).pre l s q ⟨rfl, h2⟩ hs2.symm hq
end Go.Proofs.YtbcgpjfejpcgnaaGreat.O
end
section
namespace Go.Proofs.YtbcgpjfejpcgnaaGreat.O
set_option linter.unusedVariables false
set_option linter.unusedSimpArgs false
def rB (f : Nat → Bool) : Str → Rd UInt8
  | [] => .error 11
  | c :: r => if f c.toNat then .ok (c, r) else .error 12
structure Opn where
  c : Nat
  k : Str := []
  t : Nat := 0
  b : List Wrt := []
  h : Int := 0
  u : Int := 0
  m : Int := 0
end Go.Proofs.YtbcgpjfejpcgnaaGreat.O
end
section
namespace Go.Proofs.YtbcgpjfejpcgnaaGreat.O
set_option linter.unusedVariables false
set_option linter.unusedSimpArgs false
def Er {α : Type} (P : Str → Rd α) : Prop := ∀ b e, P b = .error e → e = 1 ∨ e = 11 ∨ e = 12
theorem Er.seq {α β : Type} {P : Str → Rd α} {Q : α → Str → Rd β} (h1 : Er P) (h2 : ∀ x, Er (Q x)) : Er (seqR P Q) := by
  intro b e h
  simp only [seqR] at h
  cases hp : P b with
  | error e' =>
    simp only [hp, Except.error.injEq] at h
    exact h ▸ h1 b e' hp
  | ok z =>
    obtain ⟨x, r⟩ := z
    simp only [hp] at h
    cases hq : Q x r with
    | error e' =>
      simp only [hq, Except.error.injEq] at h
      exact h ▸ h2 x r e' hq
    | ok z => simp [hq] at h
theorem Er.map {α β : Type} {P : Str → Rd α} (g : α → β) (h1 : Er P) : Er (mapR g P) := by
  intro b e h
  simp only [mapR] at h
  cases hp : P b with
  | error e' =>
    simp only [hp, Except.error.injEq] at h
    exact h ▸ h1 b e' hp
  | ok z => simp [hp] at h
theorem Er.rep {α : Type} {Q : Str → Rd α} (h : Er Q) : ∀ n, Er (repR Q n)
  | 0 => by intro b e h; simp [repR] at h
  | n + 1 => (h.seq fun _ => h.rep n).map _
theorem er_rv : ∀ (b : Str) (i e : Nat), rv i b = .error e → e = 11 ∨ e = 12
  | [], i, e, h => by simp [rv] at h; omega
  | c :: b, i, e, h => by
    simp only [rv] at h
    split at h
    · simp at h; omega
    · split at h
      · simp at h
      · cases hr : rv (i + 1) b with
        | error e' =>
          simp only [hr, Except.error.injEq] at h
          exact h ▸ er_rv b _ _ hr
        | ok z => simp [hr] at h
theorem er_num : Er (rv 0) := fun b e h => .inr (er_rv b 0 e h)
theorem er_len : Er rLen := by
  intro b e h
  unfold rLen at h
  split at h
  · rename_i e' he
    simp only [Except.error.injEq] at h
    exact h ▸ er_num b e' he
  · split at h
    · simp at h; omega
    · simp at h
theorem Er.list {α : Type} {Q : Str → Rd α} (h : Er Q) : Er (rList Q) := by
  intro b e h'
  unfold rList at h'
  split at h'
  · rename_i e' he
    simp only [Except.error.injEq] at h'
    exact h' ▸ er_len b e' he
  · exact h.rep _ _ _ h'
end Go.Proofs.YtbcgpjfejpcgnaaGreat.O
end
section
namespace Go.Proofs.YtbcgpjfejpcgnaaGreat.O
open Go.RowKit
variable {w w' : World} {v : Value} {n k : Nat} {xs : List Value}
structure OV where
  c : Int
  k : Str
  t : Nat
  bA : Option Addr
  bc : Nat
  b : List Wrt
  h : Int
  u : Int
  m : Int
instance : Inhabited OV := ⟨⟨0, [], 0, none, 0, [], 0, 0, 0⟩⟩
def OV.op (x : OV) : Opn := ⟨x.c.toNat, x.k, x.t, x.b, x.h, x.u, x.m⟩
def oC (x : OV) : List Value := [.int .i64 x.c, .string ⟨x.k.toArray⟩, .int .u64 (x.t : Int), .slice x.bA x.b.length x.bc, .int .i64 x.h, .int .i64 x.u, .int .i64 x.m]
theorem oC_len (x : OV) : (oC x).length = 7 := rfl
def OkB (w : World) (x : OV) : Prop := Lst w (.slice x.bA x.b.length x.bc) x.b.length (wCs x.b)
theorem OkB.keeps {w w' : World} {x : OV} (h : OkB w x) (k : Keeps [] w w') : OkB w' x := Lst.keeps h k
theorem oC_one (x : OV) : ∀ u ∈ oC x, u.oneCell' = true := by
  intro u hu
  simp only [oC, List.mem_cons, List.mem_nil_iff, or_false] at hu
  rcases hu with rfl | rfl | rfl | rfl | rfl | rfl | rfl <;> rfl
def Cel (w : World) (g o : Nat) (x : OV) : Prop := ∀ (j : Nat) (u : Value), (oC x)[j]? = some u → w.cell? ⟨g, o + j, none⟩ = some u
theorem Cel.all {w : World} {g o : Nat} {x : OV} (h : Cel w g o x) : w.cell? ⟨g, o, none⟩ = some (.int .i64 x.c) ∧ w.cell? ⟨g, o + 1, none⟩ = some (.string ⟨x.k.toArray⟩) ∧ w.cell? ⟨g, o + 2, none⟩ = some (.int .u64 (x.t : Int)) ∧ w.cell? ⟨g, o + 3, none⟩ = some (.slice x.bA x.b.length x.bc) ∧ w.cell? ⟨g, o + 4, none⟩ = some (.int .i64 x.h) ∧ w.cell? ⟨g, o + 5, none⟩ = some (.int .i64 x.u) ∧ w.cell? ⟨g, o + 6, none⟩ = some (.int .i64 x.m) :=
  ⟨h 0 _ rfl, h 1 _ rfl, h 2 _ rfl, h 3 _ rfl, h 4 _ rfl, h 5 _ rfl, h 6 _ rfl⟩
theorem sizO : (Tryz.prog.info? 29).map (·.size) = some 7 := by kernel_rfl
theorem Cel.load {w : World} {g o : Nat} {x : OV} (h : Cel w g o x) : (loadVar 29 ⟨g, o, none⟩).run Tryz.prog w = .ok (.agg #[.int .i64 x.c, .string ⟨x.k.toArray⟩, .int .u64 (x.t : Int), .slice x.bA x.b.length x.bc, .int .i64 x.h, .int .i64 x.u, .int .i64 x.m]) w := by
  have hl := run_loadCells_list (P := Tryz.prog) w ⟨g, o, none⟩ (oC x) (fun j u hj => by rw [Addr.add_lit]; exact h j u hj)
  rw [oC_len] at hl
  simp only [loadVar, Sem.run_bind, Tryz.isAgg29, Tryz.sizeOf29, Result.andThen_ok, if_true, hl]
  rfl
theorem store_new (w : World) (x : OV) (old : Array Value) (ho : old.size = 7) : (storeVar 29 ⟨w.heap.size, 0, none⟩ (.agg #[.int .i64 x.c, .string ⟨x.k.toArray⟩, .int .u64 (x.t : Int), .slice x.bA x.b.length x.bc, .int .i64 x.h, .int .i64 x.u, .int .i64 x.m])).run Tryz.prog (w.alloc (.cells old 29)) = .ok () (w.alloc (.cells #[.int .i64 x.c, .string ⟨x.k.toArray⟩, .int .u64 (x.t : Int), .slice x.bA x.b.length x.bc, .int .i64 x.h, .int .i64 x.u, .int .i64 x.m] 29)) := by
  rw [run_storeVar_row (P := Tryz.prog) (w.alloc (.cells old 29)) w.heap.size 29 29 old #[.int .i64 x.c, .string ⟨x.k.toArray⟩, .int .u64 (x.t : Int), .slice x.bA x.b.length x.bc, .int .i64 x.h, .int .i64 x.u, .int .i64 x.m] (heap_alloc_new _ _) (by rw [sizO]; rfl) ho (by rw [Array.all_eq_true_iff_forall_mem]; exact fun u hu => oC_one x u (by simpa [oC] using hu)), setRow_new]
theorem Cel.keeps {S : List Nat} {w w' : World} {g o : Nat} {x : OV} (h : Cel w g o x) (k : Keeps S w w') (hn : g ∉ S) : Cel w' g o x := fun j u hj => k.cellEq (h j u hj) hn
theorem results_blk {fn : Func} {p : Tmp} {ty : TypeId} (h : fn.results = #[.cell p ty]) (tmps : Array Value) (w : World) (g : Nat) (cs : List Value) (d : Array Field)
    (hp : tmps.getD p undef = .pointer (some ⟨g, 0, none⟩)) (hb : Blk w g cs) (hu : Tryz.prog.underlying ty = some (.struct d)) (hi : (Tryz.prog.info? ty).map (·.size) = some cs.length) :
    (results fn tmps).run Tryz.prog w = .ok (.agg cs.toArray) w := by
  obtain ⟨T, ht⟩ := hb
  exact results_cell_row h tmps w g T cs.toArray _ (.struct d) hp ht hu rfl (by simpa using hi)
end Go.Proofs.YtbcgpjfejpcgnaaGreat.O
end
section
namespace Go.Proofs.YtbcgpjfejpcgnaaGreat
open Go.RowKit
set_option maxRecDepth 100000
variable {w w' : World} {base ww : Nat} {bv sv cv : Value} {vs : List Value} {s : WS}
theorem sizAn : (Tryz.prog.info? 32).map (·.size) = some 4 := by kernel_rfl
theorem Blk.set4 {w : World} {g : Nat} {a0 a1 a2 a3 : Value} (h : Blk w g [a0, a1, a2, a3]) (v0 v1 v2 v3 : Value) :
    Blk ((((w.setCell ⟨g, 0, none⟩ v0).setCell ⟨g, 1, none⟩ v1).setCell ⟨g, 2, none⟩ v2).setCell ⟨g, 3, none⟩ v3) g [v0, v1, v2, v3] ∧ Keeps [g] w ((((w.setCell ⟨g, 0, none⟩ v0).setCell ⟨g, 1, none⟩ v1).setCell ⟨g, 2, none⟩ v2).setCell ⟨g, 3, none⟩ v3) :=
  ⟨(((h.set 0 v0).set 1 v1).set 2 v2).set 3 v3, ((((Keeps.refl [g] w).setCell _ _ (.inl (by simp))).setCell _ _ (.inl (by simp))).setCell _ _ (.inl (by simp))).setCell _ _ (.inl (by simp))⟩
abbrev ansV (a : An) : Value := .agg #[.int .i64 a.er, .int .u64 (a.tm : Int), .string ⟨a.k.toArray⟩, .string ⟨a.v.toArray⟩]
theorem Keeps.fresh {w w2 w3 : World} {g : Nat} (k : Keeps [] w w2) (k3 : Keeps [g] w2 w3) (hg : w.heap.size ≤ g) : Keeps [] w w3 :=
  k.trans k3 (fun i hi => .inr (by simp at hi; subst hi; exact hg))
set_option maxHeartbeats 1000000 in
theorem xentry_any (h : WX w base ww bv sv cv vs s) (hn : s.Bs.length ≤ 100) (hb5 : ∀ b ∈ s.Bs, b.length ≤ 16) (key : Str) (T : Nat) (hT : T ≤ 18446744073709551615) :
    Calls Tryz.prog 21 #[.pointer (some ⟨ww, 0, none⟩), .string ⟨key.toArray⟩, .int .u64 (T : Int)] w fun e w' => e = .returned (ansV (entW s.Bs key T)) ∧ Keeps [] w w' := by
  have hli := fun u (k : Keeps [] w u) => xlist_any (h.keeps k) hn hb5 T hT
  have hlen : (lstAt s.Bs T).length ≤ 4000 := by have := (lstAt_len hb5 T).1; omega
  obtain ⟨l, hl⟩ : ∃ l, lstAt s.Bs T = l := ⟨_, rfl⟩
  obtain ⟨a, ha⟩ : ∃ a, entW s.Bs key T = a := ⟨_, rfl⟩
  have hent : a = match lk l key with | none => ⟨3, T, key, []⟩ | some v => ⟨0, T, key, v⟩ := by rw [← ha, ← hl]; rfl
  rw [ha]
  rw [hl] at hli hlen
  have ka := (Keeps.refl [] w).alloc (.cells #[.int .i64 0, .int .u64 0, .string ⟨#[]⟩, .string ⟨#[]⟩] 32)
  have bA := Blk.new w [.int .i64 0, .int .u64 0, .string ⟨#[]⟩, .string ⟨#[]⟩] 32
  clear ha h hl
  cases hv : lk l key with
  | none =>
    rw [hv] at hent
    subst hent
    have Hv := Lib.hid hv
    clear hv
    go_enter Tryz.func21, Tryz.ntmps21
    go_wp2_with fail
    refine (hli _ ka).mono ?_
    rintro e w2 ⟨v, rfl, hlv, k2⟩
    have k1 := ka.trans k2 (by simp)
    have bB := k2.blk bA (by simp)
    have hg := get_any l hlen key v w2 hlv
    rw [Hv.out] at hg
    obtain ⟨bS, kS⟩ := bB.set4 (.int .i64 3) (.int .u64 (T : Int)) (.string ⟨key.toArray⟩) (.string ⟨#[]⟩)
    obtain ⟨o0, o1, o2, o3, o4, o5⟩ := bB.o4
    clear bA bB hlv ka k2 hli
    go_wp2_with fail
    refine hg.mono ?_
    rintro e w3 ⟨rfl, rfl⟩
    go_wp2_with fail
    refine bodyPost_ret (O.results_blk rfl _ _ w.heap.size [.int .i64 3, .int .u64 (T : Int), .string ⟨key.toArray⟩, .string ⟨#[]⟩] _ rfl bS Tryz.underlying32 sizAn) rfl ?_
    exact ⟨rfl, k1.fresh kS (Nat.le_refl _)⟩
  | some x =>
    rw [hv] at hent
    subst hent
    have Hv := Lib.hid hv
    clear hv
    go_enter Tryz.func21, Tryz.ntmps21
    go_wp2_with fail
    refine (hli _ ka).mono ?_
    rintro e w2 ⟨v, rfl, hlv, k2⟩
    have k1 := ka.trans k2 (by simp)
    have bB := k2.blk bA (by simp)
    have hg := get_any l hlen key v w2 hlv
    rw [Hv.out] at hg
    obtain ⟨bS, kS⟩ := bB.set4 (.int .i64 0) (.int .u64 (T : Int)) (.string ⟨key.toArray⟩) (.string ⟨x.toArray⟩)
    obtain ⟨o0, o1, o2, o3, o4, o5⟩ := bB.o4
    clear bA bB hlv ka k2 hli
    go_wp2_with fail
    refine hg.mono ?_
    rintro e w3 ⟨rfl, rfl⟩
    go_wp2_with fail
    refine bodyPost_ret (O.results_blk rfl _ _ w.heap.size [.int .i64 0, .int .u64 (T : Int), .string ⟨key.toArray⟩, .string ⟨x.toArray⟩] _ rfl bS Tryz.underlying32 sizAn) rfl ?_
    exact ⟨rfl, k1.fresh kS (Nat.le_refl _)⟩
theorem less_snoc (l : List Ent) (k : Str) (i : Nat) (e : Ent) (h : l[i]? = some e) : less (l.take (i + 1)) k = less (l.take i) k + (if e.k < k then 1 else 0) := by
  unfold less
  rw [List.take_add_one, h, List.filter_append, List.length_append]
  by_cases hk : e.k < k <;> simp [hk]
theorem less_take (l : List Ent) (k : Str) (i : Nat) : less (l.take i) k ≤ i := Nat.le_trans (less_le _ _) (by rw [List.length_take]; omega)
end Go.Proofs.YtbcgpjfejpcgnaaGreat
end
