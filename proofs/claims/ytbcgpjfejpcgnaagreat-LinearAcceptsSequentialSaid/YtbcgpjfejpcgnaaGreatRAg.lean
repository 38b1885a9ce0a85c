/- Lemmas on the way to LinearAcceptsSequential. No condition. -/
import Derived.Test.YtbcgpjfejpcgnaaGreatRAf
import Derived.Maps.OwnSet
import Derived.Maps.OwnOps
import Derived.DeepKeys4
import Derived.Deep.RegionLaw
set_option linter.unusedSimpArgs false
set_option linter.unusedVariables false
set_option linter.unusedSectionVars false
section
namespace Go.Proofs.YtbcgpjfejpcgnaaGreat
open Go.RowKit Go.Maps
set_option maxRecDepth 100000
theorem laidOutA : laidOutB Tryz.prog = true := by kernel_rfl
theorem rowK : (134 : TypeId) < Tryz.prog.types.size := of_decide_eq_true (by kernel_rfl)
theorem wideK : (match Tryz.prog.underlying 134 with | some (.array _ _) | some (.struct _) => true | _ => false) = true := by rw [Tryz.underlying134]
theorem lawK : Keyed Tryz.prog 134 := Keyed.of_law (deep_law_laid laidOutA (m := 3) (by omega) rowK (by kernel_rfl) wideK)
def IsKl (t j : Nat) (k : Lit) : Prop := keyOf Tryz.prog 134 (.agg #[.int .i64 (t : Int), .int .i64 (j : Int)]) = some k
theorem k10 : (keyOf Tryz.prog 134 (.agg #[.int .i64 1, .int .i64 0])).isSome = true := by kernel_rfl
theorem k11 : (keyOf Tryz.prog 134 (.agg #[.int .i64 1, .int .i64 1])).isSome = true := by kernel_rfl
theorem kl_inj {t j t' j' : Nat} {k : Lit} (h1 : IsKl t j k) (h2 : IsKl t' j' k) : t = t' ∧ j = j' := by
  have := lawK.inj h1 h2
  simp at this
  omega
structure MO (w : World) (base : Nat) (Q : List Nat) (m sb cap mb nb : Nat) (sv rest : List Value) (St : List (List Ent)) (F : Nat) (D : DataW Unit) : Prop where
  hm : Blk w m [.slice (some ⟨sb, 0, none⟩) St.length cap, .int .u64 (F : Int), .map (some mb)]
  hs : Blk w sb (sv ++ rest)
  hl : sv.length = St.length
  hp : 0 < St.length
  hcap : St.length ≤ cap
  hcl : (sv ++ rest).length = cap
  hcm : cap ≤ maxLen
  hne : m ≠ sb
  he : ∀ (i : Nat) (v : Value) (l : List Ent), sv[i]? = some v → St[i]? = some l → Own w 0 v l ∧ ∀ g, v.ownBlock = some g → g ≠ m ∧ g ≠ sb
  hmap : w.ownsMap Tryz.prog 134 (plainElem Tryz.prog 22) mb nb D
  hb : base ≤ m ∧ base ≤ sb ∧ base ≤ mb
  hq : ∀ q ∈ Q, q ≠ m ∧ q ≠ sb ∧ q ≠ mb ∧ q < w.heap.size
  hd : ∀ v ∈ sv, ∀ g, v.ownBlock = some g → g ∉ Q
theorem ownsMap_keepsU {w w' : World} {M n : Nat} {D : DataW Unit} (h : w.ownsMap Tryz.prog 134 (plainElem Tryz.prog 22) M n D) {S : List Nat} (k : Keeps S w w') (hn : M ∉ S) : w'.ownsMap Tryz.prog 134 (plainElem Tryz.prog 22) M n D := by
  obtain ⟨es, clock, hb, F, hs, hD⟩ := h
  exact ⟨es, clock, by rw [k.block M (Array.getElem?_eq_some_iff.1 hb).1 hn]; exact hb, F, hs, hD⟩
variable {w w' : World} {base m sb cap mb nb F : Nat} {Q : List Nat} {sv rest : List Value} {St : List (List Ent)} {D : DataW Unit}
theorem MO.keeps (h : MO w base Q m sb cap mb nb sv rest St F D) (k : Keeps [] w w') : MO w' base Q m sb cap mb nb sv rest St F D :=
  ⟨k.blk h.hm (by simp), k.blk h.hs (by simp), h.hl, h.hp, h.hcap, h.hcl, h.hcm, h.hne, fun i v l h1 h2 => ⟨(h.he i v l h1 h2).1.keeps k (by simp), (h.he i v l h1 h2).2⟩, ownsMap_keepsU h.hmap k (by simp), h.hb, fun q hq => ⟨(h.hq q hq).1, (h.hq q hq).2.1, (h.hq q hq).2.2.1, Nat.lt_of_lt_of_le (h.hq q hq).2.2.2 k.size⟩, h.hd⟩
theorem MO.ne_map (h : MO w base Q m sb cap mb nb sv rest St F D) {b : Nat} {cs : List Value} (hb : Blk w b cs) : b ≠ mb := by
  intro e
  subst e
  obtain ⟨es, clock, h1, _⟩ := h.hmap
  obtain ⟨T, h2⟩ := hb
  rw [h1] at h2
  cases h2
theorem MO.state (h : MO w base Q m sb cap mb nb sv rest St F D) {i : Nat} (hi : i < St.length) : ∃ v l, St[i]? = some l ∧ w.cell? ⟨sb, i, none⟩ = some v ∧ Own w 0 v l ∧ ∀ g, v.ownBlock = some g → g ≠ m ∧ g ≠ sb := by
  have hi' : i < sv.length := by rw [h.hl]; exact hi
  obtain ⟨h1, h2⟩ := h.he i sv[i] St[i] (List.getElem?_eq_getElem hi') (List.getElem?_eq_getElem hi)
  exact ⟨sv[i], St[i], List.getElem?_eq_getElem hi, by rw [h.hs.cell, List.getElem?_append_left hi', List.getElem?_eq_getElem hi'], h1, h2⟩
set_option maxRecDepth 100000 in
theorem time_any (h : MO w base Q m sb cap mb nb sv rest St F D) (hn : St.length ≤ 4096) :
    Calls Tryz.prog 75 #[.pointer (some ⟨m, 0, none⟩)] w fun e w' => e = .returned (.int .u64 ((St.length - 1 : Nat) : Int)) ∧ w' = w := by
  obtain ⟨d0, d1, d2, d3, d4⟩ := h.hm.o3
  have hp := h.hp
  have hs1 : ((St.length - 1 : Nat) : Int) = (St.length : Int) - 1 := by omega
  obtain ⟨n, hn'⟩ : ∃ n, St.length = n := ⟨_, rfl⟩
  rw [hn'] at d0 hp hs1 hn ⊢
  have hw : IntKind.u64.wrap ((n : Int) - 1) = (n : Int) - 1 := IntWalk.u64_in _ ⟨by omega, by omega⟩
  rw [hs1]
  go_enter Tryz.func75, Tryz.ntmps75
  go_wp2
  go_ret
  exact ⟨rfl, rfl⟩
set_option maxRecDepth 100000 in
theorem floor_any (h : MO w base Q m sb cap mb nb sv rest St F D) :
    Calls Tryz.prog 77 #[.pointer (some ⟨m, 0, none⟩)] w fun e w' => e = .returned (.int .u64 (F : Int)) ∧ w' = w := by
  obtain ⟨d0, d1, d2, d3, d4⟩ := h.hm.o3
  go_enter Tryz.func77, Tryz.ntmps77
  go_wp2
  go_ret
  exact ⟨rfl, rfl⟩
def pick (St : List (List Ent)) (T : Nat) : Nat := min T (St.length - 1)
set_option maxHeartbeats 1000000 in
set_option maxRecDepth 100000 in
theorem state_any (h : MO w base Q m sb cap mb nb sv rest St F D) (hn : St.length ≤ 4096) (T : Nat) (_hT : T ≤ 18446744073709551615) :
    Calls Tryz.prog 89 #[.pointer (some ⟨m, 0, none⟩), .int .u64 (T : Int)] w fun e w' => ∃ v l, e = .returned v ∧ St[pick St T]? = some l ∧ Own w' 0 v l ∧ Keeps [] w w' := by
  obtain ⟨d0, d1, d2, d3, d4⟩ := h.hm.o3
  have hp := h.hp
  have hpk : pick St T < St.length := by unfold pick; omega
  obtain ⟨v, l, h1, h2, h3, _⟩ := h.state hpk
  have hpi : min (T : Int) ((St.length - 1 : Nat) : Int) = ((pick St T : Nat) : Int) := by unfold pick; omega
  have hsl := h.hs.lt
  obtain ⟨i, hi⟩ : ∃ i, pick St T = i := ⟨_, rfl⟩
  rw [hi] at h1 h2 hpi hpk
  have Hi := Lib.hid hi
  have H1 := Lib.hid h1
  have hik : (i : Int) < (St.length : Int) := by omega
  clear hi h1
  have ht := fun w' (k : Keeps [] w w') => time_any (h.keeps k) hn
  go_enter Tryz.func89, Tryz.ntmps89
  go_wp2_with fail
  go_region_held3 (fun w' => w'.cell? ⟨m, 0, none⟩ = some (.slice (some ⟨sb, 0, none⟩) St.length cap) ∧ w'.cell? ⟨sb, i, none⟩ = some v)
    (first | assumption | go_keep)
    ((go_at_call 75; refine (ht _ ((Keeps.refl [] w).drew)).mono ?_; rintro e w2 ⟨rfl, rfl⟩))
  all_goals (go_wp2_with fail; go_ret; exact ⟨v, l, rfl, by rw [Hi.out]; exact H1.out, h3, (Keeps.refl [] w).drew⟩)
set_option maxRecDepth 100000 in
theorem mlist_any (h : MO w base Q m sb cap mb nb sv rest St F D) (hn : St.length ≤ 4096) (hsz : ∀ l ∈ St, l.length ≤ 4000) (T : Nat) (hT : T ≤ 18446744073709551615) :
    Calls Tryz.prog 79 #[.pointer (some ⟨m, 0, none⟩), .int .u64 (T : Int)] w fun e w' => ∃ v l, e = .returned v ∧ St[pick St T]? = some l ∧ Own w' w.heap.size v l ∧ Keeps [] w w' := by
  have hst := state_any h hn T hT
  clear h
  go_enter Tryz.func79, Tryz.ntmps79
  go_wp2_with fail
  refine hst.mono ?_
  rintro e w1 ⟨v, l, rfl, h1, h2, k1⟩
  go_wp2_with fail
  refine (clone_any l (by have := hsz l (List.mem_of_getElem? h1); omega) v w1 h2.lst).mono ?_
  rintro e w2 ⟨u, rfl, h3, k2⟩
  go_wp2_with fail
  go_ret
  exact ⟨u, l, rfl, h1, h3.mono k1.size, k1.trans k2 (by simp)⟩
theorem searchM_nil (k : Str) (w : World) :
    Calls Tryz.prog 84 #[.slice none 0 0, .string ⟨k.toArray⟩, .func (.func 90) #[] #[]] w fun x w' => x = .returned (.tuple #[.int .i64 0, .bool false]) ∧ Keeps [] w w' := by
  go_enter Tryz.func84, Tryz.ntmps84
  go_wp2_with fail
  go_loopw [9, 10] (fun i j wr => i = .int .i64 0 ∧ j = .int .i64 0 ∧ wr = w) (fun _ _ _ => 0)
  case atStart => exact ⟨rfl, rfl, rfl⟩
  case round =>
    obtain ⟨rfl, rfl, rfl⟩ := hrel
    go_wp2_with fail
    go_ret2
    exact ⟨rfl, Keeps.refl _ _⟩
theorem searchM_own (l : List Ent) (k : Str) (hl : Asc l) (hn : l.length ≤ 4096) (base : Nat) (v : Value) (w : World) (ho : Own w base v l) :
    Calls Tryz.prog 84 #[v, .string ⟨k.toArray⟩, .func (.func 90) #[] #[]] w fun x w' => x = .returned (.tuple #[.int .i64 (pos l k), .bool (at_ l k)]) ∧ Keeps [] w w' := by
  rcases ho with ⟨rfl, rfl⟩ | ⟨g, cap, rest, rfl, hb, _⟩
  · exact searchM_nil k w
  · exact searchM_any l k hl hn g cap rest w hb
theorem lk_mid (A B : List Ent) (k v : Str) (hA : ∀ x ∈ A, x.k < k) : lk (A ++ ⟨k, v⟩ :: B) k = some v := by
  induction A with
  | nil => simp [lk]
  | cons a A ih => rw [List.cons_append, lk, if_neg (slt_ne (hA a (by simp))), ih (fun x hx => hA x (by simp [hx]))]
theorem lk_at {l : List Ent} (hl : Asc l) (k : Str) : (at_ l k = true → ∃ e, l[pos l k]? = some e ∧ lk l k = some e.v) ∧ (at_ l k = false → lk l k = none) := by
  constructor
  · intro h
    obtain ⟨A, e, B, h1, h2, h3, h4, h5⟩ := parted hl k h
    obtain ⟨ek, ev⟩ := e
    simp only at h3
    subst h3
    refine ⟨⟨ek, ev⟩, ?_, ?_⟩
    · rw [← h2]
      conv => lhs; arg 1; rw [h1]
      simp
    · conv => lhs; rw [h1]
      exact lk_mid A B ek ev h4
  · intro h
    obtain ⟨A, B, h1, h2, h4, h5⟩ := parted' hl k h
    refine lk_none fun x hx => ?_
    rw [h1] at hx
    rcases List.mem_append.1 hx with h | h
    · exact slt_ne (h4 x h)
    · exact fun e => slt_ne (h5 x h) e.symm
set_option maxHeartbeats 1000000 in
set_option maxRecDepth 100000 in
theorem mget_any (h : MO w base Q m sb cap mb nb sv rest St F D) (hn : St.length ≤ 4096) (hsz : ∀ l ∈ St, l.length ≤ 4000 ∧ Asc l) (key : Str) (T : Nat) (hT : T ≤ 18446744073709551615) :
    Calls Tryz.prog 78 #[.pointer (some ⟨m, 0, none⟩), .string ⟨key.toArray⟩, .int .u64 (T : Int)] w fun e w' => ∃ l, e = .returned (.tuple #[.string ⟨((lk l key).getD []).toArray⟩, .bool (lk l key).isSome]) ∧ St[pick St T]? = some l ∧ Keeps [] w w' := by
  have hst := state_any h hn T hT
  clear h
  go_enter Tryz.func78, Tryz.ntmps78
  go_wp2_with fail
  refine hst.mono ?_
  rintro e w1 ⟨v, l, rfl, h1, h2, k1⟩
  obtain ⟨s1, s2⟩ := hsz l (List.mem_of_getElem? h1)
  obtain ⟨q1, q2⟩ := lk_at s2 key
  have hlk : ∃ r : Option Str, lk l key = r := ⟨_, rfl⟩
  obtain ⟨r, hr⟩ := hlk
  go_wp2_with fail
  refine (searchM_own l key s2 (by omega) 0 v w1 h2).mono ?_
  rintro e w2 ⟨rfl, k2⟩
  have h2' := h2.keeps k2 (by simp)
  cases hat : at_ l key with
  | true =>
    obtain ⟨e, he, hlv⟩ := q1 hat
    rw [hr] at hlv
    subst hlv
    have hp : pos l key < l.length := (List.getElem?_eq_some_iff.1 he).1
    obtain ⟨p, hpp⟩ : ∃ p, pos l key = p := ⟨_, rfl⟩
    rw [hpp] at he hp ⊢
    rcases h2' with ⟨_, h0⟩ | ⟨g, gc, rst, rfl, hgb, _⟩
    · subst h0; simp at hp
    · have d := hgb.cell (p * 2 + 1)
      rw [(eCs_cells l p e he rst).2] at d
      have dl := hgb.lt
      have hpi : (p : Int) < (l.length : Int) := by omega
      have H1 := Lib.hid h1
      have Hr := Lib.hid hr
      clear h1 he hgb hr h2 q1 q2 hat hsz s1 s2 hst
      go_wp2_with fail
      go_ret2
      exact ⟨l, by rw [Hr.out]; rfl, H1.out, k1.trans k2 (by simp)⟩
  | false =>
    have hn := q2 hat
    rw [hr] at hn
    subst hn
    have H1 := Lib.hid h1
    have Hr := Lib.hid hr
    clear h1 hr h2 q1 q2 hat hsz s1 s2 hst
    go_wp2_with fail
    go_ret2
    exact ⟨l, by rw [Hr.out]; rfl, H1.out, k1.trans k2 (by simp)⟩
end Go.Proofs.YtbcgpjfejpcgnaaGreat
end
section
namespace Go.Proofs.YtbcgpjfejpcgnaaGreat
open Go.RowKit Go.Maps
set_option maxRecDepth 100000
theorem infoES : (Tryz.prog.info? 84).map (fun i => (i.zero, i.size, i.bytes)) = some (some (.slice none 0 0), 1, 24) := by kernel_rfl
def MOx (w : World) (base : Nat) (Q : List Nat) (m N : Nat) (St : List (List Ent)) (F : Nat) (D : DataW Unit) : Prop :=
  ∃ sb cap mb nb sv rest, nb ≤ N ∧ MO w base Q m sb cap mb nb sv rest St F D
def Kp (base : Nat) (Q : List Nat) (w w' : World) : Prop := ∃ S, (∀ i ∈ S, base ≤ i ∧ i ∉ Q) ∧ Keeps S w w'
theorem Kp.of {base : Nat} {Q : List Nat} {w w' : World} (h : Keeps [] w w') : Kp base Q w w' := ⟨[], by simp, h⟩
theorem Kp.trans {base : Nat} {Q : List Nat} {a b c : World} (h : Kp base Q a b) (k : Kp base Q b c) : Kp base Q a c := by
  obtain ⟨S, h1, h2⟩ := h
  obtain ⟨S', h3, h4⟩ := k
  exact ⟨S ++ S', fun i hi => (List.mem_append.1 hi).elim (h1 i) (h3 i), (h2.mono (fun i hi => .inl (List.mem_append_left _ hi))).trans h4 (fun i hi => .inl (List.mem_append_right _ hi))⟩
theorem Kp.keeps {base : Nat} {Q : List Nat} {W w w' : World} (K : Keeps [] W w) (k : Kp base Q w w') (hb : W.heap.size ≤ base) : Keeps [] W w' := by
  obtain ⟨S, h1, h2⟩ := k
  exact K.trans h2 (fun i hi => .inr (Nat.le_trans hb (h1 i hi).1))
variable {w w' : World} {base m sb cap mb nb F : Nat} {Q : List Nat} {sv rest : List Value} {St : List (List Ent)} {D : DataW Unit}
theorem appendSt (h : MO w base Q m sb cap mb nb sv rest St F D) (hn : St.length < 4096) (u : Value) (l' : List Ent) (hu : Own w 0 u l') (hug : ∀ g, u.ownBlock = some g → g ≠ m ∧ g ≠ sb) (hud : ∀ g, u.ownBlock = some g → g ∉ Q) (hbw : base ≤ w.heap.size) :
    ∃ (sb' cap' : Nat) (w1 : World), (∀ ty, (Builtin.append_ #[95, 95] ty #[.slice (some ⟨sb, 0, none⟩) St.length cap, .slice (some ⟨w.heap.size, 0, none⟩) 1 1]).run Tryz.prog (w.alloc (.cells #[u] 84)) = .ok (.slice (some ⟨sb', 0, none⟩) (St.length + 1) cap') w1) ∧ Keeps [sb] w w1 ∧
      MOx (w1.setCell ⟨m, 0, none⟩ (.slice (some ⟨sb', 0, none⟩) (St.length + 1) cap')) base Q m nb (St ++ [l']) F D := by
  obtain ⟨i0, hi0, hz0, hz1, hz2⟩ := info_parts infoES
  have hsz : (Tryz.prog.info? 84).map (·.size) = some 1 := by rw [hi0]; simp [hz1]
  have h1 := h.keeps ((Keeps.refl [] w).alloc (.cells #[u] 84))
  have hu1 := hu.keeps ((Keeps.refl [] w).alloc (.cells #[u] 84)) (by simp)
  have hone : ∀ x ∈ [u], x.oneCell' = true := fun x hx => by
    simp only [List.mem_cons, List.mem_nil_iff, or_false] at hx
    subst hx
    rcases hu with ⟨rfl, _⟩ | ⟨g, c, r, rfl, _⟩ <;> rfl
  have hnew : ∀ j x, [u][j]? = some x → (w.alloc (.cells #[u] 84)).cell? ((⟨w.heap.size, 0, none⟩ : Addr).add j) = some x := by
    intro j x hj
    match j, hj with
    | 0, hj => simp at hj; subst hj; simp [Addr.add]
  have hsl := h.hs.lt
  have hml := h.hm.lt
  have hel : ∀ (i : Nat) (v : Value) (l : List Ent), (sv ++ [u])[i]? = some v → (St ++ [l'])[i]? = some l → Own (w.alloc (.cells #[u] 84)) 0 v l ∧ ∀ g, v.ownBlock = some g → g ≠ m ∧ g ≠ sb ∧ g < (w.alloc (.cells #[u] 84)).heap.size := by
    intro i v l hv hl
    by_cases hi : i < sv.length
    · rw [List.getElem?_append_left hi] at hv
      rw [List.getElem?_append_left (by rw [← h.hl]; exact hi)] at hl
      obtain ⟨g1, g2⟩ := h1.he i v l hv hl
      exact ⟨g1, fun g hg => ⟨(g2 g hg).1, (g2 g hg).2, (g1.ge g hg).2⟩⟩
    · rw [List.getElem?_append_right (by omega)] at hv
      rw [List.getElem?_append_right (by rw [← h.hl]; omega)] at hl
      have hi0 : i - sv.length = 0 := by
        have := (List.getElem?_eq_some_iff.1 hv).1
        simp at this; omega
      rw [← h.hl] at hl
      rw [hi0] at hv hl
      simp at hv hl
      subst hv; subst hl
      exact ⟨hu1, fun g hg => ⟨(hug g hg).1, (hug g hg).2, (hu1.ge g hg).2⟩⟩
  by_cases hroom : St.length + 1 ≤ cap
  · obtain ⟨w1, hr, hb1, k1⟩ := run_appendK (P := Tryz.prog) _ 95 84 1 Tryz.underlying95 hsz sb St.length cap _ h1.hs ⟨w.heap.size, 0, none⟩ 1 1 [u] rfl hnew hone hroom (by rw [h.hcl]; simp; omega)
    have kw := ((Keeps.refl [sb] w).alloc (.cells #[u] 84)).trans k1 (fun i hi => .inl hi)
    have hX : (spl (sv ++ rest) (St.length * 1) [u]).take (St.length * 1 + [u].length) = sv ++ [u] := by
      rw [spl_take_in (by rw [h.hcl]; omega), List.take_append_of_le_length (by rw [h.hl]; omega), List.take_of_length_le (by rw [h.hl]; omega)]
    have hm1 := k1.blk h1.hm (by simpa using h.hne)
    have hs1 := hb1.cut hX
    refine ⟨sb, cap, w1, hr, kw, sb, cap, mb, nb, sv ++ [u], (spl (sv ++ rest) (St.length * 1) [u]).drop (St.length * 1 + [u].length), Nat.le_refl _, ?_⟩
    exact {
      hm := by have := hm1.set 0 (.slice (some ⟨sb, 0, none⟩) (St.length + 1) cap); rw [List.length_append]; exact this
      hs := hs1.other _ _ (fun e => h.hne e.symm)
      hl := by simp [h.hl]
      hp := by simp
      hcap := by simpa using hroom
      hcl := by rw [← hX, List.take_append_drop, spl_length (by rw [h.hcl]; simp; omega), h.hcl]
      hcm := h.hcm
      hne := h.hne
      he := fun i v l hv hl => by
        obtain ⟨g1, g2⟩ := hel i v l hv hl
        refine ⟨(g1.keeps k1 (fun g hg => by simpa using (g2 g hg).2.1)).keeps ((Keeps.refl [m] w1).setCell ⟨m, 0, none⟩ _ (.inl (by simp))) (fun g hg => by simpa using (g2 g hg).1), fun g hg => ⟨(g2 g hg).1, (g2 g hg).2.1⟩⟩
      hmap := ownsMap_keepsU (ownsMap_keepsU h1.hmap k1 (by simpa using (h.ne_map h.hs).symm)) ((Keeps.refl [m] w1).setCell ⟨m, 0, none⟩ _ (.inl (by simp))) (by simpa using (h.ne_map h.hm).symm)
      hb := h.hb
      hq := fun q hq => ⟨(h.hq q hq).1, (h.hq q hq).2.1, (h.hq q hq).2.2.1, by have := (h.hq q hq).2.2.2; have := kw.size; simp; omega⟩
      hd := fun v hv g hg => by
        rcases List.mem_append.1 hv with hv | hv
        · exact h.hd v hv g hg
        · simp only [List.mem_cons, List.mem_nil_iff, or_false] at hv
          subst hv
          exact hud g hg }
  · have hw1s : w.heap.size < (w.alloc (.cells #[u] 84)).heap.size := by simp
    have hr := fun ty => run_append_grow (P := Tryz.prog) (w.alloc (.cells #[u] 84)) 95 ty 84 i0 _ Tryz.underlying95 hi0 hz0 ⟨sb, 0, none⟩ St.length cap sv (by rw [hz1, h.hl]; omega)
      (fun j x hj => by rw [Addr.add_lit, h1.hs.cell, Nat.zero_add, List.getElem?_append_left (List.getElem?_eq_some_iff.1 hj).1, hj]) ⟨w.heap.size, 0, none⟩ 1 1 [u] (by rw [hz1]; rfl) hnew (by omega) (by omega) (growslice_fits (by omega) (by rw [hz2]; omega))
    obtain ⟨W, hW⟩ : ∃ W, W = w.alloc (.cells #[u] 84) := ⟨_, rfl⟩
    rw [← hW] at hr h1 hel hw1s ⊢
    have kwW : Keeps [] w W := by rw [hW]; exact (Keeps.refl [] w).alloc _
    have hg := grownCap_ge W (St.length + 1) cap 84
    have hgm := grownCap_le_maxLen W (St.length + 1) cap 84 (by unfold maxLen; omega)
    obtain ⟨G, hG⟩ : ∃ G, G = grownCap W (St.length + 1) cap 84 := ⟨_, rfl⟩
    rw [← hG] at hr hg hgm
    obtain ⟨Z, hZ⟩ : ∃ Z, Z = Builtin.zeroCells (Value.slice none 0 0).cells (G - (St.length + 1)) := ⟨_, rfl⟩
    rw [← hZ] at hr
    have hZl : Z.toList.length = G - (St.length + 1) := by rw [hZ, Array.length_toList, size_zeroCells]; simp [Value.cells]
    have hnb := new_blk W (sv ++ [u]) Z 84
    have eA : (sv.toArray ++ [u].toArray ++ Z) = (sv ++ [u]).toArray ++ Z := by simp
    have k1 : Keeps [] W (W.drew.alloc (.cells (sv.toArray ++ [u].toArray ++ Z) 84)) := ((Keeps.refl [] W).drew).alloc _
    rw [eA] at k1
    obtain ⟨w1, hw1⟩ : ∃ w1, w1 = W.drew.alloc (.cells ((sv ++ [u]).toArray ++ Z) 84) := ⟨_, rfl⟩
    rw [← hw1] at hnb k1
    have hsW := kwW.size
    refine ⟨W.heap.size, G, _, hr, ?_, W.heap.size, G, mb, nb, sv ++ [u], Z.toList, Nat.le_refl _, ?_⟩
    · rw [eA, ← hw1]; exact (kwW.trans k1 (by simp)).mono (by simp)
    rw [eA, ← hw1]
    have hmW : m ≠ W.heap.size := by omega
    exact {
      hm := by have := (k1.blk h1.hm (by simp)).set 0 (.slice (some ⟨W.heap.size, 0, none⟩) (St.length + 1) G); rw [List.length_append]; exact this
      hs := hnb.other _ _ (fun e => hmW e.symm)
      hl := by simp [h.hl]
      hp := by simp
      hcap := by simpa using hg
      hcl := by rw [List.length_append, List.length_append, hZl, h.hl]; simp; omega
      hcm := hgm
      hne := hmW
      he := fun i v l hv hl => by
        obtain ⟨g1, g2⟩ := hel i v l hv hl
        refine ⟨(g1.keeps k1 (by simp)).keeps ((Keeps.refl [m] w1).setCell ⟨m, 0, none⟩ _ (.inl (by simp))) (fun g hg => by simpa using (g2 g hg).1), fun g hg => ⟨(g2 g hg).1, by have := (g2 g hg).2.2; omega⟩⟩
      hmap := ownsMap_keepsU (ownsMap_keepsU h1.hmap k1 (by simp)) ((Keeps.refl [m] w1).setCell ⟨m, 0, none⟩ _ (.inl (by simp))) (by simpa using (h.ne_map h.hm).symm)
      hb := ⟨h.hb.1, by omega, h.hb.2.2⟩
      hq := fun q hq => ⟨(h.hq q hq).1, by have := (h.hq q hq).2.2.2; omega, (h.hq q hq).2.2.1, by have := (h.hq q hq).2.2.2; have := k1.size; simp; omega⟩
      hd := fun v hv g hg => by
        rcases List.mem_append.1 hv with hv | hv
        · exact h.hd v hv g hg
        · simp only [List.mem_cons, List.mem_nil_iff, or_false] at hv
          subst hv
          exact hud g hg }
set_option maxHeartbeats 4000000 in
theorem mapply_any (h : MO w base Q m sb cap mb nb sv rest St F D) (hn : St.length < 4096) (l : List Ent) (hl : St[St.length - 1]? = some l) (hla : Asc l) (b : List Wrt) (hlb : l.length + b.length ≤ 4000) (bv : Value) (hbv : Lst w bv b.length (wCs b)) :
    Calls Tryz.prog 64 #[.pointer (some ⟨m, 0, none⟩), bv] w fun e w' => e = .returned (.int .u64 ((St.length : Nat) : Int)) ∧ MOx w' base Q m nb (St ++ [applyR l b]) F D ∧ Kp base Q w w' := by
  obtain ⟨d0, d1, d2, d3, d4⟩ := h.hm.o3
  have hp := h.hp
  obtain ⟨n, hnn⟩ : ∃ n, St.length = n := ⟨_, rfl⟩
  obtain ⟨v, l', h1, h2, h3, h4⟩ := h.state (i := St.length - 1) (by omega)
  obtain rfl : l' = l := by rw [hl] at h1; exact (Option.some.inj h1).symm
  have hsl := h.hs.lt
  have hbw : base ≤ w.heap.size := by have := h.hb.1; omega
  rw [hnn] at h2
  have d0' := d0
  rw [hnn] at d0'
  rw [hnn] at hp hn
  have H := Lib.hid h
  have Hnn := Lib.hid hnn
  have Hv := Lib.hid h3
  have Hbv := Lib.hid hbv
  clear d0 h h1 hl hnn h3 h4 hbv
  obtain ⟨i, rfl⟩ : ∃ i, n = i + 1 := ⟨n - 1, by omega⟩
  have e1 : (((i + 1 : Nat) : Int) - 1) = (i : Int) := by omega
  have hik : (i : Int) < ((i + 1 : Nat) : Int) := by omega
  rw [show i + 1 - 1 = i by omega] at h2
  have hwi : IntKind.i64.wrap (i : Int) = (i : Int) := IntWalk.i64_in _ ⟨by omega, by omega⟩
  have hik2 : (i : Int) < (i : Int) + 1 := by omega
  go_enter Tryz.func64, Tryz.ntmps64
  go_wp2_with fail
  go_region_law (first
    | (obtain ⟨sb', cap', w5, hr, k5, hM5⟩ := appendSt (H.out.keeps (k2.undrew)) (by rw [Hnn.out]; omega) (.slice uA (applyR l' b).length uc) (applyR l' b) (ho.mono (Nat.zero_le _)) (fun g hg => by have := (ho.ge g hg).1; simp at this; omega) (fun g hg hq => by have h1 := (ho.ge g hg).1; have h2 := (H.out.hq g hq).2.2.2; simp at h1; omega) (by have := k2.size; simp at this; omega)
       rw [Hnn.out] at hr hM5
       have d5 := k5.cellEq d2' (by simpa using H.out.hne)
       have f5 := (k5.blk (k2.undrew.blk H.out.hm (by simp)) (by simpa using H.out.hne)).frozen
       have l5 := (k5.blk (k2.undrew.blk H.out.hm (by simp)) (by simpa using H.out.hne)).lt
       refine step_append_eq rfl _ _ 95 95 rfl (.slice (some ⟨sb, 0, none⟩) (i + 1) cap) (.slice (some ⟨w2.heap.size, 0, none⟩) 1 1) (by simp [Act.eval]) (by simp [Act.eval]) (hr _) ?_)
    | (go_simp
       go_at_call 76
       refine (apply_any l' b hla hlb v bv w.drew (Hv.out.lst.keeps ((Keeps.refl [] w).drew)) (Hbv.out.keeps ((Keeps.refl [] w).drew))).mono ?_
       rintro e w2 ⟨u, rfl, ho, k2⟩
       obtain ⟨uA, uc, rfl, -⟩ := id ho.len
       have d2' := k2.cellEq (w := w.drew) d0' (by simp)
       have f2' := (k2.undrew.blk H.out.hm (by simp)).frozen
       have l2' := (k2.undrew.blk H.out.hm (by simp)).lt))
  all_goals (
    obtain ⟨sb2, cap2, mb2, nb2, sv2, rest2, hnb2, hM6⟩ := id hM5
    have ht := time_any hM6 (by rw [List.length_append, Hnn.out]; simp; omega)
    have kE : Kp base Q w (w5.setCell ⟨m, 0, none⟩ (.slice (some ⟨sb', 0, none⟩) (i + 1 + 1) cap')) := ⟨[sb, m], fun j hj => by
      simp only [List.mem_cons, List.mem_nil_iff, or_false] at hj
      rcases hj with rfl | rfl
      · exact ⟨H.out.hb.2.1, fun hq => (H.out.hq _ hq).2.1 rfl⟩
      · exact ⟨H.out.hb.1, fun hq => (H.out.hq _ hq).1 rfl⟩, ((k2.undrew.mono (S' := [sb, m]) (by simp)).trans k5 (fun j hj => .inl (by simp at hj; simp [hj]))).setCell _ _ (.inl (by simp))⟩
    go_wp2_with fail
    refine ht.mono ?_
    rintro e w7 ⟨rfl, rfl⟩
    go_wp2_with fail
    go_ret
    exact ⟨rfl, hM5, kE⟩)
end Go.Proofs.YtbcgpjfejpcgnaaGreat
end
