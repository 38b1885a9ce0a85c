/- The model in memory, and the contracts of Time, Floor, state, List, Get. -/
import Derived.Test.YtnnpmpdlhojecaaModC
import Derived.Maps.OwnSet
import Derived.Maps.OwnOps
import Derived.DeepKeys4
namespace Go.Proofs.Ytnnpmpdlhojecaa
open Go.RowKit Go.Maps
set_option maxRecDepth 100000
theorem laidOutA : laidOutB Try.prog = true := by kernel_rfl
theorem rowK : (84 : TypeId) < Try.prog.types.size := of_decide_eq_true (by kernel_rfl)
theorem wideK : (match Try.prog.underlying 84 with | some (.array _ _) | some (.struct _) => true | _ => false) = true := by rw [Try.underlying84]
theorem lawK : Keyed Try.prog 84 := Keyed.of_law (deep_law_laid laidOutA (m := 3) (by omega) rowK (by kernel_rfl) wideK)
theorem zeroU (w : World) : (zeroValue 23).run Try.prog w = .ok (.int .u64 0) w := by kernel_rfl
/-- What the key of a snapshot reads as. -/
def IsKl (t j : Nat) (k : Lit) : Prop := keyOf Try.prog 84 (.agg #[.int .i64 (t : Int), .int .i64 (j : Int)]) = some k
theorem k00 : (keyOf Try.prog 84 (.agg #[.int .i64 0, .int .i64 0])).isSome = true := by kernel_rfl
theorem k01 : (keyOf Try.prog 84 (.agg #[.int .i64 0, .int .i64 1])).isSome = true := by kernel_rfl
theorem k10 : (keyOf Try.prog 84 (.agg #[.int .i64 1, .int .i64 0])).isSome = true := by kernel_rfl
theorem k11 : (keyOf Try.prog 84 (.agg #[.int .i64 1, .int .i64 1])).isSome = true := by kernel_rfl
theorem k20 : (keyOf Try.prog 84 (.agg #[.int .i64 2, .int .i64 0])).isSome = true := by kernel_rfl
theorem k21 : (keyOf Try.prog 84 (.agg #[.int .i64 2, .int .i64 1])).isSome = true := by kernel_rfl
theorem kl_ex (t j : Nat) (ht : t < 3) (hj : j < 2) : ∃ k, IsKl t j k := by
  have h : (keyOf Try.prog 84 (.agg #[.int .i64 (t : Int), .int .i64 (j : Int)])).isSome = true := by
    match t, j, ht, hj with
    | 0, 0, _, _ => exact k00
    | 0, 1, _, _ => exact k01
    | 1, 0, _, _ => exact k10
    | 1, 1, _, _ => exact k11
    | 2, 0, _, _ => exact k20
    | 2, 1, _, _ => exact k21
  exact Option.isSome_iff_exists.1 h
theorem kl_inj {t j t' j' : Nat} {k : Lit} (h1 : IsKl t j k) (h2 : IsKl t' j' k) : t = t' ∧ j = j' := by
  have := lawK.inj h1 h2
  simp at this
  omega
theorem kl_fun {t j : Nat} {k k' : Lit} (h1 : IsKl t j k) (h2 : IsKl t j k') : k = k' := by
  unfold IsKl at h1 h2
  rw [h1] at h2
  exact Option.some.inj h2
/-- The model at m: states St, floor F, the map of its snapshots reads as D. Q: blocks of others. -/
structure MO (w : World) (base : Nat) (Q : List Nat) (m sb cap mb nb : Nat) (sv rest : List Value) (St : List (List Ent)) (F : Nat) (D : DataW Unit) : Prop where
  hm : Blk w m [.slice (some ⟨sb, 0, none⟩) St.length cap, .int .u64 (F : Int), .map (some mb)]
  hs : Blk w sb (sv ++ rest)
  hl : sv.length = St.length
  hp : 0 < St.length
  hcap : St.length ≤ cap
  hcl : (sv ++ rest).length = cap
  hcm : cap ≤ maxLen
  hne : m ≠ sb
  he : ∀ (i : Nat) (v : Value) (l : List Ent), sv[i]? = some v → St[i]? = some l → Own w 0 v l ∧ ∀ g, v.ownBlock = some g → g ≠ m ∧ g ≠ sb
  hmap : w.ownsMap Try.prog 84 (plainElem Try.prog 23) mb nb D
  hb : base ≤ m ∧ base ≤ sb ∧ base ≤ mb
  hq : ∀ q ∈ Q, q ≠ m ∧ q ≠ sb ∧ q ≠ mb ∧ q < w.heap.size
  hd : ∀ v ∈ sv, ∀ g, v.ownBlock = some g → g ∉ Q
theorem ownsMap_keepsU {w w' : World} {M n : Nat} {D : DataW Unit} (h : w.ownsMap Try.prog 84 (plainElem Try.prog 23) M n D) {S : List Nat} (k : Keeps S w w') (hn : M ∉ S) : w'.ownsMap Try.prog 84 (plainElem Try.prog 23) M n D := by
  obtain ⟨es, clock, hb, F, hs, hD⟩ := h
  exact ⟨es, clock, by rw [k.block M (Array.getElem?_eq_some_iff.1 hb).1 hn]; exact hb, F, hs, hD⟩
variable {w w' : World} {base m sb cap mb nb F : Nat} {Q : List Nat} {sv rest : List Value} {St : List (List Ent)} {D : DataW Unit}
theorem MO.keeps (h : MO w base Q m sb cap mb nb sv rest St F D) (k : Keeps [] w w') : MO w' base Q m sb cap mb nb sv rest St F D :=
  ⟨k.blk h.hm (by simp), k.blk h.hs (by simp), h.hl, h.hp, h.hcap, h.hcl, h.hcm, h.hne, fun i v l h1 h2 => ⟨(h.he i v l h1 h2).1.keeps k (by simp), (h.he i v l h1 h2).2⟩, ownsMap_keepsU h.hmap k (by simp), h.hb, fun q hq => ⟨(h.hq q hq).1, (h.hq q hq).2.1, (h.hq q hq).2.2.1, Nat.lt_of_lt_of_le (h.hq q hq).2.2.2 k.size⟩, h.hd⟩
theorem MO.ne_map (h : MO w base Q m sb cap mb nb sv rest St F D) {b : Nat} {cs : List Value} (hb : Blk w b cs) : b ≠ mb := by
  intro e
  subst e
  obtain ⟨es, clock, h1, _⟩ := h.hmap
  obtain ⟨T, h2⟩ := hb
  rw [h1] at h2
  cases h2
/-- The value of the state number i. -/
theorem MO.state (h : MO w base Q m sb cap mb nb sv rest St F D) {i : Nat} (hi : i < St.length) : ∃ v l, St[i]? = some l ∧ w.cell? ⟨sb, i, none⟩ = some v ∧ Own w 0 v l ∧ ∀ g, v.ownBlock = some g → g ≠ m ∧ g ≠ sb := by
  have hi' : i < sv.length := by rw [h.hl]; exact hi
  obtain ⟨h1, h2⟩ := h.he i sv[i] St[i] (List.getElem?_eq_getElem hi') (List.getElem?_eq_getElem hi)
  exact ⟨sv[i], St[i], List.getElem?_eq_getElem hi, by rw [h.hs.cell, List.getElem?_append_left hi', List.getElem?_eq_getElem hi'], h1, h2⟩
set_option maxRecDepth 100000 in
theorem time_any (h : MO w base Q m sb cap mb nb sv rest St F D) (hn : St.length ≤ 4096) :
    Calls Try.prog 24 #[.pointer (some ⟨m, 0, none⟩)] w fun e w' => e = .returned (.int .u64 ((St.length - 1 : Nat) : Int)) ∧ w' = w := by
  obtain ⟨d0, d1, d2, d3, d4⟩ := h.hm.o3
  have hp := h.hp
  have hs1 : ((St.length - 1 : Nat) : Int) = (St.length : Int) - 1 := by omega
  obtain ⟨n, hn'⟩ : ∃ n, St.length = n := ⟨_, rfl⟩
  rw [hn'] at d0 hp hs1 hn ⊢
  have hw : IntKind.u64.wrap ((n : Int) - 1) = (n : Int) - 1 := IntWalk.u64_in _ ⟨by omega, by omega⟩
  rw [hs1]
  go_enter Try.func24, Try.ntmps24
  go_wp2
  go_ret
  exact ⟨rfl, rfl⟩
set_option maxRecDepth 100000 in
theorem floor_any (h : MO w base Q m sb cap mb nb sv rest St F D) :
    Calls Try.prog 28 #[.pointer (some ⟨m, 0, none⟩)] w fun e w' => e = .returned (.int .u64 (F : Int)) ∧ w' = w := by
  obtain ⟨d0, d1, d2, d3, d4⟩ := h.hm.o3
  go_enter Try.func28, Try.ntmps28
  go_wp2
  go_ret
  exact ⟨rfl, rfl⟩
/-- Which state a time asks for. -/
def pick (St : List (List Ent)) (T : Nat) : Nat := min T (St.length - 1)
set_option maxHeartbeats 1000000 in
set_option maxRecDepth 100000 in
theorem state_any (h : MO w base Q m sb cap mb nb sv rest St F D) (hn : St.length ≤ 4096) (T : Nat) (_hT : T ≤ 18446744073709551615) :
    Calls Try.prog 49 #[.pointer (some ⟨m, 0, none⟩), .int .u64 (T : Int)] w fun e w' => ∃ v l, e = .returned v ∧ St[pick St T]? = some l ∧ Own w' 0 v l ∧ Keeps [] w w' := by
  obtain ⟨d0, d1, d2, d3, d4⟩ := h.hm.o3
  have hp := h.hp
  have hpk : pick St T < St.length := by unfold pick; omega
  obtain ⟨v, l, h1, h2, h3, _⟩ := h.state hpk
  have hpi : min (T : Int) ((St.length - 1 : Nat) : Int) = ((pick St T : Nat) : Int) := by unfold pick; omega
  have hsl := h.hs.lt
  obtain ⟨i, hi⟩ : ∃ i, pick St T = i := ⟨_, rfl⟩
  rw [hi] at h1 h2 hpi hpk
  have Hi := Lib.hid hi
  have H1 := Lib.hid h1
  have hik : (i : Int) < (St.length : Int) := by omega
  clear hi h1
  have ht := fun w' (k : Keeps [] w w') => time_any (h.keeps k) hn
  go_enter Try.func49, Try.ntmps49
  go_wp2_with fail
  go_region_held3 (fun w' => w'.cell? ⟨m, 0, none⟩ = some (.slice (some ⟨sb, 0, none⟩) St.length cap) ∧ w'.cell? ⟨sb, i, none⟩ = some v)
    (first | assumption | go_keep)
    ((go_at_call 24; refine (ht _ ((Keeps.refl [] w).drew)).mono ?_; rintro e w2 ⟨rfl, rfl⟩))
  all_goals (go_wp2_with fail; go_ret; exact ⟨v, l, rfl, by rw [Hi.out]; exact H1.out, h3, (Keeps.refl [] w).drew⟩)
set_option maxRecDepth 100000 in
theorem mlist_any (h : MO w base Q m sb cap mb nb sv rest St F D) (hn : St.length ≤ 4096) (hsz : ∀ l ∈ St, l.length ≤ 4000) (T : Nat) (hT : T ≤ 18446744073709551615) :
    Calls Try.prog 18 #[.pointer (some ⟨m, 0, none⟩), .int .u64 (T : Int)] w fun e w' => ∃ v l, e = .returned v ∧ St[pick St T]? = some l ∧ Own w' w.heap.size v l ∧ Keeps [] w w' := by
  have hst := state_any h hn T hT
  clear h
  go_enter Try.func18, Try.ntmps18
  go_wp2_with fail
  refine hst.mono ?_
  rintro e w1 ⟨v, l, rfl, h1, h2, k1⟩
  go_wp2_with fail
  refine (clone_any l (by have := hsz l (List.mem_of_getElem? h1); omega) v w1 h2.lst).mono ?_
  rintro e w2 ⟨u, rfl, h3, k2⟩
  go_wp2_with fail
  go_ret
  exact ⟨u, l, rfl, h1, h3.mono k1.size, k1.trans k2 (by simp)⟩
theorem searchM_nil (k : Str) (w : World) :
    Calls Try.prog 50 #[.slice none 0 0, .string ⟨k.toArray⟩, .func (.func 51) #[] #[]] w fun x w' => x = .returned (.tuple #[.int .i64 0, .bool false]) ∧ Keeps [] w w' := by
  go_enter Try.func50, Try.ntmps50
  go_wp2_with fail
  go_loopw [9, 10] (fun i j wr => i = .int .i64 0 ∧ j = .int .i64 0 ∧ wr = w) (fun _ _ _ => 0)
  case atStart => exact ⟨rfl, rfl, rfl⟩
  case round =>
    obtain ⟨rfl, rfl, rfl⟩ := hrel
    go_wp2_with fail
    go_ret2
    exact ⟨rfl, Keeps.refl _ _⟩
theorem searchM_own (l : List Ent) (k : Str) (hl : Asc l) (hn : l.length ≤ 4096) (base : Nat) (v : Value) (w : World) (ho : Own w base v l) :
    Calls Try.prog 50 #[v, .string ⟨k.toArray⟩, .func (.func 51) #[] #[]] w fun x w' => x = .returned (.tuple #[.int .i64 (pos l k), .bool (at_ l k)]) ∧ Keeps [] w w' := by
  rcases ho with ⟨rfl, rfl⟩ | ⟨g, cap, rest, rfl, hb, _⟩
  · exact searchM_nil k w
  · exact searchM_any l k hl hn g cap rest w hb
theorem lk_mid (A B : List Ent) (k v : Str) (hA : ∀ x ∈ A, x.k < k) : lk (A ++ ⟨k, v⟩ :: B) k = some v := by
  induction A with
  | nil => simp [lk]
  | cons a A ih => rw [List.cons_append, lk, if_neg (slt_ne (hA a (by simp))), ih (fun x hx => hA x (by simp [hx]))]
theorem lk_at {l : List Ent} (hl : Asc l) (k : Str) : (at_ l k = true → ∃ e, l[pos l k]? = some e ∧ lk l k = some e.v) ∧ (at_ l k = false → lk l k = none) := by
  constructor
  · intro h
    obtain ⟨A, e, B, h1, h2, h3, h4, h5⟩ := parted hl k h
    obtain ⟨ek, ev⟩ := e
    simp only at h3
    subst h3
    refine ⟨⟨ek, ev⟩, ?_, ?_⟩
    · rw [← h2]
      conv => lhs; arg 1; rw [h1]
      simp
    · conv => lhs; rw [h1]
      exact lk_mid A B ek ev h4
  · intro h
    obtain ⟨A, B, h1, h2, h4, h5⟩ := parted' hl k h
    refine lk_none fun x hx => ?_
    rw [h1] at hx
    rcases List.mem_append.1 hx with h | h
    · exact slt_ne (h4 x h)
    · exact fun e => slt_ne (h5 x h) e.symm
set_option maxHeartbeats 1000000 in
set_option maxRecDepth 100000 in
theorem mget_any (h : MO w base Q m sb cap mb nb sv rest St F D) (hn : St.length ≤ 4096) (hsz : ∀ l ∈ St, l.length ≤ 4000 ∧ Asc l) (key : Str) (T : Nat) (hT : T ≤ 18446744073709551615) :
    Calls Try.prog 19 #[.pointer (some ⟨m, 0, none⟩), .string ⟨key.toArray⟩, .int .u64 (T : Int)] w fun e w' => ∃ l, e = .returned (.tuple #[.string ⟨((lk l key).getD []).toArray⟩, .bool (lk l key).isSome]) ∧ St[pick St T]? = some l ∧ Keeps [] w w' := by
  have hst := state_any h hn T hT
  clear h
  go_enter Try.func19, Try.ntmps19
  go_wp2_with fail
  refine hst.mono ?_
  rintro e w1 ⟨v, l, rfl, h1, h2, k1⟩
  obtain ⟨s1, s2⟩ := hsz l (List.mem_of_getElem? h1)
  obtain ⟨q1, q2⟩ := lk_at s2 key
  have hlk : ∃ r : Option Str, lk l key = r := ⟨_, rfl⟩
  obtain ⟨r, hr⟩ := hlk
  go_wp2_with fail
  refine (searchM_own l key s2 (by omega) 0 v w1 h2).mono ?_
  rintro e w2 ⟨rfl, k2⟩
  have h2' := h2.keeps k2 (by simp)
  cases hat : at_ l key with
  | true =>
    obtain ⟨e, he, hlv⟩ := q1 hat
    rw [hr] at hlv
    subst hlv
    have hp : pos l key < l.length := (List.getElem?_eq_some_iff.1 he).1
    obtain ⟨p, hpp⟩ : ∃ p, pos l key = p := ⟨_, rfl⟩
    rw [hpp] at he hp ⊢
    rcases h2' with ⟨_, h0⟩ | ⟨g, gc, rst, rfl, hgb, _⟩
    · subst h0; simp at hp
    · have d := hgb.cell (p * 2 + 1)
      rw [(eCs_cells l p e he rst).2] at d
      have dl := hgb.lt
      have hpi : (p : Int) < (l.length : Int) := by omega
      have H1 := Lib.hid h1
      have Hr := Lib.hid hr
      clear h1 he hgb hr h2 q1 q2 hat hsz s1 s2 hst
      go_wp2_with fail
      go_ret2
      exact ⟨l, by rw [Hr.out]; rfl, H1.out, k1.trans k2 (by simp)⟩
  | false =>
    have hn := q2 hat
    rw [hr] at hn
    subst hn
    have H1 := Lib.hid h1
    have Hr := Lib.hid hr
    clear h1 hr h2 q1 q2 hat hsz s1 s2 hst
    go_wp2_with fail
    go_ret2
    exact ⟨l, by rw [Hr.out]; rfl, H1.out, k1.trans k2 (by simp)⟩
end Go.Proofs.Ytnnpmpdlhojecaa
