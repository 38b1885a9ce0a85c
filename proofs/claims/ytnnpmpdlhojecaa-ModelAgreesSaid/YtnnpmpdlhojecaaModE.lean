/- The contracts of Snapshots, Watermark and Raise of the model. -/
import Derived.Test.YtnnpmpdlhojecaaModD
import Derived.Test.YtnnpmpdlhojecaaSrt2
import Derived.Maps.RangeWalk
namespace Go.Proofs.Ytnnpmpdlhojecaa
open Go.RowKit Go.Maps Go.MapKept Go.ChangeMaps
set_option maxRecDepth 100000
theorem infoU : (Try.prog.info? 23).map (fun i => (i.zero, i.size, i.bytes)) = some (some (.int .u64 0), 1, 8) := by kernel_rfl
def vl (p : Lit × DataW Unit) : Int := match p.2 with | .lit (.int _ x) => x | _ => 0
def gone (es : List (Lit × DataW Unit)) (left : Lit → Bool) : List Int := (es.filter (fun p => !left p.1)).map vl
theorem gone_none {es : List (Lit × DataW Unit)} {left : Lit → Bool} (h : ∀ p ∈ es, left p.1 = true) : gone es left = [] := by
  unfold gone
  rw [List.filter_eq_nil_iff.2 (fun p hp => by simp [h p hp])]
  rfl
theorem gone_all {es : List (Lit × DataW Unit)} {left : Lit → Bool} (h : ∀ k, left k = false) : gone es left = es.map vl := by
  unfold gone
  rw [List.filter_eq_self.2 (fun p _ => by simp [h p.1])]
theorem gone_len (es : List (Lit × DataW Unit)) (left : Lit → Bool) : (gone es left).length ≤ es.length := by
  unfold gone
  rw [List.length_map]
  exact List.length_filter_le _ _
theorem gone_same {es : List (Lit × DataW Unit)} {l l' : Lit → Bool} (h : ∀ p ∈ es, l p.1 = l' p.1) : gone es l = gone es l' := by
  unfold gone
  rw [List.filter_congr (fun p hp => by rw [h p hp])]
theorem gone_step {left : Lit → Bool} {kl : Lit} (hl : left kl = true) (hs : kl.sameKey kl = true) : ∀ {es : List (Lit × DataW Unit)}, es.Pairwise (fun p q => p.1 ≠ q.1) → ∀ {p : Lit × DataW Unit}, p ∈ es → p.1 = kl →
    (gone es (fun z => left z && !z.sameKey kl)).Perm (gone es left ++ [vl p])
  | [], _, p, hp, _ => by simp at hp
  | q :: es, hpw, p, hp, hk => by
    have hpw' := List.pairwise_cons.1 hpw
    rcases List.mem_cons.1 hp with rfl | hp
    · have e : gone es (fun z => left z && !z.sameKey kl) = gone es left := gone_same fun r hr => by
        have : r.1 ≠ kl := fun e => hpw'.1 r hr (by rw [hk, e])
        simp [sameKey_ne this]
      have e1 : gone (p :: es) (fun z => left z && !z.sameKey kl) = vl p :: gone es (fun z => left z && !z.sameKey kl) := by
        unfold gone; rw [List.filter_cons_of_pos (by simp [hk, hs])]; rfl
      have e2 : gone (p :: es) left = gone es left := by
        unfold gone; rw [List.filter_cons_of_neg (by simp [hk, hl])]
      rw [e1, e2, e]
      exact (List.perm_append_singleton _ _).symm
    · have ih := gone_step hl hs hpw'.2 hp hk
      have hq : q.1 ≠ kl := fun e => hpw'.1 p hp (by rw [hk, e])
      cases hlq : left q.1 with
      | true =>
        have e1 : gone (q :: es) (fun z => left z && !z.sameKey kl) = gone es (fun z => left z && !z.sameKey kl) := by
          unfold gone; rw [List.filter_cons_of_neg (by simp [hlq, sameKey_ne hq])]
        have e2 : gone (q :: es) left = gone es left := by
          unfold gone; rw [List.filter_cons_of_neg (by simp [hlq])]
        rw [e1, e2]; exact ih
      | false =>
        have e1 : gone (q :: es) (fun z => left z && !z.sameKey kl) = vl q :: gone es (fun z => left z && !z.sameKey kl) := by
          unfold gone; rw [List.filter_cons_of_pos (by simp [hlq])]; rfl
        have e2 : gone (q :: es) left = vl q :: gone es left := by
          unfold gone; rw [List.filter_cons_of_pos (by simp [hlq])]; rfl
        rw [e1, e2]; exact ih.cons _
theorem isort_of_perm {a b : List Int} (h : a.Perm b) : isort a = isort b :=
  List.Perm.eq_of_pairwise (le := (· ≤ ·)) (fun _ _ _ _ h1 h2 => Int.le_antisymm h1 h2) (isort_sorted a) (isort_sorted b) (((isort_perm a).trans h).trans (isort_perm b).symm)
def OwnU (w : World) (base : Nat) (v : Value) (l : List Int) : Prop := w.ownsRow base 23 1 v l.length (l.map uV)
theorem appendU {wb W : World} {base : Nat} {v : Value} {acc : List Int} (ho : OwnU W base v acc) (hn : acc.length < 4096) (x : Int) (hk : Keeps [] wb W) (hb : wb.heap.size ≤ base) (hbase : base ≤ W.heap.size) :
    ∃ v' w', (Builtin.append_ #[46, 46] 46 #[v, .slice (some ⟨W.heap.size, 0, none⟩) 1 1]).run Try.prog (W.alloc (.cells #[.int .u64 x] 23)) = .ok v' w' ∧ OwnU w' base v' (acc ++ [x]) ∧ Keeps [] wb w' ∧ ∃ row, W.grownBy w' row ∧ (∀ g, row = some g → base ≤ g) := by
  obtain ⟨i0, hi0, hz0, hz1, hz2⟩ := info_parts infoU
  have ho1 : (W.alloc (.cells #[.int .u64 x] 23)).ownsRow base 23 1 v acc.length (acc.map uV) := World.ownsRow.alloc ho _
  obtain ⟨v', w', hr, h2, h3, _⟩ := run_append_own (P := Try.prog) _ base 46 46 23 i0 _ 1 8 Try.underlying46 hi0 hz0 hz1 hz2 rfl (by decide) v acc.length (acc.map uV) ho1 ⟨W.heap.size, 0, none⟩ 1 1 [uV x] rfl
    (fun j u hj => by match j, hj with | 0, hj => simp at hj; subst hj; simp [Addr.add, uV])
    (fun u hu => by simp only [List.mem_cons, List.mem_nil_iff, or_false] at hu; subst hu; rfl) (by unfold maxLen; omega) (by omega) (by simp; omega)
  have hlt := World.ownsRow.lt ho
  refine ⟨v', w', hr, ?_, (hk.alloc _).trans (Keeps.of_grownBy h3 v.ownBlock.toList (fun g hg => by rw [hg]; simp)) (fun g hg => .inr ?_), v.ownBlock, (World.grownBy_alloc W _ _).trans h3, fun g hg => (hlt g hg).1⟩
  · unfold OwnU
    rw [List.length_append, List.map_append]; exact h2
  · have := (hlt g (by simpa using hg)).1; omega
/-- The slice v reads as ys. -/
def Rd (w : World) (v : Value) (ys : List Int) : Prop :=
  (ys = [] ∧ v = .slice none 0 0) ∨ ∃ b cap rest, v = .slice (some ⟨b, 0, none⟩) ys.length cap ∧ Blk w b (ys.map uV ++ rest)
variable {w w' : World} {base m sb cap mb nb F : Nat} {Q : List Nat} {sv rest : List Value} {St : List (List Ent)} {D : DataW Unit}
theorem own_blk' {w : World} {base e size n : Nat} {v : Value} {xs : List Value} (h : w.ownsRow base e size v n xs) (hn : 0 < n) :
    ∃ g cap rest, v = .slice (some ⟨g, 0, none⟩) n cap ∧ base ≤ g ∧ Blk w g (xs ++ rest) := by
  obtain ⟨h1, h2⟩ := h
  rcases h2 with ⟨_, h0⟩ | ⟨g, cap, cur, hv, hg, hh, hnc, hcap, hsz, htk⟩
  · omega
  · refine ⟨g, cap, cur.toList.drop (n * size), hv, hg, e, ?_⟩
    rw [hh, ← htk, List.take_append_drop]
/-- The timestamps in the map, ascending. -/
def snaps : DataW Unit → List Int
  | .map es => isort (es.map vl)
  | _ => []
set_option maxHeartbeats 600000 in
theorem msnap_any (h : MO w base Q m sb cap mb nb sv rest St F D) (hsz : Maps.size D ≤ 12) :
    Calls Try.prog 26 #[.pointer (some ⟨m, 0, none⟩)] w fun e w' => ∃ v, e = .returned v ∧ Rd w' v (snaps D) ∧ Keeps [] w w' := by
  obtain ⟨d0, d1, d2, d3, d4⟩ := h.hm.o3
  have hown := h.hmap
  have hmbl := hown.lt
  obtain ⟨es, hD, hpw, hkL⟩ := hown.entries lawK
  subst hD
  have hes : es.length ≤ 12 := hsz
  clear h hsz
  go_enter Try.func26, Try.ntmps26
  go_wp2_with (at_range; refine wpList_range_own _ rfl _ 76 rfl 84 23 lawK Try.underlying76 _ mb nb _ rfl hown ?_; intro w0 hrg0 hg0 hs0)
  go_frame
  have k0 : Keeps [] w w0 := Keeps.of_grownBy hg0 [] (by simp)
  go_loopw [3, 5] (fun v _ wr => ∃ (left : Lit → Bool) (cnt : Nat) (acc : List Int), wr.ranges Try.prog 84 (plainElem Try.prog 23) mb w.heap.size nb (.map es) left cnt ∧ Hid (acc.Perm (gone es left)) ∧ OwnU wr (w.heap.size + 1) v acc ∧ w.heap.size + 1 ≤ wr.heap.size ∧ Keeps [] w wr ∧ Hid (acc = [] → v = .slice none 0 0)) (fun _ _ wr => wr.rangeLeft mb w.heap.size)
  case atStart => exact ⟨_, _, [], hrg0, Lib.hid (by rw [gone_none (fun p hp => by rw [has_eq, List.any_eq_true]; exact ⟨p, hp, WideAt.sameKey_self (hkL p hp)⟩)]), World.ownsRow_nil _ _ _ _, by omega, k0, Lib.hid (fun _ => rfl)⟩
  case round =>
    obtain ⟨left, cnt, acc, hrg, hperm, ho, hsw, hkp, hnil⟩ := hrel
    have hal : acc.length ≤ 12 := by have := hperm.out.length_eq; have := gone_len es left; omega
    go_wp2_with (at_next; refine wpList_next_ranges _ rfl _ rfl 84 lawK (plainElem Try.prog 23) (fun x => x) (Value.int .u64) (fun key _ _ => ⟨key, rfl⟩) (fun v y hv => by obtain ⟨c, rfl, _⟩ := plainElem_int_inv Try.underlying23 hv; exact ⟨c, rfl⟩) mb w.heap.size nb _ left cnt rfl hrg ?_ ?_)
    · intro hc0 hl0
      have hall := hperm.out
      rw [gone_all hl0] at hall
      have HE := Lib.hid (isort_of_perm hall)
      by_cases hz : acc = []
      · obtain rfl := hnil.out hz
        subst hz
        clear hall
        go_wp2_with fail
        refine (sort_nil _).mono ?_
        rintro e w5 ⟨rfl, k5⟩
        go_wp2_with fail
        go_ret
        exact ⟨_, rfl, .inl ⟨by rw [snaps, ← HE.out]; rfl, rfl⟩, hkp.trans k5 (by simp)⟩
      · have hpos : 0 < acc.length := List.length_pos_iff.2 hz
        obtain ⟨g, cap', rest', rfl, hg, hgb⟩ := own_blk' ho hpos
        clear hall
        go_wp2_with fail
        refine (sort_any acc g cap' rest' _ hgb hal).mono ?_
        rintro e w5 ⟨rfl, h5, k5⟩
        go_wp2_with fail
        go_ret
        refine ⟨.slice (some ⟨g, 0, none⟩) acc.length cap', rfl, .inr ⟨g, cap', rest', ?_, ?_⟩, hkp.trans k5 (by intro j hj; simp at hj; omega)⟩
        · rw [snaps, ← HE.out, isort_length]
        · rw [snaps, ← HE.out]; exact h5
    · intro x c kl y yp w1 cnt1 hkey hlk hv hat hrg1 hlt hg1 hs1 hen
      obtain ⟨c', hc1, hc2, _⟩ := plainElem_int_inv Try.underlying23 hv
      have hcc : c' = c := by simpa using hc1.symm
      subst hcc
      have hy : y = DataW.lit (.int .u64 c') := congrArg Prod.fst hc2
      obtain ⟨p, hp, hpk, hpv⟩ : ∃ p ∈ es, p.1 = kl ∧ vl p = c' := by
        have hh := has_true_of_atKey hat
        have hf := hat (.lit (.bool false))
        rw [has_eq, List.any_eq_true] at hh
        obtain ⟨p0, hp0, hs0'⟩ := hh
        have hfs : (es.find? (fun p => p.1.sameKey kl)).isSome = true := List.find?_isSome.2 ⟨p0, hp0, hs0'⟩
        obtain ⟨p, hpf⟩ := Option.isSome_iff_exists.1 hfs
        have h1 := List.find?_some hpf
        unfold DataW.atKey at hf
        simp only [hpf] at hf
        refine ⟨p, List.mem_of_find?_eq_some hpf, WideAt.sameKey_eq h1, ?_⟩
        unfold vl
        rw [hf, hy]
      have hself : kl.sameKey kl = true := by rw [← hpk]; exact WideAt.sameKey_self (hkL p hp)
      have hst := gone_step hlk hself hpw hp hpk
      rw [hpv] at hst
      have HP := Lib.hid ((hperm.out.append_right [c']).trans hst.symm)
      have ho1 : OwnU w1 (w.heap.size + 1) u3 acc := World.ownsRow.kept ho hg1 (by
        rcases hb : u3.ownBlock with _ | g
        · exact .inl rfl
        · right; intro e
          have := (World.ownsRow.lt ho g hb).1
          simp at e; omega)
      have hk1 : Keeps [] w w1 := hkp.trans (Keeps.of_grownBy hg1 [w.heap.size] (by simp)) (by simp)
      obtain ⟨v', w5, hr, ho5, k5, row, hgr, hrow⟩ := appendU (wb := w) ho1 (by omega) c' hk1 (by omega) (by omega)
      have hrg5 := hrg1.kept hgr (fun e => by have := hrow mb e.symm; omega) (fun e => by have := hrow _ e.symm; omega)
      have hs5 := hgr.size
      have hrl : w5.rangeLeft mb w.heap.size = cnt1 := hrg5.left_eq
      have hrl0 : wr.rangeLeft mb w.heap.size = cnt := hrg.left_eq
      have hs15 : w.heap.size + 1 ≤ w5.heap.size := by omega
      clear hst hperm hnil hat hv hkey hlk hpk hpv hp hy hc1 hc2 hself hs1 hg1 hrg1 hrg hgr hs5 ho ho1 hk1
      go_wp2_with (first
        | (at_builtin; refine list_append_eq rfl _ _ 46 46 rfl _ _ rfl rfl hr ?_)
        | go_in)
      exact ⟨⟨_, _, acc ++ [c'], hrg5, HP, ho5, hs15, k5, Lib.hid (by simp)⟩, by omega⟩
/-- The watermark. -/
def wmk (St : List (List Ent)) (D : DataW Unit) : Int := match snaps D with | x :: _ => x | [] => ((St.length - 1 : Nat) : Int)
theorem mwm_any (h : MO w base Q m sb cap mb nb sv rest St F D) (hn : St.length ≤ 4096) (hsz : Maps.size D ≤ 12) :
    Calls Try.prog 27 #[.pointer (some ⟨m, 0, none⟩)] w fun e w' => e = .returned (.int .u64 (wmk St D)) ∧ Keeps [] w w' := by
  have hsn := msnap_any h hsz
  have ht := fun w' (k : Keeps [] w w') => time_any (h.keeps k) hn
  unfold wmk
  cases hs : snaps D with
  | nil =>
    rw [hs] at hsn
    clear h
    go_enter Try.func27, Try.ntmps27
    go_wp2_with fail
    refine hsn.mono ?_
    rintro e w1 ⟨v, rfl, hr, k1⟩
    rcases hr with ⟨_, rfl⟩ | ⟨b, c, r, rfl, _⟩
    · go_wp2_with fail
      refine (ht w1 k1).mono ?_
      rintro e w2 ⟨rfl, rfl⟩
      go_wp2_with fail
      go_ret
      exact ⟨rfl, k1⟩
    · go_wp2_with fail
      refine (ht w1 k1).mono ?_
      rintro e w2 ⟨rfl, rfl⟩
      go_wp2_with fail
      go_ret
      exact ⟨rfl, k1⟩
  | cons x xs =>
    rw [hs] at hsn
    clear h ht
    go_enter Try.func27, Try.ntmps27
    go_wp2_with fail
    refine hsn.mono ?_
    rintro e w1 ⟨v, rfl, hr, k1⟩
    rcases hr with ⟨h0, _⟩ | ⟨b, c, r, rfl, hb⟩
    · exact absurd h0 (by simp)
    · have c0 := hb.cell 0
      simp [uV] at c0
      have bl := hb.lt
      have hl : (0 : Int) < ((xs.length + 1 : Nat) : Int) := by omega
      have hl2 : (0 : Int) < (xs.length : Int) + 1 := by omega
      go_wp2_with fail
      go_ret
      exact ⟨rfl, k1⟩
theorem MO.setFloor (h : MO w base Q m sb cap mb nb sv rest St F D) (F' : Nat) : MO (w.setCell ⟨m, 1, none⟩ (.int .u64 (F' : Int))) base Q m sb cap mb nb sv rest St F' D :=
  have k : Keeps [m] w (w.setCell ⟨m, 1, none⟩ (.int .u64 (F' : Int))) := (Keeps.refl [m] w).setCell _ _ (.inl (by simp))
  ⟨h.hm.set 1 _, h.hs.other _ _ (fun e => h.hne e.symm), h.hl, h.hp, h.hcap, h.hcl, h.hcm, h.hne, fun i v l h1 h2 => ⟨(h.he i v l h1 h2).1.keeps k (fun g hg => by simpa using ((h.he i v l h1 h2).2 g hg).1), (h.he i v l h1 h2).2⟩, ownsMap_keepsU h.hmap k (by simpa using (h.ne_map h.hm).symm), h.hb, fun q hq => ⟨(h.hq q hq).1, (h.hq q hq).2.1, (h.hq q hq).2.2.1, Nat.lt_of_lt_of_le (h.hq q hq).2.2.2 k.size⟩, h.hd⟩
theorem MO.kpFloor (h : MO w base Q m sb cap mb nb sv rest St F D) (v : Value) : Kp base Q w (w.setCell ⟨m, 1, none⟩ v) :=
  ⟨[m], fun j hj => by
    simp only [List.mem_cons, List.mem_nil_iff, or_false] at hj
    subst hj
    exact ⟨h.hb.1, fun hq => (h.hq _ hq).1 rfl⟩, (Keeps.refl [m] w).setCell _ _ (.inl (by simp))⟩
set_option maxHeartbeats 600000 in
theorem mraise_any (h : MO w base Q m sb cap mb nb sv rest St F D) (hn : St.length ≤ 4096) (hsz : Maps.size D ≤ 12) (T : Nat) :
    Calls Try.prog 23 #[.pointer (some ⟨m, 0, none⟩), .int .u64 (T : Int)] w fun e w' => e = .returned (.bool (decide ((T : Int) ≤ wmk St D))) ∧ MOx w' base Q m nb St (if (T : Int) ≤ wmk St D then max F T else F) D ∧ Kp base Q w w' := by
  have hw := mwm_any h hn hsz
  obtain ⟨W, hW⟩ : ∃ W, wmk St D = W := ⟨_, rfl⟩
  rw [hW] at hw ⊢
  have H := Lib.hid h
  clear h hsz
  by_cases hT : (T : Int) ≤ W
  · go_enter Try.func23, Try.ntmps23
    go_wp2_with fail
    refine hw.mono ?_
    rintro e w1 ⟨rfl, k1⟩
    have h1 := H.out.keeps k1
    obtain ⟨d0, d1, d2, d3, d4⟩ := h1.hm.o3
    have hT2 : ¬ W < (T : Int) := by omega
    have hmx : max (F : Int) (T : Int) = ((max F T : Nat) : Int) := by omega
    go_wp2_with fail
    go_ret
    exact ⟨rfl, ⟨_, _, _, _, _, _, Nat.le_refl _, h1.setFloor (max F T)⟩, (Kp.of k1).trans (h1.kpFloor _)⟩
  · have hT2 : W < (T : Int) := by omega
    go_enter Try.func23, Try.ntmps23
    go_wp2_with fail
    refine hw.mono ?_
    rintro e w1 ⟨rfl, k1⟩
    go_wp2_with fail
    go_ret
    exact ⟨rfl, ⟨_, _, _, _, _, _, Nat.le_refl _, H.out.keeps k1⟩, Kp.of k1⟩
end Go.Proofs.Ytnnpmpdlhojecaa
