/- The statement BatchApplies: its walk. -/
import Derived.Test.YtnnpmpdlhojecaaBatY
namespace Go.Proofs.Ytnnpmpdlhojecaa
open Go.RowKit
theorem infoS : (Try.prog.info? 9).map (fun i => (i.zero, i.size, i.bytes)) = some (some (.string ⟨#[]⟩), 1, 16) := by kernel_rfl
def OwnS (w : World) (base : Nat) (v : Value) (l : List Str) : Prop := w.ownsRow base 9 1 v l.length (l.map sV)
theorem OwnS.one (w : World) (s : Str) : OwnS (w.alloc (.cells #[.string ⟨s.toArray⟩] 9)) w.heap.size (.slice (some ⟨w.heap.size, 0, none⟩) 1 1) [s] :=
  ⟨rfl, .inr ⟨w.heap.size, 1, #[.string ⟨s.toArray⟩], rfl, Nat.le_refl _, heap_alloc_new w _, Nat.le_refl _, by unfold maxLen; omega, rfl, rfl⟩⟩
theorem OwnS.keeps {w w' : World} {base : Nat} {v : Value} {l : List Str} (h : OwnS w base v l) (k : Keeps [] w w') : OwnS w' base v l := ownsRow_keeps h k (by simp)
theorem OwnS.lst {w : World} {base : Nat} {v : Value} {l : List Str} (h : OwnS w base v l) : Lst w v l.length (l.map sV) := Lst.own h
theorem appendS {wb W : World} {base : Nat} {v : Value} {acc : List Str} (ho : OwnS W base v acc) (hn : acc.length < 4096) (x : Str) (hk : Keeps [] wb W) (hb : wb.heap.size ≤ base) (hbase : base ≤ W.heap.size) :
    ∃ v' w', (Builtin.append_ #[71, 71] 71 #[v, .slice (some ⟨W.heap.size, 0, none⟩) 1 1]).run Try.prog (W.alloc (.cells #[.string ⟨x.toArray⟩] 9)) = .ok v' w' ∧ OwnS w' base v' (acc ++ [x]) ∧ Keeps [] wb w' := by
  obtain ⟨i0, hi0, hz0, hz1, hz2⟩ := info_parts infoS
  have ho1 : (W.alloc (.cells #[.string ⟨x.toArray⟩] 9)).ownsRow base 9 1 v acc.length (acc.map sV) := World.ownsRow.alloc ho _
  obtain ⟨v', w', hr, h2, h3, _⟩ := run_append_own (P := Try.prog) _ base 71 71 9 i0 _ 1 16 Try.underlying71 hi0 hz0 hz1 hz2 rfl (by decide) v acc.length (acc.map sV) ho1 ⟨W.heap.size, 0, none⟩ 1 1 [sV x] rfl
    (fun j u hj => by match j, hj with | 0, hj => simp at hj; subst hj; simp [Addr.add, sV])
    (fun u hu => by simp only [List.mem_cons, List.mem_nil_iff, or_false] at hu; subst hu; rfl) (by unfold maxLen; omega) (by omega) (by simp; omega)
  have hlt := World.ownsRow.lt ho
  refine ⟨v', w', hr, ?_, (hk.alloc _).trans (Keeps.of_grownBy h3 v.ownBlock.toList (fun g hg => by rw [hg]; simp)) (fun g hg => .inr ?_)⟩
  · unfold OwnS
    rw [List.length_append, List.map_append]; exact h2
  · have := (hlt g (by simpa using hg)).1; omega
/-- What the statement expects of a key after the writes b. -/
def resV (l : List Ent) (b : List Wrt) (s : Str) : Str := match lastW b s with | some w => w.v | none => (lk l s).getD []
def resI (l : List Ent) (b : List Wrt) (s : Str) : Bool := match lastW b s with | some w => !w.d | none => (lk l s).isSome
theorem lastW_snoc (b : List Wrt) (k : Nat) (x : Wrt) (s : Str) (h : b[k]? = some x) : lastW (b.take (k + 1)) s = if x.k = s then some x else lastW (b.take k) s := by
  rw [List.take_add_one, h]
  simp only [Option.toList_some]
  rw [lastW_append, lastW, lastW]
  by_cases hs : x.k = s <;> simp [hs]
theorem res_now (l : List Ent) (b : List Wrt) (s : Str) (hd : ∀ w ∈ b, w.d = true → w.v = []) : (lk (applyR l b) s).getD [] = resV l b s ∧ (lk (applyR l b) s).isSome = resI l b s := by
  rw [lk_applyR]
  unfold resV resI
  cases h : lastW b s with
  | none => exact ⟨rfl, rfl⟩
  | some w =>
    obtain ⟨hm, _⟩ := lastW_some h
    cases hwd : w.d with
    | true => simp [hwd, hd w hm hwd]
    | false => simp [hwd]
set_option maxHeartbeats 2000000 in
set_option maxRecDepth 100000 in
theorem applies_any (raw : List Wrt) (ent : List Ent) (key : Str) (h1 : raw.length ≤ 9223372036854775807) (h3 : ent.length ≤ 9223372036854775807) (v0 v1 : Value) (w : World) (l0 : Lst w v0 raw.length (wCs raw)) (l1 : Lst w v1 ent.length (eCs ent)) :
    Calls Try.prog 10 #[v0, v1, .string ⟨key.toArray⟩] w fun e w' => e = .returned (.bool true) ∧ Keeps [] w w' := by
  have asc := asc_listR ent
  have ll := length_listR ent
  have hfd : ∀ x ∈ fitL raw, x.d = true → x.v = [] := fun x hx => (fitL_mem hx).2.2
  obtain ⟨l, hl⟩ : ∃ l, listR ent = l := ⟨_, rfl⟩
  obtain ⟨b, hb⟩ : ∃ b, fitL raw = b := ⟨_, rfl⟩
  have lb := fitL_len raw
  rw [hb] at lb hfd
  rw [hl] at asc ll
  have e1 := length_applyR l b
  have hrn := Lib.hid (fun s => res_now l b s hfd)
  go_enter Try.func10, Try.ntmps10
  go_wp2_with fail
  refine (fit_any raw h1 v0 _ l0).mono ?_
  rintro e w1 ⟨u1, rfl, m1, k1⟩
  rw [hb] at m1
  go_wp2_with fail
  refine (list_any ent h3 v1 _ (l1.keeps k1)).mono ?_
  rintro e w2 ⟨u2, rfl, m2, k2⟩
  rw [hl] at m2
  have K2 := k1.trans k2 (by simp)
  have m1 := m1.keeps k2
  go_wp2_with fail
  refine (applyL l b asc (by omega) u2 u1 _ m2 m1).mono ?_
  rintro e w3 ⟨u3, rfl, m3, k3⟩
  have m1 := m1.keeps k3
  have m2 := m2.keeps k3
  have K3 := K2.trans k3 (by simp)
  have aN := asc_applyR b asc
  obtain ⟨nw, hnw⟩ : ∃ nw, applyR l b = nw := ⟨_, rfl⟩
  rw [hnw] at hrn m3 e1 aN
  clear hb hl k1 k2 k3 K2 l0 l1 asc hfd hnw
  have M1 := m1
  have M3 := m3
  obtain ⟨A, cap, ba, oa, rfl, hA, har⟩ := m1
  obtain ⟨A', cap', bn, on, rfl, hA', har'⟩ := m3
  obtain ⟨n, hnn⟩ : ∃ n, b.length = n := ⟨_, rfl⟩
  obtain ⟨m, hmm⟩ : ∃ m, nw.length = m := ⟨_, rfl⟩
  rw [hnn] at hA M1 lb e1 ⊢
  rw [hmm] at hA' M3 e1 ⊢
  have Hn := Lib.hid hnn
  have Hm := Lib.hid hmm
  clear hnn hmm
  have os := OwnS.one w3 key
  have ks := (Keeps.refl [] w3).alloc (.cells #[.string ⟨key.toArray⟩] 9)
  have Hss : Hid (w3.heap.size ≤ (w3.alloc (.cells #[.string ⟨key.toArray⟩] 9)).heap.size) := Lib.hid (by simp)
  go_wp2_with fail
  go_loopw [10, 11] (fun v i wr => ∃ (k : Nat), k ≤ n ∧ i = .int .i64 k ∧ OwnS wr w3.heap.size v (key :: (b.take k).map (·.k)) ∧ Keeps [] w3 wr) (fun _ i _ => n - (intOf i).toNat)
  case atStart => exact ⟨0, by omega, rfl, by simpa using os, ks⟩
  case round =>
    obtain ⟨k, hk, rfl, ho, hkp⟩ := hrel
    by_cases hlt : k < n
    · obtain rfl := hA (by omega)
      obtain ⟨x, hx⟩ : ∃ x, b[k]? = some x := ⟨_, List.getElem?_eq_getElem (by rw [Hn.out]; exact hlt)⟩
      obtain ⟨c0, c1, c2, c3⟩ := (har.keeps hkp (by simp)).wrt hx
      have e2 : key :: (b.take (k + 1)).map (·.k) = (key :: (b.take k).map (·.k)) ++ [x.k] := by rw [List.take_add_one, hx]; simp
      have E2 := Lib.hid e2
      have hll : (key :: (b.take k).map (·.k)).length < 4096 := by rw [List.length_cons, List.length_map, List.length_take]; omega
      obtain ⟨v', w5, hr, ho5, k5⟩ := appendS (wb := w3) (W := wr) ho hll x.k hkp (Nat.le_refl _) hkp.size
      clear e2 hx
      go_wp2_with (at_builtin; refine list_append_eq rfl _ _ 71 71 rfl _ _ rfl rfl hr ?_)
      exact ⟨⟨k + 1, by omega, by go_num, by rw [E2.out]; exact ho5, k5⟩, by simp [intOf]; omega⟩
    · obtain rfl : k = n := by omega
      rw [List.take_of_length_le (by rw [Hn.out]; omega)] at ho
      have MK := ho.lst
      have hkl : (key :: b.map (·.k)).length = k + 1 := by rw [List.length_cons, List.length_map, Hn.out]
      obtain ⟨w4, rfl⟩ : ∃ w4, w4 = wr := ⟨_, rfl⟩
      have har4 := har.keeps hkp (by simp)
      have harN := har'.keeps hkp (by simp)
      have M2 := m2.keeps hkp
      have M3 := M3.keeps hkp
      have K4 := K3.trans hkp (by simp)
      obtain ⟨B, bcap, bk, ok, rfl, hB, hark⟩ := MK
      obtain ⟨L, hL⟩ : ∃ L, key :: b.map (·.k) = L := ⟨_, rfl⟩
      rw [hL] at hkl hark hB ⊢
      rw [hkl] at hB ⊢
      obtain rfl := hB (by omega)
      clear hB
      have Hkl := Lib.hid hkl
      clear hL hkl ho
      go_wp2_with fail
      go_loopw [12] (fun i wr => ∃ (q z : Nat), 1 ≤ q ∧ (q ≤ m ∨ q = 1) ∧ i = .int .i64 q ∧ wr = w4.drewN z) (fun i _ => m - (intOf i).toNat)
      case atStart => exact ⟨1, 0, by omega, by omega, rfl, rfl⟩
      case round =>
        obtain ⟨q, z, hq1, hq, rfl, rfl⟩ := hrel
        by_cases hlq : q < m
        · obtain rfl := hA' (by omega)
          obtain ⟨j, rfl⟩ : ∃ j, q = j + 1 := ⟨q - 1, by omega⟩
          obtain ⟨x, hx⟩ : ∃ x, nw[j + 1]? = some x := ⟨_, List.getElem?_eq_getElem (by rw [Hm.out]; exact hlq)⟩
          obtain ⟨y, hy⟩ : ∃ y, nw[j]? = some y := ⟨_, List.getElem?_eq_getElem (by rw [Hm.out]; omega)⟩
          obtain ⟨c0, c1, c3⟩ := harN.ent hx
          obtain ⟨d0, d1, d3⟩ := harN.ent hy
          have hlt2 : y.k < x.k := by
            obtain ⟨p1, rfl⟩ := List.getElem?_eq_some_iff.1 hx
            obtain ⟨p2, rfl⟩ := List.getElem?_eq_some_iff.1 hy
            exact (List.pairwise_iff_getElem.1 aN) j (j + 1) p2 p1 (by omega)
          have hbl := less_neg (slt_asymm hlt2)
          have hbe : (x.k == y.k) = false := by simpa using fun e : x.k = y.k => slt_ne hlt2 e.symm
          have hj1 : ((j + 1 : Nat) : Int) - 1 = (j : Int) := by omega
          have hj2 : (j : Int) < (m : Int) := by omega
          have hj3 : ((j + 1 : Nat) : Int) < (m : Int) := by omega
          clear hx hy hlt2
          go_wp2_with fail
          go_region
          go_wp2_with fail
          exact ⟨⟨j + 1 + 1, z + 1, by omega, by omega, by go_num, rfl⟩, by simp [intOf]; omega⟩
        · have kz := (Keeps.refl [] w4).drewN z
          have K5 := K4.trans kz (by simp)
          obtain ⟨w5, hw5⟩ : ∃ w5, w5 = w4.drewN z := ⟨_, rfl⟩
          rw [← hw5] at kz K5 ⊢
          clear hw5
          have M2 := M2.keeps kz
          have M3 := M3.keeps kz
          have har5 := har4.keeps kz (by simp)
          have hark5 := hark.keeps kz (by simp)
          go_wp2_with fail
          go_loopw [13] (fun i wr => ∃ (q z : Nat), q ≤ k + 1 ∧ i = .int .i64 q ∧ wr = w5.drewN z) (fun i _ => k + 1 - (intOf i).toNat)
          case atStart => exact ⟨0, 0, by omega, rfl, rfl⟩
          case round =>
            obtain ⟨q, z, hq, rfl, rfl⟩ := hrel
            have kz6 := (Keeps.refl [] w5).drewN z
            by_cases hlq : q < k + 1
            · obtain ⟨s, hs⟩ : ∃ s, L[q]? = some s := ⟨_, List.getElem?_eq_getElem (by rw [Hkl.out]; exact hlq)⟩
              have hcs := hark5.cells q (by rw [List.length_map, Hkl.out]; exact hlq)
              rw [List.getElem?_map, hs] at hcs
              simp only [Option.map_some, sV] at hcs
              have hbl' := hark5.lt (by rw [List.length_map, Hkl.out]; omega)
              obtain ⟨r1, r2⟩ := hrn.out s
              have R1 := Lib.hid r1
              have R2 := Lib.hid r2
              have hqk : (q : Int) < ((k + 1 : Nat) : Int) := by omega
              clear r1 r2 hs
              go_wp2_with fail
              refine (get_any l (by omega) s u2 _ (M2.keeps kz6)).mono ?_
              rintro e w6 ⟨rfl, rfl⟩
              go_wp2_with fail
              go_loopw [14, 15, 16] (fun v t i wr => ∃ (j y : Nat), j ≤ k ∧ v = .string ⟨(resV l (b.take j) s).toArray⟩ ∧ t = .bool (resI l (b.take j) s) ∧ i = .int .i64 j ∧ wr = w5.drewN y) (fun _ _ i _ => k - (intOf i).toNat)
              case atStart => exact ⟨0, z, by omega, by simp [resV, lastW], by simp [resI, lastW], rfl, rfl⟩
              case round =>
                obtain ⟨j, y, hj, rfl, rfl, rfl, rfl⟩ := hrel
                by_cases hlj : j < k
                · obtain rfl := hA (by omega)
                  obtain ⟨x, hx⟩ : ∃ x, b[j]? = some x := ⟨_, List.getElem?_eq_getElem (by rw [Hn.out]; exact hlj)⟩
                  obtain ⟨c0, c1, c2, c3⟩ := har5.wrt hx
                  have hls := lastW_snoc b j x s hx
                  have hjk : (j : Int) < (k : Int) := by omega
                  obtain ⟨V, hV⟩ : ∃ V, resV l (b.take j) s = V := ⟨_, rfl⟩
                  obtain ⟨I, hI⟩ : ∃ I, resI l (b.take j) s = I := ⟨_, rfl⟩
                  rw [hV, hI]
                  by_cases hxs : x.k = s
                  · have hb : (x.k == s) = true := by simpa using hxs
                    have g1 : resV l (b.take (j + 1)) s = x.v := by rw [resV, hls, if_pos hxs]
                    have g2 : resI l (b.take (j + 1)) s = !x.d := by rw [resI, hls, if_pos hxs]
                    have G1 := Lib.hid g1
                    have G2 := Lib.hid g2
                    clear g1 g2 hxs hls hx hV hI
                    go_wp2_with fail
                    go_region
                    go_wp2_with fail
                    go_region
                    go_wp2_with fail
                    exact ⟨⟨j + 1, y + 1 + 1, by omega, by rw [G1.out], by rw [G2.out], by go_num, rfl⟩, by simp [intOf]; omega⟩
                  · have hb : (x.k == s) = false := by simpa using hxs
                    have g1 : resV l (b.take (j + 1)) s = V := by rw [resV, hls, if_neg hxs, ← hV]; rfl
                    have g2 : resI l (b.take (j + 1)) s = I := by rw [resI, hls, if_neg hxs, ← hI]; rfl
                    have G1 := Lib.hid g1
                    have G2 := Lib.hid g2
                    clear g1 g2 hxs hls hx hV hI
                    go_wp2_with fail
                    go_region
                    go_wp2_with fail
                    exact ⟨⟨j + 1, y + 1, by omega, by rw [G1.out], by rw [G2.out], by go_num, rfl⟩, by simp [intOf]; omega⟩
                · obtain rfl : j = k := by omega
                  rw [List.take_of_length_le (by rw [Hn.out]; omega)]
                  obtain ⟨V, hV⟩ : ∃ V, resV l b s = V := ⟨_, rfl⟩
                  obtain ⟨I, hI⟩ : ∃ I, resI l b s = I := ⟨_, rfl⟩
                  rw [hV, hI]
                  have R1' := R1.out
                  have R2' := R2.out
                  rw [hV] at R1'
                  rw [hI] at R2'
                  have R1 := Lib.hid R1'
                  have R2 := Lib.hid R2'
                  have kz7 := (Keeps.refl [] w5).drewN y
                  clear R1' R2' hV hI
                  go_wp2_with fail
                  refine (get_any nw (by rw [Hm.out]; omega) s _ _ (by rw [Hm.out]; exact M3.keeps kz7)).mono ?_
                  rintro e w7 ⟨rfl, rfl⟩
                  rw [R1.out, R2.out]
                  have hvv : (V == V) = true := by simp
                  cases I <;> (go_wp2_with fail; exact ⟨⟨q + 1, y, by omega, by go_num, rfl⟩, by simp [intOf]; omega⟩)
            · go_wp2_with fail
              refine (awake_any _).mono ?_
              rintro e w6 ⟨rfl, k6⟩
              go_wp2_with fail
              go_ret
              exact ⟨rfl, (K5.trans kz6 (by simp)).trans k6 (by simp)⟩
end Go.Proofs.Ytnnpmpdlhojecaa
