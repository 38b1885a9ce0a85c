/- The statement ModelGets: its walk. -/
import Derived.Test.YtnnpmpdlhojecaaModF
namespace Go.Proofs.Ytnnpmpdlhojecaa
open Go.RowKit Go.Maps
theorem lk_mem {l : List Ent} (hl : Asc l) {i : Nat} {e : Ent} (h : l[i]? = some e) : lk l e.k = some e.v := by
  induction l generalizing i with
  | nil => simp at h
  | cons x l ih =>
    have hl' := List.pairwise_cons.1 hl
    cases i with
    | zero => simp at h; subst h; simp [lk]
    | succ i =>
      have he : l[i]? = some e := by simpa using h
      rw [lk, if_neg (slt_ne (hl'.1 e (List.mem_of_getElem? he))), ih hl'.2 he]
theorem lk_any (l : List Ent) (k : Str) : (lk l k).isSome = l.any (fun e => decide (e.k = k)) := by
  induction l with
  | nil => rfl
  | cons x l ih =>
    rw [lk, List.any_cons]
    by_cases h : x.k = k
    · simp [h]
    · simp [h, ih]
theorem anyE_snoc (a : List Ent) (s : Str) (j : Nat) (x : Ent) (h : a[j]? = some x) : (a.take (j + 1)).any (fun x => decide (x.k = s)) = ((a.take j).any (fun x => decide (x.k = s)) || decide (x.k = s)) := by
  rw [List.take_add_one, h, List.any_append]; simp
set_option maxHeartbeats 2000000 in
set_option maxRecDepth 100000 in
theorem gets_any (X : List (Value × List Wrt)) (hn : X.length ≤ 9223372036854775807) (v0 : Value) (key : Str) (T : Nat) (hT : T ≤ 18446744073709551615) (w : World) (l0 : Lst w v0 X.length (X.map (·.1))) (hX : ∀ p ∈ X, Lst w p.1 p.2.length (wCs p.2) ∧ p.2.length ≤ 9223372036854775807) :
    Calls Try.prog 3 #[v0, .string ⟨key.toArray⟩, .int .u64 (T : Int)] w fun e w' => e = .returned (.bool true) ∧ Keeps [] w w' := by
  obtain ⟨A, cap, b, o, rfl, hA, har⟩ := l0
  obtain ⟨n, hnn⟩ : ∃ n, X.length = n := ⟨_, rfl⟩
  rw [hnn] at hA hn ⊢
  have Hn := Lib.hid hnn
  have HX := Lib.hid hX
  clear hnn hX
  go_enter Try.func3, Try.ntmps3
  go_wp2_with fail
  refine (gm_new _).mono ?_
  rintro e w1 ⟨m, rfl, h1, k1⟩
  go_wp2_with fail
  refine (awakeM_any _).mono ?_
  rintro e w2 ⟨rfl, k2⟩
  have h2 := h1.keeps k2
  have K2 := k1.trans k2 (by simp)
  by_cases h12 : 12 < n
  · go_wp2_with fail
    refine (awakeM_any _).mono ?_
    rintro e w3 ⟨rfl, k3⟩
    go_wp2_with fail
    go_ret
    exact ⟨rfl, K2.trans k3 (by simp)⟩
  · clear h1 k1 k2
    go_wp2_with fail
    go_loopw [8] (fun i wr => ∃ (k : Nat) (St : List (List Ent)), k ≤ n ∧ i = .int .i64 k ∧ GM wr w.heap.size [] m 0 St 0 (.map []) ∧ St.length = k + 1 ∧ Keeps [] w wr) (fun i _ => n - (intOf i).toNat)
    case atStart => exact ⟨0, [[]], by omega, rfl, h2, rfl, K2⟩
    case round =>
      obtain ⟨k, St, hk, rfl, hg, hl, hkp⟩ := hrel
      by_cases hlt : k < n
      · obtain rfl := hA (by omega)
        obtain ⟨p, hp⟩ : ∃ p, X[k]? = some p := ⟨_, List.getElem?_eq_getElem (by rw [Hn.out]; exact hlt)⟩
        have hc := (har.keeps hkp (by simp)).cells k (by rw [List.length_map, Hn.out]; exact hlt)
        rw [List.getElem?_map, hp] at hc
        simp only [Option.map_some] at hc
        have hbl := (har.keeps hkp (by simp)).lt (by rw [List.length_map, Hn.out]; omega)
        obtain ⟨hLp, hlp⟩ := HX.out p (List.mem_of_getElem? hp)
        have hLp' := hLp.keeps hkp
        obtain ⟨pv, pb⟩ := p
        simp only at hc hLp' hlp
        obtain ⟨pA, pc, _, _, rfl, _⟩ := id hLp'
        clear hLp hp
        have hkn : (k : Int) < (n : Int) := by omega
        have hw : IntKind.u64.wrap ((k : Int) + 1) = (k : Int) + 1 := IntWalk.u64_in _ ⟨by omega, by omega⟩
        have hself : (((k : Int) + 1) != ((k : Int) + 1)) = false := by simp
        have hself2 : ((((k + 1 : Nat)) : Int) != ((k : Int) + 1)) = false := by simp
        go_wp2_with fail
        refine (fit5_any pb hlp _ _ hLp').mono ?_
        rintro e w3 ⟨u3, rfl, m3, k3⟩
        go_wp2_with fail
        refine (gm_apply (hg.keeps k3) (by omega) (fitL5 pb) (fitL5_len pb) u3 m3).mono ?_
        rintro e w4 ⟨rfl, h4, k4⟩
        rw [hl]
        have K4 := Kp.keeps (hkp.trans k3 (by simp)) k4 (Nat.le_refl _)
        go_wp2_with fail
        exact ⟨⟨k + 1, _, by omega, by go_num, h4, by simp [hl], K4⟩, by simp [intOf]; omega⟩
      · obtain rfl : k = n := by omega
        go_wp2_with fail
        refine (gm_list hg (by omega) T hT).mono ?_
        rintro e w3 ⟨v, l, rfl, hpk, ho, k3⟩
        obtain ⟨hasc, hll⟩ := hg.2.2 l (List.mem_of_getElem? hpk)
        have h3 := hg.keeps k3
        have K3 := hkp.trans k3 (by simp)
        obtain ⟨B, bcap, bb, bo, rfl, hB, harl⟩ := ho.lst
        obtain ⟨q, hq⟩ : ∃ q, l.length = q := ⟨_, rfl⟩
        rw [hq] at hB hll ⊢
        have Hq := Lib.hid hq
        have Hpk := Lib.hid hpk
        clear hq hpk ho hg k3
        go_wp2_with fail
        go_loopw [10, 11] (fun d i wr => ∃ (j : Nat), j ≤ q ∧ d = .bool ((l.take j).any (fun x => decide (x.k = key))) ∧ i = .int .i64 j ∧ Keeps [] w3 wr) (fun _ i _ => q - (intOf i).toNat)
        case atStart => exact ⟨0, by omega, by simp, rfl, Keeps.refl _ _⟩
        case round =>
          obtain ⟨j, hj, rfl, rfl, hkq⟩ := hrel
          by_cases hlj : j < q
          · obtain rfl := hB (by omega)
            obtain ⟨x, hx⟩ : ∃ x, l[j]? = some x := ⟨_, List.getElem?_eq_getElem (by rw [Hq.out]; exact hlj)⟩
            obtain ⟨c0, c1, c2⟩ := (harl.keeps hkq (by simp)).ent hx
            have hlkx := lk_mem hasc hx
            have hsn := anyE_snoc l key j x hx
            have hjq : (j : Int) < (q : Int) := by omega
            have Hx := Lib.hid hx
            obtain ⟨t, ht⟩ : ∃ t, (l.take j).any (fun x => decide (x.k = key)) = t := ⟨_, rfl⟩
            rw [ht] at hsn ⊢
            have Hsn := Lib.hid hsn
            clear hsn ht hx
            go_wp2_with fail
            refine (gm_get (h3.keeps hkq) (by omega) x.k T hT).mono ?_
            rintro e w4 ⟨l', rfl, hpk', k4⟩
            obtain rfl : l' = l := by rw [Hpk.out] at hpk'; exact (Option.some.inj hpk').symm
            rw [hlkx]
            obtain ⟨g0, g1, g2⟩ := (harl.keeps (hkq.trans k4 (by simp)) (by simp)).ent Hx.out
            clear c0 c1 c2 hpk' hlkx
            have hvv : (x.v == x.v) = true := by simp
            simp only [Option.getD_some, Option.isSome_some]
            by_cases hj0 : j = 0
            · subst hj0
              have KK := (hkq.trans k4 (by simp)).drew
              simp only [Nat.zero_mul, Nat.add_zero] at g0 g1
              go_wp2_with fail
              go_region
              cases t with
              | true =>
                go_wp2_with fail
                exact ⟨⟨0 + 1, by omega, by rw [Hsn.out]; simp, by go_num, KK⟩, by simp [intOf]; omega⟩
              | false =>
                by_cases hxk : x.k = key
                · have hb : (x.k == key) = true := by simpa using hxk
                  have hd : decide (x.k = key) = true := by simpa using hxk
                  have Hd := Lib.hid hd
                  clear hxk hd
                  go_wp2_with fail
                  exact ⟨⟨0 + 1, by omega, by rw [Hsn.out, Hd.out]; simp, by go_num, KK⟩, by simp [intOf]; omega⟩
                · have hb : (x.k == key) = false := by simpa using hxk
                  have hd : decide (x.k = key) = false := by simpa using hxk
                  have Hd := Lib.hid hd
                  clear hxk hd
                  go_wp2_with fail
                  exact ⟨⟨0 + 1, by omega, by rw [Hsn.out, Hd.out]; simp, by go_num, KK⟩, by simp [intOf]; omega⟩
            · obtain ⟨i, rfl⟩ : ∃ i, j = i + 1 := ⟨j - 1, by omega⟩
              obtain ⟨y, hy⟩ : ∃ y, l'[i]? = some y := ⟨_, List.getElem?_eq_getElem (by rw [Hq.out]; omega)⟩
              obtain ⟨f0, f1, f2⟩ := (harl.keeps (hkq.trans k4 (by simp)) (by simp)).ent hy
              have hlt2 : y.k < x.k := by
                have hx := Hx.out
                obtain ⟨p1, rfl⟩ := List.getElem?_eq_some_iff.1 hx
                obtain ⟨p2, rfl⟩ := List.getElem?_eq_some_iff.1 hy
                exact (List.pairwise_iff_getElem.1 hasc) i (i + 1) p2 p1 (by omega)
              have hbl := less_neg (slt_asymm hlt2)
              have hbe : (x.k == y.k) = false := by simpa using fun e : x.k = y.k => slt_ne hlt2 e.symm
              have hj1 : ((i + 1 : Nat) : Int) - 1 = (i : Int) := by omega
              have hj2 : (i : Int) < (q : Int) := by omega
              have hj3 : (0 : Int) < ((i + 1 : Nat) : Int) := by omega
              have hj4 : (0 : Int) < (i : Int) + 1 := by omega
              have hwi : IntKind.i64.wrap (i : Int) = (i : Int) := IntWalk.i64_in _ ⟨by omega, by omega⟩
              have KK := (hkq.trans k4 (by simp)).drew
              clear hy hlt2
              go_wp2_with fail
              go_region
              cases t with
              | true =>
                go_wp2_with fail
                exact ⟨⟨i + 1 + 1, by omega, by rw [Hsn.out]; simp, by go_num, KK⟩, by simp [intOf]; omega⟩
              | false =>
                by_cases hxk : x.k = key
                · have hb : (x.k == key) = true := by simpa using hxk
                  have hd : decide (x.k = key) = true := by simpa using hxk
                  have Hd := Lib.hid hd
                  clear hxk hd
                  go_wp2_with fail
                  exact ⟨⟨i + 1 + 1, by omega, by rw [Hsn.out, Hd.out]; simp, by go_num, KK⟩, by simp [intOf]; omega⟩
                · have hb : (x.k == key) = false := by simpa using hxk
                  have hd : decide (x.k = key) = false := by simpa using hxk
                  have Hd := Lib.hid hd
                  clear hxk hd
                  go_wp2_with fail
                  exact ⟨⟨i + 1 + 1, by omega, by rw [Hsn.out, Hd.out]; simp, by go_num, KK⟩, by simp [intOf]; omega⟩
          · obtain rfl : j = q := by omega
            rw [List.take_of_length_le (by rw [Hq.out]; omega)]
            obtain ⟨t, ht⟩ : ∃ t, l.any (fun x => decide (x.k = key)) = t := ⟨_, rfl⟩
            have hfin : (lk l key).isSome = t := by rw [lk_any, ht]
            have Hfin := Lib.hid hfin
            rw [ht]
            clear ht hfin
            go_wp2_with fail
            refine (gm_get (h3.keeps hkq) (by omega) key T hT).mono ?_
            rintro e w4 ⟨l', rfl, hpk', k4⟩
            obtain rfl : l' = l := by rw [Hpk.out] at hpk'; exact (Option.some.inj hpk').symm
            rw [Hfin.out]
            have KK := K3.trans (hkq.trans k4 (by simp)) (by simp)
            have htt : (t == t) = true := by simp
            go_wp2_with fail
            go_ret
            exact ⟨rfl, KK⟩
end Go.Proofs.Ytnnpmpdlhojecaa
