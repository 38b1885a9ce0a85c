/- slices.heapSortOrdered at uint64. -/
import Derived.Test.YtiodlmmbjjdojaaPdB
namespace Go.Proofs.Ytiodlmmbjjdojaa
open Go.RowKit
set_option linter.unusedVariables false
set_option linter.unusedSimpArgs false
set_option maxRecDepth 100000
set_option maxHeartbeats 4000000
theorem siftDown_size (hi first : Nat) : ∀ (k root : Nat) (d : Array Int), hi - root ≤ k → (Go.Sort.siftDown Go.Sort.ltInt hi first root d).size = d.size := by
  intro k
  induction k with
  | zero => intro root d h; rw [sift_stop (by omega)]
  | succ k ih =>
    intro root d h
    by_cases h1 : hi ≤ 2 * root + 1
    · rw [sift_stop h1]
    · by_cases h2 : 2 * root + 2 < hi ∧ d[first + (2 * root + 1)]! < d[first + (2 * root + 1) + 1]!
      · rw [sift_two h2.1 h2.2]
        split
        · rw [ih _ _ (by omega), Go.Sort.size_swp]
        · rfl
      · rw [sift_one (by omega) h2]
        split
        · rw [ih _ _ (by omega), Go.Sort.size_swp]
        · rfl
theorem heapBuild_size (hi first : Nat) : ∀ (k : Nat) (d : Array Int), (Go.Sort.heapBuild Go.Sort.ltInt hi first k d).size = d.size
  | 0, d => rfl
  | k + 1, d => by rw [Go.Sort.heapBuild, heapBuild_size hi first k, siftDown_size hi first _ k d (Nat.le_refl _)]
theorem heap_any (b cap n a e : Nat) (rest : List Value) (d : Array Int) (w : World) (hb : Rw w b rest d) (hd : d.size = n) (hn : n ≤ 4096) (hae : a < e ∧ e ≤ n) :
    Calls Try.prog 72 #[.slice (some ⟨b, 0, none⟩) n cap, .int .i64 a, .int .i64 e] w fun q w' => q = .returned (.tuple #[]) ∧ Rw w' b rest (Go.Sort.heapSort Go.Sort.ltInt d a e) ∧ Keeps [b] w w' := by
  have Hd := Lib.hid hd
  clear hd
  obtain ⟨hi, hhi⟩ : ∃ hi, hi = e - a := ⟨_, rfl⟩
  have H := Lib.hid hhi
  have hw0 : IntKind.i64.wrap ((e : Int) - (a : Int)) = (hi : Int) := by rw [i64w _ (by omega) (by omega)]; omega
  have hw1 : IntKind.i64.wrap ((hi : Int) - 1) = (hi : Int) - 1 := i64w _ (by omega) (by omega)
  obtain ⟨m, hm⟩ : ∃ m, m = (hi - 1) / 2 := ⟨_, rfl⟩
  have hw2 : ((hi : Int) - 1).tdiv 2 = (m : Int) := by
    rw [Int.tdiv_eq_ediv_of_nonneg (by omega)]
    omega
  have hw3 : IntKind.i64.wrap (m : Int) = (m : Int) := i64w _ (by omega) (by omega)
  have HM := Lib.hid hm
  clear hhi hm
  go_enter Try.func72, Try.ntmps72
  go_wp2_with fail
  have Hlim : Hid (hi + a = e ∧ 0 < hi ∧ m < hi) := Lib.hid (by have := H.out; have := HM.out; omega)
  have hwa : ((m + 1 : Nat) : Int) - 1 = (m : Int) := by omega
  go_loopw [9] (fun i wr => ∃ (k : Nat) (d' : Array Int), i = .int .i64 ((k : Int) - 1) ∧ k ≤ m + 1 ∧ Hid (d'.size = n ∧ Go.Sort.heapBuild Go.Sort.ltInt hi a k d' = Go.Sort.heapBuild Go.Sort.ltInt hi a (m + 1) d) ∧ Rw wr b rest d' ∧ Keeps [b] w wr) (fun i _ => (intOf i + 1).toNat)
  case atStart => exact ⟨m + 1, d, by rw [hwa], Nat.le_refl _, Lib.hid ⟨Hd.out, rfl⟩, hb, Keeps.refl _ _⟩
  case round =>
    obtain ⟨k, d', rfl, hk, hR, hbr, hkr⟩ := hrel
    by_cases h0 : k = 0
    · subst h0
      rw [show ((0 : Nat) : Int) - 1 = -1 from rfl]
      go_wp2_with fail
      have Hsz : Hid (d'.size = n) := Lib.hid hR.out.1
      have hD : Go.Sort.heapBuild Go.Sort.ltInt hi a (m + 1) d = d' := hR.out.2.symm
      have HD := Lib.hid hD
      clear hD hR hk
      have hwh : IntKind.i64.wrap ((hi : Int) - 1) = (hi : Int) - 1 := hw1
      go_loopw [10] (fun i wr2 => ∃ (k : Nat) (d2 : Array Int), i = .int .i64 ((k : Int) - 1) ∧ k ≤ hi ∧ Hid (d2.size = n ∧ Go.Sort.heapPop Go.Sort.ltInt a k d2 = Go.Sort.heapPop Go.Sort.ltInt a hi d') ∧ Rw wr2 b rest d2 ∧ Keeps [b] w wr2) (fun i _ => (intOf i + 1).toNat)
      case atStart => exact ⟨hi, d', rfl, Nat.le_refl _, Lib.hid ⟨Hsz.out, rfl⟩, hbr, hkr⟩
      case round =>
        obtain ⟨k, d2, rfl, hk, hR, hb2, hk2⟩ := hrel
        by_cases h0 : k = 0
        · subst h0
          go_wp2_with fail
          go_end0
          refine ⟨rfl, ?_, hk2⟩
          have e1 : Go.Sort.heapSort Go.Sort.ltInt d a e = d2 := by
            unfold Go.Sort.heapSort
            rw [← H.out, ← HM.out, HD.out, ← hR.out.2]
            rfl
          rw [e1]; exact hb2
        · obtain ⟨k', rfl⟩ : ∃ k', k = k' + 1 := ⟨k - 1, by omega⟩
          rw [show ((k' + 1 : Nat) : Int) - 1 = (k' : Int) by omega]
          have hge : decide ((k' : Int) ≥ 0) = true := by simp
          have hs := Hlim.out
          have hsz := hR.out.1
          obtain ⟨pk, hpk⟩ : ∃ pk, pk = a + k' := ⟨_, rfl⟩
          have hwk : IntKind.i64.wrap ((a : Int) + (k' : Int)) = (pk : Int) := by rw [i64w _ (by omega) (by omega)]; omega
          have x1 := hb2.cell a (by omega)
          have x2 := hb2.cell pk (by omega)
          have xf := hb2.frozen
          have xl := hb2.lt
          have b1 : (0 : Int) ≤ (a : Int) := by omega
          have b2 : (a : Int) < n := by omega
          have b3 : (0 : Int) ≤ (pk : Int) := by omega
          have b4 : (pk : Int) < n := by omega
          have hz := (hb2.swp a pk (by omega) (by omega)).drew
          have hkz := (keeps_swp (b := b) (by simp) w hk2 a pk (.int .u64 d2[pk]!) (.int .u64 d2[a]!)).drew
          have hzs : (Go.Sort.swp d2 a pk).size = n := by rw [Go.Sort.size_swp]; exact hsz
          have hsd := fun w' h => siftDown_any b cap n 0 k' a rest (Go.Sort.swp d2 a pk) w' h hzs hn (by omega) (by omega)
          have hwm : IntKind.i64.wrap ((k' : Int) - 1) = (k' : Int) - 1 := i64w _ (by omega) (by omega)
          have hR2 : Hid ((Go.Sort.siftDown Go.Sort.ltInt k' a 0 (Go.Sort.swp d2 a pk)).size = n ∧ Go.Sort.heapPop Go.Sort.ltInt a k' (Go.Sort.siftDown Go.Sort.ltInt k' a 0 (Go.Sort.swp d2 a pk)) = Go.Sort.heapPop Go.Sort.ltInt a hi d') := Lib.hid ⟨by rw [siftDown_size _ _ _ _ _ (Nat.le_refl _)]; exact hzs, by
            rw [← hR.out.2, hpk]; rfl⟩
          have Hpk := Lib.hid hpk
          clear hs hsz hpk hzs hR
          by_cases hk0 : k' = 0
          · have hap : pk = a := by have := Hpk.out; omega
            subst hap
            have hwk2 : IntKind.i64.wrap ((pk : Int) + 0) = (pk : Int) := i64w _ (by omega) (by omega)
            subst hk0
            go_wp2_with fail
            go_region
            all_goals go_wp2_with fail
            all_goals refine (hsd _ hz).mono ?_
            all_goals rintro q w5 ⟨rfl, hb5, k5⟩
            all_goals go_wp2_with fail
            all_goals exact ⟨⟨0, _, by go_num, by omega, hR2, hb5, hkz.trans k5 (fun j hj => .inl hj)⟩, by simp [intOf]⟩
          · have hn1 : a ≠ pk := by have := Hpk.out; omega
            have hn2 : pk ≠ a := Ne.symm hn1
            go_wp2_with fail
            go_region
            all_goals go_wp2_with fail
            all_goals refine (hsd _ hz).mono ?_
            all_goals rintro q w5 ⟨rfl, hb5, k5⟩
            all_goals go_wp2_with fail
            all_goals exact ⟨⟨k', _, by go_num, by omega, hR2, hb5, hkz.trans k5 (fun j hj => .inl hj)⟩, by simp [intOf]⟩
    · obtain ⟨k', rfl⟩ : ∃ k', k = k' + 1 := ⟨k - 1, by omega⟩
      rw [show ((k' + 1 : Nat) : Int) - 1 = (k' : Int) by omega]
      have hge : decide ((k' : Int) ≥ 0) = true := by simp
      have hsz := hR.out.1
      have hs := Hlim.out
      have hsd := siftDown_any b cap n k' hi a rest d' wr hbr hsz hn (by omega) (by omega)
      have hwm : IntKind.i64.wrap ((k' : Int) - 1) = (k' : Int) - 1 := i64w _ (by omega) (by omega)
      clear hs hsz
      go_wp2_with fail
      refine hsd.mono ?_
      rintro q w5 ⟨rfl, hb5, k5⟩
      go_wp2_with fail
      exact ⟨⟨k', _, by go_num, by omega, Lib.hid ⟨by rw [siftDown_size _ _ _ _ _ (Nat.le_refl _)]; exact hR.out.1, by rw [← hR.out.2]; rfl⟩, hb5, hkr.trans k5 (fun j hj => .inl hj)⟩, by simp [intOf]⟩
end Go.Proofs.Ytiodlmmbjjdojaa
