/- slices.order2Ordered, medianOrdered, choosePivotOrdered at uint64. -/
import Derived.Test.YtiodlmmbjjdojaaPdP
namespace Go.Proofs.Ytiodlmmbjjdojaa
open Go.RowKit
set_option linter.unusedVariables false
set_option linter.unusedSimpArgs false
set_option maxRecDepth 100000
set_option maxHeartbeats 4000000
theorem ord2_any (b cap n i j s g : Nat) (rest : List Value) (d : Array Int) (w : World) (hb : Rw w b rest d) (hd : d.size = n) (hn : n ≤ 4096) (hi : i < n) (hj : j < n) (hg : Blk w g [.int .i64 s]) (hs : s ≤ 100) (hgb : b ≠ g) :
    Calls Try.prog 90 #[.slice (some ⟨b, 0, none⟩) n cap, .int .i64 i, .int .i64 j, .pointer (some ⟨g, 0, none⟩)] w fun q w' => q = .returned (.tuple #[.int .i64 (Go.Sort.order2 Go.Sort.ltInt d i j s).1, .int .i64 (Go.Sort.order2 Go.Sort.ltInt d i j s).2.1]) ∧ Blk w' g [.int .i64 (Go.Sort.order2 Go.Sort.ltInt d i j s).2.2] ∧ Keeps [g] w w' := by
  have x1 := hb.cell i (by omega)
  have x2 := hb.cell j (by omega)
  have xf := hb.frozen
  have xl := hb.lt
  obtain ⟨g0, gf, gl⟩ := hg.o1
  have b1 : (0 : Int) ≤ (i : Int) := by omega
  have b2 : (i : Int) < n := by omega
  have b3 : (0 : Int) ≤ (j : Int) := by omega
  have b4 : (j : Int) < n := by omega
  have hws : IntKind.i64.wrap ((s : Int) + 1) = (s : Int) + 1 := i64w _ (by omega) (by omega)
  have hws2 : wrap64 ((s : Int) + 1) = (s : Int) + 1 := w64w _ (by omega) (by omega)
  clear hd
  unfold Go.Sort.order2
  by_cases h : d[j]! < d[i]!
  · have hd4 : decide (d[j]! < d[i]!) = true := by simp [h]
    rw [if_pos (by simp [Go.Sort.ltInt, h])]
    go_enter Try.func90, Try.ntmps90
    go_wp2_with fail
    go_region_held3 (fun w' => w'.cell? ⟨b, i, none⟩ = some (.int .u64 d[i]!) ∧ w'.cell? ⟨b, j, none⟩ = some (.int .u64 d[j]!) ∧ w'.cell? ⟨g, 0, none⟩ = some (.int .i64 s)) (go_keep)
      ((go_at_call 77; refine (less_any _ _ _).mono ?_; rintro e w' ⟨rfl, rfl⟩))
    go_wp2_with fail
    go_ret2
    exact ⟨rfl, (hg.drew.set 0 _), ((Keeps.refl [g] w).drew).setCell _ _ (.inl (by simp))⟩
  · have hd4 : decide (d[j]! < d[i]!) = false := by simp; omega
    rw [if_neg (by simpa [Go.Sort.ltInt] using h)]
    go_enter Try.func90, Try.ntmps90
    go_wp2_with fail
    go_region_held3 (fun w' => w'.cell? ⟨b, i, none⟩ = some (.int .u64 d[i]!) ∧ w'.cell? ⟨b, j, none⟩ = some (.int .u64 d[j]!) ∧ w'.cell? ⟨g, 0, none⟩ = some (.int .i64 s)) (go_keep)
      ((go_at_call 77; refine (less_any _ _ _).mono ?_; rintro e w' ⟨rfl, rfl⟩))
    go_wp2_with fail
    go_ret2
    exact ⟨rfl, hg.drew, (Keeps.refl [g] w).drew⟩
theorem ord2_le (d : Array Int) (i j s : Nat) : (Go.Sort.order2 Go.Sort.ltInt d i j s).2.2 ≤ s + 1 := by
  unfold Go.Sort.order2; split <;> simp
theorem ord2_lt (d : Array Int) (i j s n : Nat) (hi : i < n) (hj : j < n) : (Go.Sort.order2 Go.Sort.ltInt d i j s).1 < n ∧ (Go.Sort.order2 Go.Sort.ltInt d i j s).2.1 < n := by
  unfold Go.Sort.order2; split <;> exact ⟨by assumption, by assumption⟩
theorem med_any (b cap n i j k s g : Nat) (rest : List Value) (d : Array Int) (w : World) (hb : Rw w b rest d) (hd : d.size = n) (hn : n ≤ 4096) (hi : i < n) (hj : j < n) (hk : k < n) (hg : Blk w g [.int .i64 s]) (hs : s ≤ 90) (hgb : b ≠ g) :
    Calls Try.prog 88 #[.slice (some ⟨b, 0, none⟩) n cap, .int .i64 i, .int .i64 j, .int .i64 k, .pointer (some ⟨g, 0, none⟩)] w fun q w' => q = .returned (.int .i64 (Go.Sort.median Go.Sort.ltInt d i j k s).1) ∧ Blk w' g [.int .i64 (Go.Sort.median Go.Sort.ltInt d i j k s).2] ∧ Keeps [g] w w' := by
  unfold Go.Sort.median
  have q1 := ord2_lt d i j s n hi hj
  have q1s := ord2_le d i j s
  have h1 := ord2_any b cap n i j s g rest d w hb hd hn hi hj hg (by omega) hgb
  obtain ⟨⟨i1, j1, s1⟩, e1⟩ : ∃ r, Go.Sort.order2 Go.Sort.ltInt d i j s = r := ⟨_, rfl⟩
  rw [e1] at q1 q1s h1 ⊢
  simp only at q1 q1s h1 ⊢
  have q2 := ord2_lt d j1 k s1 n q1.2 hk
  have q2s := ord2_le d j1 k s1
  have h2 := fun w' hb' hg' => ord2_any b cap n j1 k s1 g rest d w' hb' hd hn q1.2 hk hg' (by omega) hgb
  obtain ⟨⟨j2, k2, s2⟩, e2⟩ : ∃ r, Go.Sort.order2 Go.Sort.ltInt d j1 k s1 = r := ⟨_, rfl⟩
  rw [e2] at q2 q2s h2 ⊢
  simp only at q2 q2s h2 ⊢
  have h3 := fun w' hb' hg' => ord2_any b cap n i1 j2 s2 g rest d w' hb' hd hn q1.1 q2.1 hg' (by omega) hgb
  obtain ⟨⟨i3, j3, s3⟩, e3⟩ : ∃ r, Go.Sort.order2 Go.Sort.ltInt d i1 j2 s2 = r := ⟨_, rfl⟩
  rw [e3] at h3 ⊢
  simp only at h3 ⊢
  clear e1 e2 e3 q1 q1s q2 q2s hd
  have hbg : b ∉ [g] := by simp [hgb]
  go_enter Try.func88, Try.ntmps88
  go_wp2_with fail
  refine h1.mono ?_
  rintro q w1 ⟨rfl, g1, k1⟩
  go_wp2_with fail
  refine (h2 w1 (hb.keeps k1 hbg) g1).mono ?_
  rintro q w2 ⟨rfl, g2, k2'⟩
  have k12 := k1.trans k2' (fun j hj => .inl hj)
  go_wp2_with fail
  refine (h3 w2 (hb.keeps k12 hbg) g2).mono ?_
  rintro q w3 ⟨rfl, g3, k3'⟩
  go_wp2_with fail
  go_ret
  exact ⟨rfl, g3, k12.trans k3' (fun j hj => .inl hj)⟩
end Go.Proofs.Ytiodlmmbjjdojaa
