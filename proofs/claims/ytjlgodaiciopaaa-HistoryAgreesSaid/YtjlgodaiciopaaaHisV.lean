/- The contracts of stableCmpFunc and SortStableFunc: the list is sorted, the order of equals kept (at most 80 elements). -/
import Derived.Test.YtjlgodaiciopaaaHisU3
namespace Go.Proofs.Ytjlgodaiciopaaa
open Go.RowKit Go.Shelf Go.Lib Go.Sort
set_option linter.unusedSectionVars false
set_option linter.unusedVariables false
set_option linter.unusedSimpArgs false
theorem CmpLays.on {P : Program} {α : Type} [Inhabited α] {g : Nat} {cb : Array Value} {enc : α → List Value} {k : Nat} {cf : α → α → Int} {blk off : Nat} {w0 : World} {size : Nat} (h : CmpLays P g cb enc k cf blk off size w0) (hblk : blk < w0.heap.size) (n : Nat) (dk : Array α) (hs : dk.size = size) (os : Array Obj) :
    CmpLays P g cb enc k cf blk off size (sortWorldK enc k w0 blk off n dk os) := by
  intro m os' dk' hs' x y
  rw [sortWorldK_on enc k w0 blk off n m dk dk' os os' hblk (by rw [hs, hs'])]
  exact h _ _ dk' hs' x y
variable {P : Program} {α : Type} [Inhabited α] {enc : α → List Value} {k : Nat} {w0 : World} {blk off : Nat} {d0 : Array α}
/-- What insertionSortCmpFunc is to do. -/
def InsDoes (P : Program) (enc : α → List Value) (k : Nat) (w0 : World) (blk off : Nat) (key : α → Int) (cap g : Nat) (cb : Array Value) (N : Nat) : Prop :=
  ∀ (X M Y : List α) (a b : Nat), X.length = a → a + M.length = b → (X ++ (M ++ Y)).length = N → ∀ w, SWK enc k w0 blk off (X ++ (M ++ Y)).toArray w →
    Calls P 35 #[.slice (some ⟨blk, off, none⟩) N cap, .int .i64 a, .int .i64 b, .func (.func g) #[] cb] w (SymPost enc k w0 blk off (X ++ (stab key M ++ Y)))
theorem dvd_step {d p a : Nat} (hp : d ∣ p) (ha : d ∣ a) (h : p < a) : p + d ≤ a := by
  obtain ⟨x, rfl⟩ := hp
  obtain ⟨y, rfl⟩ := ha
  have hxy : x < y := by
    rcases Nat.lt_or_ge x y with h1 | h1
    · exact h1
    · have := Nat.mul_le_mul_left d h1; omega
  have := Nat.mul_le_mul_left d (show x + 1 ≤ y from hxy)
  rw [Nat.mul_add, Nat.mul_one] at this
  exact this
/-- A piece of a list within its first part, or behind its middle one. -/
theorem piece_left {X R : List α} {p l : Nat} (h : p + l ≤ X.length) : ((X ++ R).drop p).take l = (X.drop p).take l := by
  rw [List.drop_append_of_le_length (by omega), List.take_append_of_le_length (by rw [List.length_drop]; omega)]
theorem piece_right {X M Y : List α} {p l : Nat} (h : X.length + M.length ≤ p) : ((X ++ (M ++ Y)).drop p).take l = (Y.drop (p - X.length - M.length)).take l := by
  rw [List.drop_append, List.drop_of_length_le (by omega), List.nil_append, List.drop_append, List.drop_of_length_le (by omega), List.nil_append]
/-- Sorted in pieces of s from a on, in pieces of r before it. -/
structure Pcs (key : α → Int) (L0 : List α) (r s a : Nat) (L : List α) : Prop where
  same : Same2 key L0 L
  len : L.length = L0.length
  lo : ∀ p, r ∣ p → p < a → SortK key ((L.drop p).take r)
  hi : ∀ p, s ∣ p → a ≤ p → SortK key ((L.drop p).take s)
  dv : r ∣ a
theorem SortK.piece {key : α → Int} {L : List α} (h : SortK key L) (p l : Nat) : SortK key ((L.drop p).take l) := h.sublist ((List.take_sublist _ _).trans (List.drop_sublist _ _))
/-- One piece more, of length r or the last one. -/
theorem Pcs.step {key : α → Int} {L0 X M M' Y : List α} {r s a b : Nat} (h : Pcs key L0 r s a (X ++ (M ++ Y))) (hX : X.length = a) (hM : a + M.length = b) (hl : M'.length = M.length) (hs : Same2 key M M') (hsort : SortK key M') (hsr : s ∣ r) (hr : 0 < r)
    (hb : b = a + r ∨ (b ≤ a + r ∧ Y = [])) : Pcs key L0 r s (a + r) (X ++ (M' ++ Y)) := by
  refine ⟨h.same.trans ((Same2.rfl' X).app (hs.app (Same2.rfl' Y))), by rw [← h.len]; simp only [List.length_append, hl], fun p hp hlt => ?_, fun p hp hle => ?_, (Nat.dvd_add_right h.dv).2 (Nat.dvd_refl r)⟩
  · rcases Nat.lt_or_ge p a with h1 | h1
    · have h2 := dvd_step hp h.dv h1
      have := h.lo p hp h1
      rw [piece_left (by omega)] at this ⊢
      exact this
    · obtain rfl : p = a := by
        have h3 : p < a + r := hlt
        rcases Nat.eq_or_lt_of_le h1 with h4 | h4
        · exact h4.symm
        · have := dvd_step h.dv hp h4; omega
      have e : ((X ++ (M' ++ Y)).drop p).take r = M' := by
        rw [List.drop_append_of_le_length (by omega), List.drop_of_length_le (by omega), List.nil_append]
        rcases hb with hb | ⟨hb, rfl⟩
        · rw [List.take_append_of_le_length (by omega), List.take_of_length_le (by omega)]
        · rw [List.append_nil, List.take_of_length_le (by omega)]
      rw [e]; exact hsort
  · rcases hb with hb | ⟨hb, rfl⟩
    · have := h.hi p hp (by omega)
      rw [piece_right (by omega)] at this ⊢
      rw [hl]; exact this
    · have : ((X ++ (M' ++ [])).drop p).take s = [] := by
        rw [List.drop_of_length_le (by simp; omega)]; simp
      rw [this]; exact List.Pairwise.nil
/-- All is done up to the end. -/
theorem Pcs.next {key : α → Int} {L0 L : List α} {r s a : Nat} (h : Pcs key L0 r s a L) (ha : L.length ≤ a) : Pcs key L0 (2 * r) r 0 L :=
  ⟨h.same, h.len, fun p _ hp => by omega, fun p hp _ => by
    rcases Nat.lt_or_ge p a with h1 | h1
    · exact h.lo p hp h1
    · rw [List.drop_of_length_le (by omega)]; simp [SortK], Nat.dvd_zero _⟩
theorem Pcs.done {key : α → Int} {L0 L : List α} {r s : Nat} (h : Pcs key L0 r s 0 L) (hs : L.length ≤ s) : L = stab key L0 := by
  have := h.hi 0 (Nat.dvd_zero s) (Nat.le_refl 0)
  rw [List.drop_zero, List.take_of_length_le hs] at this
  exact stab_eq this h.same
theorem Pcs.start {key : α → Int} (L0 : List α) (r : Nat) : Pcs key L0 r 1 0 L0 :=
  ⟨Same2.rfl' _, rfl, fun p _ hp => by omega, fun p _ _ => by
    match h : (L0.drop p).take 1 with
    | [] => exact List.Pairwise.nil
    | [_] => exact List.pairwise_singleton _ _
    | a :: b :: l => have := congrArg List.length h; rw [List.length_take] at this; simp at this; omega, Nat.dvd_zero _⟩
/-- The list cut into three. -/
theorem cut3 (L : List α) (a b : Nat) (hab : a ≤ b) (hb : b ≤ L.length) : ∃ X M Y, L = X ++ (M ++ Y) ∧ X.length = a ∧ a + M.length = b :=
  ⟨L.take a, (L.drop a).take (b - a), (L.drop a).drop (b - a), by rw [List.take_append_drop, List.take_append_drop], by rw [List.length_take]; omega, by rw [List.length_take, List.length_drop]; omega⟩
set_option maxHeartbeats 4000000 in
set_option maxRecDepth 1000000 in
theorem stable_any (L : SL P k) (egi : ∀ args w, (callFunc 35 args).run P w = .ok (.enter 35 args) w) (key : α → Int) (cap g : Nat) (cb : Array Value) (N : Nat) (hsz : N < 1000000) (hI : InsDoes P enc k w0 blk off key cap g cb N) (hS : ∀ n, SymDoes P enc k w0 blk off key cap g cb N n)
    (L0 : List α) (hN : L0.length = N) (w : World) (S : SWK enc k w0 blk off L0.toArray w) :
    Calls P 32 #[.slice (some ⟨blk, off, none⟩) N cap, .int .i64 N, .func (.func g) #[] cb] w (SymPost enc k w0 blk off (stab key L0)) := by
  have mixed := L.mixed; have t3 := L.t3; have a3 := L.a3; have z3 := L.z3; have v3 := L.v3; have t4 := L.t4; have a4 := L.a4; have z4 := L.z4; have v4 := L.v4; have t22 := L.t22; have a22 := L.a22; have z22 := L.z22; have v22 := L.v22; have aE := L.aE; have zE := L.zE
  have egs : ∀ args w, (callFunc 36 args).run P w = .ok (.enter 36 args) w := enters_of L.f36 (by kernel_rfl) rfl
  have HI := Lib.hid hI
  have HS := Lib.hid hS
  have S0 : Aside (∃ L', Pcs key L0 20 1 0 L' ∧ L'.length = N ∧ SWK enc k w0 blk off L'.toArray w) := ⟨L0, Pcs.start L0 20, hN, S⟩
  have HN := Lib.hid hN
  clear hI hS S hN
  go_enter L.f32, Try.ntmps32
  go_wp2_with fail
  go_loopg [7, 8] N (fun kx s7 s8 wr => ∃ a : Nat, s7 = .int .i64 (a : Int) ∧ s8 = .int .i64 ((a : Int) + 20) ∧ a ≤ N ∧ N - a ≤ kx ∧ Aside (∃ L', Pcs key L0 20 1 a L' ∧ L'.length = N ∧ SWK enc k w0 blk off L'.toArray wr))
  case atStart => exact ⟨0, rfl, rfl, by omega, by omega, S0⟩
  case round =>
    clear S0
    obtain ⟨a, rfl, rfl, ha, hkx, S1⟩ := hrel
    by_cases hlt : a + 20 ≤ N
    · have hltz : (a : Int) + 20 ≤ (N : Int) := by omega
      obtain ⟨L', q1, q2, q3⟩ := S1.out
      obtain ⟨X, M, Y, rfl, hX, hM⟩ := cut3 L' a (a + 20) (by omega) (by omega)
      have hc := HI.out X M Y a (a + 20) hX hM q2 wr q3
      have e1 : ((a + 20 : Nat) : Int) = (a : Int) + 20 := by omega
      rw [e1] at hc
      have S2 : Aside (∃ L', Pcs key L0 20 1 (a + 20) L' ∧ L'.length = N ∧ L' = X ++ (stab key M ++ Y)) := ⟨_, q1.step hX hM (stab_len M) (stab_same M) (stab_sort M) (by decide) (by decide) (.inl rfl), by rw [← q2]; simp only [List.length_append, stab_len], rfl⟩
      have w1 : IntKind.i64.wrap ((a : Int) + 20 + 20) = (a : Int) + 20 + 20 := by rw [IntKind.wrap_i64]; omega
      clear S1 q1 q2 q3 hX hM e1
      go_wp2_with fail
      refine hc.mono ?_
      rintro e w2 ⟨rfl, S3⟩
      have S3 : Aside (SWK enc k w0 blk off (X ++ (stab key M ++ Y)).toArray w2) := S3
      clear hc
      go_wp2_with fail
      go_roundg (N - (a + 20))
      case measure => omega
      case rel =>
        refine ⟨a + 20, by first | go_num | (congr 1; omega), by first | go_num | (congr 1; omega), by omega, Nat.le_refl _, ?_⟩
        obtain ⟨L', q1, q2, q3⟩ := S2.out
        exact ⟨L', q1, q2, by rw [q3]; exact S3.out⟩
    · have hltz : ¬ (a : Int) + 20 ≤ (N : Int) := by omega
      obtain ⟨L', q1, q2, q3⟩ := S1.out
      obtain ⟨X, M, Y, rfl, hX, hM⟩ := cut3 L' a N (by omega) (by omega)
      obtain rfl : Y = [] := List.eq_nil_of_length_eq_zero (by simp only [List.length_append] at q2; omega)
      have hc := HI.out X M [] a N hX hM q2 wr q3
      have S2 : Aside (∃ L', Pcs key L0 40 20 0 L' ∧ L'.length = N ∧ L' = X ++ (stab key M ++ [])) := by
        have h1 := q1.step hX hM (stab_len M) (stab_same M) (stab_sort M) (by decide) (by decide) (.inr ⟨by omega, rfl⟩)
        have h2 : (X ++ (stab key M ++ [])).length = N := by rw [← q2]; simp only [List.length_append, stab_len]
        exact ⟨_, h1.next (by rw [h2]; omega), h2, rfl⟩
      clear S1 q1 q2 q3 hX hM
      go_wp2_with fail
      refine hc.mono ?_
      rintro e w2 ⟨rfl, S3⟩
      have S4 : Aside (∃ L', Pcs key L0 40 20 0 L' ∧ L'.length = N ∧ SWK enc k w0 blk off L'.toArray w2) := by
        obtain ⟨L', q1, q2, q3⟩ := S2.out
        exact ⟨L', q1, q2, by rw [q3]; exact S3⟩
      clear hc S2 S3
      go_wp2_with fail
      go_loopg [6] N (fun kx s6 wr => ∃ s : Nat, s6 = .int .i64 (s : Int) ∧ 0 < s ∧ s < 2000000 + 20 ∧ N - s ≤ kx ∧ Aside (∃ L', Pcs key L0 (2 * s) s 0 L' ∧ L'.length = N ∧ SWK enc k w0 blk off L'.toArray wr))
      case atStart => exact ⟨20, rfl, by omega, by omega, by omega, S4⟩
      case round =>
        clear S4
        obtain ⟨s, rfl, hs0, hs1, hkx, S1⟩ := hrel
        by_cases hlt : s < N
        · have hltz : (s : Int) < (N : Int) := by omega
          have w1 : IntKind.i64.wrap (2 * (s : Int)) = 2 * (s : Int) := by rw [IntKind.wrap_i64]; omega
          have w3 : IntKind.i64.wrap ((s : Int) * 2) = (s : Int) * 2 := by rw [IntKind.wrap_i64]; omega
          go_wp2_with fail
          go_loopg [7, 8] N (fun kx s7 s8 wr => ∃ a : Nat, s7 = .int .i64 (a : Int) ∧ s8 = .int .i64 ((a : Int) + 2 * (s : Int)) ∧ a ≤ N ∧ N - a ≤ kx ∧ Aside (∃ L', Pcs key L0 (2 * s) s a L' ∧ L'.length = N ∧ SWK enc k w0 blk off L'.toArray wr))
          case atStart => exact ⟨0, rfl, by simp, by omega, by omega, S1⟩
          case round =>
            clear S1
            obtain ⟨a, rfl, rfl, ha, hkx2, S1⟩ := hrel
            have wa : IntKind.i64.wrap ((a : Int) + (s : Int)) = (a : Int) + (s : Int) := by rw [IntKind.wrap_i64]; omega
            by_cases hlt2 : a + 2 * s ≤ N
            · have hltz2 : (a : Int) + 2 * (s : Int) ≤ (N : Int) := by omega
              obtain ⟨L', q1, q2, q3⟩ := S1.out
              obtain ⟨X, M, Y, rfl, hX, hM⟩ := cut3 L' a (a + 2 * s) (by omega) (by omega)
              obtain ⟨A, B, rfl, hA, hB⟩ : ∃ A B, M = A ++ B ∧ A.length = s ∧ B.length = s := ⟨M.take s, M.drop s, (List.take_append_drop _ _).symm, by rw [List.length_take]; omega, by rw [List.length_drop]; omega⟩
              have sA : SortK key A := by
                have := q1.hi a (Nat.dvd_trans (Nat.dvd_mul_left s 2) q1.dv) (Nat.le_refl a)
                rwa [List.drop_append_of_le_length (by omega), List.drop_of_length_le (by omega), List.nil_append, List.append_assoc, List.take_append_of_le_length (by omega), List.take_of_length_le (by omega)] at this
              have sB : SortK key B := by
                have := q1.hi (a + s) ((Nat.dvd_add_right (Nat.dvd_trans (Nat.dvd_mul_left s 2) q1.dv)).2 (Nat.dvd_refl s)) (by omega)
                rwa [List.append_assoc, piece_right (by omega), show a + s - X.length - A.length = 0 by omega, List.drop_zero, List.take_append_of_le_length (by omega), List.take_of_length_le (by omega)] at this
              have hc := HS.out (A.length + B.length) X A B Y a (a + s) (a + 2 * s) hX (by omega) (by omega) (by omega) (by omega) (Nat.le_refl _) (by rw [← q2]; simp [List.append_assoc]) sA sB wr (by simpa [List.append_assoc] using q3)
              have e1 : ((a + s : Nat) : Int) = (a : Int) + (s : Int) := by omega
              have e2 : ((a + 2 * s : Nat) : Int) = (a : Int) + 2 * (s : Int) := by omega
              rw [e1, e2] at hc
              have S2 : Aside (∃ L', Pcs key L0 (2 * s) s (a + 2 * s) L' ∧ L'.length = N ∧ L' = X ++ (stab key (A ++ B) ++ Y)) := ⟨_, q1.step hX hM (stab_len _) (stab_same _) (stab_sort _) (Nat.dvd_mul_left s 2) (by omega) (.inl rfl), by rw [← q2]; simp only [List.length_append, stab_len], rfl⟩
              have w4 : IntKind.i64.wrap ((a : Int) + 2 * (s : Int) + 2 * (s : Int)) = (a : Int) + 2 * (s : Int) + 2 * (s : Int) := by rw [IntKind.wrap_i64]; omega
              clear S1 q1 q2 q3 hX hM e1 e2 hA hB sA sB
              go_wp2_with fail
              refine hc.mono ?_
              rintro e w5 ⟨rfl, S3⟩
              have S3 : Aside (SWK enc k w0 blk off (X ++ (stab key (A ++ B) ++ Y)).toArray w5) := S3
              clear hc
              go_wp2_with fail
              go_roundg (N - (a + 2 * s))
              case measure => omega
              case rel =>
                refine ⟨a + 2 * s, by first | go_num | (congr 1; omega), by first | go_num | (congr 1; omega), by omega, Nat.le_refl _, ?_⟩
                obtain ⟨L', q1, q2, q3⟩ := S2.out
                exact ⟨L', q1, q2, by rw [q3]; exact S3.out⟩
            · have hltz2 : ¬ (a : Int) + 2 * (s : Int) ≤ (N : Int) := by omega
              obtain ⟨L', q1, q2, q3⟩ := S1.out
              obtain ⟨X, M, Y, rfl, hX, hM⟩ := cut3 L' a N (by omega) (by omega)
              obtain rfl : Y = [] := List.eq_nil_of_length_eq_zero (by simp only [List.length_append] at q2; omega)
              by_cases hm : a + s < N
              · have hmz : (a : Int) + (s : Int) < (N : Int) := by omega
                obtain ⟨A, B, rfl, hA, hB⟩ : ∃ A B, M = A ++ B ∧ A.length = s ∧ a + s + B.length = N := ⟨M.take s, M.drop s, (List.take_append_drop _ _).symm, by rw [List.length_take]; omega, by rw [List.length_drop]; omega⟩
                have sA : SortK key A := by
                  have := q1.hi a (Nat.dvd_trans (Nat.dvd_mul_left s 2) q1.dv) (Nat.le_refl a)
                  rwa [List.drop_append_of_le_length (by omega), List.drop_of_length_le (by omega), List.nil_append, List.append_assoc, List.take_append_of_le_length (by omega), List.take_of_length_le (by omega)] at this
                have sB : SortK key B := by
                  have := q1.hi (a + s) ((Nat.dvd_add_right (Nat.dvd_trans (Nat.dvd_mul_left s 2) q1.dv)).2 (Nat.dvd_refl s)) (by omega)
                  rwa [List.append_assoc, piece_right (by omega), show a + s - X.length - A.length = 0 by omega, List.drop_zero, List.append_nil, List.take_of_length_le (by omega)] at this
                have hc := HS.out (A.length + B.length) X A B [] a (a + s) N hX (by omega) (by omega) (by omega) (by omega) (Nat.le_refl _) (by rw [← q2]; simp [List.append_assoc]) sA sB wr (by simpa [List.append_assoc] using q3)
                have e1 : ((a + s : Nat) : Int) = (a : Int) + (s : Int) := by omega
                rw [e1] at hc
                have S2 : Aside (∃ L', Pcs key L0 (2 * (2 * s)) (2 * s) 0 L' ∧ L'.length = N ∧ L' = X ++ (stab key (A ++ B) ++ [])) := by
                  have h1 := q1.step hX hM (stab_len _) (stab_same _) (stab_sort _) (Nat.dvd_mul_left s 2) (by omega) (.inr ⟨by omega, rfl⟩)
                  have h2 : (X ++ (stab key (A ++ B) ++ [])).length = N := by rw [← q2]; simp only [List.length_append, stab_len]
                  exact ⟨_, h1.next (by rw [h2]; omega), h2, rfl⟩
                clear S1 q1 q2 q3 hX hM e1 hA hB sA sB
                go_wp2_with fail
                refine hc.mono ?_
                rintro e w5 ⟨rfl, S3⟩
                have S3 : Aside (SWK enc k w0 blk off (X ++ (stab key (A ++ B) ++ [])).toArray w5) := S3
                clear hc
                go_wp2_with fail
                go_roundg (N - 2 * s)
                case measure => omega
                case rel =>
                  refine ⟨2 * s, by first | go_num | (congr 1; omega), by omega, by omega, by omega, ?_⟩
                  obtain ⟨L', q1, q2, q3⟩ := S2.out
                  exact ⟨L', q1, q2, by rw [q3]; exact S3.out⟩
              · have hmz : ¬ (a : Int) + (s : Int) < (N : Int) := by omega
                have sM : SortK key M := by
                  have := q1.hi a (Nat.dvd_trans (Nat.dvd_mul_left s 2) q1.dv) (Nat.le_refl a)
                  rwa [List.drop_append_of_le_length (by omega), List.drop_of_length_le (by omega), List.nil_append, List.append_nil, List.take_of_length_le (by omega)] at this
                have S2 : Aside (∃ L', Pcs key L0 (2 * (2 * s)) (2 * s) 0 L' ∧ L'.length = N ∧ SWK enc k w0 blk off L'.toArray wr) := by
                  have h1 := q1.step hX hM rfl (Same2.rfl' M) sM (Nat.dvd_mul_left s 2) (by omega) (.inr ⟨by omega, rfl⟩)
                  exact ⟨_, h1.next (by rw [q2]; omega), q2, q3⟩
                clear S1 q1 q2 q3 hX hM sM
                go_wp2_with fail
                go_roundg (N - 2 * s)
                case measure => omega
                case rel => exact ⟨2 * s, by first | go_num | (congr 1; omega), by omega, by omega, by omega, S2⟩
        · have hltz : ¬ (s : Int) < (N : Int) := by omega
          have SF : Aside (SWK enc k w0 blk off (stab key L0).toArray wr) := by
            obtain ⟨L', q1, q2, q3⟩ := S1.out
            rw [q1.done (by omega)] at q3
            exact q3
          clear S1
          go_wp2_with fail
          go_end0
          exact ⟨rfl, SF.out⟩
end Go.Proofs.Ytjlgodaiciopaaa
