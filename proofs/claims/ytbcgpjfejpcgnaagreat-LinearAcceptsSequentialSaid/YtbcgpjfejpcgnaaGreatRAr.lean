/- Lemmas on the way to LinearAcceptsSequential. No condition. -/
import Derived.Test.YtbcgpjfejpcgnaaGreatRAd
import Derived.Test.YtbcgpjfejpcgnaaGreatRAi
import Derived.Test.YtbcgpjfejpcgnaaGreatRAo
import Derived.Test.YtbcgpjfejpcgnaaGreatRAq
import Derived.Deep.CutBlock
import Derived.Deep.RegionHeld3
import Derived.Lib.Hide
set_option linter.unusedSimpArgs false
set_option linter.unusedVariables false
set_option linter.unusedSectionVars false
section
namespace Go.Proofs.YtbcgpjfejpcgnaaGreat
open Go.RowKit Go.Shelf Go.Lib Go.Sort
set_option linter.unusedSectionVars false
set_option linter.unusedVariables false
set_option linter.unusedSimpArgs false
theorem CmpLays.on {P : Program} {α : Type} [Inhabited α] {g : Nat} {cb : Array Value} {enc : α → List Value} {k : Nat} {cf : α → α → Int} {blk off : Nat} {w0 : World} {size : Nat} (h : CmpLays P g cb enc k cf blk off size w0) (hblk : blk < w0.heap.size) (n : Nat) (dk : Array α) (hs : dk.size = size) (os : Array Obj) :
    CmpLays P g cb enc k cf blk off size (sortWorldK enc k w0 blk off n dk os) := by
  intro m os' dk' hs' x y
  rw [sortWorldK_on enc k w0 blk off n m dk dk' os os' hblk (by rw [hs, hs'])]
  exact h _ _ dk' hs' x y
variable {P : Program} {α : Type} [Inhabited α] {enc : α → List Value} {k : Nat} {w0 : World} {blk off : Nat} {d0 : Array α}
def InsDoes (P : Program) (enc : α → List Value) (k : Nat) (w0 : World) (blk off : Nat) (key : α → Int) (cap g : Nat) (cb : Array Value) (N : Nat) : Prop :=
  ∀ (X M Y : List α) (a b : Nat), X.length = a → a + M.length = b → (X ++ (M ++ Y)).length = N → ∀ w, SWK enc k w0 blk off (X ++ (M ++ Y)).toArray w →
    Calls P 72 #[.slice (some ⟨blk, off, none⟩) N cap, .int .i64 a, .int .i64 b, .func (.func g) #[] cb] w (SymPost enc k w0 blk off (X ++ (stab key M ++ Y)))
theorem dvd_step {d p a : Nat} (hp : d ∣ p) (ha : d ∣ a) (h : p < a) : p + d ≤ a := by
  obtain ⟨x, rfl⟩ := hp
  obtain ⟨y, rfl⟩ := ha
  have hxy : x < y := by
    rcases Nat.lt_or_ge x y with h1 | h1
    · exact h1
    · have := Nat.mul_le_mul_left d h1; omega
  have := Nat.mul_le_mul_left d (show x + 1 ≤ y from hxy)
  rw [Nat.mul_add, Nat.mul_one] at this
  exact this
theorem piece_left {X R : List α} {p l : Nat} (h : p + l ≤ X.length) : ((X ++ R).drop p).take l = (X.drop p).take l := by
  rw [List.drop_append_of_le_length (by omega), List.take_append_of_le_length (by rw [List.length_drop]; omega)]
theorem piece_right {X M Y : List α} {p l : Nat} (h : X.length + M.length ≤ p) : ((X ++ (M ++ Y)).drop p).take l = (Y.drop (p - X.length - M.length)).take l := by
  rw [List.drop_append, List.drop_of_length_le (by omega), List.nil_append, List.drop_append, List.drop_of_length_le (by omega), List.nil_append]
structure Pcs (key : α → Int) (L0 : List α) (r s a : Nat) (L : List α) : Prop where
  same : Same2 key L0 L
  len : L.length = L0.length
  lo : ∀ p, r ∣ p → p < a → SortK key ((L.drop p).take r)
  hi : ∀ p, s ∣ p → a ≤ p → SortK key ((L.drop p).take s)
  dv : r ∣ a
theorem SortK.piece {key : α → Int} {L : List α} (h : SortK key L) (p l : Nat) : SortK key ((L.drop p).take l) := h.sublist ((List.take_sublist _ _).trans (List.drop_sublist _ _))
theorem Pcs.step {key : α → Int} {L0 X M M' Y : List α} {r s a b : Nat} (h : Pcs key L0 r s a (X ++ (M ++ Y))) (hX : X.length = a) (hM : a + M.length = b) (hl : M'.length = M.length) (hs : Same2 key M M') (hsort : SortK key M') (hsr : s ∣ r) (hr : 0 < r)
    (hb : b = a + r ∨ (b ≤ a + r ∧ Y = [])) : Pcs key L0 r s (a + r) (X ++ (M' ++ Y)) := by
  refine ⟨h.same.trans ((Same2.rfl' X).app (hs.app (Same2.rfl' Y))), by rw [← h.len]; simp only [List.length_append, hl], fun p hp hlt => ?_, fun p hp hle => ?_, (Nat.dvd_add_right h.dv).2 (Nat.dvd_refl r)⟩
  · rcases Nat.lt_or_ge p a with h1 | h1
    · have h2 := dvd_step hp h.dv h1
      have := h.lo p hp h1
      rw [piece_left (by omega)] at this ⊢
      exact this
    · obtain rfl : p = a := by
        have h3 : p < a + r := hlt
        rcases Nat.eq_or_lt_of_le h1 with h4 | h4
        · exact h4.symm
        · have := dvd_step h.dv hp h4; omega
      have e : ((X ++ (M' ++ Y)).drop p).take r = M' := by
        rw [List.drop_append_of_le_length (by omega), List.drop_of_length_le (by omega), List.nil_append]
        rcases hb with hb | ⟨hb, rfl⟩
        · rw [List.take_append_of_le_length (by omega), List.take_of_length_le (by omega)]
        · rw [List.append_nil, List.take_of_length_le (by omega)]
      rw [e]; exact hsort
  · rcases hb with hb | ⟨hb, rfl⟩
    · have := h.hi p hp (by omega)
      rw [piece_right (by omega)] at this ⊢
      rw [hl]; exact this
    · have : ((X ++ (M' ++ [])).drop p).take s = [] := by
        rw [List.drop_of_length_le (by simp; omega)]; simp
      rw [this]; exact List.Pairwise.nil
theorem Pcs.next {key : α → Int} {L0 L : List α} {r s a : Nat} (h : Pcs key L0 r s a L) (ha : L.length ≤ a) : Pcs key L0 (2 * r) r 0 L :=
  ⟨h.same, h.len, fun p _ hp => by omega, fun p hp _ => by
    rcases Nat.lt_or_ge p a with h1 | h1
    · exact h.lo p hp h1
    · rw [List.drop_of_length_le (by omega)]; simp [SortK], Nat.dvd_zero _⟩
theorem Pcs.done {key : α → Int} {L0 L : List α} {r s : Nat} (h : Pcs key L0 r s 0 L) (hs : L.length ≤ s) : L = stab key L0 := by
  have := h.hi 0 (Nat.dvd_zero s) (Nat.le_refl 0)
  rw [List.drop_zero, List.take_of_length_le hs] at this
  exact stab_eq this h.same
theorem Pcs.start {key : α → Int} (L0 : List α) (r : Nat) : Pcs key L0 r 1 0 L0 :=
  ⟨Same2.rfl' _, rfl, fun p _ hp => by omega, fun p _ _ => by
    match h : (L0.drop p).take 1 with
    | [] => exact List.Pairwise.nil
    | [_] => exact List.pairwise_singleton _ _
    | a :: b :: l => have := congrArg List.length h; rw [List.length_take] at this; simp at this; omega, Nat.dvd_zero _⟩
theorem cut3 (L : List α) (a b : Nat) (hab : a ≤ b) (hb : b ≤ L.length) : ∃ X M Y, L = X ++ (M ++ Y) ∧ X.length = a ∧ a + M.length = b :=
  ⟨L.take a, (L.drop a).take (b - a), (L.drop a).drop (b - a), by rw [List.take_append_drop, List.take_append_drop], by rw [List.length_take]; omega, by rw [List.length_take, List.length_drop]; omega⟩
set_option maxHeartbeats 4000000 in
set_option maxRecDepth 1000000 in
theorem stable_any (L : SL P k) (egi : ∀ args w, (callFunc 72 args).run P w = .ok (.enter 72 args) w) (key : α → Int) (cap g : Nat) (cb : Array Value) (N : Nat) (hsz : N < 1000000) (hI : InsDoes P enc k w0 blk off key cap g cb N) (hS : ∀ n, SymDoes P enc k w0 blk off key cap g cb N n)
    (L0 : List α) (hN : L0.length = N) (w : World) (S : SWK enc k w0 blk off L0.toArray w) :
    Calls P 59 #[.slice (some ⟨blk, off, none⟩) N cap, .int .i64 N, .func (.func g) #[] cb] w (SymPost enc k w0 blk off (stab key L0)) := by
  have mixed := L.mixed; have t3 := L.t3; have a3 := L.a3; have z3 := L.z3; have v3 := L.v3; have t4 := L.t4; have a4 := L.a4; have z4 := L.z4; have v4 := L.v4; have t22 := L.t25; have a22 := L.a25; have z22 := L.z25; have v22 := L.v25; have aE := L.aE; have zE := L.zE
  have egs : ∀ args w, (callFunc 73 args).run P w = .ok (.enter 73 args) w := enters_of L.f73 (by kernel_rfl) rfl
  have HI := Lib.hid hI
  have HS := Lib.hid hS
  have S0 : Aside (∃ L', Pcs key L0 20 1 0 L' ∧ L'.length = N ∧ SWK enc k w0 blk off L'.toArray w) := ⟨L0, Pcs.start L0 20, hN, S⟩
  have HN := Lib.hid hN
  clear hI hS S hN
  go_enter L.f59, Tryz.ntmps59
  go_wp2_with fail
  go_loopg [7, 8] N (fun kx s7 s8 wr => ∃ a : Nat, s7 = .int .i64 (a : Int) ∧ s8 = .int .i64 ((a : Int) + 20) ∧ a ≤ N ∧ N - a ≤ kx ∧ Aside (∃ L', Pcs key L0 20 1 a L' ∧ L'.length = N ∧ SWK enc k w0 blk off L'.toArray wr))
  case atStart => exact ⟨0, rfl, rfl, by omega, by omega, S0⟩
  case round =>
    clear S0
    obtain ⟨a, rfl, rfl, ha, hkx, S1⟩ := hrel
    by_cases hlt : a + 20 ≤ N
    · have hltz : (a : Int) + 20 ≤ (N : Int) := by omega
      obtain ⟨L', q1, q2, q3⟩ := S1.out
      obtain ⟨X, M, Y, rfl, hX, hM⟩ := cut3 L' a (a + 20) (by omega) (by omega)
      have hc := HI.out X M Y a (a + 20) hX hM q2 wr q3
      have e1 : ((a + 20 : Nat) : Int) = (a : Int) + 20 := by omega
      rw [e1] at hc
      have S2 : Aside (∃ L', Pcs key L0 20 1 (a + 20) L' ∧ L'.length = N ∧ L' = X ++ (stab key M ++ Y)) := ⟨_, q1.step hX hM (stab_len M) (stab_same M) (stab_sort M) (by decide) (by decide) (.inl rfl), by rw [← q2]; simp only [List.length_append, stab_len], rfl⟩
      have w1 : IntKind.i64.wrap ((a : Int) + 20 + 20) = (a : Int) + 20 + 20 := by rw [IntKind.wrap_i64]; omega
      clear S1 q1 q2 q3 hX hM e1
      go_wp2_with fail
      refine hc.mono ?_
      rintro e w2 ⟨rfl, S3⟩
      have S3 : Aside (SWK enc k w0 blk off (X ++ (stab key M ++ Y)).toArray w2) := S3
      clear hc
      go_wp2_with fail
      go_roundg (N - (a + 20))
      case measure => omega
      case rel =>
        refine ⟨a + 20, by first | go_num | (congr 1; omega), by first | go_num | (congr 1; omega), by omega, Nat.le_refl _, ?_⟩
        obtain ⟨L', q1, q2, q3⟩ := S2.out
        exact ⟨L', q1, q2, by rw [q3]; exact S3.out⟩
    · have hltz : ¬ (a : Int) + 20 ≤ (N : Int) := by omega
      obtain ⟨L', q1, q2, q3⟩ := S1.out
      obtain ⟨X, M, Y, rfl, hX, hM⟩ := cut3 L' a N (by omega) (by omega)
      obtain rfl : Y = [] := List.eq_nil_of_length_eq_zero (by simp only [List.length_append] at q2; omega)
      have hc := HI.out X M [] a N hX hM q2 wr q3
      have S2 : Aside (∃ L', Pcs key L0 40 20 0 L' ∧ L'.length = N ∧ L' = X ++ (stab key M ++ [])) := by
        have h1 := q1.step hX hM (stab_len M) (stab_same M) (stab_sort M) (by decide) (by decide) (.inr ⟨by omega, rfl⟩)
        have h2 : (X ++ (stab key M ++ [])).length = N := by rw [← q2]; simp only [List.length_append, stab_len]
        exact ⟨_, h1.next (by rw [h2]; omega), h2, rfl⟩
      clear S1 q1 q2 q3 hX hM
      go_wp2_with fail
      refine hc.mono ?_
      rintro e w2 ⟨rfl, S3⟩
      have S4 : Aside (∃ L', Pcs key L0 40 20 0 L' ∧ L'.length = N ∧ SWK enc k w0 blk off L'.toArray w2) := by
        obtain ⟨L', q1, q2, q3⟩ := S2.out
        exact ⟨L', q1, q2, by rw [q3]; exact S3⟩
      clear hc S2 S3
      go_wp2_with fail
      go_loopg [6] N (fun kx s6 wr => ∃ s : Nat, s6 = .int .i64 (s : Int) ∧ 0 < s ∧ s < 2000000 + 20 ∧ N - s ≤ kx ∧ Aside (∃ L', Pcs key L0 (2 * s) s 0 L' ∧ L'.length = N ∧ SWK enc k w0 blk off L'.toArray wr))
      case atStart => exact ⟨20, rfl, by omega, by omega, by omega, S4⟩
      case round =>
        clear S4
        obtain ⟨s, rfl, hs0, hs1, hkx, S1⟩ := hrel
        by_cases hlt : s < N
        · have hltz : (s : Int) < (N : Int) := by omega
          have w1 : IntKind.i64.wrap (2 * (s : Int)) = 2 * (s : Int) := by rw [IntKind.wrap_i64]; omega
          have w3 : IntKind.i64.wrap ((s : Int) * 2) = (s : Int) * 2 := by rw [IntKind.wrap_i64]; omega
          go_wp2_with fail
          go_loopg [7, 8] N (fun kx s7 s8 wr => ∃ a : Nat, s7 = .int .i64 (a : Int) ∧ s8 = .int .i64 ((a : Int) + 2 * (s : Int)) ∧ a ≤ N ∧ N - a ≤ kx ∧ Aside (∃ L', Pcs key L0 (2 * s) s a L' ∧ L'.length = N ∧ SWK enc k w0 blk off L'.toArray wr))
          case atStart => exact ⟨0, rfl, by simp, by omega, by omega, S1⟩
          case round =>
            clear S1
            obtain ⟨a, rfl, rfl, ha, hkx2, S1⟩ := hrel
            have wa : IntKind.i64.wrap ((a : Int) + (s : Int)) = (a : Int) + (s : Int) := by rw [IntKind.wrap_i64]; omega
            by_cases hlt2 : a + 2 * s ≤ N
            · have hltz2 : (a : Int) + 2 * (s : Int) ≤ (N : Int) := by omega
              obtain ⟨L', q1, q2, q3⟩ := S1.out
              obtain ⟨X, M, Y, rfl, hX, hM⟩ := cut3 L' a (a + 2 * s) (by omega) (by omega)
              obtain ⟨A, B, rfl, hA, hB⟩ : ∃ A B, M = A ++ B ∧ A.length = s ∧ B.length = s := ⟨M.take s, M.drop s, (List.take_append_drop _ _).symm, by rw [List.length_take]; omega, by rw [List.length_drop]; omega⟩
              have sA : SortK key A := by
                have := q1.hi a (Nat.dvd_trans (Nat.dvd_mul_left s 2) q1.dv) (Nat.le_refl a)
                rwa [List.drop_append_of_le_length (by omega), List.drop_of_length_le (by omega), List.nil_append, List.append_assoc, List.take_append_of_le_length (by omega), List.take_of_length_le (by omega)] at this
              have sB : SortK key B := by
                have := q1.hi (a + s) ((Nat.dvd_add_right (Nat.dvd_trans (Nat.dvd_mul_left s 2) q1.dv)).2 (Nat.dvd_refl s)) (by omega)
                rwa [List.append_assoc, piece_right (by omega), show a + s - X.length - A.length = 0 by omega, List.drop_zero, List.take_append_of_le_length (by omega), List.take_of_length_le (by omega)] at this
              have hc := HS.out (A.length + B.length) X A B Y a (a + s) (a + 2 * s) hX (by omega) (by omega) (by omega) (by omega) (Nat.le_refl _) (by rw [← q2]; simp [List.append_assoc]) sA sB wr (by simpa [List.append_assoc] using q3)
              have e1 : ((a + s : Nat) : Int) = (a : Int) + (s : Int) := by omega
              have e2 : ((a + 2 * s : Nat) : Int) = (a : Int) + 2 * (s : Int) := by omega
              rw [e1, e2] at hc
              have S2 : Aside (∃ L', Pcs key L0 (2 * s) s (a + 2 * s) L' ∧ L'.length = N ∧ L' = X ++ (stab key (A ++ B) ++ Y)) := ⟨_, q1.step hX hM (stab_len _) (stab_same _) (stab_sort _) (Nat.dvd_mul_left s 2) (by omega) (.inl rfl), by rw [← q2]; simp only [List.length_append, stab_len], rfl⟩
              have w4 : IntKind.i64.wrap ((a : Int) + 2 * (s : Int) + 2 * (s : Int)) = (a : Int) + 2 * (s : Int) + 2 * (s : Int) := by rw [IntKind.wrap_i64]; omega
              clear S1 q1 q2 q3 hX hM e1 e2 hA hB sA sB
              go_wp2_with fail
              refine hc.mono ?_
              rintro e w5 ⟨rfl, S3⟩
              have S3 : Aside (SWK enc k w0 blk off (X ++ (stab key (A ++ B) ++ Y)).toArray w5) := S3
              clear hc
              go_wp2_with fail
              go_roundg (N - (a + 2 * s))
              case measure => omega
              case rel =>
                refine ⟨a + 2 * s, by first | go_num | (congr 1; omega), by first | go_num | (congr 1; omega), by omega, Nat.le_refl _, ?_⟩
                obtain ⟨L', q1, q2, q3⟩ := S2.out
                exact ⟨L', q1, q2, by rw [q3]; exact S3.out⟩
            · have hltz2 : ¬ (a : Int) + 2 * (s : Int) ≤ (N : Int) := by omega
              obtain ⟨L', q1, q2, q3⟩ := S1.out
              obtain ⟨X, M, Y, rfl, hX, hM⟩ := cut3 L' a N (by omega) (by omega)
              obtain rfl : Y = [] := List.eq_nil_of_length_eq_zero (by simp only [List.length_append] at q2; omega)
              by_cases hm : a + s < N
              · have hmz : (a : Int) + (s : Int) < (N : Int) := by omega
                obtain ⟨A, B, rfl, hA, hB⟩ : ∃ A B, M = A ++ B ∧ A.length = s ∧ a + s + B.length = N := ⟨M.take s, M.drop s, (List.take_append_drop _ _).symm, by rw [List.length_take]; omega, by rw [List.length_drop]; omega⟩
                have sA : SortK key A := by
                  have := q1.hi a (Nat.dvd_trans (Nat.dvd_mul_left s 2) q1.dv) (Nat.le_refl a)
                  rwa [List.drop_append_of_le_length (by omega), List.drop_of_length_le (by omega), List.nil_append, List.append_assoc, List.take_append_of_le_length (by omega), List.take_of_length_le (by omega)] at this
                have sB : SortK key B := by
                  have := q1.hi (a + s) ((Nat.dvd_add_right (Nat.dvd_trans (Nat.dvd_mul_left s 2) q1.dv)).2 (Nat.dvd_refl s)) (by omega)
                  rwa [List.append_assoc, piece_right (by omega), show a + s - X.length - A.length = 0 by omega, List.drop_zero, List.append_nil, List.take_of_length_le (by omega)] at this
                have hc := HS.out (A.length + B.length) X A B [] a (a + s) N hX (by omega) (by omega) (by omega) (by omega) (Nat.le_refl _) (by rw [← q2]; simp [List.append_assoc]) sA sB wr (by simpa [List.append_assoc] using q3)
                have e1 : ((a + s : Nat) : Int) = (a : Int) + (s : Int) := by omega
                rw [e1] at hc
                have S2 : Aside (∃ L', Pcs key L0 (2 * (2 * s)) (2 * s) 0 L' ∧ L'.length = N ∧ L' = X ++ (stab key (A ++ B) ++ [])) := by
                  have h1 := q1.step hX hM (stab_len _) (stab_same _) (stab_sort _) (Nat.dvd_mul_left s 2) (by omega) (.inr ⟨by omega, rfl⟩)
                  have h2 : (X ++ (stab key (A ++ B) ++ [])).length = N := by rw [← q2]; simp only [List.length_append, stab_len]
                  exact ⟨_, h1.next (by rw [h2]; omega), h2, rfl⟩
                clear S1 q1 q2 q3 hX hM e1 hA hB sA sB
                go_wp2_with fail
                refine hc.mono ?_
                rintro e w5 ⟨rfl, S3⟩
                have S3 : Aside (SWK enc k w0 blk off (X ++ (stab key (A ++ B) ++ [])).toArray w5) := S3
                clear hc
                go_wp2_with fail
                go_roundg (N - 2 * s)
                case measure => omega
                case rel =>
                  refine ⟨2 * s, by first | go_num | (congr 1; omega), by omega, by omega, by omega, ?_⟩
                  obtain ⟨L', q1, q2, q3⟩ := S2.out
                  exact ⟨L', q1, q2, by rw [q3]; exact S3.out⟩
              · have hmz : ¬ (a : Int) + (s : Int) < (N : Int) := by omega
                have sM : SortK key M := by
                  have := q1.hi a (Nat.dvd_trans (Nat.dvd_mul_left s 2) q1.dv) (Nat.le_refl a)
                  rwa [List.drop_append_of_le_length (by omega), List.drop_of_length_le (by omega), List.nil_append, List.append_nil, List.take_of_length_le (by omega)] at this
                have S2 : Aside (∃ L', Pcs key L0 (2 * (2 * s)) (2 * s) 0 L' ∧ L'.length = N ∧ SWK enc k w0 blk off L'.toArray wr) := by
                  have h1 := q1.step hX hM rfl (Same2.rfl' M) sM (Nat.dvd_mul_left s 2) (by omega) (.inr ⟨by omega, rfl⟩)
                  exact ⟨_, h1.next (by rw [q2]; omega), q2, q3⟩
                clear S1 q1 q2 q3 hX hM sM
                go_wp2_with fail
                go_roundg (N - 2 * s)
                case measure => omega
                case rel => exact ⟨2 * s, by first | go_num | (congr 1; omega), by omega, by omega, by omega, S2⟩
        · have hltz : ¬ (s : Int) < (N : Int) := by omega
          have SF : Aside (SWK enc k w0 blk off (stab key L0).toArray wr) := by
            obtain ⟨L', q1, q2, q3⟩ := S1.out
            rw [q1.done (by omega)] at q3
            exact q3
          clear S1
          go_wp2_with fail
          go_end0
          exact ⟨rfl, SF.out⟩
end Go.Proofs.YtbcgpjfejpcgnaaGreat
end
section
namespace Go.Proofs.YtbcgpjfejpcgnaaGreat
open Go.RowKit Go.Shelf Go.Lib Go.Sort
set_option maxRecDepth 100000
set_option maxHeartbeats 1000000
def keyP (x : RV) : Int := x.n.pt
def cfP (x y : RV) : Int := cmpI x.n.pt y.n.pt
theorem cfP_lt (x y : RV) : (cfP x y < 0) = (keyP x < keyP y) := by
  unfold cfP cmpI keyP
  by_cases h : x.n.pt < y.n.pt
  · rw [if_pos h]; simp [h]
  · rw [if_neg h]
    by_cases h' : y.n.pt < x.n.pt
    · rw [if_pos h']; simp [h]
    · rw [if_neg h']; simp [h]
theorem flat_at (ys : List RV) (t : Nat) (ht : t < ys.length * 16) (r : List Value) : (rCs ys ++ r)[t]? = some (flatK rC 16 ys.toArray)[t]! := by
  rw [get_flatK _ _ _ t (by simpa using ht)]
  have hq : t / 16 < ys.length := by omega
  have hx : ys[t / 16]? = some ys[t / 16] := List.getElem?_eq_getElem hq
  have h := rCs_cells ys r (t / 16) _ hx (t % 16) (by omega)
  rw [show t / 16 * 16 + t % 16 = t by omega] at h
  have e : ys.toArray[t / 16]! = ys[t / 16] := by rw [List.getElem!_toArray]; exact getElem!_pos ys (t / 16) hq
  rw [h, e, getElem!_pos (rC ys[t / 16]) (t % 16) (by rw [rC_len]; omega)]
  exact List.getElem?_eq_getElem _
theorem holds_of_blk {w : World} {g : Nat} {ys : List RV} {rest : List Value} (h : Blk w g (rCs ys ++ rest)) : HoldsK rC 16 w g 0 ys.toArray := fun j hj => by
  have hj' : j < ys.length * 16 := by simpa using hj
  exact ⟨by rw [h.cell, Nat.zero_add]; exact flat_at ys j hj' rest, h.frozen _⟩
theorem blk_of_swk {w w' : World} {g : Nat} {ys T : List RV} {rest : List Value} (h : Blk w g (rCs ys ++ rest)) (hl : T.length = ys.length) (S : SWK rC 16 w g 0 T.toArray w') : Blk w' g (rCs T ++ rest) ∧ Keeps [g] w w' := by
  obtain ⟨n, os, rfl⟩ := S
  obtain ⟨ty, hc⟩ := h
  have hlt := (Array.getElem?_eq_some_iff.1 hc).1
  have hsz : (putRowK rC 16 (Sort.ahead w n) g 0 T.toArray).heap.size = w.heap.size := by rw [size_putRowK]; rfl
  constructor
  · refine ⟨ty, ?_⟩
    unfold sortWorldK
    rw [heap_grow_old _ _ (by rw [hsz]; exact hlt)]
    unfold putRowK putRow mapBlock
    show (w.heap.modify g _)[g]? = _
    rw [Array.getElem?_modify, if_pos rfl, hc]
    simp only [Option.map_some, onCells]
    congr 2
    unfold putCells
    apply Array.ext_getElem?
    intro k
    rw [Array.getElem?_mapIdx]
    simp only [List.getElem?_toArray, size_flatK, List.size_toArray, Nat.zero_add, Nat.zero_le, true_and, Nat.sub_zero, id]
    by_cases hk : k < T.length * 16
    · rw [List.getElem?_append_left (by rw [rCs_len]; omega), List.getElem?_eq_getElem (by rw [rCs_len]; omega)]
      simp only [Option.map_some, if_pos hk]
      exact (flat_at T k hk rest).symm
    · simp only [if_neg hk]
      rw [List.getElem?_append_right (by rw [rCs_len]; omega), List.getElem?_append_right (by rw [rCs_len]; omega), rCs_len, rCs_len, hl]
      simp
  · refine ⟨rfl, rfl, rfl, ?_, fun k hk hn => ?_⟩
    · unfold sortWorldK; rw [size_grow, hsz]; omega
    · unfold sortWorldK
      rw [heap_grow_old _ _ (by rw [hsz]; exact hk)]
      unfold putRowK putRow mapBlock
      show (w.heap.modify g _)[k]? = _
      rw [Array.getElem?_modify, if_neg (by simp at hn; exact fun e => hn e.symm)]
theorem ins_nilR (w : World) : Calls Tryz.prog 72 #[.slice none 0 0, .int .i64 0, .int .i64 0, .func (.func 46) #[] #[]] w fun e w' => e = .returned (.tuple #[]) ∧ w' = w := by
  go_enter Tryz.func72, Tryz.ntmps72
  go_wp2_with fail
  go_loopw [8] (fun i wr => i = .int .i64 1 ∧ wr = w) (fun _ _ => 0)
  case atStart => exact ⟨rfl, rfl⟩
  case round =>
    obtain ⟨rfl, rfl⟩ := hrel
    go_wp2_with fail
    go_end0
    exact ⟨rfl, rfl⟩
theorem stab_nil (w : World) : Calls Tryz.prog 59 #[.slice none 0 0, .int .i64 0, .func (.func 46) #[] #[]] w fun e w' => e = .returned (.tuple #[]) ∧ w' = w := by
  go_enter Tryz.func59, Tryz.ntmps59
  go_wp2_with fail
  go_loopw [7, 8] (fun i j wr => i = .int .i64 0 ∧ j = .int .i64 20 ∧ wr = w) (fun _ _ _ => 0)
  case atStart => exact ⟨rfl, rfl, rfl⟩
  case round =>
    obtain ⟨rfl, rfl, rfl⟩ := hrel
    go_wp2_with fail
    refine (ins_nilR _).mono ?_
    rintro e w1 ⟨rfl, rfl⟩
    go_wp2_with fail
    go_loopw [6] (fun i wr => i = .int .i64 20 ∧ wr = w1) (fun _ _ => 0)
    case atStart => exact ⟨rfl, rfl⟩
    case round =>
      obtain ⟨rfl, rfl⟩ := hrel
      go_wp2_with fail
      go_end0
      exact ⟨rfl, rfl⟩
theorem sort_anyR (ys : List RV) (hn : ys.length ≤ 1000) (v : Value) (base : Nat) (w : World) (h : Pk w base v ys) :
    Calls Tryz.prog 45 #[v, .func (.func 46) #[] #[]] w fun e w' => e = .returned (.tuple #[]) ∧ Pk w' base v (stab keyP ys) ∧ Keeps v.ownBlock.toList w w' := by
  obtain ⟨⟨h1, h2⟩, hok, hge⟩ := h
  rcases h2 with ⟨rfl, h0⟩ | ⟨g, cap, rest, rfl, hb, h3, h4, h5⟩
  · obtain rfl := List.eq_nil_of_length_eq_zero h0
    go_enter Tryz.func45, Tryz.ntmps45
    go_wp2_with fail
    refine (stab_nil _).mono ?_
    rintro e w1 ⟨rfl, rfl⟩
    go_wp2_with fail
    go_end0
    exact ⟨rfl, Pk.nil _ _, Keeps.refl _ _⟩
  · have hH := holds_of_blk hb
    have R : RowK rC 16 w g 0 ys.toArray := ⟨rC_len, rC_one, hH, hb.lt⟩
    have S0 : SWK rC 16 w g 0 ys.toArray w := SWK.start hH
    have eg : ∀ args w, (callFunc 46 args).run Tryz.prog w = .ok (.enter 46 args) w := enters_of Tryz.func46 (by kernel_rfl) rfl
    have egi : ∀ args w, (callFunc 72 args).run Tryz.prog w = .ok (.enter 72 args) w := enters_of Tryz.func72 (by kernel_rfl) rfl
    have hC : CmpLays Tryz.prog 46 #[] rC 16 cfP g 0 ys.toArray.size w := fun m os dk hs x y => by
      refine (o2_any x y _).mono ?_
      rintro e w' ⟨rfl, os', rfl⟩
      exact ⟨rfl, 0, os', rfl⟩
    have hd : ys.toArray.size = ys.length := by simp
    have hI : InsDoes Tryz.prog rC 16 w g 0 keyP cap 46 #[] ys.length := fun X M Y a b hX hM hN w1 S1 => by
      have hsz : (X ++ (M ++ Y)).toArray.size = ys.length := by simpa using hN
      have hH1 := S1.holds R.hblk R.hH (by rw [hsz, hd])
      have hlt1 := S1.lt R.hblk
      have := AnyQ.insertionSortCmpFunc Tryz.ins72 16 Tryz.isAgg34 Tryz.sizeOf34 rC rC_len rC_one cfP 46 #[] g 0 cap a b (X ++ (M ++ Y)).toArray w1 eg
        (fun m os dk hs x y => by
          refine (o2_any x y _).mono ?_
          rintro e w' ⟨rfl, os', rfl⟩
          exact ⟨rfl, 0, os', rfl⟩) hH1 hlt1 (by omega) (by rw [hsz, ← hN]; simp; omega) (by rw [hsz]; omega)
      rw [hsz] at this
      refine this.mono ?_
      rintro e w2 ⟨rfl, n, os, rfl⟩
      refine ⟨rfl, ?_⟩
      have hlt : ltOf cfP = ltK keyP := by
        funext x y
        unfold ltOf ltK
        exact decide_eq_decide.2 (iff_of_eq (cfP_lt x y))
      rw [hlt, insertion_stab keyP X M Y a b hX hM]
      exact S1.on R.hblk n _ os (by simp [stab_len])
    have hS := sym_any sl R keyP cfP cap 46 #[] eg cfP_lt hC ys.length hd (by omega)
    have hst := stable_any sl egi keyP cap 46 #[] ys.length (by omega) hI hS ys rfl w S0
    have HB := Lib.hid hb
    have HO := Lib.hid hok
    have HG := Lib.hid hge
    obtain ⟨n, hn'⟩ : ∃ n, ys.length = n := ⟨_, rfl⟩
    have hlt := hb.lt
    rw [hn'] at hst hn h3 ⊢
    have HL := Lib.hid h5
    have H1 := Lib.hid h1
    have Hn := Lib.hid hn'
    clear hI hS hC R S0 eg egi hd hH hb hok hge h5 h1 hn'
    go_enter Tryz.func45, Tryz.ntmps45
    go_wp2_with fail
    refine hst.mono ?_
    rintro e w2 ⟨rfl, S2⟩
    obtain ⟨b2, k2⟩ := blk_of_swk HB.out (stab_len ys) S2
    go_wp2_with fail
    go_end0
    refine ⟨rfl, ⟨⟨by rw [rCs_len], .inr ⟨g, cap, rest, by rw [stab_len, Hn.out], b2, by rw [stab_len, Hn.out]; exact h3, h4, ?_⟩⟩, fun y hy => ?_, HG.out⟩, k2⟩
    · rw [← HL.out, List.length_append, List.length_append, rCs_len, rCs_len, stab_len]
    · exact (HO.out y ((stab_mem ys y).1 hy)).keeps k2 (by simp [Value.ownBlock])
theorem ins_strip (x : RV) : ∀ l : List RV, (ins keyP x l).map strip = ins keyP (strip x) (l.map strip)
  | [] => rfl
  | y :: l => by
    by_cases h : keyP y < keyP x
    · have e1 : ins keyP x (y :: l) = y :: ins keyP x l := if_pos h
      have e2 : ins keyP (strip x) (strip y :: l.map strip) = strip y :: ins keyP (strip x) (l.map strip) := if_pos (show keyP (strip y) < keyP (strip x) from h)
      rw [e1, List.map_cons, List.map_cons, e2, ins_strip x l]
    · have e1 : ins keyP x (y :: l) = x :: y :: l := if_neg h
      have e2 : ins keyP (strip x) (strip y :: l.map strip) = strip x :: strip y :: l.map strip := if_neg (show ¬ keyP (strip y) < keyP (strip x) from h)
      rw [e1, List.map_cons, List.map_cons, e2]
theorem stab_strip : ∀ l : List RV, (stab keyP l).map strip = stab keyP (l.map strip)
  | [] => rfl
  | x :: l => by simp only [stab, List.map_cons]; rw [ins_strip, stab_strip l]
def ordL (xs : List RV) : List RV := stab keyP (xs.filter (fun x => x.n.pt != -1))
def OrPost (xs : List RV) (w : World) (e : Ending) (w' : World) : Prop := ∃ u ys, e = .returned u ∧ Pk w' w.heap.size u ys ∧ ys.map strip = (ordL xs).map strip ∧ Keeps [] w w'
theorem order_any (xs : List RV) (hn : xs.length ≤ 100) (v : Value) (w : World) (hv : Lst w v xs.length (rCs xs)) (hb : OkL w xs) :
    Calls Tryz.prog 30 #[v] w (OrPost xs w) := by
  have eg : ∀ args w, (callFunc 44 args).run Tryz.prog w = .ok (.enter 44 args) w := enters_of Tryz.func44 (by kernel_rfl) rfl
  have hp := pick_any xs hn v w hv hb (fun r => r.pt != -1) 44 #[] eg (fun x w1 _ => o1_any x w1)
  obtain ⟨A, cap, b, o, rfl, _, _⟩ := hv
  go_enter Tryz.func30, Tryz.ntmps30
  go_wp2_with fail
  refine hp.mono ?_
  rintro e w1 ⟨u, ys, rfl, h1, h2, h3⟩
  have hl : ys.length ≤ 1000 := by
    have := congrArg List.length h2
    rw [List.length_map, List.length_map] at this
    have := List.length_filter_le (fun x : RV => x.n.pt != -1) xs
    omega
  have hs := sort_anyR ys hl u _ w1 h1
  obtain ⟨A1, c1, rfl⟩ := h1.row.len
  clear hp
  have H2 := Lib.hid h2
  clear h2
  go_wp2_with fail
  refine hs.mono ?_
  rintro e w2 ⟨rfl, h4, h5⟩
  go_wp2_with fail
  go_ret
  refine ⟨_, _, rfl, h4, ?_, h3.trans h5 (fun i hi => .inr (h4.ge i (by simpa using hi)))⟩
  rw [ordL, stab_strip, stab_strip, H2.out]
end Go.Proofs.YtbcgpjfejpcgnaaGreat
end
section
namespace Go.Proofs.YtbcgpjfejpcgnaaGreat
open Go.RowKit Go.Shelf Go.Lib Go.Sort
set_option linter.unusedSectionVars false
set_option linter.unusedVariables false
set_option maxRecDepth 100000
set_option linter.unusedSimpArgs false
set_option maxHeartbeats 1000000
theorem Blk.setCells {w : World} {g : Nat} : ∀ (vs : List Value) {cs : List Value} (o : Nat), Blk w g cs → o + vs.length ≤ cs.length → ∀ {w0 : World}, Keeps [g] w0 w → Blk (w.setCells g o vs) g (spl cs o vs) ∧ Keeps [g] w0 (w.setCells g o vs)
  | [], cs, o, h, _, w0, k => by
    have e : spl cs o [] = cs := by simp [spl]
    rw [e]; exact ⟨h, k⟩
  | v :: vs, cs, o, h, hl, w0, k => by
    have hl' : o < cs.length := by simp at hl; omega
    have e : spl (cs.set o v) (o + 1) vs = spl cs o (v :: vs) := by
      unfold spl
      have e1 : (cs.set o v).take (o + 1) = cs.take o ++ [v] := by
        rw [List.take_add_one, List.getElem?_set_self (by simpa using hl'), List.take_set_of_le (Nat.le_refl o)]; rfl
      have e2 : (cs.set o v).drop (o + 1 + vs.length) = cs.drop (o + (v :: vs).length) := by
        rw [List.drop_set_of_lt (by omega)]; simp; congr 1; omega
      rw [e1, e2]; simp
    have := Blk.setCells vs (o + 1) (h.set o v) (by simp at hl ⊢; omega) (k.setCell ⟨g, o, none⟩ v (.inl (by simp)))
    rw [e] at this
    exact this
theorem Blk.holds {w : World} {g : Nat} {cs : List Value} (h : Blk w g cs) : Holds id w g 0 cs.toArray := fun j hj => by
  have hj' : j < cs.length := by simpa using hj
  exact ⟨by rw [h.cell, Nat.zero_add, List.getElem?_eq_getElem hj']; simp [hj'], h.frozen _⟩
end Go.Proofs.YtbcgpjfejpcgnaaGreat
end
section
namespace Go.Proofs.YtbcgpjfejpcgnaaGreat.O
open Go.RowKit
structure CfgOK (T S N C R F K : Int) : Prop where
  T0 : 1 ≤ T
  T1 : T ≤ 64
  S0 : 1 ≤ S
  S1 : S ≤ 8
  N0 : 1 ≤ N
  N1 : N ≤ 4096
  C0 : 1 ≤ C
  C1 : C ≤ 16384
  R0 : 1 ≤ R
  R1 : R ≤ 65536
  F0 : 4 ≤ F
  F1 : F ≤ 32
  K0 : 1 ≤ K
  K1 : K ≤ 1099511627776
set_option maxHeartbeats 400000 in
theorem between_any (a lo hi : Int) (w : World) :
    Calls Tryz.prog 54 #[.int .i64 a, .int .i64 lo, .int .i64 hi] w fun e w' => e = .returned (.bool (decide (lo ≤ a) && decide (a ≤ hi))) ∧ w = w' := by
  by_cases h : lo ≤ a
  · by_cases h2 : a ≤ hi
    · have e : (decide (lo ≤ a) && decide (a ≤ hi)) = true := by simp [h, h2]
      rw [e]
      go_enter Tryz.func54, Tryz.ntmps54
      go_wp2
      go_ret
      exact ⟨rfl, rfl⟩
    · have e : (decide (lo ≤ a) && decide (a ≤ hi)) = false := by simp [h2]
      rw [e]
      go_enter Tryz.func54, Tryz.ntmps54
      go_wp2
      go_ret
      exact ⟨rfl, rfl⟩
  · have e : (decide (lo ≤ a) && decide (a ≤ hi)) = false := by simp [h]
    rw [e]
    go_enter Tryz.func54, Tryz.ntmps54
    go_wp2
    go_ret
    exact ⟨rfl, rfl⟩
set_option maxHeartbeats 1000000 in
set_option maxHeartbeats 1000000 in
theorem valid_yes (T S N C R F K : Int) (h : CfgOK T S N C R F K) (w : World) :
    Calls Tryz.prog 40 #[.agg #[.int .i64 T, .int .i64 S, .int .i64 N, .int .i64 C, .int .i64 R, .int .i64 F, .int .u64 K]] w fun e w' => e = .returned (.bool true) ∧ Keeps [] w w' := by
  have E1 := Lib.hid (show (decide (1 ≤ T) && decide (T ≤ 64)) = true by have := h.T0; have := h.T1; simp; omega)
  have E2 := Lib.hid (show (decide (1 ≤ S) && decide (S ≤ 8)) = true by have := h.S0; have := h.S1; simp; omega)
  have E3 := Lib.hid (show (decide (1 ≤ N) && decide (N ≤ 4096)) = true by have := h.N0; have := h.N1; simp; omega)
  have E4 := Lib.hid (show (decide (1 ≤ C) && decide (C ≤ 16384)) = true by have := h.C0; have := h.C1; simp; omega)
  have E5 := Lib.hid (show (decide (1 ≤ R) && decide (R ≤ 65536)) = true by have := h.R0; have := h.R1; simp; omega)
  have E6 := Lib.hid (show (decide (4 ≤ F) && decide (F ≤ 32)) = true by have := h.F0; have := h.F1; simp; omega)
  have hK0 := h.K0
  have hK1 := h.K1
  go_enter Tryz.func40, Tryz.ntmps40
  go_wp2_with fail
  refine (between_any T 1 64 _).mono ?_
  rintro e w1 ⟨rfl, rfl⟩
  rw [E1.out]
  go_wp2_with fail
  refine (between_any S 1 8 _).mono ?_
  rintro e w2 ⟨rfl, rfl⟩
  rw [E2.out]
  go_wp2_with fail
  refine (between_any N 1 4096 _).mono ?_
  rintro e w3 ⟨rfl, rfl⟩
  rw [E3.out]
  go_wp2_with fail
  refine (between_any C 1 16384 _).mono ?_
  rintro e w4 ⟨rfl, rfl⟩
  rw [E4.out]
  go_wp2_with fail
  refine (between_any R 1 65536 _).mono ?_
  rintro e w5 ⟨rfl, rfl⟩
  rw [E5.out]
  go_wp2_with fail
  refine (between_any F 4 32 _).mono ?_
  rintro e w6 ⟨rfl, rfl⟩
  rw [E6.out]
  go_wp2_with fail
  go_ret
  exact ⟨rfl, (Keeps.refl _ _).alloc _⟩
end Go.Proofs.YtbcgpjfejpcgnaaGreat.O
end
section
namespace Go.Proofs.YtbcgpjfejpcgnaaGreat.O
open Go.RowKit
set_option linter.unusedSectionVars false
set_option linter.unusedVariables false
set_option linter.unusedSimpArgs false
set_option maxRecDepth 20000
theorem infoW : (Tryz.prog.info? 53).map (fun i => (i.zero, i.size, i.bytes)) = some (some (.agg #[.string ⟨#[]⟩, .string ⟨#[]⟩, .bool false]), 3, 40) := by kernel_rfl
def OV.bv (x : OV) : Value := .slice x.bA x.b.length x.bc
end Go.Proofs.YtbcgpjfejpcgnaaGreat.O
end
