/- The contracts of swapRange and rotate. -/
import Derived.Test.YtjlgodaiciopaaaHisSL
namespace Go.Proofs.Ytjlgodaiciopaaa
open Go.RowKit Go.Shelf Go.Lib Go.Sort
variable {P : Program} {α : Type} [Inhabited α] {enc : α → List Value} {k : Nat} {w0 : World} {blk off : Nat} {d0 : Array α}
set_option maxHeartbeats 4000000 in
set_option maxRecDepth 1000000 in
theorem swapRange_any (L : SL P k) (R : RowK enc k w0 blk off d0) (cap g : Nat) (cb : Array Value) (X U Z V Y : List α) (a b n N : Nat) (hX : X.length = a) (hb : a + n + Z.length = b) (hU : U.length = n) (hV : V.length = n) (hN : (X ++ (U ++ (Z ++ (V ++ Y)))).length = N) (hd : d0.size = N) (hsz : N < 4611686018427387904)
    (w : World) (S : SWK enc k w0 blk off (X ++ (U ++ (Z ++ (V ++ Y)))).toArray w) :
    Calls P 38 #[.slice (some ⟨blk, off, none⟩) N cap, .int .i64 a, .int .i64 b, .int .i64 n, .func (.func g) #[] cb] w fun e w' => e = .returned (.tuple #[]) ∧ SWK enc k w0 blk off (X ++ (V ++ (Z ++ (U ++ Y)))).toArray w' := by
  have mixed := L.mixed; have t3 := L.t3; have a3 := L.a3; have z3 := L.z3; have v3 := L.v3; have t4 := L.t4; have a4 := L.a4; have z4 := L.z4; have v4 := L.v4; have t22 := L.t22; have a22 := L.a22; have z22 := L.z22; have v22 := L.v22; have aE := L.aE; have zE := L.zE
  have hbN : b + n ≤ N := by simp at hN; omega
  have hab : a + n ≤ b := by omega
  have hlen : ∀ i, (swR X U Z V Y i).toArray.size = N := fun i => by simp only [List.size_toArray, swR_len, hN]
  have hstep := fun i (hi : i < n) => swR_step X U Z V Y i n a b hU hV hi hX hb
  have hfull := swR_full X U Z V Y n hU hV
  rw [← swR_zero] at S
  have S0 : Aside (SWK enc k w0 blk off (swR X U Z V Y 0).toArray w) := S
  have HL := Lib.hid hlen
  have HS := Lib.hid hstep
  have HF := Lib.hid hfull
  have HD := Lib.hid hd
  clear S hlen hstep hfull hX hb hU hV hN hd
  go_enter L.f38, Try.ntmps38
  go_wp2
  go_loopg [10] n (fun kx s wr => ∃ i : Nat, s = .int .i64 i ∧ i ≤ n ∧ n - i ≤ kx ∧ Aside (SWK enc k w0 blk off (swR X U Z V Y i).toArray wr))
  case atStart => exact ⟨0, rfl, by omega, by omega, S0⟩
  case round =>
    clear S0
    obtain ⟨i, rfl, hi, hkx, S1⟩ := hrel
    by_cases hlt : i < n
    · have hltz : (i : Int) < (n : Int) := by omega
      go_wp2_with fail
      have hda : (swR X U Z V Y i).toArray.size = N := HL.out i
      obtain ⟨dk, hdk⟩ : ∃ dk, (swR X U Z V Y i).toArray = dk := ⟨_, rfl⟩
      have hsw := HS.out i hlt
      rw [hdk] at S1 hda hsw
      have HSW := Lib.hid hsw
      clear hdk hsw
      have hd1 : dk.size = d0.size := by rw [hda, HD.out]
      have ea44 : ((a : Int) + (i : Int)).toNat = a + i := by omega
      have pa44 : (0 : Int) ≤ (a : Int) + (i : Int) := by omega
      have ba44 : (a : Int) + (i : Int) < (N : Int) := by omega
      have ra44 : IntKind.i64.wrap ((a : Int) + (i : Int)) = (a : Int) + (i : Int) := by rw [IntKind.wrap_i64]; omega
      have ec44 : ((b : Int) + (i : Int)).toNat = b + i := by omega
      have pc44 : (0 : Int) ≤ (b : Int) + (i : Int) := by omega
      have bc44 : (b : Int) + (i : Int) < (N : Int) := by omega
      have rc44 : IntKind.i64.wrap ((b : Int) + (i : Int)) = (b : Int) + (i : Int) := by rw [IntKind.wrap_i64]; omega
      have S2 : Aside (SWK enc k w0 blk off (swp dk (a + i) (b + i)) ((wr.drew.setCells blk (off + (a + i) * k) (enc dk[b + i]!)).setCells blk (off + (b + i) * k) (enc dk[a + i]!))) := S1.out.swapped R (a + i) (b + i) (by omega) (by omega)
      have l44a := S1.out.ld1 R (by omega) P (a + i) (by omega)
      have l44b := S1.out.ld1 R (by omega) P (b + i) (by omega)
      have s44a := S1.out.st1 R (by omega) P (a + i) (by omega) dk[b + i]!
      have s44b := S1.out.st2 R (by omega) P (a + i) (b + i) (by omega) (by omega) dk[b + i]! dk[a + i]!
      have n44a : (enc dk[a + i]!).length = k := R.hk _
      have n44b : (enc dk[b + i]!).length = k := R.hk _
      generalize enc dk[a + i]! = cI44 at S2 l44a s44b n44a
      generalize enc dk[b + i]! = cJ44 at S2 l44b s44a s44b n44b
      clear S1 hd1 hda
      go_wp2_with fail
      go_big_region_o
      clear l44a l44b s44a s44b
      generalize (wr.drew.setCells blk (off + (a + i) * k) cJ44).setCells blk (off + (b + i) * k) cI44 = w2 at S2 ⊢
      go_wp2
      go_roundg (n - (i + 1))
      case measure => omega
      case rel =>
        refine ⟨i + 1, by go_num, by omega, by omega, ?_⟩
        show SWK enc k w0 blk off _ _
        rw [← HSW.out]
        exact S2
    · obtain rfl : i = n := by omega
      rw [HF.out] at S1
      go_wp2
      go_end0
      exact ⟨rfl, S1.out⟩
set_option maxHeartbeats 4000000 in
set_option maxRecDepth 1000000 in
theorem rotate_any (L : SL P k) (R : RowK enc k w0 blk off d0) (cap g : Nat) (cb : Array Value) (X A B Y : List α) (a m b N : Nat) (hX : X.length = a) (hm : a + A.length = m) (hb : m + B.length = b) (hA : 0 < A.length) (hB : 0 < B.length) (hN : (X ++ (A ++ (B ++ Y))).length = N) (hd : d0.size = N) (hsz : N < 4611686018427387904)
    (w : World) (S : SWK enc k w0 blk off (X ++ (A ++ (B ++ Y))).toArray w) :
    Calls P 37 #[.slice (some ⟨blk, off, none⟩) N cap, .int .i64 a, .int .i64 m, .int .i64 b, .func (.func g) #[] cb] w fun e w' => e = .returned (.tuple #[]) ∧ SWK enc k w0 blk off (X ++ (B ++ (A ++ Y))).toArray w' := by
  have mixed := L.mixed; have t3 := L.t3; have a3 := L.a3; have z3 := L.z3; have v3 := L.v3; have t4 := L.t4; have a4 := L.a4; have z4 := L.z4; have v4 := L.v4; have t22 := L.t22; have a22 := L.a22; have z22 := L.z22; have v22 := L.v22; have aE := L.aE; have zE := L.zE
  have eg : ∀ args w, (callFunc 38 args).run P w = .ok (.enter 38 args) w := enters_of L.f38 (by kernel_rfl) rfl
  obtain ⟨i0, hi0⟩ : ∃ i0, A.length = i0 := ⟨_, rfl⟩
  obtain ⟨j0, hj0⟩ : ∃ j0, B.length = j0 := ⟨_, rfl⟩
  rw [hi0] at hm hA
  rw [hj0] at hb hB
  have hmb : m + j0 ≤ N := by simp at hN; omega
  have S0 : Aside (X.length + i0 = m ∧ A.length = i0 ∧ B.length = j0 ∧ (X ++ (A ++ (B ++ Y))).length = N ∧ SWK enc k w0 blk off (X ++ (A ++ (B ++ Y))).toArray w) := ⟨by omega, hi0, hj0, hN, S⟩
  have HD := Lib.hid hd
  obtain ⟨T, hT⟩ : ∃ T, X ++ (B ++ (A ++ Y)) = T := ⟨_, rfl⟩
  have T0 : Aside (X ++ (B ++ (A ++ Y)) = T) := hT
  rw [hT]
  have wi : IntKind.i64.wrap ((m : Int) - (a : Int)) = (i0 : Int) := by rw [IntKind.wrap_i64]; omega
  have wj : IntKind.i64.wrap ((b : Int) - (m : Int)) = (j0 : Int) := by rw [IntKind.wrap_i64]; omega
  have ei : (m : Int) - (a : Int) = (i0 : Int) := by omega
  have ej : (b : Int) - (m : Int) = (j0 : Int) := by omega
  have Hab : Hid (a + i0 = m ∧ m + j0 = b) := ⟨hm, hb⟩
  clear S hX hm hb hN hd hi0 hj0 hT
  go_enter L.f37, Try.ntmps37
  go_wp2_with fail
  go_loopg [10, 11] (i0 + j0) (fun kx s t wr => ∃ (i j : Nat) (X A B Y : List α), s = .int .i64 i ∧ t = .int .i64 j ∧ 0 < i ∧ 0 < j ∧ i ≤ m ∧ m + j ≤ N ∧ i + j ≤ kx ∧ Aside (X ++ (B ++ (A ++ Y)) = T) ∧ Aside (X.length + i = m ∧ A.length = i ∧ B.length = j ∧ (X ++ (A ++ (B ++ Y))).length = N ∧ SWK enc k w0 blk off (X ++ (A ++ (B ++ Y))).toArray wr))
  case atStart => exact ⟨i0, j0, X, A, B, Y, by first | rfl | rw [← ei] | (congr 1; omega), by first | rfl | rw [← ej] | (congr 1; omega), hA, hB, by have := Hab.out; omega, hmb, Nat.le_refl _, T0, S0⟩
  case round =>
    clear S0 T0 wi wj ei ej
    obtain ⟨i, j, X, A, B, Y, rfl, rfl, hi, hj, him, hmj, hkx, hT, hS⟩ := hrel
    have wmi : IntKind.i64.wrap ((m : Int) - (i : Int)) = (m : Int) - (i : Int) := by rw [IntKind.wrap_i64]; omega
    have emi : (m : Int) - (i : Int) = ((m - i : Nat) : Int) := by omega
    rcases Nat.lt_trichotomy i j with h | h | h
    · -- i < j
      have b1 : (((i : Int)) != (j : Int)) = true := by rw [bne_iff_ne]; omega
      have b2 : ¬ (j : Int) < (i : Int) := by omega
      obtain ⟨C, D, hCD, hC, hD⟩ : ∃ C D, B = C ++ D ∧ C.length = j - i ∧ D.length = i := ⟨B.take (j - i), B.drop (j - i), (List.take_append_drop _ _).symm, by have := hS.out.2.2.1; rw [List.length_take]; omega, by have := hS.out.2.2.1; rw [List.length_drop]; omega⟩
      have hc := swapRange_any L R cap g cb X A C D Y (m - i) (m + j - i) i N (by have := hS.out.1; omega) (by omega) hS.out.2.1 hD (by rw [← hS.out.2.2.2.1, hCD, List.append_assoc]) HD.out hsz wr (by have := hS.out.2.2.2.2; rwa [hCD, List.append_assoc] at this)
      have e1 : ((m - i : Nat) : Int) = (m : Int) - (i : Int) := by omega
      have e2 : ((m + j - i : Nat) : Int) = (m : Int) + (j : Int) - (i : Int) := by omega
      rw [e1, e2] at hc
      have wmj : IntKind.i64.wrap ((m : Int) + (j : Int)) = (m : Int) + (j : Int) := by rw [IntKind.wrap_i64]; omega
      have wmji : IntKind.i64.wrap ((m : Int) + (j : Int) - (i : Int)) = (m : Int) + (j : Int) - (i : Int) := by rw [IntKind.wrap_i64]; omega
      have wji : IntKind.i64.wrap ((j : Int) - (i : Int)) = (j : Int) - (i : Int) := by rw [IntKind.wrap_i64]; omega
      have S2 : Aside (C.length = j - i ∧ D.length = i ∧ B = C ++ D) := ⟨hC, hD, hCD⟩
      clear e1 e2 emi hC hD hCD
      go_wp2_with fail
      refine hc.mono ?_
      rintro e w2 ⟨rfl, S3⟩
      have S3 : Aside (SWK enc k w0 blk off (X ++ (D ++ (C ++ (A ++ Y)))).toArray w2) := S3
      clear hc
      go_wp2_with fail
      go_roundg j
      case measure => omega
      case rel =>
        obtain ⟨q1, q2, q3⟩ := S2.out
        obtain ⟨p1, p2, p3, p4, _⟩ := hS.out
        refine ⟨i, j - i, X, D, C, A ++ Y, rfl, by first | go_num | (congr 1; omega), hi, by omega, him, by omega, by omega, ?_, p1, q2, q1, ?_, S3.out⟩
        · show _ = _
          rw [← hT.out, q3]; simp [List.append_assoc]
        · rw [← p4, q3]; simp only [List.length_append]; omega
    · -- i = j
      subst h
      have b1 : (((i : Int)) != (i : Int)) = false := by simp
      have hc := swapRange_any L R cap g cb X A [] B Y (m - i) m i N (by have := hS.out.1; omega) (by simp; omega) hS.out.2.1 hS.out.2.2.1 (by rw [← hS.out.2.2.2.1]; simp) HD.out hsz wr (by simpa using hS.out.2.2.2.2)
      have e1 : ((m - i : Nat) : Int) = (m : Int) - (i : Int) := by omega
      rw [e1, List.nil_append, hT.out] at hc
      clear e1 emi
      go_wp2_with fail
      refine hc.mono ?_
      rintro e w2 ⟨rfl, S3⟩
      have S3 : Aside (SWK enc k w0 blk off T.toArray w2) := S3
      clear hc
      go_wp2_with fail
      go_end0
      exact ⟨rfl, S3.out⟩
    · -- j < i
      have b1 : (((i : Int)) != (j : Int)) = true := by rw [bne_iff_ne]; omega
      have b2 : (j : Int) < (i : Int) := by omega
      obtain ⟨C, D, hCD, hC, hD⟩ : ∃ C D, A = C ++ D ∧ C.length = j ∧ D.length = i - j := ⟨A.take j, A.drop j, (List.take_append_drop _ _).symm, by have := hS.out.2.1; rw [List.length_take]; omega, by have := hS.out.2.1; rw [List.length_drop]; omega⟩
      have hc := swapRange_any L R cap g cb X C D B Y (m - i) m j N (by have := hS.out.1; omega) (by omega) hC hS.out.2.2.1 (by rw [← hS.out.2.2.2.1, hCD, List.append_assoc]) HD.out hsz wr (by have := hS.out.2.2.2.2; rwa [hCD, List.append_assoc] at this)
      have e1 : ((m - i : Nat) : Int) = (m : Int) - (i : Int) := by omega
      rw [e1] at hc
      have wij : IntKind.i64.wrap ((i : Int) - (j : Int)) = (i : Int) - (j : Int) := by rw [IntKind.wrap_i64]; omega
      have S2 : Aside (C.length = j ∧ D.length = i - j ∧ A = C ++ D) := ⟨hC, hD, hCD⟩
      clear e1 emi hC hD hCD
      go_wp2_with fail
      refine hc.mono ?_
      rintro e w2 ⟨rfl, S3⟩
      have S3 : Aside (SWK enc k w0 blk off (X ++ (B ++ (D ++ (C ++ Y)))).toArray w2) := S3
      clear hc
      go_wp2_with fail
      go_roundg i
      case measure => omega
      case rel =>
        obtain ⟨q1, q2, q3⟩ := S2.out
        obtain ⟨p1, p2, p3, p4, _⟩ := hS.out
        refine ⟨i - j, j, X ++ B, D, C, Y, by first | go_num | (congr 1; omega), rfl, by omega, hj, by omega, hmj, by omega, ?_, ?_, q2, q1, ?_, ?_⟩
        · show _ = _
          rw [← hT.out, q3]; simp [List.append_assoc]
        · rw [List.length_append]; omega
        · rw [← p4, q3]; simp only [List.length_append]; omega
        · have := S3.out
          simpa [List.append_assoc] using this
end Go.Proofs.Ytjlgodaiciopaaa
