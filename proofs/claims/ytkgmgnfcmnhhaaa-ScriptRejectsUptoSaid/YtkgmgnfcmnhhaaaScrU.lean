/- The reference's writer of package script: the contracts of u and s. -/
import Derived.Test.YtkgmgnfcmnhhaaaScrN
namespace Go.Proofs.Ytkgmgnfcmnhhaaa
open Go.RowKit
set_option linter.unusedSectionVars false
set_option linter.unusedVariables false
set_option linter.unusedSimpArgs false
set_option maxRecDepth 20000
def RQ (w : World) (v : Value) (L : Str) (q : Ending) (w' : World) : Prop := ∃ v', q = .returned v' ∧ BQ w v w' v' L
theorem BQ.drew {w w1 : World} {v v1 : Value} {L : Str} (h : BQ w v w1 v1 L) : BQ w v w1.drew v1 L := ⟨h.row.keeps ((Keeps.refl [] w1).drew) (by simp), h.keeps.drew, h.own⟩
theorem BQ.fromDrew {w w1 : World} {v v1 : Value} {L : Str} (h : BQ w.drew v w1 v1 L) : BQ w v w1 v1 L := ⟨h.row, (((Keeps.refl [] w).drew).mono (by simp)).trans h.keeps (fun b hb => .inl hb), h.own⟩
theorem BQ.keepsN {w w1 w' : World} {v v1 : Value} {L : Str} {S : List Nat} (h : BQ w v w1 v1 L) (k : Keeps S w1 w') (hS : ∀ b ∈ S, w.heap.size ≤ b) (h2 : ∀ b, v1.ownBlock = some b → b ∉ S) : BQ w v w' v1 L :=
  ⟨h.row.keeps k h2, h.keeps.trans k (fun b hb => .inr (hS b hb)), h.own⟩
/-- A block that the growth of a row leaves as it is. -/
structure Bs (w : World) (h : Nat) (v : Value) (cs : List Value) : Prop where
  blk : Blk w h cs
  own : v.ownBlock ≠ some h
theorem Bs.step {w w1 : World} {h : Nat} {v v1 : Value} {cs : List Value} {L : Str} (s : Bs w h v cs) (q : BQ w v w1 v1 L) : Bs w1 h v1 cs :=
  ⟨q.keeps.blk s.blk (fun hm => s.own (by simpa using hm)), fun he => by
    rcases q.own h he with h1 | h1
    · exact s.own h1
    · have := s.blk.lt; omega⟩
theorem ruR (w : World) (v : Value) (L : Str) (h : Bw w v L) (n : Nat) (hn : n < 2 ^ 64) (hl : L.length + (vi n).length ≤ 1073741824) :
    Calls Try.prog 22 #[v, .int .u64 (n : Int)] w (RQ w v (L ++ vi n)) := by
  obtain ⟨A00, C00, rfl⟩ := h.len
  go_enter Try.func22, Try.ntmps22
  go_wp2
  go_loopw [0, 1] (fun v' u wr => ∃ (n' : Nat) (L' : Str), u = .int .u64 (n' : Int) ∧ BQ w (.slice A00 L.length C00) wr v' L' ∧ Hid (n' < 2 ^ 64 ∧ L' ++ vi n' = L ++ vi n)) (fun _ u _ => (intOf u).toNat)
  case atStart => exact ⟨n, L, rfl, BQ.refl h, Lib.hid ⟨hn, rfl⟩⟩
  case round =>
    obtain ⟨n', L', rfl, hq, hsp⟩ := hrel
    have hlen : L'.length + (vi n').length ≤ 1073741824 := by
      have := congrArg List.length hsp.out.2
      rw [List.length_append, List.length_append] at this
      omega
    obtain ⟨A0, C0, hv0⟩ := hq.row.len
    by_cases hlt : n' < 128
    · have hlt' : ¬ (127 : Int) < (n' : Int) := by omega
      have hvn := vi_small hlt
      rw [hvn] at hlen hsp
      obtain ⟨v2, w2, hr, hb⟩ := byte_append hq.row (UInt8.ofNat n') hlen 1
      obtain ⟨A2, C2, rfl⟩ := hb.row.len
      have hl1 : ∀ c : UInt8, (L' ++ [c]).length = L'.length + 1 := fun c => by simp
      rw [hl1] at hr hb
      have hby : vB (UInt8.ofNat n') = .int .u8 (n' : Int) := by simp only [vB]; rw [toNat_ofNat (by omega)]
      have hwr : IntKind.u8.wrap (n' : Int) = (n' : Int) := by rw [or128]; omega
      rw [hby] at hr
      obtain ⟨gw, hgw⟩ : ∃ gw, wr.heap.size = gw := ⟨_, rfl⟩
      rw [hgw] at hr
      subst hv0
      go_wp2_with (at_builtin; refine list_append_eq rfl _ _ 23 23 rfl _ _ rfl rfl (hr _) ?_)
      go_ret
      exact ⟨_, rfl, by rw [← hsp.out.2]; exact hq.trans hb⟩
    · have hlt' : (127 : Int) < (n' : Int) := by omega
      have hvn := vi_big (by omega : 128 ≤ n')
      rw [hvn] at hlen hsp
      rw [List.length_cons] at hlen
      obtain ⟨v2, w2, hr, hb⟩ := byte_append hq.row (UInt8.ofNat (n' % 128 + 128)) (by omega) 1
      obtain ⟨A2, C2, rfl⟩ := hb.row.len
      have hl1 : ∀ c : UInt8, (L' ++ [c]).length = L'.length + 1 := fun c => by simp
      rw [hl1] at hr hb
      have hby : vB (UInt8.ofNat (n' % 128 + 128)) = .int .u8 ((n' : Int) % 128 + 128) := by simp only [vB]; rw [toNat_ofNat (by omega)]; congr 1
      rw [hby] at hr
      obtain ⟨gw, hgw⟩ : ∃ gw, wr.heap.size = gw := ⟨_, rfl⟩
      rw [hgw] at hr
      subst hv0
      have hw1 : IntKind.u8.wrap ((n' : Int) % 128) = (n' : Int) % 128 := by rw [IntKind.wrap_u8]; omega
      have hw2 : IntKind.u8.wrap ((n' : Int) % 128 + 128) = (n' : Int) % 128 + 128 := by rw [IntKind.wrap_u8]; omega
      have hw3 : ((n' : Int) % 128) % 256 = (n' : Int) % 128 := by omega
      have hw4 : ((n' : Int) % 128 + 128) % 256 = (n' : Int) % 128 + 128 := by omega
      have hn0 : (n' : Int) < 18446744073709551616 := by have := hsp.out.1; omega
      go_wp2_with (at_builtin; refine list_append_eq rfl _ _ 23 23 rfl _ _ rfl rfl (hr _) ?_)
      exact ⟨⟨n' / 128, _, by simp, hq.trans hb, Lib.hid ⟨by have := hsp.out.1; omega, by rw [← hsp.out.2, List.append_assoc]; rfl⟩⟩, by simp [intOf] <;> omega⟩
theorem rsR (w : World) (v : Value) (L : Str) (h : Bw w v L) (S : Str) (hl : L.length + (eTxt S).length ≤ 1073741824) :
    Calls Try.prog 35 #[v, .string ⟨S.toArray⟩] w (RQ w v (L ++ eTxt S)) := by
  unfold eTxt at hl
  rw [List.length_append] at hl
  have hS : S.length ≤ 1073741824 := by omega
  have hq := ruR w v L h S.length (Nat.lt_of_le_of_lt hS (by decide)) (by omega)
  obtain ⟨A00, C00, rfl⟩ := h.len
  have hw : IntKind.u64.wrap (S.length : Int) = (S.length : Int) := by rw [IntKind.wrap_u64]; omega
  go_enter Try.func35, Try.ntmps35
  go_wp2_with fail
  refine hq.mono ?_
  rintro q w1 ⟨v1, rfl, h1⟩
  obtain ⟨v2, w2, hr, hb⟩ := str_append h1.row S (by rw [List.length_append]; omega)
  obtain ⟨A1, C1, hv1⟩ := h1.row.len
  obtain ⟨A2, C2, hv2⟩ := hb.row.len
  have W := Lib.hid (h1.trans hb)
  subst hv1
  subst hv2
  obtain ⟨n1, hn1⟩ : ∃ n1, (L ++ vi S.length).length = n1 := ⟨_, rfl⟩
  obtain ⟨n2, hn2⟩ : ∃ n2, (L ++ vi S.length ++ S).length = n2 := ⟨_, rfl⟩
  rw [hn1] at hr
  rw [hn2] at hr W
  rw [hn1]
  clear hq h1 hb hl
  go_wp2_with (at_builtin; refine list_append_eq rfl _ _ 23 9 rfl _ _ rfl rfl (hr _) ?_)
  go_ret
  exact ⟨_, rfl, by have := W.out; rw [List.append_assoc] at this; exact this⟩
end Go.Proofs.Ytkgmgnfcmnhhaaa
