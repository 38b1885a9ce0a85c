/- The writer of package script: the contracts of varint, int and text. -/
import Derived.Test.YtkgmgnfcmnhhaaaScrM
namespace Go.Proofs.Ytkgmgnfcmnhhaaa
open Go.RowKit
set_option linter.unusedSectionVars false
set_option linter.unusedVariables false
set_option linter.unusedSimpArgs false
set_option maxRecDepth 20000
/-- The writer at block g with the bytes L. -/
structure Wr (w : World) (g : Nat) (v : Value) (L : Str) : Prop where
  blk : Blk w g [v]
  row : Bw w v L
  ne : v.ownBlock ≠ some g
/-- What a writer's method leaves. -/
structure WQ (w : World) (g : Nat) (v : Value) (w' : World) (v' : Value) (L : Str) : Prop where
  wr : Wr w' g v' L
  keeps : Keeps (g :: v.ownBlock.toList) w w'
  own : ∀ b, v'.ownBlock = some b → v.ownBlock = some b ∨ w.heap.size ≤ b
theorem WQ.refl {w : World} {g : Nat} {v : Value} {L : Str} (h : Wr w g v L) : WQ w g v w v L := ⟨h, Keeps.refl _ _, fun b hb => .inl hb⟩
theorem WQ.trans {w w1 w2 : World} {g : Nat} {v v1 v2 : Value} {L1 L2 : Str} (h : WQ w g v w1 v1 L1) (k : WQ w1 g v1 w2 v2 L2) : WQ w g v w2 v2 L2 :=
  ⟨k.wr, h.keeps.trans k.keeps (fun b hb => by
    rcases List.mem_cons.1 hb with rfl | hb
    · exact .inl (by simp)
    · rcases h.own b (by simpa using hb) with h1 | h1
      · exact .inl (by simp [h1])
      · exact .inr h1), fun b hb => by
    rcases k.own b hb with h1 | h1
    · exact h.own b h1
    · exact .inr (Nat.le_trans h.keeps.size h1)⟩
theorem Wr.keeps {w w' : World} {g : Nat} {v : Value} {L : Str} {S : List Nat} (h : Wr w g v L) (k : Keeps S w w') (h1 : g ∉ S) (h2 : ∀ b, v.ownBlock = some b → b ∉ S) : Wr w' g v L :=
  ⟨k.blk h.blk h1, h.row.keeps k h2, h.ne⟩
theorem WQ.keepsN {w w1 w' : World} {g : Nat} {v v1 : Value} {L : Str} {S : List Nat} (h : WQ w g v w1 v1 L) (k : Keeps S w1 w') (hS : ∀ b ∈ S, w.heap.size ≤ b) (h1 : g ∉ S) (h2 : ∀ b, v1.ownBlock = some b → b ∉ S) : WQ w g v w' v1 L :=
  ⟨h.wr.keeps k h1 h2, h.keeps.trans k (fun b hb => .inr (hS b hb)), h.own⟩
theorem Wr.lt {w : World} {g : Nat} {v : Value} {L : Str} (h : Wr w g v L) : g < w.heap.size := h.blk.lt
theorem Wr.cell {w : World} {g : Nat} {v : Value} {L : Str} (h : Wr w g v L) : w.cell? ⟨g, 0, none⟩ = some v ∧ (∀ j, w.frozen? ⟨g, j, none⟩ = false) ∧ g < w.heap.size := ⟨h.blk.cell 0, h.blk.frozen, h.blk.lt⟩
theorem Wr.own {w : World} {g : Nat} {v : Value} {L : Str} (h : Wr w g v L) {b : Nat} (hb : w.heap.size ≤ b) : b ∉ g :: v.ownBlock.toList := fun hm => by
  rcases List.mem_cons.1 hm with rfl | hm
  · have := h.lt; omega
  · have := h.row.blk b (by simpa using hm)
    omega
/-- The store of the row that has grown. -/
theorem WQ.of {w w1 : World} {g : Nat} {v v1 : Value} {L L1 : Str} (h : Wr w g v L) (k : BQ w v w1 v1 L1) : WQ w g v (w1.setCell ⟨g, 0, none⟩ v1) v1 L1 ∧ w1.cell? ⟨g, 0, none⟩ = some v ∧ (∀ j, w1.frozen? ⟨g, j, none⟩ = false) ∧ g < w1.heap.size := by
  have hb := k.keeps.blk h.blk (fun hm => h.ne (by simpa using hm))
  have hg := h.lt
  have hne : v1.ownBlock ≠ some g := fun he => by
    rcases k.own g he with h1 | h1
    · exact h.ne h1
    · omega
  have kS := (Keeps.refl [g] w1).setCell ⟨g, 0, none⟩ v1 (.inl (by simp))
  refine ⟨⟨⟨hb.set 0 v1, k.row.keeps kS (fun b hb' hm => by simp at hm; subst hm; exact hne hb'), hne⟩, ?_, k.own⟩, hb.cell 0, hb.frozen, hb.lt⟩
  exact (k.keeps.mono (fun b hb' => by simp at hb' ⊢; simp [hb'])).trans kS (fun b hb' => .inl (by simp at hb' ⊢; exact .inl hb'))
theorem or128 (n : Nat) : IntKind.u8.wrap (n : Int) = ((n % 256 : Nat) : Int) := by
  rw [IntKind.wrap_u8]
  omega
theorem or_128 (n : Nat) : bits .or .u8 ((n : Int) % 256) 128 = ((n % 128 + 128 : Nat) : Int) := by
  have h : ∀ m : Fin 256, bits .or .u8 ((m.val : Nat) : Int) 128 = ((m.val % 128 + 128 : Nat) : Int) := by decide +kernel
  have e : (n : Int) % 256 = ((n % 256 : Nat) : Int) := by omega
  rw [e, h ⟨n % 256, Nat.mod_lt _ (by omega)⟩]
  congr 2
  show n % 256 % 128 = n % 128
  omega
def WrQ (w : World) (g : Nat) (v : Value) (L : Str) (q : Ending) (w' : World) : Prop := q = .returned (.tuple #[]) ∧ ∃ v', WQ w g v w' v' L
theorem varW (w : World) (g : Nat) (v : Value) (L : Str) (h : Wr w g v L) (n : Nat) (hn : n < 2 ^ 64) (hl : L.length + (vi n).length ≤ 1073741824) :
    Calls Try.prog 20 #[.pointer (some ⟨g, 0, none⟩), .int .u64 (n : Int)] w (WrQ w g v (L ++ vi n)) := by
  go_enter Try.func20, Try.ntmps20
  go_wp2
  go_loopw [1] (fun u wr => ∃ (n' : Nat) (v' : Value) (L' : Str), u = .int .u64 (n' : Int) ∧ WQ w g v wr v' L' ∧ Hid (n' < 2 ^ 64 ∧ L' ++ vi n' = L ++ vi n)) (fun u _ => (intOf u).toNat)
  case atStart => exact ⟨n, v, L, rfl, WQ.refl h, Lib.hid ⟨hn, rfl⟩⟩
  case round =>
    obtain ⟨n', v', L', rfl, hq, hsp⟩ := hrel
    obtain ⟨c0, cf, hg⟩ := hq.wr.cell
    have hlen : L'.length + (vi n').length ≤ 1073741824 := by
      have := congrArg List.length hsp.out.2
      rw [List.length_append, List.length_append] at this
      omega
    obtain ⟨A0, C0, hv0⟩ := hq.wr.row.len
    by_cases hlt : n' < 128
    · have hlt' : ¬ (128 : Int) ≤ (n' : Int) := by omega
      have hvn := vi_small hlt
      rw [hvn] at hlen hsp
      obtain ⟨v2, w2, hr, hb⟩ := byte_append hq.wr.row (UInt8.ofNat n') hlen 1
      obtain ⟨A2, C2, rfl⟩ := hb.row.len
      obtain ⟨W1, e1, e2, e3⟩ := WQ.of hq.wr hb
      have hl1 : ∀ c : UInt8, (L' ++ [c]).length = L'.length + 1 := fun c => by simp
      rw [hl1] at W1 hr
      have hby : vB (UInt8.ofNat n') = .int .u8 (n' : Int) := by simp only [vB]; rw [toNat_ofNat (by omega)]
      have hwr : IntKind.u8.wrap (n' : Int) = (n' : Int) := by rw [or128]; omega
      rw [hby] at hr
      obtain ⟨gw, hgw⟩ : ∃ gw, wr.heap.size = gw := ⟨_, rfl⟩
      rw [hgw] at hr
      subst hv0
      go_wp2_with (at_builtin; refine list_append_eq rfl _ _ 23 23 rfl _ _ rfl rfl (hr _) ?_)
      go_end0
      exact ⟨rfl, _, by rw [← hsp.out.2]; exact hq.trans W1⟩
    · have hlt' : (128 : Int) ≤ (n' : Int) := by omega
      have hvn := vi_big (by omega : 128 ≤ n')
      rw [hvn] at hlen hsp
      rw [List.length_cons] at hlen
      obtain ⟨v2, w2, hr, hb⟩ := byte_append hq.wr.row (UInt8.ofNat (n' % 128 + 128)) (by omega) 1
      obtain ⟨A2, C2, rfl⟩ := hb.row.len
      obtain ⟨W1, e1, e2, e3⟩ := WQ.of hq.wr hb
      have hl1 : ∀ c : UInt8, (L' ++ [c]).length = L'.length + 1 := fun c => by simp
      rw [hl1] at W1 hr
      have hby : vB (UInt8.ofNat (n' % 128 + 128)) = .int .u8 ((n' % 128 + 128 : Nat) : Int) := by simp only [vB]; rw [toNat_ofNat (by omega)]
      rw [hby] at hr
      obtain ⟨gw, hgw⟩ : ∃ gw, wr.heap.size = gw := ⟨_, rfl⟩
      rw [hgw] at hr
      subst hv0
      have hor := or_128 n'
      go_wp2_with (at_builtin; refine list_append_eq rfl _ _ 23 23 rfl _ _ rfl rfl (hr _) ?_)
      exact ⟨⟨n' / 128, _, _, by simp, hq.trans W1, Lib.hid ⟨by have := hsp.out.1; omega, by rw [← hsp.out.2, List.append_assoc]; rfl⟩⟩, by simp [intOf] <;> omega⟩
theorem ofI_wrap (n : Int) : IntKind.u64.wrap n = ((ofI n : Nat) : Int) := by
  rw [IntKind.wrap_u64]
  unfold ofI
  omega
theorem ofI_nat (n : Nat) (h : n < 2 ^ 64) : ofI (n : Int) = n := by
  unfold ofI
  omega
theorem intW (w : World) (g : Nat) (v : Value) (L : Str) (h : Wr w g v L) (n : Int) (hl : L.length + (eInt n).length ≤ 1073741824) :
    Calls Try.prog 19 #[.pointer (some ⟨g, 0, none⟩), .int .i64 n] w (WrQ w g v (L ++ eInt n)) := by
  have hq := varW w g v L h (ofI n) (ofI_lt n) hl
  have hw := ofI_wrap n
  go_enter Try.func19, Try.ntmps19
  go_wp2_with fail
  refine hq.mono ?_
  rintro q w1 ⟨rfl, h1⟩
  go_wp2_with fail
  go_end0
  exact ⟨rfl, h1⟩
theorem txtW (w : World) (g : Nat) (v : Value) (L : Str) (h : Wr w g v L) (S : Str) (hl : L.length + (eTxt S).length ≤ 1073741824) :
    Calls Try.prog 34 #[.pointer (some ⟨g, 0, none⟩), .string ⟨S.toArray⟩] w (WrQ w g v (L ++ eTxt S)) := by
  have hS : S.length < 2 ^ 64 := by unfold eTxt at hl; rw [List.length_append] at hl; omega
  have he : eInt (S.length : Int) = vi S.length := by unfold eInt; rw [ofI_nat _ hS]
  have hl2 := hl
  unfold eTxt at hl2
  rw [List.length_append] at hl2
  have hq := intW w g v L h (S.length : Int) (by rw [he]; omega)
  rw [he] at hq
  go_enter Try.func34, Try.ntmps34
  go_wp2_with fail
  refine hq.mono ?_
  rintro q w1 ⟨rfl, v1, h1⟩
  obtain ⟨c0, cf, hg⟩ := h1.wr.cell
  obtain ⟨v2, w2, hr, hb⟩ := str_append h1.wr.row S (by rw [List.length_append]; omega)
  obtain ⟨A1, C1, hv1⟩ := h1.wr.row.len
  obtain ⟨A2, C2, rfl⟩ := hb.row.len
  obtain ⟨W1, e1, e2, e3⟩ := WQ.of h1.wr hb
  subst hv1
  have Hr := Lib.hid hr
  have W := Lib.hid (h1.trans W1)
  obtain ⟨n1, hn1⟩ : ∃ n1, (L ++ vi S.length).length = n1 := ⟨_, rfl⟩
  obtain ⟨n2, hn2⟩ : ∃ n2, (L ++ vi S.length ++ S).length = n2 := ⟨_, rfl⟩
  rw [hn1] at c0 hr e1
  rw [hn2] at hr W
  clear hq h1 W1 Hr hb hl hl2
  go_wp2_with (at_builtin; refine list_append_eq rfl _ _ 23 9 rfl _ _ rfl rfl (hr _) ?_)
  go_end0
  exact ⟨rfl, _, by have := W.out; rw [List.append_assoc] at this; exact this⟩
end Go.Proofs.Ytkgmgnfcmnhhaaa
