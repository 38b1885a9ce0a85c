/- The reader of package script: the contract of write. -/
import Derived.Test.YtkgmgnfcmnhhaaaScrF
import Derived.Test.YtkgmgnfcmnhhaaaScrL
namespace Go.Proofs.Ytkgmgnfcmnhhaaa
open Go.RowKit
set_option linter.unusedSectionVars false
set_option linter.unusedVariables false
set_option linter.unusedSimpArgs false
set_option maxRecDepth 20000
def wV (x : Wrt) : Value := .agg #[.string ⟨x.k.toArray⟩, .string ⟨x.v.toArray⟩, .bool x.d]
def wrtOf (k v : Str) (c : UInt8) : Wrt := ⟨k, v, c == 1⟩
theorem wrt_aft {s : Except Nat Str} {k v : Str} {c : UInt8} (h1 : vls s rTxt k) (h2 : vls (aft s rTxt) rTxt v) (h3 : vls (aft (aft s rTxt) rTxt) (rB fun _ => true) c) :
    aft s rWrt = (if c.toNat ≤ 1 then aft (aft (aft s rTxt) rTxt) (rB fun _ => true) else fl (aft (aft (aft s rTxt) rTxt) (rB fun _ => true)) 12) ∧ vls s rWrt (wrtOf k v c) := by
  refine ⟨?_, ?_⟩
  · unfold rWrt
    rw [aft_map, aft_seq h1, aft_seq h2, aft_byte _ h3]
    simp
  · have h4 := vls_seq (Q := fun _ => rB fun c => decide (c ≤ 1)) h2 (vls_byte (fun c => decide (c ≤ 1)) h3)
    have h5 := vls_seq (Q := fun _ => seqR rTxt fun _ => rB fun c => decide (c ≤ 1)) h1 h4
    exact vls_map (fun z => (⟨z.1, z.2.1, z.2.2 == 1⟩ : Wrt)) h5
theorem sizW : (Try.prog.info? 81).map (·.size) = some 3 := by kernel_rfl
theorem wriQ (w : World) (g : Nat) (s : Except Nat Str) (h : Rs w g s) :
    Calls Try.prog 42 #[.pointer (some ⟨g, 0, none⟩)] w (RdQ w g s rWrt wV) := by
  have kw := (Keeps.refl [] w).alloc (.cells #[.string ⟨#[]⟩, .string ⟨#[]⟩, .bool false] 81)
  have h0 : Rs (w.alloc (.cells #[.string ⟨#[]⟩, .string ⟨#[]⟩, .bool false] 81)) g s := h.keeps kw
  have b2 := Blk.new w [.string ⟨#[]⟩, .string ⟨#[]⟩, .bool false] 81
  change Blk (w.alloc (.cells #[.string ⟨#[]⟩, .string ⟨#[]⟩, .bool false] 81)) _ _ at b2
  have hg := h.lt
  have hc1 := txtQ _ g h0
  obtain ⟨g2, hg2⟩ : ∃ g2, w.heap.size = g2 := ⟨_, rfl⟩
  rw [hg2] at b2 hg
  have kw' := kw.mono (S' := [g]) (by simp)
  go_enter Try.func42, Try.ntmps42
  go_wp2_with fail
  refine hc1.mono ?_
  rintro q w1 ⟨k1, rfl, K1, h1, v1⟩
  have V1 := Lib.hid v1
  replace b2 := K1.blk b2 (by simp; omega)
  have KK := kw'.trans K1 (by simp)
  have kw1 := (Keeps.refl [] w1).alloc (.cells #[.string ⟨k1.toArray⟩, .string ⟨#[]⟩, .bool false] 81)
  have hs1 := b2.lt
  replace b2 := b2.alloc (.cells #[.string ⟨k1.toArray⟩, .string ⟨#[]⟩, .bool false] 81)
  have b3 := Blk.new w1 [.string ⟨k1.toArray⟩, .string ⟨#[]⟩, .bool false] 81
  change Blk (w1.alloc (.cells #[.string ⟨k1.toArray⟩, .string ⟨#[]⟩, .bool false] 81)) _ _ at b3
  have hg1 := h1.lt
  replace h1 := h1.keeps kw1
  have hc2 := txtQ _ g h1
  obtain ⟨g3, hg3⟩ : ∃ g3, w1.heap.size = g3 := ⟨_, rfl⟩
  rw [hg3] at b3 hs1 hg1
  have kw1' := kw1.mono (S' := [g]) (by simp)
  clear v1 hc1 h0 h kw
  go_wp2_with fail
  refine hc2.mono ?_
  rintro q w2 ⟨k2, rfl, K2, h2, v2⟩
  have V2 := Lib.hid v2
  replace b2 := K2.blk b2 (by simp; omega)
  replace b3 := K2.blk b3 (by simp; omega)
  have KK := (KK.trans kw1' (by simp)).trans K2 (by simp)
  have hsz : w.heap.size ≤ w2.heap.size := KK.size
  obtain ⟨c0, c1, c2, hf, hl⟩ := b3.o3
  have kw2 := (Keeps.refl [g3] w2).setCell ⟨g3, 1, none⟩ (.string ⟨k2.toArray⟩) (.inl (by simp))
  replace b2 := b2.other ⟨g3, 1, none⟩ (.string ⟨k2.toArray⟩) (by simp; omega)
  replace b3 := b3.set 1 (.string ⟨k2.toArray⟩)
  simp only [List.set] at b3
  replace h2 := h2.keepsS kw2 (by simp; omega)
  have KK := KK.trans kw2 (by simp; omega)
  have hc3 := byteQ _ g h2
  clear v2 hc2 h1 kw2 K1 K2 hsz kw1 kw1' kw'
  go_wp2_with fail
  refine hc3.mono ?_
  rintro q w3 ⟨c, rfl, K3, h3, v3, z3⟩
  have V3 := Lib.hid v3
  have Z3 := Lib.hid z3
  replace b2 := K3.blk b2 (by simp; omega)
  replace b3 := K3.blk b3 (by simp; omega)
  have KK := KK.trans K3 (by simp)
  have hsz : w.heap.size ≤ w3.heap.size := KK.size
  have hcl : c.toNat < 256 := c.toNat_lt
  obtain ⟨A1, A2⟩ := wrt_aft V1.out V2.out v3
  obtain ⟨c0, c1, c2, hf, hl⟩ := b3.o3
  obtain ⟨d0, d1, d2, df, dl⟩ := b2.o3
  have hfail := failQ w3 g h3 12 (by omega)
  have hbc : (c == 1) = ((c.toNat : Int) == 1) := by
    by_cases h : c = 1
    · subst h; rfl
    · have h2 : ¬ (c.toNat : Int) = 1 := fun he => h (UInt8.toNat_inj.1 (by change c.toNat = 1; omega))
      rw [beq_eq_false_iff_ne.2 h, beq_eq_false_iff_ne.2 h2]
  have EV : wV (wrtOf k1 k2 c) = .agg #[.string ⟨k1.toArray⟩, .string ⟨k2.toArray⟩, .bool ((c.toNat : Int) == 1)] := by
    unfold wV wrtOf
    rw [hbc]
  have kf := fun (wf : World) (b : Value) => ((((Keeps.refl [g3, g2] wf).setCell ⟨g3, 2, none⟩ b (.inl (by simp))).setCell ⟨g2, 0, none⟩ (.string ⟨k1.toArray⟩) (.inl (by simp))).setCell ⟨g2, 1, none⟩ (.string ⟨k2.toArray⟩) (.inl (by simp))).setCell ⟨g2, 2, none⟩ b (.inl (by simp))
  have kg : ∀ s ∈ [g3, g2], g < s := by simp; omega
  have kw : ∀ s ∈ [g3, g2], s ∈ [g] ∨ w.heap.size ≤ s := by simp; omega
  have KG := Lib.hid kg
  have KW := Lib.hid kw
  have KF := Lib.hid kf
  have HB := Lib.hid hbc
  have HE := Lib.hid EV
  clear kg kw kf EV hbc
  by_cases hc : c.toNat ≤ 1
  · rw [if_pos hc] at A1
    clear v3 z3 hc3 h2 K3 hsz hfail
    simp only [vB]
    go_wp2_with fail
    try simp only [Exit.inBlock, Exit.then]
    have b4 := (((b2.other ⟨g3, 2, none⟩ (.bool ((c.toNat : Int) == 1)) (by simp; omega)).set 0 (.string ⟨k1.toArray⟩)).set 1 (.string ⟨k2.toArray⟩)).set 2 (.bool ((c.toNat : Int) == 1))
    simp only [List.set] at b4
    refine bodyPost_ret (results_blk rfl _ _ g2 _ _ rfl b4 Try.underlying81 sizW) rfl ?_
    refine ⟨_, by rw [HE.out], KK.trans (KF.out _ _) KW.out, ?_, A2⟩
    rw [A1]
    exact h3.keepsS (KF.out _ _) KG.out
  · rw [if_neg hc] at A1
    clear v3 z3 hc3 h2 K3 hsz
    simp only [vB]
    go_wp2_with fail
    refine hfail.mono ?_
    rintro q w4 ⟨rfl, K4, h4⟩
    replace b2 := K4.blk b2 (by simp; omega)
    replace b3 := K4.blk b3 (by simp; omega)
    have KK := KK.trans K4 (by simp)
    obtain ⟨c0, c1, c2, hf, hl⟩ := b3.o3
    obtain ⟨d0, d1, d2, df, dl⟩ := b2.o3
    clear hfail
    go_wp2_with fail
    try simp only [Exit.inBlock, Exit.then]
    have b4 := (((b2.other ⟨g3, 2, none⟩ (.bool ((c.toNat : Int) == 1)) (by simp; omega)).set 0 (.string ⟨k1.toArray⟩)).set 1 (.string ⟨k2.toArray⟩)).set 2 (.bool ((c.toNat : Int) == 1))
    simp only [List.set] at b4
    refine bodyPost_ret (results_blk rfl _ _ g2 _ _ rfl b4 Try.underlying81 sizW) rfl ?_
    refine ⟨_, by rw [HE.out], KK.trans (KF.out _ _) KW.out, ?_, A2⟩
    rw [A1]
    exact h4.keepsS (KF.out _ _) KG.out
end Go.Proofs.Ytkgmgnfcmnhhaaa
