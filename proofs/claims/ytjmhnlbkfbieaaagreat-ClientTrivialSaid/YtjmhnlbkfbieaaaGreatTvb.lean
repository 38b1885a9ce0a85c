/- ClientTrivial: its program (written by gen_tvb.py). -/
import Derived.Test.YtjmhnlbkfbieaaaGreatScrK
import Derived.Test.YtjmhnlbkfbieaaaGreatScrV
namespace Go.Proofs.YtjmhnlbkfbieaaaGreat
set_option linter.unusedSectionVars false
set_option linter.unusedVariables false
set_option linter.unusedSimpArgs false
set_option maxRecDepth 100000
def wr0 : Wrt := ⟨[], [], false⟩
def tB (h o r n : Nat) (lg bg : Str) (gM g1 g2 g3 : Nat) : List OV := [⟨5, [], 0, none, 0, [], h, 0, 0⟩, ⟨7, [], 0, none, 0, [], 0, r, 0⟩, ⟨8, [], 0, none, 0, [], 0, r, 0⟩, ⟨6, [], 0, none, 0, [], h, r, 0⟩, ⟨1, lg, 0, none, 0, [], 0, 0, 0⟩, ⟨2, lg, 9, none, 0, [], 0, 0, 0⟩, ⟨3, [], 0, (some ⟨gM, 0, none⟩), n, (List.replicate n wr0), 0, 0, 0⟩, ⟨3, [], 0, (some ⟨g1, 0, none⟩), 1, [⟨lg, [], false⟩], 0, 0, 0⟩, ⟨3, [], 0, (some ⟨g2, 0, none⟩), 1, [⟨[], bg, false⟩], 0, 0, 0⟩, ⟨3, [], 0, (some ⟨g3, 0, none⟩), 1, [⟨[], [120], true⟩], 0, 0, 0⟩, ⟨4, [], 0, none, 0, [], h, 0, 0⟩, ⟨4, [], 0, none, 0, [], h, 0, 0⟩, ⟨6, [], 0, none, 0, [], h, r, 0⟩, ⟨6, [], 0, none, 0, [], h, r, 0⟩, ⟨7, lg, 0, none, 0, [], 0, r, 0⟩, ⟨5, [], 0, none, 0, [], ((1 - h : Nat) : Int), 0, 0⟩, ⟨8, [], 0, none, 0, [], 0, r, 0⟩, ⟨8, [], 0, none, 0, [], 0, r, 0⟩, ⟨6, [], 0, none, 0, [], h, r, 0⟩, ⟨5, [], 0, none, 0, [], h, 0, 0⟩, ⟨7, [], 0, none, 0, [], 0, r, 3⟩, ⟨6, [], 0, none, 0, [], o, r, 0⟩]
def tO (h o r n : Nat) (lg bg : Str) : List Opn := [⟨5, [], 0, [], h, 0, 0⟩, ⟨7, [], 0, [], 0, r, 0⟩, ⟨8, [], 0, [], 0, r, 0⟩, ⟨6, [], 0, [], h, r, 0⟩, ⟨1, lg, 0, [], 0, 0, 0⟩, ⟨2, lg, 9, [], 0, 0, 0⟩, ⟨3, [], 0, (List.replicate n wr0), 0, 0, 0⟩, ⟨3, [], 0, [⟨lg, [], false⟩], 0, 0, 0⟩, ⟨3, [], 0, [⟨[], bg, false⟩], 0, 0, 0⟩, ⟨3, [], 0, [⟨[], [120], true⟩], 0, 0, 0⟩, ⟨4, [], 0, [], h, 0, 0⟩, ⟨4, [], 0, [], h, 0, 0⟩, ⟨6, [], 0, [], h, r, 0⟩, ⟨6, [], 0, [], h, r, 0⟩, ⟨7, lg, 0, [], 0, r, 0⟩, ⟨5, [], 0, [], ((1 - h : Nat) : Int), 0, 0⟩, ⟨8, [], 0, [], 0, r, 0⟩, ⟨8, [], 0, [], 0, r, 0⟩, ⟨6, [], 0, [], h, r, 0⟩, ⟨5, [], 0, [], h, 0, 0⟩, ⟨7, [], 0, [], 0, r, 3⟩, ⟨6, [], 0, [], o, r, 0⟩]
theorem tB_op (h o r n : Nat) (lg bg : Str) (gM g1 g2 g3 : Nat) : (tB h o r n lg bg gM g1 g2 g3).map OV.op = tO h o r n lg bg := rfl
theorem tB_len (h o r n : Nat) (lg bg : Str) (gM g1 g2 g3 : Nat) : (tB h o r n lg bg gM g1 g2 g3).length = 22 := rfl
theorem tB_cells (h o r n : Nat) (lg bg : Str) (gM g1 g2 g3 : Nat) : oCs (tB h o r n lg bg gM g1 g2 g3) = [.int .i64 5, .string ⟨#[]⟩, .int .u64 0, .slice none 0 0, .int .i64 h, .int .i64 0, .int .i64 0, .int .i64 7, .string ⟨#[]⟩, .int .u64 0, .slice none 0 0, .int .i64 0, .int .i64 r, .int .i64 0, .int .i64 8, .string ⟨#[]⟩, .int .u64 0, .slice none 0 0, .int .i64 0, .int .i64 r, .int .i64 0, .int .i64 6, .string ⟨#[]⟩, .int .u64 0, .slice none 0 0, .int .i64 h, .int .i64 r, .int .i64 0, .int .i64 1, .string ⟨lg.toArray⟩, .int .u64 0, .slice none 0 0, .int .i64 0, .int .i64 0, .int .i64 0, .int .i64 2, .string ⟨lg.toArray⟩, .int .u64 9, .slice none 0 0, .int .i64 0, .int .i64 0, .int .i64 0, .int .i64 3, .string ⟨#[]⟩, .int .u64 0, .slice (some ⟨gM, 0, none⟩) n n, .int .i64 0, .int .i64 0, .int .i64 0, .int .i64 3, .string ⟨#[]⟩, .int .u64 0, .slice (some ⟨g1, 0, none⟩) 1 1, .int .i64 0, .int .i64 0, .int .i64 0, .int .i64 3, .string ⟨#[]⟩, .int .u64 0, .slice (some ⟨g2, 0, none⟩) 1 1, .int .i64 0, .int .i64 0, .int .i64 0, .int .i64 3, .string ⟨#[]⟩, .int .u64 0, .slice (some ⟨g3, 0, none⟩) 1 1, .int .i64 0, .int .i64 0, .int .i64 0, .int .i64 4, .string ⟨#[]⟩, .int .u64 0, .slice none 0 0, .int .i64 h, .int .i64 0, .int .i64 0, .int .i64 4, .string ⟨#[]⟩, .int .u64 0, .slice none 0 0, .int .i64 h, .int .i64 0, .int .i64 0, .int .i64 6, .string ⟨#[]⟩, .int .u64 0, .slice none 0 0, .int .i64 h, .int .i64 r, .int .i64 0, .int .i64 6, .string ⟨#[]⟩, .int .u64 0, .slice none 0 0, .int .i64 h, .int .i64 r, .int .i64 0, .int .i64 7, .string ⟨lg.toArray⟩, .int .u64 0, .slice none 0 0, .int .i64 0, .int .i64 r, .int .i64 0, .int .i64 5, .string ⟨#[]⟩, .int .u64 0, .slice none 0 0, .int .i64 ((1 - h : Nat) : Int), .int .i64 0, .int .i64 0, .int .i64 8, .string ⟨#[]⟩, .int .u64 0, .slice none 0 0, .int .i64 0, .int .i64 r, .int .i64 0, .int .i64 8, .string ⟨#[]⟩, .int .u64 0, .slice none 0 0, .int .i64 0, .int .i64 r, .int .i64 0, .int .i64 6, .string ⟨#[]⟩, .int .u64 0, .slice none 0 0, .int .i64 h, .int .i64 r, .int .i64 0, .int .i64 5, .string ⟨#[]⟩, .int .u64 0, .slice none 0 0, .int .i64 h, .int .i64 0, .int .i64 0, .int .i64 7, .string ⟨#[]⟩, .int .u64 0, .slice none 0 0, .int .i64 0, .int .i64 r, .int .i64 3, .int .i64 6, .string ⟨#[]⟩, .int .u64 0, .slice none 0 0, .int .i64 o, .int .i64 r, .int .i64 0] := by
  unfold tB
  simp only [oCs_cons, oC, List.length_replicate, List.cons_append, List.nil_append, List.length_cons, List.length_nil]
  rfl
theorem tB_ok {w : World} (h o r n : Nat) (lg bg : Str) (gM g1 g2 g3 : Nat) (bM : Blk w gM (wCs (List.replicate n wr0))) (b1 : Blk w g1 (wCs [⟨lg, [], false⟩])) (b2 : Blk w g2 (wCs [⟨[], bg, false⟩])) (b3 : Blk w g3 (wCs [⟨[], [120], true⟩])) : ∀ x ∈ tB h o r n lg bg gM g1 g2 g3, OkB w x := by
  intro x hx
  simp only [tB, List.mem_cons, List.mem_nil_iff, or_false] at hx
  rcases hx with rfl | rfl | rfl | rfl | rfl | rfl | rfl | rfl | rfl | rfl | rfl | rfl | rfl | rfl | rfl | rfl | rfl | rfl | rfl | rfl | rfl | rfl
  · exact Lst.nil _
  · exact Lst.nil _
  · exact Lst.nil _
  · exact Lst.nil _
  · exact Lst.nil _
  · exact Lst.nil _
  · exact Lst.blk (rest := []) (by rw [List.append_nil]; exact bM)
  · exact Lst.blk (rest := []) (by rw [List.append_nil]; exact b1)
  · exact Lst.blk (rest := []) (by rw [List.append_nil]; exact b2)
  · exact Lst.blk (rest := []) (by rw [List.append_nil]; exact b3)
  · exact Lst.nil _
  · exact Lst.nil _
  · exact Lst.nil _
  · exact Lst.nil _
  · exact Lst.nil _
  · exact Lst.nil _
  · exact Lst.nil _
  · exact Lst.nil _
  · exact Lst.nil _
  · exact Lst.nil _
  · exact Lst.nil _
  · exact Lst.nil _
theorem tO_valid (h o r n : Nat) (lg bg : Str) (h2 : h < 2) (o2 : o < 2) (r8 : r < 8) : vProg 2 (tO h o r n lg bg) = true := by
  have e1 : (h : Int) < 2 := by omega
  have e2 : (o : Int) < 2 := by omega
  have e3 : (r : Int) < 8 := by omega
  have e4 : ((1 - h : Nat) : Int) < 2 := by omega
  have e5 : (0 : Int) ≤ ((1 - h : Nat) : Int) := by omega
  have e6 : (0 : Int) ≤ (h : Int) := by omega
  have e7 : (0 : Int) ≤ (o : Int) := by omega
  have e8 : (0 : Int) ≤ (r : Int) := by omega
  unfold vProg tO
  simp only [List.all_cons, List.all_nil, vOp, zrB, List.length_cons, List.length_nil]
  simp [e1, e2, e3, e4, e5, e6, e7, e8]
theorem tB_small (h o r n : Nat) (lg bg : Str) (gM g1 g2 g3 : Nat) (hn : n ≤ 21) : ∀ x ∈ tB h o r n lg bg gM g1 g2 g3, x.b.length ≤ 1073741824 := by
  intro x hx
  simp only [tB, List.mem_cons, List.mem_nil_iff, or_false] at hx
  rcases hx with rfl | rfl | rfl | rfl | rfl | rfl | rfl | rfl | rfl | rfl | rfl | rfl | rfl | rfl | rfl | rfl | rfl | rfl | rfl | rfl | rfl | rfl
  all_goals first | (simp; done) | (simp; omega)
/-- The codes of the operations and the errors that are wanted. -/
def wantL : List Int := [6, 6, 6, 6, 8, 8, 8, 8, 8, 1, 0, 7, 0, 7, 8, 6, 0, 6, 0, 0, 6, 6]
def codeL : List Int := [5, 7, 8, 6, 1, 2, 3, 3, 3, 3, 4, 4, 6, 6, 7, 5, 8, 8, 6, 5, 7, 6]
def wantV : List Value := [.int .i64 6, .int .i64 6, .int .i64 6, .int .i64 6, .int .i64 8, .int .i64 8, .int .i64 8, .int .i64 8, .int .i64 8, .int .i64 1, .int .i64 0, .int .i64 7, .int .i64 0, .int .i64 7, .int .i64 8, .int .i64 6, .int .i64 0, .int .i64 6, .int .i64 0, .int .i64 0, .int .i64 6, .int .i64 6]
theorem want_get (k : Nat) (hk : k < 22) : wantV[k]? = some (.int .i64 (wantL.getD k 0)) := by
  have hc : k = 0 ∨ k = 1 ∨ k = 2 ∨ k = 3 ∨ k = 4 ∨ k = 5 ∨ k = 6 ∨ k = 7 ∨ k = 8 ∨ k = 9 ∨ k = 10 ∨ k = 11 ∨ k = 12 ∨ k = 13 ∨ k = 14 ∨ k = 15 ∨ k = 16 ∨ k = 17 ∨ k = 18 ∨ k = 19 ∨ k = 20 ∨ k = 21 := by omega
  rcases hc with rfl | rfl | rfl | rfl | rfl | rfl | rfl | rfl | rfl | rfl | rfl | rfl | rfl | rfl | rfl | rfl | rfl | rfl | rfl | rfl | rfl | rfl
  all_goals rfl
theorem code_get (h o r n : Nat) (lg bg : Str) (gM g1 g2 g3 : Nat) (k : Nat) (hk : k < 22) : (oCs (tB h o r n lg bg gM g1 g2 g3))[k * 7]? = some (.int .i64 (codeL.getD k 0)) := by
  have hc : k = 0 ∨ k = 1 ∨ k = 2 ∨ k = 3 ∨ k = 4 ∨ k = 5 ∨ k = 6 ∨ k = 7 ∨ k = 8 ∨ k = 9 ∨ k = 10 ∨ k = 11 ∨ k = 12 ∨ k = 13 ∨ k = 14 ∨ k = 15 ∨ k = 16 ∨ k = 17 ∨ k = 18 ∨ k = 19 ∨ k = 20 ∨ k = 21 := by omega
  rcases hc with rfl | rfl | rfl | rfl | rfl | rfl | rfl | rfl | rfl | rfl | rfl | rfl | rfl | rfl | rfl | rfl | rfl | rfl | rfl | rfl | rfl | rfl
  all_goals rfl
/-- Which errors and codes there are. -/
theorem want_code (k : Nat) (hk : k < 22) (h10 : k ≠ 10) (h19 : k ≠ 19) : (wantL.getD k 0 = 1 ∨ wantL.getD k 0 = 6 ∨ wantL.getD k 0 = 7 ∨ wantL.getD k 0 = 8) ∨ (wantL.getD k 0 = 0 ∧ (codeL.getD k 0 = 6 ∨ codeL.getD k 0 = 8)) := by
  have hc : k = 0 ∨ k = 1 ∨ k = 2 ∨ k = 3 ∨ k = 4 ∨ k = 5 ∨ k = 6 ∨ k = 7 ∨ k = 8 ∨ k = 9 ∨ k = 10 ∨ k = 11 ∨ k = 12 ∨ k = 13 ∨ k = 14 ∨ k = 15 ∨ k = 16 ∨ k = 17 ∨ k = 18 ∨ k = 19 ∨ k = 20 ∨ k = 21 := by omega
  rcases hc with rfl | rfl | rfl | rfl | rfl | rfl | rfl | rfl | rfl | rfl | rfl | rfl | rfl | rfl | rfl | rfl | rfl | rfl | rfl | rfl | rfl | rfl
  all_goals first | (exfalso; exact h10 rfl) | (exfalso; exact h19 rfl) | decide
end Go.Proofs.YtjmhnlbkfbieaaaGreat
