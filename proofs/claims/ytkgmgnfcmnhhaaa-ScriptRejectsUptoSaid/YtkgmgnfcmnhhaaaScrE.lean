/- The reader of package script: the contract of text. -/
import Derived.Test.YtkgmgnfcmnhhaaaScrD
import Derived.Laws.BytesArg
namespace Go.Proofs.Ytkgmgnfcmnhhaaa
open Go.RowKit
set_option linter.unusedSectionVars false
set_option linter.unusedVariables false
set_option linter.unusedSimpArgs false
set_option maxRecDepth 20000
theorem conv_bys (w : World) (g cap n : Nat) (A : Option Addr) (r : Str) (h : Bys w g (.slice A r.length cap) r) (hn : n ≤ r.length) (c' : Nat) :
    (convert 23 9 (.slice A n c')).run Try.prog w = .ok (.string ⟨(r.take n).toArray⟩) w := by
  obtain ⟨A', cap', b, o, he, hA, hx, _, _, _⟩ := h
  simp only [Value.slice.injEq] at he
  obtain ⟨rfl, _, rfl⟩ := he
  by_cases h0 : 0 < n
  · obtain rfl := hA (by omega)
    have := run_convert_bytes_arg (P := Try.prog) w 23 5 Try.underlying23 Try.underlying5 b o n c' ((r.take n).map fun c => (c.toNat : Int)) (by simp; omega) (fun i hi => by
      have h1 := hx.1 i (by simp; omega)
      rw [h1]
      simp [vB, List.getD_eq_getElem?_getD, List.getElem?_take, hi, List.getElem?_eq_getElem (show i < r.length by omega)]) 9 Try.underlying9
    rw [this]
    congr 3
    simp [strOfNums, Function.comp_def]
  · obtain rfl : n = 0 := by omega
    cases A with
    | none => exact run_convert_bytes_nil (P := Try.prog) w 23 5 Try.underlying23 Try.underlying5 0 c' 9 Try.underlying9
    | some a =>
      rw [run_convert_bytes_string w _ _ _ _ _ _ Try.underlying23 Try.underlying5 Try.underlying9]
      rw [run_bytesToString w a 0 c' [] (by simpa using run_loadCells_list (P := Try.prog) w a [] (by simp))]
      simp
      rfl
theorem Arr.drop {w : World} {b o n : Nat} {xs : List Value} (h : Arr w b o xs) : Arr w b (o + n) (xs.drop n) := by
  refine ⟨fun i hi => ?_, fun hp => h.2 (by simp at hp; omega)⟩
  have := h.1 (n + i) (by simp at hi; omega)
  rw [List.getElem?_drop, ← this, Nat.add_assoc]
theorem txt_ok (w : World) (g : Nat) (L : Str) (h : Rst w g L 0) :
    Calls Try.prog 41 #[.pointer (some ⟨g, 0, none⟩)] w (RdPost (rTxt L) w g (fun s => .string ⟨s.toArray⟩) (fun v => v = .string ⟨#[]⟩)) := by
  have hv := len_ok w g L h
  unfold rTxt
  cases hr : rLen L with
  | error e =>
    rw [hr] at hv
    have Hr := Lib.hid hr
    clear hr
    go_enter Try.func41, Try.ntmps41
    go_wp2_with fail
    refine hv.mono ?_
    rintro q w1 ⟨k1, ⟨v, rfl, rfl⟩, he, L', h1⟩
    have e1 := h1.err
    have hee : ¬ (e : Int) = 0 := by omega
    go_wp2
    all_goals go_ret
    all_goals exact ⟨k1, ⟨_, rfl, rfl⟩, he, _, h1⟩
  | ok z =>
    obtain ⟨n, r⟩ := z
    rw [hr] at hv
    have hn : n ≤ r.length := by
      unfold rLen at hr
      split at hr
      · simp at hr
      · split at hr
        · simp at hr
        · simp only [Except.ok.injEq, Prod.mk.injEq] at hr
          obtain ⟨rfl, rfl⟩ := hr
          omega
    clear hr
    go_enter Try.func41, Try.ntmps41
    go_wp2_with fail
    refine hv.mono ?_
    rintro q w1 ⟨k1, rfl, h1⟩
    have e1 := h1.err
    obtain ⟨v, hb, hby⟩ := h1
    obtain ⟨A, cap, b, o, rfl, hA, hx, hn2, hc, hm⟩ := id hby
    obtain ⟨c0, -, hf, hl⟩ := hb.o2
    have hcv := conv_bys w1 g cap n A r hby hn
    have k := fun v => (Keeps.refl [g] w1).setCell ⟨g, 0, none⟩ v (.inl (by simp))
    go_wp2
    · go_ret
      refine ⟨k1.trans (k _) (by simp), rfl, _, hb.set 0 _, A, 0, b, o + n, by rw [List.length_drop], fun hp => ?_, ?_, fun h0 => hn2 (by rw [List.length_drop] at h0; omega), ?_, ?_⟩
      · exfalso
        simp at hp
        omega
      · rw [List.map_drop]
        exact (hx.drop (n := n)).keepsIf (k _) (fun h0 => by have := hn2 (by rw [List.length_drop, List.length_map] at h0; omega); simp; omega)
      · simp
        omega
      · omega
    · go_ret
      refine ⟨k1.trans (k _) (by simp), rfl, _, hb.set 0 _, A.map (fun x => x.add n), cap - n, b, o + n, by rw [List.length_drop], fun hp => ?_, ?_, fun h0 => hn2 (by rw [List.length_drop] at h0; omega), ?_, ?_⟩
      · obtain rfl := hA (by simp at hp; omega)
        simp [Addr.add]
      · rw [List.map_drop]
        exact (hx.drop (n := n)).keepsIf (k _) (fun h0 => by have := hn2 (by rw [List.length_drop, List.length_map] at h0; omega); simp; omega)
      · simp
        omega
      · omega
end Go.Proofs.Ytkgmgnfcmnhhaaa
