/- The contract of kit.Same at bytes, where both sides are equal. -/
import Derived.Test.YtkgmgnfcmnhhaaaScrM
import Derived.BigQuiet
namespace Go.Proofs.Ytkgmgnfcmnhhaaa
open Go.RowKit
set_option linter.unusedSectionVars false
set_option linter.unusedVariables false
set_option linter.unusedSimpArgs false
set_option maxRecDepth 100000
set_option maxHeartbeats 4000000
theorem samb_any (w : World) (L : Str) (hn : L.length ≤ 4611686018427387904) (v u : Value) (hv : Lst w v L.length (L.map vB)) (hu : Lst w u L.length (L.map vB)) :
    Calls Try.prog 9 #[v, u] w fun q w' => q = .returned (.bool true) ∧ Keeps [] w w' := by
  obtain ⟨A, cap, b, o, rfl, hA, har⟩ := hv
  obtain ⟨A', cap', b', o', rfl, hA', har'⟩ := hu
  obtain ⟨n, hnn⟩ : ∃ n, L.length = n := ⟨_, rfl⟩
  rw [hnn] at hn hA hA' ⊢
  have Hn := Lib.hid hnn
  have hself : ((n : Int) != (n : Int)) = false := by simp
  have H1 := Lib.hid har
  have H2 := Lib.hid har'
  clear hnn har har'
  go_enter Try.func9, Try.ntmps9
  go_wp2_with fail
  go_loopw [5] (fun i wr => ∃ k z : Nat, k ≤ n ∧ i = .int .i64 (k : Int) ∧ wr = w.drewN z) (fun i _ => n - (intOf i).toNat)
  case atStart => exact ⟨0, 0, by omega, rfl, rfl⟩
  case round =>
    obtain ⟨k, z, hk, rfl, rfl⟩ := hrel
    by_cases hlt : k < n
    · obtain rfl := hA (by omega)
      obtain rfl := hA' (by omega)
      have hkx : k < L.length := by rw [Hn.out]; exact hlt
      obtain ⟨c, hc⟩ : ∃ c, L[k]? = some c := ⟨_, List.getElem?_eq_getElem hkx⟩
      have f1 : w.cell? ⟨b, o + k, none⟩ = some (.int .u8 (c.toNat : Int)) := by
        rw [H1.out.cells k (by rw [List.length_map]; exact hkx), List.getElem?_map, hc]
        rfl
      have f2 : w.cell? ⟨b', o' + k, none⟩ = some (.int .u8 (c.toNat : Int)) := by
        rw [H2.out.cells k (by rw [List.length_map]; exact hkx), List.getElem?_map, hc]
        rfl
      have hself4 : ((c.toNat : Int) != (c.toNat : Int)) = false := by simp
      clear hc
      go_wp2_with fail
      go_quiet (fail)
      go_wp2_with fail
      go_roundw
      case rel => exact ⟨k + 1, _, by omega, by go_num, rfl⟩
      case measure => simp [intOf] <;> omega
    · obtain rfl : k = n := by omega
      go_wp2_with fail
      go_ret
      exact ⟨rfl, (Keeps.refl _ _).drewN _⟩
end Go.Proofs.Ytkgmgnfcmnhhaaa
