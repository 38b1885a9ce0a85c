/- For seats without the package script: what is needed of XScrK. -/
import Derived.Test.YtjmhnlbkfbieaaaGreatScrJ
import Derived.Laws.ResultCell
namespace Go.Proofs.YtjmhnlbkfbieaaaGreat
open Go.RowKit
set_option linter.unusedSectionVars false
set_option linter.unusedVariables false
set_option linter.unusedSimpArgs false
set_option maxRecDepth 20000
theorem results_blk2 {fn : Func} {p u : Tmp} {ty : TypeId} (h : fn.results = #[.cell p ty, .tmp u]) (tmps : Array Value) (w : World) (g : Nat) (cs : List Value) (d : Array Field)
    (hp : tmps.getD p undef = .pointer (some ⟨g, 0, none⟩)) (hb : Blk w g cs) (hu : Tryz.prog.underlying ty = some (.struct d)) (hi : (Tryz.prog.info? ty).map (·.size) = some cs.length) :
    (results fn tmps).run Tryz.prog w = .ok (.tuple #[.agg cs.toArray, tmps.getD u undef]) w := by
  obtain ⟨T, ht⟩ := hb
  rw [results_cell_tmp h, hp]
  have := run_loadVar_row (P := Tryz.prog) w g T ty cs.toArray _ (.struct d) ht hu rfl (by simpa using hi)
  simp [asAddr, Result.andThen, this]
end Go.Proofs.YtjmhnlbkfbieaaaGreat
