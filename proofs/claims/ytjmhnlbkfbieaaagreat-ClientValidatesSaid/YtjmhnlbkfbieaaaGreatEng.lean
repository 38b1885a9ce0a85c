/- For seats without engine.New: the test of a configuration. -/
import Derived.Test.YtjmhnlbkfbieaaaGreatCln
namespace Go.Proofs.YtjmhnlbkfbieaaaGreat
def cfgB (T S N C R F K : Int) : Bool := decide ((1 ≤ T ∧ T ≤ 64) ∧ (1 ≤ S ∧ S ≤ 8) ∧ (1 ≤ N ∧ N ≤ 4096) ∧ (1 ≤ C ∧ C ≤ 16384) ∧ (1 ≤ R ∧ R ≤ 65536) ∧ (4 ≤ F ∧ F ≤ 32) ∧ (1 ≤ K ∧ K ≤ 1099511627776))
end Go.Proofs.YtjmhnlbkfbieaaaGreat
