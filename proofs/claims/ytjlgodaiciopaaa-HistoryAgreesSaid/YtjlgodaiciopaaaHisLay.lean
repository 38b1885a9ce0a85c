/- Made by the kit's own programs lay-shelf.mjs and lay-plain.mjs for this seat: slices.insertionSortCmpFunc at records is the shelf's. -/
import Derived.Shelf.SlSortCmp.InsertionK
import Derived.Ground.SlsfProg
import Derived.Shelf.SlGeneric
import Derived.Test.YtjlgodaiciopaaaProg
namespace Go.Proofs
open Go.Shelf
def Try.ins35_ren : Go.Shelf.Ren := ⟨fun | 20 => 35 | n => n, fun | 24 => 36 | 22 => 22 | 3 => 3 | 25 => 58 | 4 => 4 | 0 => 0 | n => n, fun | n => n⟩
theorem Try.ins35 : Go.Proofs.SlLaysF0.n20 Try.prog Try.ins35_ren := {
  mixed := by kernel_rfl
  f20 := ⟨Try.f35.name, by decide, Try.func35.trans (congrArg some (by kernel_rfl))⟩
  t0 := Try.underlying0
  a0 := Try.isAgg0
  z0 := Try.sizeOf0
  v0 := Try.zeroValue0
  t3 := Try.underlying3
  a3 := Try.isAgg3
  z3 := Try.sizeOf3
  v3 := Try.zeroValue3
  t4 := Try.underlying4
  a4 := Try.isAgg4
  z4 := Try.sizeOf4
  v4 := Try.zeroValue4
  t22 := Try.underlying22
  a22 := Try.isAgg22
  z22 := Try.sizeOf22
  v22 := Try.zeroValue22
  t25 := Try.underlying58
  a25 := Try.isAgg58
  z25 := Try.sizeOf58
  v25 := Try.zeroValue58 }
end Go.Proofs
