/- What the sort's walks ask of the program: the program itself is a variable there, and so is the size of a record. -/
import Derived.Test.YtjlgodaiciopaaaHisS
import Derived.Test.YtjlgodaiciopaaaHisA
import Derived.Test.YtjlgodaiciopaaaHisLay
import Derived.Shelf.SlSortCmp.KitK
import Derived.Deep.LoopGhost
import Derived.BigQuiet
namespace Go.Proofs.Ytjlgodaiciopaaa
open Go.RowKit Go.Shelf Go.Lib Go.Sort
set_option maxRecDepth 100000
structure SL (P : Program) (k : Nat) : Prop where
  mixed : P.follows .mixedOrders = true
  f38 : P.funcs[38]? = some Try.f38
  f37 : P.funcs[37]? = some Try.f37
  f36 : P.funcs[36]? = some Try.f36
  f32 : P.funcs[32]? = some Try.f32
  f25 : P.funcs[25]? = some Try.f25
  t3 : P.underlying 3 = some (.int .i64)
  a3 : ∀ w, (isAgg 3).run P w = .ok false w
  z3 : ∀ w, (Go.sizeOf 3).run P w = .ok 1 w
  v3 : ∀ w, (zeroValue 3).run P w = .ok (.int .i64 0) w
  t4 : P.underlying 4 = some (.bool)
  a4 : ∀ w, (isAgg 4).run P w = .ok false w
  z4 : ∀ w, (Go.sizeOf 4).run P w = .ok 1 w
  v4 : ∀ w, (zeroValue 4).run P w = .ok (.bool false) w
  t67 : P.underlying 67 = some (.int .u64)
  a67 : ∀ w, (isAgg 67).run P w = .ok false w
  z67 : ∀ w, (Go.sizeOf 67).run P w = .ok 1 w
  v67 : ∀ w, (zeroValue 67).run P w = .ok (.int .u64 0) w
  t22 : P.underlying 22 = some (.slice 36)
  a22 : ∀ w, (isAgg 22).run P w = .ok false w
  z22 : ∀ w, (Go.sizeOf 22).run P w = .ok 1 w
  v22 : ∀ w, (zeroValue 22).run P w = .ok (.slice none 0 0) w
  aE : ∀ w, (isAgg 36).run P w = .ok true w
  zE : ∀ w, (Go.sizeOf 36).run P w = .ok k w
theorem sl : SL Try.prog 16 := {
  mixed := by kernel_rfl
  f38 := Try.func38
  f37 := Try.func37
  f36 := Try.func36
  f32 := Try.func32
  f25 := Try.func25
  t3 := Try.underlying3
  a3 := Try.isAgg3
  z3 := Try.sizeOf3
  v3 := Try.zeroValue3
  t4 := Try.underlying4
  a4 := Try.isAgg4
  z4 := Try.sizeOf4
  v4 := Try.zeroValue4
  t67 := Try.underlying67
  a67 := Try.isAgg67
  z67 := Try.sizeOf67
  v67 := Try.zeroValue67
  t22 := Try.underlying22
  a22 := Try.isAgg22
  z22 := Try.sizeOf22
  v22 := Try.zeroValue22
  aE := Try.isAgg36
  zE := Try.sizeOf36 }
end Go.Proofs.Ytjlgodaiciopaaa
