/- slices.Insert at []int: its laying at this dump (the shelf's table has none). -/
import Derived.Test.YtaopipghooaekaaShelf
import Derived.Shelf.Spec.SlicesInsert
import Derived.Shelf.Spec.SlicesInsertGrow
namespace Go.Proofs
open Go.Shelf
def Try.laysNm221_ren : Go.Shelf.Ren := ⟨fun | 21 => 22 | 27 => 29 | 28 => 30 | 35 => 35 | 39 => 46 | n => n, fun | 22 => 22 | 3 => 3 | 4 => 4 | 0 => 0 | n => n, fun | n => n⟩
theorem Try.laysNm221 : Go.Proofs.Lays2.n21 Try.prog Try.laysNm221_ren := {
  mixed := by kernel_rfl
  f21 := Try.func22.trans (congrArg some (by kernel_rfl))
  f27 := Try.func29.trans (congrArg some (by kernel_rfl))
  f28 := Try.func30.trans (congrArg some (by kernel_rfl))
  f35 := Try.func35.trans (congrArg some (by kernel_rfl))
  f39 := Try.func46.trans (congrArg some (by kernel_rfl))
  t0 := Try.underlying0
  a0 := Try.isAgg0
  z0 := Try.sizeOf0
  v0 := Try.zeroValue0
  t3 := Try.underlying3
  a3 := Try.isAgg3
  z3 := Try.sizeOf3
  v3 := Try.zeroValue3
  t4 := Try.underlying4
  a4 := Try.isAgg4
  z4 := Try.sizeOf4
  v4 := Try.zeroValue4
  t22 := Try.underlying22
  a22 := Try.isAgg22
  z22 := Try.sizeOf22
  v22 := Try.zeroValue22
  i3 := by kernel_rfl }
end Go.Proofs
