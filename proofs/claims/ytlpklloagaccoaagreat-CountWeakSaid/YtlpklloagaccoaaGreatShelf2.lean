/- The shelf's contracts for slices.Clone, slices.Delete at []int at this program's numbers (laid by program: wip/gen_shelf2.sh; the numbers are the great seat's). No condition. -/
import Derived.Test.YtlpklloagaccoaaGreatRows
import Derived.Shelf.SlicesG.Clone
import Derived.Shelf.SlicesG.Delete
namespace Go.Proofs.YtlpklloagaccoaaGreat
open Go.Shelf
def cloneI_ren : Go.Shelf.Ren := ⟨fun | 41 => 124 | n => n, fun | 22 => 38 | 23 => 3 | 4 => 4 | n => n, fun | n => n⟩
theorem cloneI : Go.Proofs.SlLaysN.n41 Tryz.prog cloneI_ren := {
  mixed := by kernel_rfl
  f41 := ⟨Tryz.f124.name, by decide, Tryz.func124.trans (congrArg some (by kernel_rfl))⟩
  t4 := Tryz.underlying4
  a4 := Tryz.isAgg4
  z4 := Tryz.sizeOf4
  v4 := Tryz.zeroValue4
  t22 := Tryz.underlying38
  a22 := Tryz.isAgg38
  z22 := Tryz.sizeOf38
  v22 := Tryz.zeroValue38
  t23 := Tryz.underlying3
  a23 := Tryz.isAgg3
  z23 := Tryz.sizeOf3
  v23 := Tryz.zeroValue3
  i23 := by kernel_rfl }
def deleteI_ren : Go.Shelf.Ren := ⟨fun | 45 => 125 | n => n, fun | 22 => 38 | 23 => 3 | 3 => 3 | 4 => 4 | 0 => 0 | n => n, fun | n => n⟩
theorem deleteI : Go.Proofs.SlLaysN.n45 Tryz.prog deleteI_ren := {
  mixed := by kernel_rfl
  f45 := ⟨Tryz.f125.name, by decide, Tryz.func125.trans (congrArg some (by kernel_rfl))⟩
  t0 := Tryz.underlying0
  a0 := Tryz.isAgg0
  z0 := Tryz.sizeOf0
  v0 := Tryz.zeroValue0
  t3 := Tryz.underlying3
  a3 := Tryz.isAgg3
  z3 := Tryz.sizeOf3
  v3 := Tryz.zeroValue3
  t4 := Tryz.underlying4
  a4 := Tryz.isAgg4
  z4 := Tryz.sizeOf4
  v4 := Tryz.zeroValue4
  t22 := Tryz.underlying38
  a22 := Tryz.isAgg38
  z22 := Tryz.sizeOf38
  v22 := Tryz.zeroValue38
  t23 := Tryz.underlying3
  a23 := Tryz.isAgg3
  z23 := Tryz.sizeOf3
  v23 := Tryz.zeroValue3
  i23 := by kernel_rfl }
end Go.Proofs.YtlpklloagaccoaaGreat
