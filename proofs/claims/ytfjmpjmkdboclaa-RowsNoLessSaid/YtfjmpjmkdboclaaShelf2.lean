/-
  The library's Equal, as it lies in this program: numbers and types. No condition.
-/
import Derived.Shelf.SlicesE.Equal
import Derived.Ground.SlgnProg
import Derived.Test.YtfjmpjmkdboclaaProg
namespace Go.Proofs
open Go.Shelf
def Try.l52_ren : Go.Shelf.Ren := ⟨fun | 33 => 52 | n => n, fun | 22 => 28 | 23 => 3 | 4 => 4 | 3 => 3 | 0 => 0 | n => n, fun | n => n⟩
theorem Try.l52 : Go.Proofs.SlLaysE.n33 Try.prog Try.l52_ren := {
  mixed := by kernel_rfl
  f33 := ⟨Try.f52.name, by decide, Try.func52.trans (congrArg some (by kernel_rfl))⟩
  t0 := Try.underlying0
  a0 := Try.isAgg0
  z0 := Try.sizeOf0
  v0 := Try.zeroValue0
  t3 := Try.underlying3
  a3 := Try.isAgg3
  z3 := Try.sizeOf3
  v3 := Try.zeroValue3
  t4 := Try.underlying4
  a4 := Try.isAgg4
  z4 := Try.sizeOf4
  v4 := Try.zeroValue4
  t22 := Try.underlying28
  a22 := Try.isAgg28
  z22 := Try.sizeOf28
  v22 := Try.zeroValue28
  a23 := Try.isAgg3
  z23 := Try.sizeOf3 }
end Go.Proofs
