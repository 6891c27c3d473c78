/- A generic contract's structure at this dump, written by the kit's lay-plain.mjs. -/
import Derived.Ground.SlgnProg
import Derived.Shelf.SlGeneric
import Derived.Shelf.SlLaysE
import Derived.Test.YtnlbmplbaalgmaaProg
namespace Go.Proofs
open Go.Shelf
def Try.layDel_ren : Go.Shelf.Ren := ⟨fun | 45 => 69 | n => n, fun | 22 => 75 | 23 => 80 | 3 => 3 | 4 => 4 | 0 => 0 | n => n, fun | n => n⟩
theorem Try.layDel : Go.Proofs.SlLaysE.n45 Try.prog Try.layDel_ren := {
  mixed := by kernel_rfl
  f45 := ⟨Try.f69.name, by decide, Try.func69.trans (congrArg some (by kernel_rfl))⟩
  t0 := Try.underlying0
  a0 := Try.isAgg0
  z0 := Try.sizeOf0
  v0 := Try.zeroValue0
  t3 := Try.underlying3
  a3 := Try.isAgg3
  z3 := Try.sizeOf3
  v3 := Try.zeroValue3
  t4 := Try.underlying4
  a4 := Try.isAgg4
  z4 := Try.sizeOf4
  v4 := Try.zeroValue4
  t22 := Try.underlying75
  a22 := Try.isAgg75
  z22 := Try.sizeOf75
  v22 := Try.zeroValue75
  a23 := Try.isAgg80
  z23 := Try.sizeOf80 }
end Go.Proofs
