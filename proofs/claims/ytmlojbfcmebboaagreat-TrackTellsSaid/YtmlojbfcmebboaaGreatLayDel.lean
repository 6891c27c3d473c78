/- A generic contract's structure at this dump, written by the kit's lay-plain.mjs. -/
import Derived.Ground.SlgnProg
import Derived.Shelf.SlGeneric
import Derived.Shelf.SlLaysE
import Derived.Test.YtmlojbfcmebboaaGreatProg
namespace Go.Proofs
open Go.Shelf
def Tryz.layDel_ren : Go.Shelf.Ren := ⟨fun | 45 => 158 | n => n, fun | 22 => 182 | 23 => 192 | 3 => 3 | 4 => 4 | 0 => 0 | n => n, fun | n => n⟩
theorem Tryz.layDel : Go.Proofs.SlLaysE.n45 Tryz.prog Tryz.layDel_ren := {
  mixed := by kernel_rfl
  f45 := ⟨Tryz.f158.name, by decide, Tryz.func158.trans (congrArg some (by kernel_rfl))⟩
  t0 := Tryz.underlying0
  a0 := Tryz.isAgg0
  z0 := Tryz.sizeOf0
  v0 := Tryz.zeroValue0
  t3 := Tryz.underlying3
  a3 := Tryz.isAgg3
  z3 := Tryz.sizeOf3
  v3 := Tryz.zeroValue3
  t4 := Tryz.underlying4
  a4 := Tryz.isAgg4
  z4 := Tryz.sizeOf4
  v4 := Tryz.zeroValue4
  t22 := Tryz.underlying182
  a22 := Tryz.isAgg182
  z22 := Tryz.sizeOf182
  v22 := Tryz.zeroValue182
  a23 := Tryz.isAgg192
  z23 := Tryz.sizeOf192 }
end Go.Proofs
