/- A generic contract's structure at this dump, written by the kit's lay-plain.mjs. -/
import Derived.Ground.SlsgProg
import Derived.Shelf.SlGeneric
import Derived.Shelf.SlLaysG2
import Derived.Test.YtmlojbfcmebboaaGreatProg
namespace Go.Proofs
open Go.Shelf
def Tryz.layBsf_ren : Go.Shelf.Ren := ⟨fun | 14 => 159 | n => n, fun | 22 => 182 | 24 => 192 | 29 => 5 | 32 => 224 | 3 => 3 | 4 => 4 | 35 => 175 | 0 => 0 | n => n, fun | n => n⟩
theorem Tryz.layBsf : Go.Proofs.SlLaysG2.n14 Tryz.prog Tryz.layBsf_ren := {
  mixed := by kernel_rfl
  f14 := ⟨Tryz.f159.name, by decide, Tryz.func159.trans (congrArg some (by kernel_rfl))⟩
  t0 := Tryz.underlying0
  a0 := Tryz.isAgg0
  z0 := Tryz.sizeOf0
  v0 := Tryz.zeroValue0
  t3 := Tryz.underlying3
  a3 := Tryz.isAgg3
  z3 := Tryz.sizeOf3
  v3 := Tryz.zeroValue3
  t4 := Tryz.underlying4
  a4 := Tryz.isAgg4
  z4 := Tryz.sizeOf4
  v4 := Tryz.zeroValue4
  t22 := Tryz.underlying182
  a22 := Tryz.isAgg182
  z22 := Tryz.sizeOf182
  v22 := Tryz.zeroValue182
  a24 := Tryz.isAgg192
  z24 := Tryz.sizeOf192
  a29 := Tryz.isAgg5
  z29 := Tryz.sizeOf5
  t32 := Tryz.underlying224
  a32 := Tryz.isAgg224
  z32 := Tryz.sizeOf224
  v32 := Tryz.zeroValue224
  t35 := Tryz.underlying175
  a35 := Tryz.isAgg175
  z35 := Tryz.sizeOf175
  v35 := Tryz.zeroValue175 }
end Go.Proofs
