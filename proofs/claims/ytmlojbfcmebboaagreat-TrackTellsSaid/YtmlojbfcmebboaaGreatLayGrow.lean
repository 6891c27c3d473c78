/- A generic contract's structure at this dump, written by the kit's lay-plain.mjs. -/
import Derived.Ground.Names8Prog
import Derived.Shelf.Lays8
import Derived.Shelf.SlGeneric
import Derived.Test.YtmlojbfcmebboaaGreatProg
namespace Go.Proofs
open Go.Shelf
def Tryz.layGrowS_ren : Go.Shelf.Ren := ⟨fun | 4 => 118 | n => n, fun | 22 => 30 | 25 => 9 | 3 => 3 | 4 => 4 | 9 => 9 | 20 => 20 | 0 => 0 | n => n, fun | n => n⟩
theorem Tryz.layGrowS : Go.Proofs.Lays8.n4 Tryz.prog Tryz.layGrowS_ren := {
  mixed := by kernel_rfl
  f4 := ⟨Tryz.f118.name, by decide, Tryz.func118.trans (congrArg some (by kernel_rfl))⟩
  t0 := Tryz.underlying0
  a0 := Tryz.isAgg0
  z0 := Tryz.sizeOf0
  v0 := Tryz.zeroValue0
  t3 := Tryz.underlying3
  a3 := Tryz.isAgg3
  z3 := Tryz.sizeOf3
  v3 := Tryz.zeroValue3
  t4 := Tryz.underlying4
  a4 := Tryz.isAgg4
  z4 := Tryz.sizeOf4
  v4 := Tryz.zeroValue4
  t9 := Tryz.underlying9
  a9 := Tryz.isAgg9
  z9 := Tryz.sizeOf9
  v9 := Tryz.zeroValue9
  t20 := Tryz.underlying20
  a20 := Tryz.isAgg20
  z20 := Tryz.sizeOf20
  v20 := Tryz.zeroValue20
  t22 := Tryz.underlying30
  a22 := Tryz.isAgg30
  z22 := Tryz.sizeOf30
  v22 := Tryz.zeroValue30 }
def Tryz.layGrowI_ren : Go.Shelf.Ren := ⟨fun | 4 => 106 | n => n, fun | 22 => 85 | 25 => 3 | 3 => 3 | 4 => 4 | 9 => 9 | 20 => 20 | 0 => 0 | n => n, fun | n => n⟩
theorem Tryz.layGrowI : Go.Proofs.Lays8.n4 Tryz.prog Tryz.layGrowI_ren := {
  mixed := by kernel_rfl
  f4 := ⟨Tryz.f106.name, by decide, Tryz.func106.trans (congrArg some (by kernel_rfl))⟩
  t0 := Tryz.underlying0
  a0 := Tryz.isAgg0
  z0 := Tryz.sizeOf0
  v0 := Tryz.zeroValue0
  t3 := Tryz.underlying3
  a3 := Tryz.isAgg3
  z3 := Tryz.sizeOf3
  v3 := Tryz.zeroValue3
  t4 := Tryz.underlying4
  a4 := Tryz.isAgg4
  z4 := Tryz.sizeOf4
  v4 := Tryz.zeroValue4
  t9 := Tryz.underlying9
  a9 := Tryz.isAgg9
  z9 := Tryz.sizeOf9
  v9 := Tryz.zeroValue9
  t20 := Tryz.underlying20
  a20 := Tryz.isAgg20
  z20 := Tryz.sizeOf20
  v20 := Tryz.zeroValue20
  t22 := Tryz.underlying85
  a22 := Tryz.isAgg85
  z22 := Tryz.sizeOf85
  v22 := Tryz.zeroValue85 }
end Go.Proofs
