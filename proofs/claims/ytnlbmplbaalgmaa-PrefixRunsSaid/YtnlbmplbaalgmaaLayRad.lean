/- A generic contract's structure at this dump, written by the kit's lay-plain.mjs. -/
import Derived.Ground.SlsgProg
import Derived.Shelf.SlGeneric
import Derived.Shelf.SlLaysG2
import Derived.Test.YtnlbmplbaalgmaaProg
namespace Go.Proofs
open Go.Shelf
def Try.layBsf_ren : Go.Shelf.Ren := ⟨fun | 14 => 62 | n => n, fun | 22 => 75 | 24 => 80 | 29 => 5 | 32 => 111 | 3 => 3 | 4 => 4 | 35 => 116 | 0 => 0 | n => n, fun | n => n⟩
theorem Try.layBsf : Go.Proofs.SlLaysG2.n14 Try.prog Try.layBsf_ren := {
  mixed := by kernel_rfl
  f14 := ⟨Try.f62.name, by decide, Try.func62.trans (congrArg some (by kernel_rfl))⟩
  t0 := Try.underlying0
  a0 := Try.isAgg0
  z0 := Try.sizeOf0
  v0 := Try.zeroValue0
  t3 := Try.underlying3
  a3 := Try.isAgg3
  z3 := Try.sizeOf3
  v3 := Try.zeroValue3
  t4 := Try.underlying4
  a4 := Try.isAgg4
  z4 := Try.sizeOf4
  v4 := Try.zeroValue4
  t22 := Try.underlying75
  a22 := Try.isAgg75
  z22 := Try.sizeOf75
  v22 := Try.zeroValue75
  a24 := Try.isAgg80
  z24 := Try.sizeOf80
  a29 := Try.isAgg5
  z29 := Try.sizeOf5
  t32 := Try.underlying111
  a32 := Try.isAgg111
  z32 := Try.sizeOf111
  v32 := Try.zeroValue111
  t35 := Try.underlying116
  a35 := Try.isAgg116
  z35 := Try.sizeOf116
  v35 := Try.zeroValue116 }
end Go.Proofs
