/-
  DERIVED: THE SHELF's CONTRACTS AT THIS DUMP, IN PLAIN WORDS (tools/lay-plain.mjs out of 'YtinnifhnabncfaaDoorDoorLay0.lean', which tools/lay-shelf.mjs wrote): THE SAME DECLARATIONS UNDER THE SAME NAMES: 'import', 'namespace', 'open', 'def', 'theorem' AND NOTHING ELSE: no command of the shelf's: FOR A HAND-IN. Each laying: the table of numbers ('.._ren') and one theorem, a field a fact of the dump's own or the kernel's comparison; each contract: ONE APPLICATION.
-/
import Derived.Shelf.SlGeneric
import Derived.Shelf.SlLaysF0
import Derived.Shelf.SlLaysQ
import Derived.Shelf.SlLaysH0
import Derived.Ground.SlsfProg
import Derived.Ground.SlgqProg
import Derived.Ground.SlgfProg
import Derived.Test.YtinnifhnabncfaaDoorProg
namespace Go.Proofs
open Go.Shelf
def Tryd.insLabel_ren : Go.Shelf.Ren := ⟨fun | 20 => 105 | n => n, fun | 24 => 97 | 22 => 74 | 3 => 3 | 25 => 125 | 4 => 4 | 0 => 0 | n => n, fun | n => n⟩
theorem Tryd.insLabel : Go.Proofs.SlLaysF0.n20 Tryd.prog Tryd.insLabel_ren := {
  mixed := by kernel_rfl
  f20 := ⟨Tryd.f105.name, by decide, Tryd.func105.trans (congrArg some (by kernel_rfl))⟩
  t0 := Tryd.underlying0
  a0 := Tryd.isAgg0
  z0 := Tryd.sizeOf0
  v0 := Tryd.zeroValue0
  t3 := Tryd.underlying3
  a3 := Tryd.isAgg3
  z3 := Tryd.sizeOf3
  v3 := Tryd.zeroValue3
  t4 := Tryd.underlying4
  a4 := Tryd.isAgg4
  z4 := Tryd.sizeOf4
  v4 := Tryd.zeroValue4
  t22 := Tryd.underlying74
  a22 := Tryd.isAgg74
  z22 := Tryd.sizeOf74
  v22 := Tryd.zeroValue74
  t25 := Tryd.underlying125
  a25 := Tryd.isAgg125
  z25 := Tryd.sizeOf125
  v25 := Tryd.zeroValue125 }
def Tryd.containsFuncDelta_ren : Go.Shelf.Ren := ⟨fun | 8 => 55 | 6 => 36 | n => n, fun | 22 => 25 | 23 => 44 | 25 => 70 | 4 => 4 | 3 => 3 | 0 => 0 | n => n, fun | n => n⟩
theorem Tryd.containsFuncDelta : Go.Proofs.SlLaysH0.n8 Tryd.prog Tryd.containsFuncDelta_ren := {
  mixed := by kernel_rfl
  f6 := ⟨Tryd.f36.name, by decide, Tryd.func36.trans (congrArg some (by kernel_rfl))⟩
  f8 := ⟨Tryd.f55.name, by decide, Tryd.func55.trans (congrArg some (by kernel_rfl))⟩
  t0 := Tryd.underlying0
  a0 := Tryd.isAgg0
  z0 := Tryd.sizeOf0
  v0 := Tryd.zeroValue0
  t3 := Tryd.underlying3
  a3 := Tryd.isAgg3
  z3 := Tryd.sizeOf3
  v3 := Tryd.zeroValue3
  t4 := Tryd.underlying4
  a4 := Tryd.isAgg4
  z4 := Tryd.sizeOf4
  v4 := Tryd.zeroValue4
  t22 := Tryd.underlying25
  a22 := Tryd.isAgg25
  z22 := Tryd.sizeOf25
  v22 := Tryd.zeroValue25
  t25 := Tryd.underlying70
  a25 := Tryd.isAgg70
  z25 := Tryd.sizeOf70
  v25 := Tryd.zeroValue70 }
def Tryd.indexFuncDelta_ren : Go.Shelf.Ren := ⟨fun | 6 => 36 | n => n, fun | 22 => 25 | 23 => 44 | 25 => 70 | 3 => 3 | 0 => 0 | 4 => 4 | n => n, fun | n => n⟩
theorem Tryd.indexFuncDelta : Go.Proofs.SlLaysH0.n6 Tryd.prog Tryd.indexFuncDelta_ren := {
  mixed := by kernel_rfl
  f6 := ⟨Tryd.f36.name, by decide, Tryd.func36.trans (congrArg some (by kernel_rfl))⟩
  t0 := Tryd.underlying0
  a0 := Tryd.isAgg0
  z0 := Tryd.sizeOf0
  v0 := Tryd.zeroValue0
  t3 := Tryd.underlying3
  a3 := Tryd.isAgg3
  z3 := Tryd.sizeOf3
  v3 := Tryd.zeroValue3
  t4 := Tryd.underlying4
  a4 := Tryd.isAgg4
  z4 := Tryd.sizeOf4
  v4 := Tryd.zeroValue4
  t22 := Tryd.underlying25
  a22 := Tryd.isAgg25
  z22 := Tryd.sizeOf25
  v22 := Tryd.zeroValue25
  t25 := Tryd.underlying70
  a25 := Tryd.isAgg70
  z25 := Tryd.sizeOf70
  v25 := Tryd.zeroValue70 }
def Tryd.equalDelta_ren : Go.Shelf.Ren := ⟨fun | 8 => 34 | n => n, fun | 22 => 25 | 24 => 44 | 4 => 4 | 3 => 3 | 0 => 0 | n => n, fun | n => n⟩
theorem Tryd.equalDelta : Go.Proofs.SlLaysQ.n8 Tryd.prog Tryd.equalDelta_ren := {
  mixed := by kernel_rfl
  f8 := ⟨Tryd.f34.name, by decide, Tryd.func34.trans (congrArg some (by kernel_rfl))⟩
  t0 := Tryd.underlying0
  a0 := Tryd.isAgg0
  z0 := Tryd.sizeOf0
  v0 := Tryd.zeroValue0
  t3 := Tryd.underlying3
  a3 := Tryd.isAgg3
  z3 := Tryd.sizeOf3
  v3 := Tryd.zeroValue3
  t4 := Tryd.underlying4
  a4 := Tryd.isAgg4
  z4 := Tryd.sizeOf4
  v4 := Tryd.zeroValue4
  t22 := Tryd.underlying25
  a22 := Tryd.isAgg25
  z22 := Tryd.sizeOf25
  v22 := Tryd.zeroValue25 }
end Go.Proofs
