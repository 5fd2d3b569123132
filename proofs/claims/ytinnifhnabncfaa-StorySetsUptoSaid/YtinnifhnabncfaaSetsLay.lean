/-
  DERIVED: THE SHELF's CONTRACTS AT THIS DUMP, IN PLAIN WORDS (tools/lay-plain.mjs out of 'YtinnifhnabncfaaSetsLay0.lean', which tools/lay-shelf.mjs wrote): THE SAME DECLARATIONS UNDER THE SAME NAMES: 'import', 'namespace', 'open', 'def', 'theorem' AND NOTHING ELSE: no command of the shelf's: FOR A HAND-IN. Each laying: the table of numbers ('.._ren') and one theorem, a field a fact of the dump's own or the kernel's comparison; each contract: ONE APPLICATION.
-/
import Derived.Shelf.SlGeneric
import Derived.Shelf.SlLaysF0
import Derived.Shelf.SlLaysQ
import Derived.Shelf.SlLaysH0
import Derived.Ground.SlsfProg
import Derived.Ground.SlgqProg
import Derived.Ground.SlgfProg
import Derived.Shelf.Spec.SlicesGrow
import Derived.Test.YtinnifhnabncfaaProg
namespace Go.Proofs
open Go.Shelf
def Try.sortIdent_ren : Go.Shelf.Ren := ⟨fun | 6 => 55 | 15 => 73 | 14 => 75 | 28 => 97 | 29 => 98 | 20 => 99 | 21 => 100 | 22 => 101 | 23 => 102 | 24 => 103 | 25 => 104 | 26 => 105 | 27 => 106 | 46 => 114 | 47 => 110 | 48 => 111 | 49 => 115 | 50 => 116 | 57 => 118 | n => n, fun | 22 => 54 | 24 => 58 | 25 => 83 | 3 => 3 | 39 => 25 | 0 => 0 | 53 => 132 | 55 => 22 | 4 => 4 | 46 => 124 | 45 => 123 | 50 => 129 | 5 => 5 | 9 => 9 | 66 => 140 | 70 => 143 | 76 => 147 | 77 => 148 | n => n, fun | n => n⟩
theorem Try.sortIdent : Go.Proofs.SlLaysF0.n6 Try.prog Try.sortIdent_ren := {
  mixed := by kernel_rfl
  f6 := ⟨Try.f55.name, by decide, Try.func55.trans (congrArg some (by kernel_rfl))⟩
  f14 := ⟨Try.f75.name, by decide, Try.func75.trans (congrArg some (by kernel_rfl))⟩
  f15 := Try.func73.trans (congrArg some (by kernel_rfl))
  f20 := ⟨Try.f99.name, by decide, Try.func99.trans (congrArg some (by kernel_rfl))⟩
  f21 := ⟨Try.f100.name, by decide, Try.func100.trans (congrArg some (by kernel_rfl))⟩
  f22 := ⟨Try.f101.name, by decide, Try.func101.trans (congrArg some (by kernel_rfl))⟩
  f23 := ⟨Try.f102.name, by decide, Try.func102.trans (congrArg some (by kernel_rfl))⟩
  f24 := ⟨Try.f103.name, by decide, Try.func103.trans (congrArg some (by kernel_rfl))⟩
  f25 := ⟨Try.f104.name, by decide, Try.func104.trans (congrArg some (by kernel_rfl))⟩
  f26 := ⟨Try.f105.name, by decide, Try.func105.trans (congrArg some (by kernel_rfl))⟩
  f27 := ⟨Try.f106.name, by decide, Try.func106.trans (congrArg some (by kernel_rfl))⟩
  f28 := Try.func97.trans (congrArg some (by kernel_rfl))
  f29 := Try.func98.trans (congrArg some (by kernel_rfl))
  f46 := ⟨Try.f114.name, by decide, Try.func114.trans (congrArg some (by kernel_rfl))⟩
  f47 := Try.func110.trans (congrArg some (by kernel_rfl))
  f48 := Try.func111.trans (congrArg some (by kernel_rfl))
  f49 := ⟨Try.f115.name, by decide, Try.func115.trans (congrArg some (by kernel_rfl))⟩
  f50 := ⟨Try.f116.name, by decide, Try.func116.trans (congrArg some (by kernel_rfl))⟩
  f57 := ⟨Try.f118.name, by decide, Try.func118.trans (congrArg some (by kernel_rfl))⟩
  t0 := Try.underlying0
  a0 := Try.isAgg0
  z0 := Try.sizeOf0
  v0 := Try.zeroValue0
  t3 := Try.underlying3
  a3 := Try.isAgg3
  z3 := Try.sizeOf3
  v3 := Try.zeroValue3
  t4 := Try.underlying4
  a4 := Try.isAgg4
  z4 := Try.sizeOf4
  v4 := Try.zeroValue4
  t5 := Try.underlying5
  a5 := Try.isAgg5
  z5 := Try.sizeOf5
  v5 := Try.zeroValue5
  t9 := Try.underlying9
  a9 := Try.isAgg9
  z9 := Try.sizeOf9
  v9 := Try.zeroValue9
  t22 := Try.underlying54
  a22 := Try.isAgg54
  z22 := Try.sizeOf54
  v22 := Try.zeroValue54
  t25 := Try.underlying83
  a25 := Try.isAgg83
  z25 := Try.sizeOf83
  v25 := Try.zeroValue83
  t39 := Try.underlying25
  a39 := Try.isAgg25
  z39 := Try.sizeOf25
  v39 := Try.zeroValue25
  t45 := Try.underlying123
  a45 := Try.isAgg123
  z45 := Try.sizeOf123
  v45 := Try.zeroValue123
  t46 := Try.underlying124
  a46 := Try.isAgg124
  z46 := Try.sizeOf124
  v46 := Try.zeroValue124
  t50 := Try.underlying129
  a50 := Try.isAgg129
  z50 := Try.sizeOf129
  v50 := Try.zeroValue129
  t53 := Try.underlying132
  a53 := Try.isAgg132
  z53 := Try.sizeOf132
  v53 := Try.zeroValue132
  t55 := Try.underlying22
  a55 := Try.isAgg22
  z55 := Try.sizeOf22
  v55 := Try.zeroValue22
  t66 := Try.underlying140
  a66 := Try.isAgg140
  z66 := Try.sizeOf140
  v66 := Try.zeroValue140
  t70 := Try.underlying143
  a70 := Try.isAgg143
  z70 := Try.sizeOf143
  v70 := Try.zeroValue143
  t76 := Try.underlying147
  a76 := Try.isAgg147
  z76 := Try.sizeOf147
  v76 := Try.zeroValue147
  t77 := Try.underlying148
  a77 := Try.isAgg148
  z77 := Try.sizeOf148
  v77 := Try.zeroValue148 }
def Try.containsIdent_ren : Go.Shelf.Ren := ⟨fun | 7 => 61 | 6 => 80 | n => n, fun | 22 => 54 | 24 => 58 | 4 => 4 | 0 => 0 | 3 => 3 | n => n, fun | n => n⟩
theorem Try.containsIdent : Go.Proofs.SlLaysQ.n7 Try.prog Try.containsIdent_ren := {
  mixed := by kernel_rfl
  f6 := ⟨Try.f80.name, by decide, Try.func80.trans (congrArg some (by kernel_rfl))⟩
  f7 := ⟨Try.f61.name, by decide, Try.func61.trans (congrArg some (by kernel_rfl))⟩
  t0 := Try.underlying0
  a0 := Try.isAgg0
  z0 := Try.sizeOf0
  v0 := Try.zeroValue0
  t3 := Try.underlying3
  a3 := Try.isAgg3
  z3 := Try.sizeOf3
  v3 := Try.zeroValue3
  t4 := Try.underlying4
  a4 := Try.isAgg4
  z4 := Try.sizeOf4
  v4 := Try.zeroValue4
  t22 := Try.underlying54
  a22 := Try.isAgg54
  z22 := Try.sizeOf54
  v22 := Try.zeroValue54 }
def Try.containsFuncIdent_ren : Go.Shelf.Ren := ⟨fun | 8 => 59 | 6 => 79 | n => n, fun | 22 => 54 | 23 => 58 | 25 => 87 | 4 => 4 | 3 => 3 | 0 => 0 | n => n, fun | n => n⟩
theorem Try.containsFuncIdent : Go.Proofs.SlLaysH0.n8 Try.prog Try.containsFuncIdent_ren := {
  mixed := by kernel_rfl
  f6 := ⟨Try.f79.name, by decide, Try.func79.trans (congrArg some (by kernel_rfl))⟩
  f8 := ⟨Try.f59.name, by decide, Try.func59.trans (congrArg some (by kernel_rfl))⟩
  t0 := Try.underlying0
  a0 := Try.isAgg0
  z0 := Try.sizeOf0
  v0 := Try.zeroValue0
  t3 := Try.underlying3
  a3 := Try.isAgg3
  z3 := Try.sizeOf3
  v3 := Try.zeroValue3
  t4 := Try.underlying4
  a4 := Try.isAgg4
  z4 := Try.sizeOf4
  v4 := Try.zeroValue4
  t22 := Try.underlying54
  a22 := Try.isAgg54
  z22 := Try.sizeOf54
  v22 := Try.zeroValue54
  t25 := Try.underlying87
  a25 := Try.isAgg87
  z25 := Try.sizeOf87
  v25 := Try.zeroValue87 }
def Try.growIdent_ren : Go.Shelf.Ren := ⟨fun | 4 => 74 | n => n, fun | 22 => 54 | 25 => 58 | 3 => 3 | 4 => 4 | 9 => 9 | 20 => 20 | 0 => 0 | n => n, fun | n => n⟩
theorem Try.growIdent : Go.Proofs.Lays8.n4 Try.prog Try.growIdent_ren := {
  mixed := by kernel_rfl
  f4 := ⟨Try.f74.name, by decide, Try.func74.trans (congrArg some (by kernel_rfl))⟩
  t0 := Try.underlying0
  a0 := Try.isAgg0
  z0 := Try.sizeOf0
  v0 := Try.zeroValue0
  t3 := Try.underlying3
  a3 := Try.isAgg3
  z3 := Try.sizeOf3
  v3 := Try.zeroValue3
  t4 := Try.underlying4
  a4 := Try.isAgg4
  z4 := Try.sizeOf4
  v4 := Try.zeroValue4
  t9 := Try.underlying9
  a9 := Try.isAgg9
  z9 := Try.sizeOf9
  v9 := Try.zeroValue9
  t20 := Try.underlying20
  a20 := Try.isAgg20
  z20 := Try.sizeOf20
  v20 := Try.zeroValue20
  t22 := Try.underlying54
  a22 := Try.isAgg54
  z22 := Try.sizeOf54
  v22 := Try.zeroValue54 }
end Go.Proofs
