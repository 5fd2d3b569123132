/- Texts put together: Shelf, Lab5, Lab6, Ent1, Ent2, Ent3, Ent4, Ent5, EntB, PlN, Ent6, Ent7, Ent8, PlE, PlE2, EntC, Ent9, EntA, EntD, EntK, Tape, Tape2, Tape3, EntE, McP, WinA. -/
import Derived.Shelf.Strings.Builder1
import Derived.Shelf.Strings.Builder2
import Derived.Shelf.Strings.OnBuilder
import Derived.Shelf.Small.Bits
import Derived.Shelf.Utf8.RuneCount
import Derived.Shelf.Strconv.Itoa0
import Derived.Shelf.Strings.Search1
import Derived.Shelf.Strings.Search2
import Derived.Shelf.Strings.Search3
import Derived.Shelf.Strings.Cut
import Derived.Shelf.Strings.Count
import Derived.Shelf.LaysM
import Derived.Shelf.Strings.Shaped
import Derived.Shelf.Strings.Split
import Derived.Shelf.Strings.SplitShaped
import Derived.Shelf.Unicode.Decode
import Derived.Shelf.Strings.RuneCount
import Derived.Shelf.Strings.Explode
import Derived.Shelf.Unicode.DecodeSlow
import Derived.Shelf.Unicode.DecodeAny
import Derived.Ground.SlgnProg
import Derived.Shelf.SlicesE.Clone
import Derived.Ground.SlgmProg
import Derived.Shelf.SortM.Plain
import Derived.Test.YtgdooockldgdlaaGreatDoorProg
import Derived.Laws.StructEq
import Derived.Shelf.SlicesQ.IndexFunc
import Derived.Deep.DeepCutAuto
import Derived.Lib.Strings
import Derived.Shelf.SlicesQ.Equal
import Derived.Test.YtgdooockldgdlaaGreatDoorMC1
import Derived.Test.YtgdooockldgdlaaGreatDoorMC2
set_option linter.unusedVariables false
set_option linter.unusedSimpArgs false
section
namespace Go.Proofs
open Go.Shelf
def Tryz.lays156_ren : Go.Shelf.Ren := ⟨fun | 156 => 201 | 165 => 254 | 166 => 255 | 169 => 256 | 240 => 286 | 241 => 287 | 276 => 297 | 277 => 298 | n => n, fun | 31 => 80 | 9 => 9 | 3 => 3 | 4 => 4 | 0 => 0 | 20 => 20 | 72 => 303 | 76 => 307 | 70 => 301 | 37 => 84 | 75 => 306 | 127 => 325 | 164 => 334 | 5 => 5 | 80 => 52 | n => n, fun | n => n⟩
theorem Tryz.lays156 : Go.Proofs.Lays.n156 Tryz.prog Tryz.lays156_ren := {
 mixed := by kernel_rfl
 f156 := Tryz.func201.trans (congrArg some (by kernel_rfl))
 f165 := Tryz.func254.trans (congrArg some (by kernel_rfl))
 f166 := Tryz.func255.trans (congrArg some (by kernel_rfl))
 f169 := Tryz.func256.trans (congrArg some (by kernel_rfl))
 f240 := Tryz.func286.trans (congrArg some (by kernel_rfl))
 f241 := Tryz.func287.trans (congrArg some (by kernel_rfl))
 f276 := Tryz.func297.trans (congrArg some (by kernel_rfl))
 f277 := Tryz.func298.trans (congrArg some (by kernel_rfl))
 t0 := Tryz.underlying0
 a0 := Tryz.isAgg0
 z0 := Tryz.sizeOf0
 v0 := Tryz.zeroValue0
 t3 := Tryz.underlying3
 a3 := Tryz.isAgg3
 z3 := Tryz.sizeOf3
 v3 := Tryz.zeroValue3
 t4 := Tryz.underlying4
 a4 := Tryz.isAgg4
 z4 := Tryz.sizeOf4
 v4 := Tryz.zeroValue4
 t9 := Tryz.underlying9
 a9 := Tryz.isAgg9
 z9 := Tryz.sizeOf9
 v9 := Tryz.zeroValue9
 t20 := Tryz.underlying20
 a20 := Tryz.isAgg20
 z20 := Tryz.sizeOf20
 v20 := Tryz.zeroValue20
 t31 := Tryz.underlying80
 a31 := Tryz.isAgg80
 z31 := Tryz.sizeOf80
 v31 := Tryz.zeroValue80
 t37 := Tryz.underlying84
 a37 := Tryz.isAgg84
 z37 := Tryz.sizeOf84
 v37 := Tryz.zeroValue84
 t70 := Tryz.underlying301
 a70 := Tryz.isAgg301
 z70 := Tryz.sizeOf301
 v70 := Tryz.zeroValue301
 t72 := Tryz.underlying303
 a72 := Tryz.isAgg303
 z72 := Tryz.sizeOf303
 v72 := Tryz.zeroValue303
 t75 := Tryz.underlying306
 a75 := Tryz.isAgg306
 z75 := Tryz.sizeOf306
 v75 := Tryz.zeroValue306
 t76 := Tryz.underlying307
 a76 := Tryz.isAgg307
 z76 := Tryz.sizeOf307
 v76 := Tryz.zeroValue307
 t127 := Tryz.underlying325
 a127 := Tryz.isAgg325
 z127 := Tryz.sizeOf325
 v127 := Tryz.zeroValue325
 t164 := Tryz.underlying334
 a164 := Tryz.isAgg334
 z164 := Tryz.sizeOf334
 v164 := Tryz.zeroValue334 }
theorem Tryz.Builder_Extra_156 : Builder.Extra Tryz.prog Tryz.lays156_ren := {
 sizeBuilder := by kernel_rfl
 liesBuilder := by kernel_rfl
 t5 := Tryz.underlying5
 a5 := Tryz.isAgg5
 z5 := Tryz.sizeOf5
 v5 := Tryz.zeroValue5
 infoByte := by kernel_rfl
 cellsByte := by kernel_rfl
 sizeByte := by kernel_rfl
 neB5 := by decide }
open Go.RowKit in
/-- strings.Join: "Join concatenates the elements of its first argument to create a single string. The separator string sep is placed between elements in the resulting string.": HOWEVER MANY ELEMENTS. Below the heap's end the world is as it was. (LAID: no walk: one application.) -/
theorem Tryz.strings_Join (bk o c : Nat) (xs : List ByteArray) (sep : ByteArray) (w : World) (hcells : ∀ (j : Nat) x, xs[j]? = some x → w.cell? ⟨bk, o + j, none⟩ = some (.string x)) (hbk : bk < w.heap.size) (hN : xs.length ≤ 140737488355328) (hcap : xs.length ≤ c) (hlen : (Lib.join (xs.map (·.data.toList)) sep.data.toList).length ≤ 140737488355328) :
  Calls Tryz.prog 201 #[.slice (some ⟨bk, o, none⟩) xs.length c, .string sep] w fun e w' => e = .returned (.string ⟨(Lib.join (xs.map (·.data.toList)) sep.data.toList).toArray⟩) ∧ Below w.heap.size w w' := Any.strings_Join Tryz.lays156 Tryz.Builder_Extra_156 bk o c xs sep w hcells hbk hN hcap hlen
def Tryz.lays125_ren : Go.Shelf.Ren := ⟨fun | 125 => 152 | 128 => 211 | 129 => 212 | n => n, fun | 46 => 125 | 3 => 3 | 51 => 155 | 53 => 34 | 4 => 4 | 5 => 5 | 9 => 9 | n => n, fun | n => n⟩
theorem Tryz.lays125 : Go.Proofs.Lays.n125 Tryz.prog Tryz.lays125_ren := {
 mixed := by kernel_rfl
 f125 := Tryz.func152.trans (congrArg some (by kernel_rfl))
 f128 := Tryz.func211.trans (congrArg some (by kernel_rfl))
 f129 := Tryz.func212.trans (congrArg some (by kernel_rfl))
 t3 := Tryz.underlying3
 a3 := Tryz.isAgg3
 z3 := Tryz.sizeOf3
 v3 := Tryz.zeroValue3
 t4 := Tryz.underlying4
 a4 := Tryz.isAgg4
 z4 := Tryz.sizeOf4
 v4 := Tryz.zeroValue4
 t5 := Tryz.underlying5
 a5 := Tryz.isAgg5
 z5 := Tryz.sizeOf5
 v5 := Tryz.zeroValue5
 t9 := Tryz.underlying9
 a9 := Tryz.isAgg9
 z9 := Tryz.sizeOf9
 v9 := Tryz.zeroValue9
 t46 := Tryz.underlying125
 a46 := Tryz.isAgg125
 z46 := Tryz.sizeOf125
 v46 := Tryz.zeroValue125
 t51 := Tryz.underlying155
 a51 := Tryz.isAgg155
 z51 := Tryz.sizeOf155
 v51 := Tryz.zeroValue155
 t53 := Tryz.underlying34
 a53 := Tryz.isAgg34
 z53 := Tryz.sizeOf34
 v53 := Tryz.zeroValue34 }
/-- bits.Len: "Len returns the minimum number of bits required to represent x; the result is 0 for x == 0.": IT RETURNS 'Lib.bitLen x'; the world is as it was. (A uint has 64 bits in the model.) ITS CALLEE bits.Len64 IS MET BY ITS OWN CONTRACT OFF THE SHELF (lay that first). (LAID: no walk: one application.) -/
theorem Tryz.bits_Len (x : Int) (w : World) (h0 : 0 ≤ x) (h1 : x ≤ 18446744073709551615) :
  Calls Tryz.prog 152 #[.int .u64 x] w fun e w' => e = .returned (.int .i64 (Lib.bitLen x.toNat)) ∧ w' = w := Any.bits_Len Tryz.lays125 x w h0 h1
def Tryz.lays145_ren : Go.Shelf.Ren := ⟨fun | 145 => 147 | 220 => 198 | 219 => 249 | 217 => 281 | 225 => 282 | 224 => 283 | 267 => 284 | 266 => 293 | 314 => 294 | n => n, fun | 9 => 9 | 4 => 4 | 59 => 227 | 3 => 3 | 5 => 5 | 46 => 125 | 146 => 330 | 51 => 155 | n => n, fun | 1 => 0 | n => n⟩
theorem Tryz.lays145 : Go.Proofs.Lays.n145 Tryz.prog Tryz.lays145_ren := {
 mixed := by kernel_rfl
 f145 := Tryz.func147.trans (congrArg some (by kernel_rfl))
 f217 := Tryz.func281.trans (congrArg some (by kernel_rfl))
 f219 := Tryz.func249.trans (congrArg some (by kernel_rfl))
 f220 := Tryz.func198.trans (congrArg some (by kernel_rfl))
 f224 := Tryz.func283.trans (congrArg some (by kernel_rfl))
 f225 := Tryz.func282.trans (congrArg some (by kernel_rfl))
 f266 := Tryz.func293.trans (congrArg some (by kernel_rfl))
 f267 := Tryz.func284.trans (congrArg some (by kernel_rfl))
 f314 := Tryz.func294.trans (congrArg some (by kernel_rfl))
 t3 := Tryz.underlying3
 a3 := Tryz.isAgg3
 z3 := Tryz.sizeOf3
 v3 := Tryz.zeroValue3
 t4 := Tryz.underlying4
 a4 := Tryz.isAgg4
 z4 := Tryz.sizeOf4
 v4 := Tryz.zeroValue4
 t5 := Tryz.underlying5
 a5 := Tryz.isAgg5
 z5 := Tryz.sizeOf5
 v5 := Tryz.zeroValue5
 t9 := Tryz.underlying9
 a9 := Tryz.isAgg9
 z9 := Tryz.sizeOf9
 v9 := Tryz.zeroValue9
 t46 := Tryz.underlying125
 a46 := Tryz.isAgg125
 z46 := Tryz.sizeOf125
 v46 := Tryz.zeroValue125
 t51 := Tryz.underlying155
 a51 := Tryz.isAgg155
 z51 := Tryz.sizeOf155
 v51 := Tryz.zeroValue155
 t59 := Tryz.underlying227
 a59 := Tryz.isAgg227
 z59 := Tryz.sizeOf227
 v59 := Tryz.zeroValue227
 t146 := Tryz.underlying330
 a146 := Tryz.isAgg330
 z146 := Tryz.sizeOf330
 v146 := Tryz.zeroValue330
 g1 := by kernel_rfl }
open Go.RowKit Go.Lib in
/-- strings.Cut: "Cut slices s around the first instance of sep, returning the text before and after sep. The found result reports whether sep appears in s. If sep does not appear in s, cut returns s, "", false.": IT RETURNS 'Lib.cut s sep'; the world is as it was but for the count of draws. (LAID: no walk: one application.) -/
theorem Tryz.strings_Cut (s sep : ByteArray) (m : Int) (w : World) (hs : s.size < 4294967281) (hm : w.cell? ⟨0, 0, none⟩ = some (.int .i64 m)) :
  Calls Tryz.prog 147 #[.string s, .string sep] w fun e w' => e = .returned (.tuple #[.string ⟨(Lib.cut s.data.toList sep.data.toList).1.toArray⟩, .string ⟨(Lib.cut s.data.toList sep.data.toList).2.1.toArray⟩, .bool (Lib.cut s.data.toList sep.data.toList).2.2]) ∧ ∃ n, w' = w.drewN n := Any.strings_Cut Tryz.lays145 s sep m w hs hm
def Tryz.lays146_ren : Go.Shelf.Ren := ⟨fun | 146 => 146 | 221 => 197 | 268 => 246 | 138 => 247 | 143 => 248 | 195 => 278 | 197 => 279 | 218 => 280 | 219 => 249 | 260 => 292 | 217 => 281 | 225 => 282 | 224 => 283 | 267 => 284 | 266 => 293 | 314 => 294 | n => n, fun | 9 => 9 | 31 => 80 | 3 => 3 | 4 => 4 | 0 => 0 | 105 => 321 | 21 => 21 | 5 => 5 | 46 => 125 | 119 => 336 | 139 => 339 | 138 => 338 | 146 => 330 | 51 => 155 | n => n, fun | 1 => 0 | 3 => 1 | 4 => 2 | n => n⟩
theorem Tryz.lays146 : Go.Proofs.Lays.n146 Tryz.prog Tryz.lays146_ren := {
 mixed := by kernel_rfl
 f138 := Tryz.func247.trans (congrArg some (by kernel_rfl))
 f143 := Tryz.func248.trans (congrArg some (by kernel_rfl))
 f146 := Tryz.func146.trans (congrArg some (by kernel_rfl))
 f195 := Tryz.func278.trans (congrArg some (by kernel_rfl))
 f197 := Tryz.func279.trans (congrArg some (by kernel_rfl))
 f217 := Tryz.func281.trans (congrArg some (by kernel_rfl))
 f218 := Tryz.func280.trans (congrArg some (by kernel_rfl))
 f219 := Tryz.func249.trans (congrArg some (by kernel_rfl))
 f221 := Tryz.func197.trans (congrArg some (by kernel_rfl))
 f224 := Tryz.func283.trans (congrArg some (by kernel_rfl))
 f225 := Tryz.func282.trans (congrArg some (by kernel_rfl))
 f260 := Tryz.func292.trans (congrArg some (by kernel_rfl))
 f266 := Tryz.func293.trans (congrArg some (by kernel_rfl))
 f267 := Tryz.func284.trans (congrArg some (by kernel_rfl))
 f268 := Tryz.func246.trans (congrArg some (by kernel_rfl))
 f314 := Tryz.func294.trans (congrArg some (by kernel_rfl))
 t0 := Tryz.underlying0
 a0 := Tryz.isAgg0
 z0 := Tryz.sizeOf0
 v0 := Tryz.zeroValue0
 t3 := Tryz.underlying3
 a3 := Tryz.isAgg3
 z3 := Tryz.sizeOf3
 v3 := Tryz.zeroValue3
 t4 := Tryz.underlying4
 a4 := Tryz.isAgg4
 z4 := Tryz.sizeOf4
 v4 := Tryz.zeroValue4
 t5 := Tryz.underlying5
 a5 := Tryz.isAgg5
 z5 := Tryz.sizeOf5
 v5 := Tryz.zeroValue5
 t9 := Tryz.underlying9
 a9 := Tryz.isAgg9
 z9 := Tryz.sizeOf9
 v9 := Tryz.zeroValue9
 t21 := Tryz.underlying21
 a21 := Tryz.isAgg21
 z21 := Tryz.sizeOf21
 v21 := Tryz.zeroValue21
 t31 := Tryz.underlying80
 a31 := Tryz.isAgg80
 z31 := Tryz.sizeOf80
 v31 := Tryz.zeroValue80
 t46 := Tryz.underlying125
 a46 := Tryz.isAgg125
 z46 := Tryz.sizeOf125
 v46 := Tryz.zeroValue125
 t51 := Tryz.underlying155
 a51 := Tryz.isAgg155
 z51 := Tryz.sizeOf155
 v51 := Tryz.zeroValue155
 t105 := Tryz.underlying321
 a105 := Tryz.isAgg321
 z105 := Tryz.sizeOf321
 v105 := Tryz.zeroValue321
 t119 := Tryz.underlying336
 a119 := Tryz.isAgg336
 z119 := Tryz.sizeOf336
 t138 := Tryz.underlying338
 a138 := Tryz.isAgg338
 z138 := Tryz.sizeOf338
 v138 := Tryz.zeroValue338
 t139 := Tryz.underlying339
 a139 := Tryz.isAgg339
 z139 := Tryz.sizeOf339
 v139 := Tryz.zeroValue339
 t146 := Tryz.underlying330
 a146 := Tryz.isAgg330
 z146 := Tryz.sizeOf330
 v146 := Tryz.zeroValue330
 g1 := by kernel_rfl
 g3 := by kernel_rfl
 g4 := by kernel_rfl }
open Go.RowKit Go.Lib in
/-- strings.Split. (LAID: no walk: one application.) -/
theorem Tryz.strings_Split (s sep : ByteArray) (m : Int) (w : World) (hs : s.size < 4294967281) (hm : w.cell? ⟨0, 0, none⟩ = some (.int .i64 m)) (h1 : 1 ≤ sep.size) :
  Calls Tryz.prog 146 #[.string s, .string sep] w fun e w' =>
   e = .returned (.slice (some ⟨w.heap.size, 0, none⟩) (Lib.countB s sep + 1) (Lib.countB s sep + 1)) ∧ w' = w.alloc (.cells ((Lib.splitB sep 0 (Lib.countB s sep) s).map Value.string).toArray 9) := Any.strings_Split Tryz.lays146 (by kernel_rfl) s sep m w hs hm h1
def Tryz.laysSlM5_f92_ren : Go.Shelf.Ren := ⟨fun | 5 => 92 | 8 => 152 | 7 => 151 | 19 => 211 | 20 => 212 | 10 => 202 | 11 => 203 | 12 => 204 | 13 => 205 | 14 => 206 | 15 => 207 | 16 => 208 | 17 => 209 | 18 => 210 | 30 => 257 | 31 => 258 | 32 => 259 | 33 => 260 | 34 => 261 | 35 => 262 | 40 => 288 | n => n, fun | 23 => 99 | 25 => 2 | 3 => 3 | 32 => 125 | 22 => 99 | 0 => 0 | 44 => 155 | 46 => 34 | 4 => 4 | 36 => 270 | 35 => 269 | 41 => 275 | 5 => 5 | 9 => 9 | 53 => 309 | 57 => 312 | 63 => 326 | 64 => 327 | n => n, fun | n => n⟩
theorem Tryz.laysSlM5_f92 : Go.Proofs.SlLaysM.n5 Tryz.prog Tryz.laysSlM5_f92_ren := {
 mixed := by kernel_rfl
 f5 := ⟨Tryz.f92.name, by decide, Tryz.func92.trans (congrArg some (by kernel_rfl))⟩
 f7 := ⟨Tryz.f151.name, by decide, Tryz.func151.trans (congrArg some (by kernel_rfl))⟩
 f8 := Tryz.func152.trans (congrArg some (by kernel_rfl))
 f10 := ⟨Tryz.f202.name, by decide, Tryz.func202.trans (congrArg some (by kernel_rfl))⟩
 f11 := ⟨Tryz.f203.name, by decide, Tryz.func203.trans (congrArg some (by kernel_rfl))⟩
 f12 := ⟨Tryz.f204.name, by decide, Tryz.func204.trans (congrArg some (by kernel_rfl))⟩
 f13 := ⟨Tryz.f205.name, by decide, Tryz.func205.trans (congrArg some (by kernel_rfl))⟩
 f14 := ⟨Tryz.f206.name, by decide, Tryz.func206.trans (congrArg some (by kernel_rfl))⟩
 f15 := ⟨Tryz.f207.name, by decide, Tryz.func207.trans (congrArg some (by kernel_rfl))⟩
 f16 := ⟨Tryz.f208.name, by decide, Tryz.func208.trans (congrArg some (by kernel_rfl))⟩
 f17 := ⟨Tryz.f209.name, by decide, Tryz.func209.trans (congrArg some (by kernel_rfl))⟩
 f18 := ⟨Tryz.f210.name, by decide, Tryz.func210.trans (congrArg some (by kernel_rfl))⟩
 f19 := Tryz.func211.trans (congrArg some (by kernel_rfl))
 f20 := Tryz.func212.trans (congrArg some (by kernel_rfl))
 f30 := ⟨Tryz.f257.name, by decide, Tryz.func257.trans (congrArg some (by kernel_rfl))⟩
 f31 := Tryz.func258.trans (congrArg some (by kernel_rfl))
 f32 := Tryz.func259.trans (congrArg some (by kernel_rfl))
 f33 := ⟨Tryz.f260.name, by decide, Tryz.func260.trans (congrArg some (by kernel_rfl))⟩
 f34 := ⟨Tryz.f261.name, by decide, Tryz.func261.trans (congrArg some (by kernel_rfl))⟩
 f35 := ⟨Tryz.f262.name, by decide, Tryz.func262.trans (congrArg some (by kernel_rfl))⟩
 f40 := ⟨Tryz.f288.name, by decide, Tryz.func288.trans (congrArg some (by kernel_rfl))⟩
 t0 := Tryz.underlying0
 a0 := Tryz.isAgg0
 z0 := Tryz.sizeOf0
 v0 := Tryz.zeroValue0
 t3 := Tryz.underlying3
 a3 := Tryz.isAgg3
 z3 := Tryz.sizeOf3
 v3 := Tryz.zeroValue3
 t4 := Tryz.underlying4
 a4 := Tryz.isAgg4
 z4 := Tryz.sizeOf4
 v4 := Tryz.zeroValue4
 t5 := Tryz.underlying5
 a5 := Tryz.isAgg5
 z5 := Tryz.sizeOf5
 v5 := Tryz.zeroValue5
 t9 := Tryz.underlying9
 a9 := Tryz.isAgg9
 z9 := Tryz.sizeOf9
 v9 := Tryz.zeroValue9
 t22 := Tryz.underlying99
 a22 := Tryz.isAgg99
 z22 := Tryz.sizeOf99
 v22 := Tryz.zeroValue99
 t23 := Tryz.underlying99
 a23 := Tryz.isAgg99
 z23 := Tryz.sizeOf99
 v23 := Tryz.zeroValue99
 t25 := Tryz.underlying2
 a25 := Tryz.isAgg2
 z25 := Tryz.sizeOf2
 v25 := Tryz.zeroValue2
 t32 := Tryz.underlying125
 a32 := Tryz.isAgg125
 z32 := Tryz.sizeOf125
 v32 := Tryz.zeroValue125
 t35 := Tryz.underlying269
 a35 := Tryz.isAgg269
 z35 := Tryz.sizeOf269
 v35 := Tryz.zeroValue269
 t36 := Tryz.underlying270
 a36 := Tryz.isAgg270
 z36 := Tryz.sizeOf270
 v36 := Tryz.zeroValue270
 t41 := Tryz.underlying275
 a41 := Tryz.isAgg275
 z41 := Tryz.sizeOf275
 v41 := Tryz.zeroValue275
 t44 := Tryz.underlying155
 a44 := Tryz.isAgg155
 z44 := Tryz.sizeOf155
 v44 := Tryz.zeroValue155
 t46 := Tryz.underlying34
 a46 := Tryz.isAgg34
 z46 := Tryz.sizeOf34
 v46 := Tryz.zeroValue34
 t53 := Tryz.underlying309
 a53 := Tryz.isAgg309
 z53 := Tryz.sizeOf309
 v53 := Tryz.zeroValue309
 t57 := Tryz.underlying312
 a57 := Tryz.isAgg312
 z57 := Tryz.sizeOf312
 v57 := Tryz.zeroValue312
 t63 := Tryz.underlying326
 a63 := Tryz.isAgg326
 z63 := Tryz.sizeOf326
 v63 := Tryz.zeroValue326
 t64 := Tryz.underlying327
 a64 := Tryz.isAgg327
 z64 := Tryz.sizeOf327
 v64 := Tryz.zeroValue327 }
open Go.Sort Go.RowKit in
theorem Tryz.slices_Sort_int (blk off cap : Nat) (zs : List Int) (w : World) (hH : Holds (Value.int .i64) w blk off zs.toArray) (hblk : blk < w.heap.size) (hsz : zs.length < 4611686018427387904) :
  Calls Tryz.prog 92 #[.slice (some ⟨blk, off, none⟩) zs.length cap] w fun e w' =>
   e = .returned (.tuple #[]) ∧ ∃ n os, w' = grow (putRow (Value.int .i64) (Sort.ahead w n) blk off (zs.mergeSort fun x y => decide (x ≤ y)).toArray) os := AnyM.slices_Sort_int Tryz.laysSlM5_f92 blk off cap zs w hH hblk hsz
end Go.Proofs
end
section
namespace Go.Proofs.YtgdooockldgdlaaGreatDoor.Vi
open Go.RowKit Base Mem Go.Sort Go.Shelf
def pairB (x : LabD) : ByteArray := x.name ++ ⟨#[61]⟩ ++ x.value
def joinB (l : List LabD) : ByteArray := ⟨(Lib.join ((l.map pairB).map (·.data.toList)) [44]).toArray⟩
/-- A series of labels; else why not. -/
def ltextS (l : List LabD) : ByteArray × Nat := if rightS l = 0 then (joinB (sortL l), 0) else (⟨#[]⟩, rightS l)
theorem pairB_len (x : LabD) : (pairB x).data.toList.length = x.name.size + 1 + x.value.size := by
 unfold pairB
 rw [ByteArray.data_append, ByteArray.data_append, Array.toList_append, Array.toList_append, List.length_append, List.length_append]
 rfl
theorem join_len (l : List LabD) (h : ∀ x ∈ l, x.name.size ≤ 32 ∧ x.value.size ≤ 32) : (Lib.join ((l.map pairB).map (·.data.toList)) [44]).length ≤ 66 * l.length := by
 induction l with
 | nil => simp [Lib.join_nil]
 | cons a r ih =>
  rw [List.map_cons, List.map_cons, Lib.join_cons]
  have ha := h a (by simp)
  have hp := pairB_len a
  have hr : ∀ (r : List LabD), (∀ x ∈ r, x.name.size ≤ 32 ∧ x.value.size ≤ 32) → (Lib.joinTail [44] ((r.map pairB).map (·.data.toList))).length ≤ 66 * r.length := by
   intro r hr
   induction r with
   | nil => simp [Lib.joinTail]
   | cons b q ihq =>
    have hb := hr b (by simp)
    have hpb := pairB_len b
    have := ihq (fun x hx => hr x (List.mem_cons_of_mem _ hx))
    simp only [Lib.joinTail, List.map_cons, List.flatten_cons, List.length_append, List.length_cons, List.length_nil] at this ⊢
    omega
  have := hr r (fun x hx => h x (List.mem_cons_of_mem _ hx))
  rw [List.length_append, List.length_cons]
  omega
theorem okRow_sizes {s : List LabD} (h : okRow s = true) : ∀ x ∈ s, x.name.size ≤ 32 ∧ x.value.size ≤ 32 := by
 intro x hx
 obtain ⟨i, hi, rfl⟩ := List.getElem_of_mem hx
 unfold okRow at h
 rw [List.all_eq_true] at h
 have h1 := h i (List.mem_range.2 hi)
 unfold itemOk at h1
 rw [getElem!_pos s i hi, Bool.and_eq_true, Bool.and_eq_true] at h1
 have h2 := h1.1.1
 have h3 := h1.1.2
 unfold nameOk at h2 h3
 simp at h2 h3
 omega
theorem infoStr : (Tryz.prog.info? 9).map (fun i => (i.zero, i.size, i.bytes)) = some (some (.string ByteArray.empty), 1, 16) := by kernel_rfl
def TextPost (l : List LabD) (w : World) (e : Ending) (w' : World) : Prop := e = .returned (.tuple #[.string (ltextS l).1, .int .i64 (ltextS l).2]) ∧ Below w.heap.size w w'
set_option maxRecDepth 100000 in
theorem ltext_any (v : Value) (l : List LabD) (w : World) (h : Labs w [] v l) (hl : l.length ≤ 4611686018427387904) :
  Calls Tryz.prog 148 #[v] w fun e w' => TextPost l w e w' := by
 have hri := Lib.hid (lright_any v l w h hl)
 have HT : Hid (ltextS l = if rightS l = 0 then (joinB (sortL l), 0) else (⟨#[]⟩, rightS l)) := rfl
 by_cases hr0 : rightS l = 0
 ·have hR : Hid (ltextS l = (joinB (sortL l), 0)) := by show _ = _; rw [HT.out, if_pos hr0]
  have hl8 : l.length ≤ 8 ∧ okRow (sortL l) = true := by
   unfold rightS at hr0
   by_cases h8 : 8 < l.length
   ·rw [if_pos h8] at hr0; cases hr0
   ·rw [if_neg h8] at hr0
    refine ⟨by omega, ?_⟩
    cases hk : okRow (sortL l) with
    | true => rfl
    | false => rw [hk] at hr0; simp at hr0
  obtain ⟨hl8, hok⟩ := hl8
  have hjl := Lib.hid (join_len (sortL l) (okRow_sizes hok))
  have hsz := Lib.hid (okRow_sizes hok)
  rw [hr0] at hri
  have hso := Lib.hid (fun W (hk : Keeps [] w W) => sorted_any v l W (h.keep hk (by simp)) (by omega))
  obtain ⟨A, c, rfl, hc⟩ := h.len
  have hs8 : (sortL l).length ≤ 8 := by rw [sortL_len]; omega
  have hs0 : 0 < (sortL l).length := by
   rw [sortL_len]
   unfold rightS at hr0
   rw [if_neg (by omega), hok] at hr0
   rcases Nat.eq_zero_or_pos l.length with hz | hz
   ·rw [hz] at hr0; simp at hr0
   ·exact hz
  clear h HT hr0 hok
  obtain ⟨i0, hi0, hz0, hz1, hz2⟩ := info_parts infoStr
  have Hi0 := Lib.hid hi0; have Hz0 := Lib.hid hz0; have Hz1 := Lib.hid hz1; have Hz2 := Lib.hid hz2
  clear hi0 hz0 hz1 hz2
  generalize sortL l = s at *
  go_enter Tryz.func148, Tryz.ntmps148
  go_wp2_with fail
  refine hri.out.mono ?_
  rintro e w1 ⟨rfl, hb1⟩
  have hso1 := Lib.hid (hso.out w1 (Keeps.of_below hb1))
  have Hb1 := Lib.hid hb1
  clear hb1 hri hso
  go_wp2_with fail
  refine hso1.out.mono ?_
  rintro e w2 ⟨A1, rfl, hA, hb2⟩
  have HA := Lib.hid (hA [] (by simp)); have Hb2 := Lib.hid (below_then Hb1.out hb2)
  clear hA hb2 hso1 Hb1
  go_wp2_with fail
  go_loopw [5, 16] (fun out i wr => ∃ x : Nat, i = .int .i64 x ∧ x ≤ s.length ∧ Hid (wr.ownsRow w2.heap.size 9 1 out x ((s.take x).map fun y => Value.string (pairB y))) ∧ Hid (Below w2.heap.size w2 wr)) (fun _ i _ => s.length - (intOf i).toNat)
  case atStart => exact ⟨0, rfl, by omega, World.ownsRow_nil _ _ _ _, Below.refl _ _⟩
  case round =>
   obtain ⟨x, rfl, hx, Hown, Hbr⟩ := hrel
   by_cases hlt : x < s.length
   ·have hx1 : (x : Int) < (s.length : Int) := by omega
    obtain ⟨g, off, _, e1, hg, c0, c1⟩ := (HA.out.keep (Keeps.of_below (M := []) Hbr.out) (by simp)).at_ hlt
    obtain rfl : A1 = some ⟨g, off, none⟩ := by injection e1
    clear e1
    have Htk : Hid (s.take (x + 1) = s.take x ++ [s[x]]) := List.take_succ_eq_append_getElem hlt
    have Hpb : Hid (pairB s[x] = s[x].name ++ ⟨#[61]⟩ ++ s[x].value) := rfl
    have hd32 := hsz.out s[x] (List.getElem_mem _)
    generalize s[x] = d at *
    have k1 : ¬ (9223372036854775807 < d.name.size + 1) := by omega
    have k2 : ¬ (9223372036854775807 < d.name.size + 1 + d.value.size) := by omega
    have k3 : ¬ (9223372036854775807 < (d.name ++ ⟨#[61]⟩).size + d.value.size) := by rw [ByteArray.size_append]; exact k2
    clear hd32
    have Hrd : Hid (Reads ((wr.alloc (.cells #[.string d.name, .string d.value] 230)).alloc (.cells #[.string (d.name ++ ⟨#[61]⟩ ++ d.value)] 9)) (wr.heap.size + 2) 1 (some ⟨wr.heap.size + 1, 0, none⟩) 1 [.string (d.name ++ ⟨#[61]⟩ ++ d.value)]) := by
     have := reads_new (wr.alloc (.cells #[.string d.name, .string d.value] 230)) 9 1 1 [.string (d.name ++ ⟨#[61]⟩ ++ d.value)] rfl
     show Reads _ _ _ _ _ _
     simpa using this
    have Hown3 := Lib.hid ((Hown.out.alloc (.cells #[.string d.name, .string d.value] 230)).alloc (.cells #[.string (d.name ++ ⟨#[61]⟩ ++ d.value)] 9))
    have hz2 : w2.heap.size ≤ wr.heap.size := Hbr.out.size
    have hb0 : w2.heap.size ≤ ((wr.alloc (.cells #[.string d.name, .string d.value] 230)).alloc (.cells #[.string (d.name ++ ⟨#[61]⟩ ++ d.value)] 9)).heap.size := by simp; omega
    have hm1 : x + 1 ≤ maxLen := by unfold maxLen; omega
    have hm2 : (x + 1) * 16 ≤ 140737488355328 := by omega
    have hone : ∀ u ∈ [Value.string (d.name ++ ⟨#[61]⟩ ++ d.value)], u.oneCell' = true := by intro u hu; simp at hu; subst hu; rfl
    have Hb0 := Lib.hid hb0; have Hm1 := Lib.hid hm1; have Hm2 := Lib.hid hm2; have Hone := Lib.hid hone
    clear hb0 hm1 hm2 hone
    go_wp2_with (at_builtin; refine wpList_append_any _ rfl (.tmp 20) (.tmp 27) _ rfl w2.heap.size 9 i0 _ 1 16 Tryz.underlying80 Hi0.out Hz0.out Hz1.out Hz2.out rfl (by omega) u5 x ((s.take x).map fun y => Value.string (pairB y)) rfl Hown3.out (wr.heap.size + 2) (some ⟨wr.heap.size + 1, 0, none⟩) 1 1 [.string (d.name ++ ⟨#[61]⟩ ++ d.value)] rfl Hrd.out Hone.out Hm1.out Hm2.out Hb0.out ?_)
    intro v4 w4 hown4 hg4 hat4
    have Hown4 : Hid (w4.ownsRow w2.heap.size 9 1 v4 (x + 1) ((s.take (x + 1)).map fun y => Value.string (pairB y))) := by
     show World.ownsRow _ _ _ _ _ _ _
     rw [Htk.out, List.map_append, List.map_cons, List.map_nil, Hpb.out, List.map_take]
     exact hown4
    have Hb4 : Hid (Below w2.heap.size w2 w4) := ((Hbr.out.alloc Hbr.out.size _).alloc (by simp; omega) _).grown hg4 (by simp; omega) (fun g hg => (Hown.out.lt g hg).1)
    clear hown4 hg4 hat4
    go_wp2
    go_roundw
    case rel => exact ⟨x + 1, by go_num, by omega, Hown4, Hb4⟩
    case measure => simp [intOf] <;> omega
   ·obtain rfl : x = s.length := by omega
    have hrow : ∃ g c, u5 = .slice (some ⟨g, 0, none⟩) s.length c ∧ s.length ≤ c ∧ g < wr.heap.size ∧ ∀ (j : Nat) x, (s.map pairB)[j]? = some x → wr.cell? ⟨g, 0 + j, none⟩ = some (.string x) := by
     have h1 := Hown.out
     rw [List.take_length] at h1
     obtain ⟨g, cap, hv, hge, hgl⟩ := h1.form hs0
     subst hv
     have hrd := Rd.of_own (M := []) h1 (by simp)
     obtain ⟨A', c', he, hc', _, hx⟩ := hrd
     injection he with e1 _ e3
     subst e1 e3
     obtain ⟨g', off', e, _, _, hcell⟩ := hx hs0
     injection e with e
     injection e with e1 e2 _
     subst e1 e2
     refine ⟨g, cap, rfl, hc', hgl, fun j x hjx => hcell j _ ?_⟩
     rw [List.getElem?_map] at hjx ⊢
     cases hsj : s[j]? with
     | none => rw [hsj] at hjx; cases hjx
     | some d => rw [hsj] at hjx; injection hjx with hjx; rw [← hjx]; rfl
    obtain ⟨g, cj, rfl, hcj, hgl, hcell⟩ := hrow
    have hjo := Tryz.strings_Join g 0 cj (s.map pairB) ⟨#[44]⟩ wr hcell hgl (by rw [List.length_map]; omega) (by rw [List.length_map]; exact hcj) (Nat.le_trans hjl.out (by omega))
    rw [List.length_map] at hjo
    have Hjo := Lib.hid (show Calls Tryz.prog 201 #[.slice (some ⟨g, 0, none⟩) s.length cj, .string ⟨#[44]⟩] wr fun e w' => e = .returned (.string (joinB s)) ∧ Below wr.heap.size wr w' from hjo)
    have Hall := Lib.hid (below_then Hb2.out Hbr.out)
    clear hjo hcell
    go_wp2_with fail
    refine Hjo.out.mono ?_
    rintro e w5 ⟨rfl, hb5⟩
    have hp : Hid (TextPost l w (.returned (.tuple #[.string (joinB s), .int .i64 0])) w5) := by
     exact ⟨by rw [hR.out]; rfl, below_then Hall.out hb5⟩
    clear hb5
    go_wp2
    go_ret2
    exact hp.out
 ·have hR : Hid (ltextS l = (⟨#[]⟩, rightS l)) := by show _ = _; rw [HT.out, if_neg hr0]
  obtain ⟨A, c, rfl, hc⟩ := h.len
  have hri2 : ((rightS l : Int) != 0) = true := by simpa using hr0
  clear h HT hr0
  have hp : Hid (∀ w1, Below w.heap.size w w1 → TextPost l w (.returned (.tuple #[.string ⟨#[]⟩, .int .i64 (rightS l)])) w1) := fun w1 hb => ⟨by rw [hR.out], hb⟩
  generalize rightS l = r at *
  go_enter Tryz.func148, Tryz.ntmps148
  go_wp2_with fail
  refine hri.out.mono ?_
  rintro e w1 ⟨rfl, hb1⟩
  have Hp := Lib.hid (hp.out _ hb1)
  clear hb1 hp
  go_wp2
  go_ret2
  exact Hp.out
def partsS (s : ByteArray) : List ByteArray := Lib.splitB ⟨#[44]⟩ 0 (Lib.countB s ⟨#[44]⟩) s
def cutD (p : ByteArray) : LabD := ⟨⟨(Lib.cut p.data.toList [61]).1.toArray⟩, ⟨(Lib.cut p.data.toList [61]).2.1.toArray⟩⟩
def labsS (s : ByteArray) : List LabD := (partsS s).map cutD
/-- Is a text a series? -/
def serOk (s : ByteArray) : Bool := decide ((ltextS (labsS s)).2 = 0) && (ltextS (labsS s)).1.toList == s.toList
theorem splitB_size (sep : ByteArray) : ∀ (k : Nat) (s : ByteArray), ∀ p ∈ Lib.splitB sep 0 k s, p.size ≤ s.size
 | 0, s, p, h => by rw [Lib.splitB_zero] at h; simp at h; subst h; exact Nat.le_refl _
 | k + 1, s, p, h => by
  unfold Lib.splitB at h
  split at h
  ·simp at h; subst h; exact Nat.le_refl _
  ·rcases List.mem_cons.1 h with h | h
   ·subst h; rw [ByteArray.size_extract]; omega
   ·have := splitB_size sep k _ p h
    rw [ByteArray.size_extract] at this
    omega
def ParsePost (s : ByteArray) (w : World) (e : Ending) (w' : World) : Prop := ∃ v, e = .returned (.tuple #[v, .int .i64 (if serOk s = true then 0 else 12)]) ∧ Below w.heap.size w w'
set_option maxRecDepth 100000 in
set_option maxHeartbeats 1000000 in
theorem parse_any (s : ByteArray) (m : Int) (w : World) (hs : s.size < 4294967281) (hm : w.cell? ⟨0, 0, none⟩ = some (.int .i64 m)) :
  Calls Tryz.prog 87 #[.string s] w fun e w' => ParsePost s w e w' := by
 have hsp := Lib.hid (Tryz.strings_Split s ⟨#[44]⟩ m w hs hm (by decide))
 have hsz := Lib.hid (splitB_size ⟨#[44]⟩ (Lib.countB s ⟨#[44]⟩) s)
 have hcl := Lib.countB_le ⟨#[44]⟩ (by decide) s.size s (Nat.le_refl _)
 have hln : (partsS s).length = Lib.countB s ⟨#[44]⟩ + 1 := Lib.splitB_all ⟨#[44]⟩ (by decide) 0 _ s rfl
 have hw0 : 0 < w.heap.size := by
  rcases Nat.eq_zero_or_pos w.heap.size with h | h
  ·exfalso
   have := World.block_lt_of_cell? w _ hm
   simp at this; omega
  ·exact h
 have Hm := Lib.hid hm
 have HO : Hid (serOk s = (decide ((ltextS (labsS s)).2 = 0) && (ltextS (labsS s)).1.toList == s.toList)) := rfl
 have HL : Hid (labsS s = (partsS s).map cutD) := rfl
 obtain ⟨i0, hi0, hz0, hz1, hz2⟩ := info_parts infoLabel
 have Hi0 := Lib.hid hi0; have Hz0 := Lib.hid hz0; have Hz1 := Lib.hid hz1; have Hz2 := Lib.hid hz2
 clear hi0 hz0 hz1 hz2 hm
 have hps : Hid (∀ p ∈ partsS s, p.size ≤ s.size) := hsz.out
 have hpd : Hid (partsS s = Lib.splitB ⟨#[44]⟩ 0 (Lib.countB s ⟨#[44]⟩) s) := rfl
 rw [← hpd.out] at hsp
 rw [← hln] at hsp
 have hlen : (partsS s).length ≤ 4294967295 := by omega
 clear hsz hpd hln hcl
 generalize partsS s = ps at *
 generalize labsS s = ls at *
 go_enter Tryz.func87, Tryz.ntmps87
 go_wp2_with fail
 refine hsp.out.mono ?_
 rintro e w1 ⟨rfl, hw1⟩
 have hb1 : Below w.heap.size w w1 := by rw [hw1]; exact (Below.refl _ _).alloc (Nat.le_refl _) _
 have hB1 : Blk w1 w.heap.size 9 (ps.map Value.string).toArray := by rw [hw1]; exact Blk.new w _ _
 have Hb1 := Lib.hid hb1; have HB1 := Lib.hid hB1
 have hw1s : w.heap.size < w1.heap.size := hB1.lt
 clear hw1 hb1 hB1 hsp
 go_wp2_with fail
 go_loopw [4, 15] (fun out i wr => ∃ x : Nat, i = .int .i64 x ∧ x ≤ ps.length ∧ Hid (wr.ownsRow w1.heap.size 230 2 out x (((ps.take x).map cutD).flatMap labEnc)) ∧ Hid (Below w1.heap.size w1 wr)) (fun _ i _ => ps.length - (intOf i).toNat)
 case atStart => exact ⟨0, rfl, by omega, World.ownsRow_nil _ _ _ _, Below.refl _ _⟩
 case round =>
  obtain ⟨x, rfl, hx, Hown, Hbr⟩ := hrel
  by_cases hlt : x < ps.length
  ·have hx1 : (x : Int) < (ps.length : Int) := by omega
   have c0 : wr.cell? ⟨w.heap.size, x, none⟩ = some (.string ps[x]) := by
    rw [(HB1.out.below Hbr.out hw1s).cell x, List.getElem?_toArray, List.getElem?_map, List.getElem?_eq_getElem hlt]; rfl
   have Htk : Hid (ps.take (x + 1) = ps.take x ++ [ps[x]]) := List.take_succ_eq_append_getElem hlt
   have hpx := hps.out ps[x] (List.getElem_mem _)
   have hmr : wr.cell? ⟨0, 0, none⟩ = some (.int .i64 m) := (Hbr.out.cell (p := ⟨0, 0, none⟩) (by simp; omega)).trans ((Hb1.out.cell (p := ⟨0, 0, none⟩) hw0).trans Hm.out)
   generalize ps[x] = p at *
   have hcu := Lib.hid (Tryz.strings_Cut p ⟨#[61]⟩ m wr (by omega) hmr)
   have Hcd : Hid (cutD p = ⟨⟨(Lib.cut p.data.toList [61]).1.toArray⟩, ⟨(Lib.cut p.data.toList [61]).2.1.toArray⟩⟩) := rfl
   have hcu2 := Lib.hid (show Calls Tryz.prog 147 #[.string p, .string ⟨#[61]⟩] wr fun e w' => e = .returned (.tuple #[.string (cutD p).name, .string (cutD p).value, .bool (Lib.cut p.data.toList [61]).2.2]) ∧ ∃ n, w' = wr.drewN n from hcu.out)
   clear hcu Hcd hmr hpx
   generalize hd : cutD p = d at *
   have Hd := Lib.hid hd
   generalize (Lib.cut p.data.toList [61]).2.2 = fnd at *
   clear hd
   have Htk2 : Hid ((ps.take (x + 1)).map cutD = (ps.take x).map cutD ++ [d]) := by show _ = _; rw [Htk.out, List.map_append, List.map_cons, List.map_nil, Hd.out]
   have hz2 : w1.heap.size ≤ wr.heap.size := Hbr.out.size
   have Hm1 : Hid (x + 1 ≤ maxLen) := by show _ ≤ _; unfold maxLen; omega
   have Hm2 : Hid ((x + 1) * 32 ≤ 140737488355328) := by show _ ≤ _; omega
   have Hone : Hid (∀ u ∈ labEnc d, u.oneCell' = true) := fun u hu => by simp [labEnc] at hu; rcases hu with rfl | rfl <;> rfl
   have Hown3 : Hid (∀ n, ((wr.drewN n).alloc (.cells #[.string d.name, .string d.value] 230)).ownsRow w1.heap.size 230 2 u4 x (((ps.take x).map cutD).flatMap labEnc)) := fun n =>
    own_keep Hown.out (((Keeps.refl [] wr).drewN n).alloc _) (by simp)
   have Hrd : Hid (∀ n, Reads ((wr.drewN n).alloc (.cells #[.string d.name, .string d.value] 230)) (wr.heap.size + 1) 2 (some ⟨wr.heap.size, 0, none⟩) 1 (labEnc d)) := fun n => reads_new (wr.drewN n) 230 2 1 (labEnc d) rfl
   clear Htk Hd
   go_wp2_with fail
   refine hcu2.out.mono ?_
   rintro e w3 ⟨rfl, n, rfl⟩
   go_wp2_with (at_builtin; refine wpList_append_any _ rfl (.tmp 25) (.tmp 29) _ rfl w1.heap.size 230 i0 _ 2 32 Tryz.underlying163 Hi0.out Hz0.out Hz1.out Hz2.out rfl (by omega) u4 x (((ps.take x).map cutD).flatMap labEnc) rfl (Hown3.out n) (wr.heap.size + 1) (some ⟨wr.heap.size, 0, none⟩) 1 1 (labEnc d) rfl (Hrd.out n) Hone.out Hm1.out Hm2.out (by simp; omega) ?_)
   intro v4 w4 hown4 hg4 hat4
   have Hown4 : Hid (w4.ownsRow w1.heap.size 230 2 v4 (x + 1) (((ps.take (x + 1)).map cutD).flatMap labEnc)) := by
    show World.ownsRow _ _ _ _ _ _ _
    rw [Htk2.out, List.flatMap_append]
    simpa using hown4
   have Hb4 : Hid (Below w1.heap.size w1 w4) := (((Keeps.of_below (M := []) Hbr.out).drewN n).alloc _).below.grown hg4 (by simp; omega) (fun g hg => (Hown.out.lt g hg).1)
   clear hown4 hg4 hat4
   go_wp2
   go_roundw
   case rel => exact ⟨x + 1, by go_num, by omega, Hown4, Hb4⟩
   case measure => simp [intOf] <;> omega
  ·obtain rfl : x = ps.length := by omega
   have hown := Hown.out
   rw [List.take_length, ← HL.out] at hown
   have hll : ps.length = ls.length := by rw [HL.out, List.length_map]
   rw [hll] at hown
   have hlab : Labs wr [] u4 ls := Rd.of_own hown (by simp)
   have htx := Lib.hid (show Calls Tryz.prog 148 #[u4] wr fun e w' => e = .returned (.tuple #[.string (ltextS ls).1, .int .i64 (ltextS ls).2]) ∧ Below wr.heap.size wr w' from ltext_any u4 ls wr hlab (by rw [← hll]; omega))
   obtain ⟨A4, c4, rfl, hc4⟩ := hlab.len
   have Hall := Lib.hid (below_then Hb1.out Hbr.out)
   have hp : Hid (∀ v w', Below wr.heap.size wr w' → ParsePost s w (.returned (.tuple #[v, .int .i64 (if serOk s = true then 0 else 12)])) w') := fun v w' hb => ⟨v, rfl, below_then Hall.out hb⟩
   clear hown hlab hll Hown
   generalize ltextS ls = t at *
   obtain ⟨t1, t2⟩ := t
   simp only at HO htx
   go_wp2_with fail
   refine htx.out.mono ?_
   rintro e w5 ⟨rfl, hb5⟩
   by_cases h2 : t2 = 0
   ·subst h2
    by_cases h3 : (t1.toList == s.toList) = true
    ·have hok : Hid (serOk s = true) := by show _ = _; rw [HO.out, h3]; rfl
     have Hp := Lib.hid (hp.out (.slice A4 ls.length ls.length) w5 hb5)
     rw [hok.out, if_pos rfl] at Hp
     clear hp htx hb5
     go_wp2_with fail
     refine (clipLabel A4 ls.length c4 _ hc4).mono ?_
     rintro e w' ⟨rfl, rfl⟩
     go_wp2
     go_ret2
     exact Hp.out
    ·have h3' : (t1.toList == s.toList) = false := by simpa using h3
     have hok : Hid (serOk s = false) := by show _ = _; rw [HO.out, h3']; rfl
     have Hp := Lib.hid (hp.out (.slice none 0 0) w5 hb5)
     rw [hok.out, if_neg (by simp)] at Hp
     clear hp htx hb5 h3
     go_wp2
     go_ret2
     exact Hp.out
   ·have hne : ((t2 : Int) != 0) = true := by simpa using h2
    have hok : Hid (serOk s = false) := by show _ = _; rw [HO.out, decide_eq_false h2]; rfl
    have Hp := Lib.hid (hp.out (.slice none 0 0) w5 hb5)
    rw [hok.out, if_neg (by simp)] at Hp
    clear hp htx hb5 h2
    go_wp2
    go_ret2
    exact Hp.out
end Go.Proofs.YtgdooockldgdlaaGreatDoor.Vi
end
section
namespace Go.Proofs.YtgdooockldgdlaaGreatDoor.Vi
open Go.RowKit Base Mem
def withinB (n e : Int) : Bool := decide (0 ≤ n) && decide (n < e)
theorem within2_any (n e : Int) (w : World) : Calls Tryz.prog 85 #[.int .i64 n, .int .i64 e] w fun r w' => r = .returned (.bool (withinB n e)) ∧ w' = w := by
 by_cases h0 : 0 ≤ n
 ·by_cases h1 : n < e
  ·have hR : Hid (withinB n e = true) := by show _ = _; simp [withinB, h0, h1]
   rw [hR.out]
   go_enter Tryz.func85, Tryz.ntmps85
   go_wp2
   go_ret
   exact ⟨rfl, rfl⟩
  ·have hR : Hid (withinB n e = false) := by show _ = _; simp [withinB, h1]
   rw [hR.out]
   have h1' : decide (n < e) = false := decide_eq_false h1
   go_enter Tryz.func85, Tryz.ntmps85
   go_wp2
   go_ret
   exact ⟨rfl, rfl⟩
 ·have hR : Hid (withinB n e = false) := by show _ = _; simp [withinB, h0]
  rw [hR.out]
  have h0' : decide (0 ≤ n) = false := decide_eq_false h0
  go_enter Tryz.func85, Tryz.ntmps85
  go_wp2
  go_ret
  exact ⟨rfl, rfl⟩
def eqI (a b c d e f : Int) : Bool := a == d && (b == e && c == f)
theorem eqI_run (a b c d e f : Int) (r : Bool) (h : eqI a b c d e f = r) (w : World) : (binOp .eql 30 (.agg #[.int .i64 a, .int .i64 b, .int .i64 c]) (.agg #[.int .i64 d, .int .i64 e, .int .i64 f])).run Tryz.prog w = .ok (.bool r) w := by
 subst h
 have u3 := Tryz.underlying3
 have a3 := Tryz.isAgg3
 have z3 := Tryz.sizeOf3
 have hS : Tryz.prog.underlying 30 = some (.struct (Tryz.prog.fieldsOf 30)) := by kernel_rfl
 have hp : Tryz.prog.stoodInHeld 30 = false := by kernel_rfl
 simp only [eqI]
 rw [run_eql_struct, show (10000 : Nat) = 9999 + 1 from rfl, run_equalIn_agg w 9999 30 _ _ hS hp]
 simp only [Program.fieldsOf, Tryz.underlying30]
 go_simp
 by_cases h1 : a = d <;> by_cases h2 : b = e <;> by_cases h3 : c = f <;> simp [h1, h2, h3]
def kindS (e : EntryD) : Bool := if e.kind = 1 then e.ser.toList.isEmpty else if e.kind = 2 then eqI e.ag e.sh e.seq 0 0 0 && e.ep == 0 && e.ds.length == 0 else false
def BoolPost (b : Bool) (w : World) (r : Ending) (w' : World) : Prop := r = .returned (.bool b) ∧ Below w.heap.size w w'
theorem kind_any (e : EntryD) (A : Option Addr) (c : Nat) (w : World) :
  Calls Tryz.prog 84 #[.agg (eCell (e, .slice A e.ds.length c)).toArray] w fun r w' => BoolPost (kindS e) w r w' := by
 obtain ⟨kind, ag, sh, seq, ep, ds, ser, fr, tag⟩ := e
 have HK : Hid (kindS ⟨kind, ag, sh, seq, ep, ds, ser, fr, tag⟩ = if kind = 1 then ser.toList.isEmpty else if kind = 2 then eqI ag sh seq 0 0 0 && ep == 0 && ds.length == 0 else false) := rfl
 have hb : Hid (∀ o, Below w.heap.size w (w.alloc o)) := fun o => (Below.refl _ _).alloc (Nat.le_refl _) o
 generalize hn : ds.length = n at *
 simp only [eCell]
 clear hn
 by_cases h1 : kind = 1
 ·have hR : Hid (kindS ⟨kind, ag, sh, seq, ep, ds, ser, fr, tag⟩ = ser.toList.isEmpty) := by show _ = _; rw [HK.out, if_pos h1]
  subst h1
  go_enter Tryz.func84, Tryz.ntmps84
  go_wp2
  all_goals go_ret
  all_goals exact ⟨by rw [hR.out]; simp, hb.out _⟩
 ·have h1' : (kind == 1) = false := by simpa using h1
  by_cases h2 : kind = 2
  ·have hR : Hid (kindS ⟨kind, ag, sh, seq, ep, ds, ser, fr, tag⟩ = (eqI ag sh seq 0 0 0 && ep == 0 && n == 0)) := by show _ = _; rw [HK.out, if_neg h1, if_pos h2]
   have h2' : (kind == 2) = true := by simpa using h2
   clear h1 h2
   cases h3 : eqI ag sh seq 0 0 0 with
   | false =>
    have he := fun W => eqI_run ag sh seq 0 0 0 false h3 W
    have hR2 : Hid (kindS ⟨kind, ag, sh, seq, ep, ds, ser, fr, tag⟩ = false) := by show _ = _; rw [hR.out, h3]; rfl
    rw [hR2.out]
    clear h3
    go_enter Tryz.func84, Tryz.ntmps84
    go_wp2
    go_ret
    exact ⟨rfl, hb.out _⟩
   | true =>
    have he := fun W => eqI_run ag sh seq 0 0 0 true h3 W
    have hR1 : Hid (kindS ⟨kind, ag, sh, seq, ep, ds, ser, fr, tag⟩ = (true && ep == 0 && n == 0)) := by show _ = _; rw [hR.out, h3]
    clear h3
    cases h4 : (ep == 0) with
    | false =>
     have hR2 : Hid (kindS ⟨kind, ag, sh, seq, ep, ds, ser, fr, tag⟩ = false) := by show _ = _; rw [hR1.out, h4]; simp
     rw [hR2.out]
     go_enter Tryz.func84, Tryz.ntmps84
     go_wp2
     go_ret
     exact ⟨rfl, hb.out _⟩
    | true =>
     have hR2 : Hid (kindS ⟨kind, ag, sh, seq, ep, ds, ser, fr, tag⟩ = ((n : Int) == 0)) := by
      show _ = _
      rw [hR1.out, h4]
      cases n with
      | zero => rfl
      | succ n =>
       rw [show ((n + 1 : Nat) == 0) = false from rfl]
       symm
       rw [Bool.and_false, beq_eq_false_iff_ne]
       omega
     rw [hR2.out]
     go_enter Tryz.func84, Tryz.ntmps84
     go_wp2
     go_ret
     exact ⟨rfl, hb.out _⟩
  ·have h2' : (kind == 2) = false := by simpa using h2
   have hR : Hid (kindS ⟨kind, ag, sh, seq, ep, ds, ser, fr, tag⟩ = false) := by show _ = _; rw [HK.out, if_neg h1, if_neg h2]
   rw [hR.out]
   clear h1 h2
   go_enter Tryz.func84, Tryz.ntmps84
   go_wp2
   go_ret
   exact ⟨rfl, hb.out _⟩
end Go.Proofs.YtgdooockldgdlaaGreatDoor.Vi
end
section
namespace Go.Proofs.YtgdooockldgdlaaGreatDoor.Vi
open Go.RowKit Base Mem Go.Shelf
instance : Inhabited DeltaD := ⟨⟨⟨#[]⟩, 0⟩⟩
def badId (e : EntryD) : Bool := !(withinB e.ag 8) || !(withinB e.sh 4) || decide (e.seq < 1) || decide (e.ep < 1)
def writtenS (e : EntryD) : Nat := if badId e = true then 1 else if 8 < e.ds.length then 3 else if (e.ds.length == 0 || e.ds.any fun d => d.n == 0) = true then 1 else if (e.ds.all fun d => serOk d.ser) = true then 0 else 12
theorem zero_any (d : DeltaD) (w : World) : Calls Tryz.prog 145 #[.agg #[.string d.ser, .int .u64 d.n]] w fun r w' => r = .returned (.bool (d.n == 0)) ∧ Below w.heap.size w w' := by
 have hb : Hid (∀ o, Below w.heap.size w (w.alloc o)) := fun o => (Below.refl _ _).alloc (Nat.le_refl _) o
 go_enter Tryz.func145, Tryz.ntmps145
 go_wp2
 go_ret
 exact ⟨rfl, hb.out _⟩
theorem ds_cells {w : World} {M : List Nat} {v : Value} {l : List DeltaD} (h : Ds w M v l) (h0 : 0 < l.length) : ∃ g off c, v = .slice (some ⟨g, off, none⟩) l.length c ∧ g < w.heap.size ∧ ∀ j, j < l.length → ∀ i u, (dCell l[j]!)[i]? = some u → w.cell? ⟨g, off + j * 2 + i, none⟩ = some u := by
 obtain ⟨g, off, c, e, _, hg, _, _⟩ := Rd.at_ dCell 2 (fun _ => rfl) h h0
 refine ⟨g, off, c, e, hg, fun j hj i u hu => ?_⟩
 obtain ⟨g2, off2, c2, e2, _, _, _, hx⟩ := Rd.at_ dCell 2 (fun _ => rfl) h hj
 rw [e] at e2
 injection e2 with e2 _ _
 injection e2 with e2
 injection e2 with e3 e4 _
 subst e3 e4
 exact hx i u (by rw [← getElem!_pos l j hj]; exact hu)
theorem anyzero_any (v : Value) (l : List DeltaD) (w : World) (h : Ds w [] v l) (h0 : 0 < l.length) (hl : l.length ≤ 8) :
  Calls Tryz.prog 144 #[v, .func (.func 145) #[] #[]] w fun r w' => r = .returned (.bool (l.any fun d => d.n == 0)) ∧ Below w.heap.size w w' := by
 obtain ⟨g, off, c, rfl, hg, hc⟩ := ds_cells h h0
 have heg : ∀ args w, (callFunc 145 args).run Tryz.prog w = .ok (.enter 145 args) w := enters_of Tryz.func145 (by kernel_rfl) rfl
 have hp : PredBelow Tryz.prog 145 #[] (fun x => .agg (dCell x).toArray) (fun d => d.n == 0) w := fun W x hb => by
  refine Calls.mono (zero_any x W) ?_
  rintro r w' ⟨rfl, hb2⟩
  exact ⟨rfl, hb.trans (hb2.mono hb.size)⟩
 have := AnyQ.slices_ContainsFunc Tryz.containsFuncDelta 2 Tryz.isAgg38 Tryz.sizeOf38 dCell (fun _ => rfl) (fun d => d.n == 0) 145 #[] heg g off l.length c l w hp (Nat.le_refl _) (by omega) hg hc
 rw [List.take_length] at this
 exact this
set_option maxRecDepth 100000 in
set_option maxHeartbeats 1000000 in
theorem written_any (e : EntryD) (dv : Value) (m : Int) (w : World) (h : Ds w [] dv e.ds) (hs : ∀ d ∈ e.ds, d.ser.size < 4294967281) (hl : e.ds.length ≤ 4611686018427387904) (hm : w.cell? ⟨0, 0, none⟩ = some (.int .i64 m)) :
  Calls Tryz.prog 86 #[.agg (eCell (e, dv)).toArray] w fun r w' => NumPost (writtenS e) w r w' := by
 have HW : Hid (writtenS e = if badId e = true then 1 else if 8 < e.ds.length then 3 else if (e.ds.length == 0 || e.ds.any fun d => d.n == 0) = true then 1 else if (e.ds.all fun d => serOk d.ser) = true then 0 else 12) := rfl
 have hw0 : 0 < w.heap.size := by
  have := World.block_lt_of_cell? w _ hm
  simpa using this
 obtain ⟨kind, ag, sh, seq, ep, ds, ser, fr, tag⟩ := e
 simp only [] at h hs hl HW
 have HB : Hid (badId ⟨kind, ag, sh, seq, ep, ds, ser, fr, tag⟩ = (!(withinB ag 8) || !(withinB sh 4) || decide (seq < 1) || decide (ep < 1))) := rfl
 generalize writtenS ⟨kind, ag, sh, seq, ep, ds, ser, fr, tag⟩ = wr0 at *
 generalize badId ⟨kind, ag, sh, seq, ep, ds, ser, fr, tag⟩ = bad at *
 have hwi := Lib.hid (fun a b W => within2_any a b W)
 obtain ⟨A, c, rfl, hc⟩ := h.len
 obtain ⟨w2, hw2⟩ : ∃ w2, w2 = w.alloc (.cells #[.int .i64 kind, .int .i64 ag, .int .i64 sh, .int .i64 seq, .int .i64 ep, .slice A ds.length c, .string ser, .int .i64 fr, .int .i64 tag] 33) := ⟨_, rfl⟩
 have hB : Blk w2 w.heap.size 33 #[.int .i64 kind, .int .i64 ag, .int .i64 sh, .int .i64 seq, .int .i64 ep, .slice A ds.length c, .string ser, .int .i64 fr, .int .i64 tag] := by rw [hw2]; exact Blk.new w _ _
 have hk2 : Keeps [] w w2 := by rw [hw2]; exact (Keeps.refl _ _).alloc _
 have c1 := hB.cell 1; have c2 := hB.cell 2; have c3 := hB.cell 3; have c4 := hB.cell 4; have c5 := hB.cell 5
 simp only [List.getElem?_toArray, List.getElem?_cons_succ, List.getElem?_cons_zero] at c1 c2 c3 c4 c5
 have Hm := Lib.hid hm; have Hs := Lib.hid hs; have Hk2 := Lib.hid hk2; have Hw2 := Lib.hid hw2; have HD := Lib.hid (h.keep hk2 (by simp))
 clear hm hs hk2 hw2 h hB
 show Calls Tryz.prog 86 #[.agg #[.int .i64 kind, .int .i64 ag, .int .i64 sh, .int .i64 seq, .int .i64 ep, .slice A ds.length c, .string ser, .int .i64 fr, .int .i64 tag]] w fun r w' => NumPost wr0 w r w'
 go_enter Tryz.func86, Tryz.ntmps86
 go_upto_region 1 with (fail)
 rw [← Hw2.out]
 go_cut [7] (fun s wx => s = .bool bad ∧ wx = w2)
 case first =>
  cases h1 : withinB ag 8 with
  | false =>
   have hb : Hid (bad = true) := by show _ = _; rw [HB.out, h1]; simp
   clear HB HW
   go_wp2_with (go_at_call 85; refine (hwi.out _ _ _).mono ?_; rintro r w' ⟨rfl, rfl⟩; rw [h1])
   go_meet
   exact ⟨by rw [hb.out], rfl⟩
  | true =>
   cases h2 : withinB sh 4 with
   | false =>
    have hb : Hid (bad = true) := by show _ = _; rw [HB.out, h1, h2]; simp
    clear HB HW
    go_wp2_with (go_at_call 85; refine (hwi.out _ _ _).mono ?_; rintro r w' ⟨rfl, rfl⟩; first | rw [h1] | rw [h2])
    go_meet
    exact ⟨by rw [hb.out], rfl⟩
   | true =>
    by_cases h3 : seq < 1
    ·have hb : Hid (bad = true) := by show _ = _; rw [HB.out, h1, h2, decide_eq_true h3]; simp
     clear HB HW
     go_wp2_with (go_at_call 85; refine (hwi.out _ _ _).mono ?_; rintro r w' ⟨rfl, rfl⟩; first | rw [h1] | rw [h2])
     go_meet
     exact ⟨by rw [hb.out], rfl⟩
    ·have h3' : decide (seq < 1) = false := decide_eq_false h3
     have hb : Hid (bad = decide (ep < 1)) := by show _ = _; rw [HB.out, h1, h2, h3']; simp
     clear HB HW
     by_cases h4 : ep < 1
     ·go_wp2_with (go_at_call 85; refine (hwi.out _ _ _).mono ?_; rintro r w' ⟨rfl, rfl⟩; first | rw [h1] | rw [h2])
      go_meet
      exact ⟨by rw [hb.out, decide_eq_true h4], rfl⟩
     ·have h4' : decide (ep < 1) = false := decide_eq_false h4
      go_wp2_with (go_at_call 85; refine (hwi.out _ _ _).mono ?_; rintro r w' ⟨rfl, rfl⟩; first | rw [h1] | rw [h2])
      go_meet
      exact ⟨by rw [hb.out, h4'], rfl⟩
 case rest =>
  obtain ⟨rfl, rfl⟩ := hcut
  have hbel : Hid (Below w.heap.size w wc) := Hk2.out.below
  have hwc : w.heap.size ≤ wc.heap.size := Hk2.out.size
  clear HB hwi
  cases bad with
  | true =>
   have hR : Hid (wr0 = 1) := by show _ = _; rw [HW.out, if_pos rfl]
   clear HW
   go_wp2
   go_ret
   exact ⟨by rw [hR.out]; rfl, hbel.out⟩
  | false =>
   by_cases h8 : 8 < ds.length
   ·have hR : Hid (wr0 = 3) := by show _ = _; rw [HW.out, if_neg (by simp), if_pos h8]
    have h8i : (8 : Int) < (ds.length : Int) := by omega
    clear HW
    go_wp2
    go_ret
    exact ⟨by rw [hR.out]; rfl, hbel.out⟩
   ·have h8i : decide ((8 : Int) < (ds.length : Int)) = false := decide_eq_false (by omega)
    by_cases hn : ds.length = 0
    ·have hR : Hid (wr0 = 1) := by show _ = _; rw [HW.out, if_neg (by simp), if_neg h8, hn]; rfl
     have hni : ((ds.length : Int) == 0) = true := by rw [beq_iff_eq]; omega
     clear HW
     go_wp2
     go_ret
     exact ⟨by rw [hR.out]; rfl, hbel.out⟩
    ·have hni : ((ds.length : Int) == 0) = false := by rw [beq_eq_false_iff_ne]; omega
     have HW2 : Hid (wr0 = if (ds.any fun d => d.n == 0) = true then 1 else if (ds.all fun d => serOk d.ser) = true then 0 else 12) := by
      show _ = _
      rw [HW.out, if_neg (by simp), if_neg h8, show (ds.length == 0) = false by rw [beq_eq_false_iff_ne]; omega, Bool.false_or]
     have haz := Lib.hid (anyzero_any _ ds wc HD.out (by omega) (by omega))
     clear HW
     generalize (ds.any fun d => d.n == 0) = az at *
     go_wp2_with fail
     refine haz.out.mono ?_
     rintro r w3 ⟨rfl, hb3⟩
     have Hb3 := Lib.hid (below_then hbel.out hb3)
     have HD3 := Lib.hid (HD.out.keep (Keeps.of_below (M := []) hb3) (by simp))
     have hm3 : w3.cell? ⟨0, 0, none⟩ = some (.int .i64 m) := (Hb3.out.cell (p := ⟨0, 0, none⟩) hw0).trans Hm.out
     have Hm3 := Lib.hid hm3
     have d5 : w3.cell? ⟨w.heap.size, 5, none⟩ = some (.slice A ds.length c) := (hb3.cell (p := ⟨w.heap.size, 5, none⟩) (World.block_lt_of_cell? wc _ c5)).trans c5
     clear haz hb3 hm3
     cases az with
     | true =>
      have hR : Hid (wr0 = 1) := by show _ = _; rw [HW2.out, if_pos rfl]
      clear HW2
      go_wp2
      go_ret
      exact ⟨by rw [hR.out]; rfl, Hb3.out⟩
     | false =>
      have HW3 : Hid (wr0 = if (ds.all fun d => serOk d.ser) = true then 0 else 12) := by show _ = _; rw [HW2.out, if_neg (by simp)]
      have hw30 : 0 < w3.heap.size := by have := Hb3.out.size; omega
      clear HW2
      go_wp2_with fail
      go_loopw [49] (fun i wr => ∃ x : Nat, i = .int .i64 x ∧ x ≤ ds.length ∧ Hid (((ds.take x).all fun d => serOk d.ser) = true) ∧ Hid (Below w3.heap.size w3 wr)) (fun i _ => ds.length - (intOf i).toNat)
      case atStart => exact ⟨0, rfl, by omega, rfl, Below.refl _ _⟩
      case round =>
       obtain ⟨x, rfl, hx, Hall, Hbr⟩ := hrel
       by_cases hlt : x < ds.length
       ·have hx1 : (x : Int) < (ds.length : Int) := by omega
        obtain ⟨g, off, _, e1, _, hg, _, hcell⟩ := Rd.at_ dCell 2 (fun _ => rfl) (HD3.out.keep (Keeps.of_below (M := []) Hbr.out) (by simp)) hlt
        obtain rfl : A = some ⟨g, off, none⟩ := by injection e1
        clear e1
        have p0 := hcell 0 _ rfl
        have p1 := hcell 1 _ rfl
        rw [Nat.add_zero] at p0
        have hsx := Hs.out ds[x] (List.getElem_mem _)
        have Hnx : Hid (((ds.take (x + 1)).all fun d => serOk d.ser) = serOk ds[x].ser) := by
         show _ = _
         rw [List.take_succ_eq_append_getElem hlt, List.all_append, Hall.out]; simp
        have Hbad : Hid (serOk ds[x].ser = false → wr0 = 12) := fun h => by
         rw [HW3.out, if_neg]
         intro hall
         rw [List.all_eq_true] at hall
         have := hall ds[x] (List.getElem_mem _)
         rw [h] at this; cases this
        have hcell2 : (wr.alloc (.cells #[.string ds[x].ser, .int .u64 ds[x].n] 38)).cell? ⟨0, 0, none⟩ = some (.int .i64 m) := by
         rw [World.cell?_alloc_lt _ _ _ (by have := Hbr.out.size; simp; omega)]
         exact (Hbr.out.cell (p := ⟨0, 0, none⟩) hw30).trans Hm3.out
        have hpa := Lib.hid (parse_any ds[x].ser m _ hsx hcell2)
        have Hbra : Hid (Below w3.heap.size w3 (wr.alloc (.cells #[.string ds[x].ser, .int .u64 ds[x].n] 38))) := Hbr.out.alloc Hbr.out.size _
        clear hcell hcell2 hsx
        generalize ds[x] = d at *
        obtain ⟨dser, dn⟩ := d
        simp only [] at *
        cases hok : serOk dser with
        | true =>
         have ho : Hid (((ds.take (x + 1)).all fun d => serOk d.ser) = true) := by show _ = _; rw [Hnx.out, hok]
         have hpa2 := Lib.hid (show Calls Tryz.prog 87 #[.string dser] (wr.alloc (.cells #[.string dser, .int .u64 dn] 38)) fun e w' => ∃ v, e = .returned (.tuple #[v, .int .i64 0]) ∧ Below (wr.alloc (.cells #[.string dser, .int .u64 dn] 38)).heap.size (wr.alloc (.cells #[.string dser, .int .u64 dn] 38)) w' by
          have := hpa.out; unfold ParsePost at this; rwa [hok, if_pos rfl] at this)
         clear hpa Hbad Hnx hok
         go_wp2_with fail
         refine hpa2.out.mono ?_
         rintro r w4 ⟨v4, rfl, hb4⟩
         have Hb4 := Lib.hid (below_then Hbra.out hb4)
         clear hb4
         go_wp2
         go_roundw
         case rel => exact ⟨x + 1, by go_num, by omega, ho.out, Hb4.out⟩
         case measure => simp [intOf] <;> omega
        | false =>
         have hR := Lib.hid (Hbad.out hok)
         have hpa2 := Lib.hid (show Calls Tryz.prog 87 #[.string dser] (wr.alloc (.cells #[.string dser, .int .u64 dn] 38)) fun e w' => ∃ v, e = .returned (.tuple #[v, .int .i64 12]) ∧ Below (wr.alloc (.cells #[.string dser, .int .u64 dn] 38)).heap.size (wr.alloc (.cells #[.string dser, .int .u64 dn] 38)) w' by
          have := hpa.out; unfold ParsePost at this; rwa [hok, if_neg (by simp)] at this)
         clear hpa Hbad Hnx hok
         go_wp2_with fail
         refine hpa2.out.mono ?_
         rintro r w4 ⟨v4, rfl, hb4⟩
         have Hb4 := Lib.hid (below_then Hb3.out (below_then Hbra.out hb4))
         clear hb4
         go_wp2
         go_ret
         exact ⟨by rw [hR.out]; rfl, Hb4.out⟩
       ·obtain rfl : x = ds.length := by omega
        have hR : Hid (wr0 = 0) := by
         show _ = _
         have := Hall.out
         rw [List.take_length] at this
         rw [HW3.out, if_pos this]
        go_wp2
        go_ret
        exact ⟨by rw [hR.out]; rfl, below_then Hb3.out Hbr.out⟩
def rightE (e : EntryD) : Nat := if kindS e = false then 12 else if (!(withinB e.fr 8) || decide (e.tag < 0)) = true then 1 else if e.kind = 1 then writtenS e else if serOk e.ser = true then 0 else 12
/-- No text of an entry is longer than the library's search takes. -/
def Short (e : EntryD) : Prop := e.ser.size < 4294967281 ∧ (∀ d ∈ e.ds, d.ser.size < 4294967281) ∧ e.ds.length ≤ 4611686018427387904
set_option maxRecDepth 100000 in
set_option maxHeartbeats 1000000 in
theorem eright_any (e : EntryD) (dv : Value) (m : Int) (w : World) (h : Ds w [] dv e.ds) (hs : Short e) (hm : w.cell? ⟨0, 0, none⟩ = some (.int .i64 m)) :
  Calls Tryz.prog 43 #[.agg (eCell (e, dv)).toArray] w fun r w' => NumPost (rightE e) w r w' := by
 have HR : Hid (rightE e = if kindS e = false then 12 else if (!(withinB e.fr 8) || decide (e.tag < 0)) = true then 1 else if e.kind = 1 then writtenS e else if serOk e.ser = true then 0 else 12) := rfl
 have hw0 : 0 < w.heap.size := by
  have := World.block_lt_of_cell? w _ hm
  simpa using this
 obtain ⟨hs1, hs2, hs3⟩ := hs
 have hkd := Lib.hid (fun A c W => kind_any e A c W)
 have hwr := Lib.hid (fun W (hk : Keeps [] w W) (hmW : W.cell? ⟨0, 0, none⟩ = some (.int .i64 m)) => written_any e dv m W (h.keep hk (by simp)) hs2 hs3 hmW)
 have hpa := Lib.hid (fun W (hmW : W.cell? ⟨0, 0, none⟩ = some (.int .i64 m)) => parse_any e.ser m W hs1 hmW)
 obtain ⟨A, c, rfl, hc⟩ := h.len
 generalize rightE e = rr at *
 generalize kindS e = ks at *
 generalize writtenS e = ws at *
 obtain ⟨kind, ag, sh, seq, ep, ds, ser, fr, tag⟩ := e
 simp only [] at h hs1 hs2 hs3 hkd hwr hpa HR hc
 have hwi := Lib.hid (fun a b W => within2_any a b W)
 obtain ⟨w2, hw2⟩ : ∃ w2, w2 = w.alloc (.cells #[.int .i64 kind, .int .i64 ag, .int .i64 sh, .int .i64 seq, .int .i64 ep, .slice A ds.length c, .string ser, .int .i64 fr, .int .i64 tag] 33) := ⟨_, rfl⟩
 have hB : Blk w2 w.heap.size 33 #[.int .i64 kind, .int .i64 ag, .int .i64 sh, .int .i64 seq, .int .i64 ep, .slice A ds.length c, .string ser, .int .i64 fr, .int .i64 tag] := by rw [hw2]; exact Blk.new w _ _
 have hk2 : Keeps [] w w2 := by rw [hw2]; exact (Keeps.refl _ _).alloc _
 have Hm := Lib.hid hm; have Hk2 := Lib.hid hk2; have Hw2 := Lib.hid hw2; have HB := Lib.hid hB
 clear hm hk2 hw2 h hs1 hs2 hs3
 have hkd2 : Hid (∀ W, Calls Tryz.prog 84 #[.agg #[.int .i64 kind, .int .i64 ag, .int .i64 sh, .int .i64 seq, .int .i64 ep, .slice A ds.length c, .string ser, .int .i64 fr, .int .i64 tag]] W fun r w' => r = .returned (.bool ks) ∧ Below W.heap.size W w') := fun W => hkd.out A c W
 have hwr2 : Hid (∀ W, Keeps [] w W → W.cell? ⟨0, 0, none⟩ = some (.int .i64 m) → Calls Tryz.prog 86 #[.agg #[.int .i64 kind, .int .i64 ag, .int .i64 sh, .int .i64 seq, .int .i64 ep, .slice A ds.length c, .string ser, .int .i64 fr, .int .i64 tag]] W fun r w' => r = .returned (.int .i64 ws) ∧ Below W.heap.size W w') := fun W hk hmW => hwr.out W hk hmW
 clear hkd hwr
 have c0 := hB.cell 0; have c1 := hB.cell 1; have c2 := hB.cell 2; have c3 := hB.cell 3; have c4 := hB.cell 4; have c5 := hB.cell 5; have c6 := hB.cell 6; have c7 := hB.cell 7; have c8 := hB.cell 8
 simp only [List.getElem?_toArray, List.getElem?_cons_succ, List.getElem?_cons_zero] at c0 c1 c2 c3 c4 c5 c6 c7 c8
 clear hB
 show Calls Tryz.prog 43 #[.agg #[.int .i64 kind, .int .i64 ag, .int .i64 sh, .int .i64 seq, .int .i64 ep, .slice A ds.length c, .string ser, .int .i64 fr, .int .i64 tag]] w fun r w' => NumPost rr w r w'
 go_enter Tryz.func43, Tryz.ntmps43
 go_upto_region 1 with (fail)
 rw [← Hw2.out]
 go_wp2_with fail
 refine (hkd2.out _).mono ?_
 rintro r w3 ⟨rfl, hb3⟩
 have hw2s : w.heap.size < w2.heap.size := HB.out.lt
 have HB3 := Lib.hid (HB.out.below hb3 hw2s)
 have Hk3 : Hid (Keeps [] w w3) := Hk2.out.trans (Keeps.of_below (M := []) hb3) (by simp)
 have c0 := HB3.out.cell 0; have c1 := HB3.out.cell 1; have c2 := HB3.out.cell 2; have c3 := HB3.out.cell 3; have c4 := HB3.out.cell 4; have c5 := HB3.out.cell 5; have c6 := HB3.out.cell 6; have c7 := HB3.out.cell 7; have c8 := HB3.out.cell 8
 simp only [List.getElem?_toArray, List.getElem?_cons_succ, List.getElem?_cons_zero] at c0 c1 c2 c3 c4 c5 c6 c7 c8
 have hm3 : Hid (w3.cell? ⟨0, 0, none⟩ = some (.int .i64 m)) := (Hk3.out.cell (p := ⟨0, 0, none⟩) hw0 (by simp)).trans Hm.out
 clear hb3 hkd2
 cases ks with
 | false =>
  have hR : Hid (rr = 12) := by show _ = _; rw [HR.out, if_pos rfl]
  clear HR
  go_wp2
  go_ret
  exact ⟨by rw [hR.out]; rfl, Hk3.out.below⟩
 | true =>
  have HR2 : Hid (rr = if (!(withinB fr 8) || decide (tag < 0)) = true then 1 else if kind = 1 then ws else if serOk ser = true then 0 else 12) := by show _ = _; rw [HR.out, if_neg (by simp)]
  clear HR
  cases h1 : withinB fr 8 with
  | false =>
   have hR : Hid (rr = 1) := by show _ = _; rw [HR2.out, h1]; rfl
   clear HR2
   go_wp2_with (go_at_call 85; refine (hwi.out _ _ _).mono ?_; rintro r w' ⟨rfl, rfl⟩; rw [h1])
   go_ret
   exact ⟨by rw [hR.out]; rfl, Hk3.out.below⟩
  | true =>
   by_cases h2 : tag < 0
   ·have hR : Hid (rr = 1) := by show _ = _; rw [HR2.out, h1, decide_eq_true h2]; rfl
    clear HR2
    go_wp2_with (go_at_call 85; refine (hwi.out _ _ _).mono ?_; rintro r w' ⟨rfl, rfl⟩; rw [h1])
    go_ret
    exact ⟨by rw [hR.out]; rfl, Hk3.out.below⟩
   ·have h2' : decide (tag < 0) = false := decide_eq_false h2
    have HR3 : Hid (rr = if kind = 1 then ws else if serOk ser = true then 0 else 12) := by show _ = _; rw [HR2.out, h1, h2', if_neg (by simp)]
    clear HR2
    by_cases h3 : kind = 1
    ·have hR : Hid (rr = ws) := by show _ = _; rw [HR3.out, if_pos h3]
     have h3' : (kind == 1) = true := by simpa using h3
     have hw := Lib.hid (hwr2.out w3 Hk3.out hm3.out)
     clear HR3 h3 hwr2
     go_wp2_with (go_at_call 85; refine (hwi.out _ _ _).mono ?_; rintro r w' ⟨rfl, rfl⟩; rw [h1])
     refine hw.out.mono ?_
     rintro r w4 ⟨rfl, hb4⟩
     have hb5 := Lib.hid (below_then Hk3.out.below hb4)
     clear hb4
     go_wp2
     go_ret
     exact ⟨by rw [hR.out]; rfl, hb5.out⟩
    ·have h3' : (kind == 1) = false := by simpa using h3
     have hR : Hid (rr = if serOk ser = true then 0 else 12) := by show _ = _; rw [HR3.out, if_neg h3]
     have hp := Lib.hid (hpa.out w3 hm3.out)
     clear HR3 h3 hwr2 hpa
     go_wp2_with (go_at_call 85; refine (hwi.out _ _ _).mono ?_; rintro r w' ⟨rfl, rfl⟩; rw [h1])
     refine hp.out.mono ?_
     rintro r w4 ⟨v4, rfl, hb4⟩
     have hb5 := Lib.hid (below_then Hk3.out.below hb4)
     clear hb4 hp
     cases hok : serOk ser with
     | true =>
      have hR2 : Hid (rr = 0) := by show _ = _; rw [hR.out, hok]; rfl
      simp only [if_true]
      clear hR
      go_wp2
      go_ret
      exact ⟨by rw [hR2.out]; rfl, hb5.out⟩
     | false =>
      have hR2 : Hid (rr = 12) := by show _ = _; rw [hR.out, hok]; rfl
      clear hR
      go_wp2
      go_ret
      exact ⟨by rw [hR2.out]; rfl, hb5.out⟩
def NOk (d : DeltaD) : Prop := 0 ≤ d.n ∧ d.n < 18446744073709551616
/-- The numbers of an entry go into their types. -/
def Wf (e : EntryD) : Prop := e.tag ≤ 9223372036854775807 ∧ e.seq ≤ 9223372036854775807 ∧ e.ep ≤ 9223372036854775807 ∧ ∀ d ∈ e.ds, NOk d

end Go.Proofs.YtgdooockldgdlaaGreatDoor.Vi
end
section
namespace Go.Proofs.YtgdooockldgdlaaGreatDoor.Vi
open Go.RowKit Base Mem

end Go.Proofs.YtgdooockldgdlaaGreatDoor.Vi
end
section
namespace Go.Proofs.YtgdooockldgdlaaGreatDoor.Vi
open Go.RowKit Base Mem Go.Shelf
def addS (a b : Nat) : Nat := if 18446744073709551615 < a + b then 18446744073709551615 else a + b
theorem add_any (a b : Nat) (w : World) (ha : a < 18446744073709551616) (hb : b < 18446744073709551616) :
  Calls Tryz.prog 112 #[.int .u64 a, .int .u64 b] w fun e w' => e = .returned (.int .u64 (addS a b)) ∧ w = w' := by
 by_cases h : 18446744073709551615 < a + b
 ·have hR : Hid (addS a b = 18446744073709551615) := by show _ = _; unfold addS; rw [if_pos h]
  rw [hR.out]
  have hw : IntKind.u64.wrap (18446744073709551615 - (b : Int)) = 18446744073709551615 - (b : Int) := by rw [IntKind.wrap_u64]; omega
  have hi : (18446744073709551615 : Int) - (b : Int) < (a : Int) := by omega
  go_enter Tryz.func112, Tryz.ntmps112
  go_wp2
  go_ret
  exact ⟨rfl, rfl⟩
 ·have hR : Hid (addS a b = a + b) := by show _ = _; unfold addS; rw [if_neg h]
  rw [hR.out]
  have hw : IntKind.u64.wrap (18446744073709551615 - (b : Int)) = 18446744073709551615 - (b : Int) := by rw [IntKind.wrap_u64]; omega
  have hi : decide ((18446744073709551615 : Int) - (b : Int) < (a : Int)) = false := decide_eq_false (by omega)
  have hw2 : IntKind.u64.wrap ((a : Int) + (b : Int)) = (a : Int) + (b : Int) := by rw [IntKind.wrap_u64]; omega
  go_enter Tryz.func112, Tryz.ntmps112
  go_wp2
  go_ret
  exact ⟨ret_int (by simp), rfl⟩


end Go.Proofs.YtgdooockldgdlaaGreatDoor.Vi
end
section
namespace Go.Proofs.YtgdooockldgdlaaGreatDoor.Vi
open Go.RowKit Base Mem


end Go.Proofs.YtgdooockldgdlaaGreatDoor.Vi
end
section
namespace Go.Proofs.YtgdooockldgdlaaGreatDoor.Vi
open Go.RowKit Base Mem Go.Shelf
def zeroA : Array Value := #[.int .i64 0, .int .i64 0, .int .i64 0, .int .i64 0, .int .i64 0, .slice none 0 0, .string ⟨#[]⟩, .int .i64 0, .int .i64 0]
/-- What stands between two calls: the reader, the result's block, the entry's block. -/
structure Re (w0 w : World) (p g0 g5 : Nat) (l : List UInt8) (bad : Bool) (c : Array Value) : Prop where
 rd : RdAt w [g5] p l bad
 keeps : Below w0.heap.size w0 w
 b0 : Blk w g0 33 zeroA
 b5 : Blk w g5 33 c
 o0 : w0.heap.size ≤ g0
 o1 : g0 < p
 o2 : p < g5
theorem Re.set {w0 w : World} {p g0 g5 : Nat} {l : List UInt8} {bad : Bool} {c : Array Value} (h : Re w0 w p g0 g5 l bad c) (i : Nat) (v : Value) : Re w0 (w.setCell ⟨g5, i, none⟩ v) p g0 g5 l bad (c.setIfInBounds i v) := by
 have h0 := h.o0; have h1 := h.o1; have h2 := h.o2
 have hk : Keeps [g5] w (w.setCell ⟨g5, i, none⟩ v) := (Keeps.refl _ _).setCell (by simp) v
 exact ⟨h.rd.keep hk (by simp) (by simp; omega), ((Keeps.of_below (M := []) h.keeps).trans hk (by intro g hg; simp at hg; right; omega)).below, hk.blk h.b0 (by simp; omega), h.b5.set_ i v, h0, h1, h2⟩

def SamePost (r : Bool) (w : World) (e : Ending) (w' : World) : Prop := e = .returned (.bool r) ∧ Below w.heap.size w w'

def kl : List DeltaD := [⟨⟨#[97]⟩, 1⟩, ⟨⟨#[98]⟩, 2⟩, ⟨⟨#[97]⟩, 3⟩]
end Go.Proofs.YtgdooockldgdlaaGreatDoor.Vi
end
section
namespace Go.Proofs.YtgdooockldgdlaaGreatDoor.Tape
open Go.RowKit Base Mem
def withinS (n lo hi : Int) : Int := if lo ≤ n ∧ n ≤ hi then n else lo + n % (hi - lo + 1)
theorem tmod_fix (n m : Int) (hm : 0 < m) : (n.tmod m < 0 → n.tmod m + m = n % m) ∧ (¬ n.tmod m < 0 → n.tmod m = n % m) := by
 have h := Int.tmod_eq_emod (a := n) (b := m)
 have h1 := Int.emod_nonneg n (show m ≠ 0 by omega)
 have h2 := Int.emod_lt_of_pos n hm
 split at h
 ·omega
 ·rename_i hc
  have h3 : n % m ≠ 0 := fun h0 => hc (.inr (Int.dvd_of_emod_eq_zero h0))
  omega
theorem within_bd (n lo hi : Int) (h : lo ≤ hi) : lo ≤ withinS n lo hi ∧ withinS n lo hi ≤ hi := by
 unfold withinS
 have h1 := Int.emod_nonneg n (show hi - lo + 1 ≠ 0 by omega)
 have h2 := Int.emod_lt_of_pos n (show 0 < hi - lo + 1 by omega)
 split <;> omega
theorem within_any (n lo hi : Int) (w : World) (h0 : 0 ≤ lo) (h1 : lo ≤ hi) (h2 : hi ≤ 1073741824) :
  Calls Tryz.prog 21 #[.int .i64 n, .int .i64 lo, .int .i64 hi] w fun e w' => e = .returned (.int .i64 (withinS n lo hi)) ∧ w = w' := by
 by_cases hin : lo ≤ n ∧ n ≤ hi
 ·have Hw : Hid (withinS n lo hi = n) := if_pos hin
  obtain ⟨hi1, hi2⟩ := hin
  go_enter Tryz.func21, Tryz.ntmps21
  go_wp2
  go_ret
  exact ⟨ret_int Hw.out.symm, rfl⟩
 ·have Hw : Hid (withinS n lo hi = lo + n % (hi - lo + 1)) := if_neg hin
  obtain ⟨t1, t2⟩ := tmod_fix n (hi - lo + 1) (by omega)
  have h3 := Int.emod_nonneg n (show hi - lo + 1 ≠ 0 by omega)
  have h4 := Int.emod_lt_of_pos n (show 0 < hi - lo + 1 by omega)
  have hc : n < lo ∨ (lo ≤ n ∧ hi < n) := by omega
  have T1 := Lib.hid t1; have T2 := Lib.hid t2
  clear hin t1 t2
  have hb : n.tmod (hi - lo + 1) < hi - lo + 1 ∧ -(hi - lo + 1) ≤ n.tmod (hi - lo + 1) := by
   have a := T1.out; have b := T2.out
   by_cases hh : n.tmod (hi - lo + 1) < 0
   ·have := a hh; omega
   ·have := b hh; omega
  obtain ⟨hb1, hb2⟩ := hb
  generalize hg : n.tmod (hi - lo + 1) = t at *
  generalize n % (hi - lo + 1) = r at *
  by_cases ht : t < 0
  ·have Hr : Hid (t + hi - lo + 1 = r) := by have := T1.out ht; show _ = _; omega
   rcases hc with hc | ⟨hc, hc2⟩
   all_goals
    go_enter Tryz.func21, Tryz.ntmps21
    go_wp2
    go_ret
    exact ⟨ret_int (by rw [Hw.out, ← Hr.out]), rfl⟩
  ·have Hr : Hid (t = r) := T2.out ht
   rcases hc with hc | ⟨hc, hc2⟩
   all_goals
    go_enter Tryz.func21, Tryz.ntmps21
    go_wp2
    go_ret
    exact ⟨ret_int (by rw [Hw.out, ← Hr.out]), rfl⟩
/-- A tape's numbers, and below which block they lie. -/
structure TapeL where
 l : List Int
 B : Nat
/-- A tape lies in block b: its numbers, how many are read. -/
structure TapeAt (w : World) (b : Nat) (L : TapeL) (k : Nat) : Prop where
 le : k ≤ L.l.length
 max : L.l.length ≤ 9223372036854775807
 low : L.B ≤ b
 mem : ∃ A c, Blk w b 49 #[.slice A L.l.length c, .int .i64 k] ∧ L.l.length ≤ c ∧ (0 < L.l.length → ∃ g off, A = some ⟨g, off, none⟩ ∧ g < L.B ∧ ∀ (j : Nat) (x : Int), L.l[j]? = some x → w.cell? ⟨g, off + j, none⟩ = some (.int .i64 x))
section
variable {w w' : World} {M' : List Nat} {b k : Nat} {L : TapeL}
theorem TapeAt.lt (h : TapeAt w b L k) : b < w.heap.size := by obtain ⟨_, _, _, _, _, hv, _⟩ := h; exact hv.lt
theorem TapeAt.keep2 (h : TapeAt w b L k) (hk : Keeps M' w w') (hM : ∀ g ∈ M', L.B ≤ g ∧ g ≠ b) : TapeAt w' b L k := by
 obtain ⟨h1, h2, h3, A, c, hv, hc, hr⟩ := h
 refine ⟨h1, h2, h3, A, c, hk.blk hv (fun hm => (hM b hm).2 rfl), hc, fun hn => ?_⟩
 obtain ⟨g, off, e, hg, hx⟩ := hr hn
 exact ⟨g, off, e, hg, fun j x hj => (hk.cell (p := ⟨g, off + j, none⟩) (by have := hv.lt; simp; omega) (fun hm => by have := hM g hm; omega)).trans (hx j x hj)⟩
theorem TapeAt.keep (h : TapeAt w b L k) (hk : Keeps M' w w') (hM : ∀ g ∈ M', b < g) : TapeAt w' b L k :=
 h.keep2 hk (fun g hg => by have := hM g hg; have := h.low; omega)
theorem TapeAt.set_at (h : TapeAt w b L k) {j : Nat} (hj : j ≤ L.l.length) : TapeAt (w.setCell ⟨b, 1, none⟩ (.int .i64 j)) b L j := by
 obtain ⟨h1, h2, h3, A, c, hv, hc, hr⟩ := h
 refine ⟨hj, h2, h3, A, c, hv.set_ 1 (.int .i64 j), hc, fun hn => ?_⟩
 obtain ⟨g, off, e, hg, hx⟩ := hr hn
 exact ⟨g, off, e, hg, fun j' x hj' => (World.cell?_setCell_other _ _ _ _ (by intro e; injection e with e1; omega)).trans (hx j' x hj')⟩
theorem TapeAt.drewN (h : TapeAt w b L k) (n : Nat) : TapeAt (w.drewN n) b L k := h.keep (M' := []) ((Keeps.refl _ _).drewN n) (by simp)
theorem TapeAt.cells (h : TapeAt w b L k) : ∃ A c, w.cell? ⟨b, 0, none⟩ = some (.slice A L.l.length c) ∧ L.l.length ≤ c ∧ w.cell? ⟨b, 1, none⟩ = some (.int .i64 k) ∧ w.frozen? ⟨b, 1, none⟩ = false ∧ b < w.heap.size ∧
  (k < L.l.length → ∃ g off x, A = some ⟨g, off, none⟩ ∧ g < w.heap.size ∧ g ≠ b ∧ w.cell? ⟨g, off + k, none⟩ = some (.int .i64 x)) := by
 obtain ⟨h1, h2, h3, A, c, hv, hc, hr⟩ := h
 refine ⟨A, c, hv.cell 0, hc, hv.cell 1, hv.frozen 1, hv.lt, fun hk => ?_⟩
 obtain ⟨g, off, e, hg, hx⟩ := hr (by omega)
 exact ⟨g, off, L.l[k], e, by have := hv.lt; omega, by omega, hx k _ (List.getElem?_eq_getElem hk)⟩
end
theorem next_any (b : Nat) (L : TapeL) (k : Nat) (n : Int) (w : World) (h : TapeAt w b L k) :
  Calls Tryz.prog 26 #[.pointer (some ⟨b, 0, none⟩), .int .i64 n] w fun e w' => ∃ (v : Int) (k' : Nat), e = .returned (.int .i64 v) ∧ 0 ≤ v ∧ (1 ≤ n → v < n) ∧ TapeAt w' b L k' ∧ Keeps [b] w w' := by
 obtain ⟨A, c, c0, hc, c1, f1, hlt, hx⟩ := h.cells
 have hle := h.le
 have hmx := h.max
 have H := Lib.hid h
 by_cases hk : k < L.l.length
 ·by_cases hn : 1 ≤ n
  ·obtain ⟨g, off, x, rfl, hg, hne, hcell⟩ := hx hk
   have hwi := Lib.hid (fun W => within_any x 0 1073741824 W (by omega) (by omega) (by omega))
   have hwb := within_bd x 0 1073741824 (by omega)
   have hcell2 : (w.setCell ⟨b, 1, none⟩ (.int .i64 ((k : Int) + 1))).cell? ⟨g, off + k, none⟩ = some (.int .i64 x) := by
    rw [World.cell?_setCell_other _ _ _ _ (by intro e; injection e with e1; exact hne e1.symm)]; exact hcell
   have hj : ((k : Int) + 1 - 1) = k := by omega
   clear h hx hcell
   generalize withinS x 0 1073741824 = y at *
   have hr1 := Int.emod_nonneg y (show n ≠ 0 by omega)
   have hr2 := Int.emod_lt_of_pos y (show 0 < n by omega)
   have d0 : decide (L.l.length ≤ k) = false := by simp; omega
   have d1 : decide (n < 1) = false := by simp; omega
   go_enter Tryz.func26, Tryz.ntmps26
   go_wp2
   go_quiet (fail)
   go_wp2
   have hT : TapeAt ((w.drewN nq).setCell ⟨b, 1, none⟩ (.int .i64 ((k : Int) + 1))) b L (k + 1) := by
    have := (H.out.drewN nq).set_at (j := k + 1) (by omega)
    rwa [show (((k + 1 : Nat)) : Int) = (k : Int) + 1 by omega] at this
   have hK : Keeps [b] w ((w.drewN nq).setCell ⟨b, 1, none⟩ (.int .i64 ((k : Int) + 1))) := ((Keeps.refl _ _).drewN nq).setCell (by simp) _
   have e0 : ((w.drewN nq).setCell ⟨b, 1, none⟩ (.int .i64 ((k : Int) + 1))).cell? ⟨b, 0, none⟩ = some (.slice (some ⟨g, off, none⟩) L.l.length c) := by
    rw [World.cell?_setCell_other _ _ _ _ (by intro e; injection e with e1 e2; omega)]; exact c0
   have e1 : ((w.drewN nq).setCell ⟨b, 1, none⟩ (.int .i64 ((k : Int) + 1))).cell? ⟨b, 1, none⟩ = some (.int .i64 ((k : Int) + 1)) := by
    obtain ⟨_, _, _, _, _, hv, _⟩ := hT
    have := hv.cell 1
    simpa using this
   have e2 : ((w.drewN nq).setCell ⟨b, 1, none⟩ (.int .i64 ((k : Int) + 1))).cell? ⟨g, off + k, none⟩ = some (.int .i64 x) := hcell2
   clear hcell2 c0 c1 f1
   generalize ((w.drewN nq).setCell ⟨b, 1, none⟩ (.int .i64 ((k : Int) + 1))) = W at *
   have hk0 : (0 : Int) ≤ (k : Int) := by omega
   have hk1 : (k : Int) < (L.l.length : Int) := by omega
   go_quiet ((go_at_call 21; exact quiet_left (hwi.out _)))
   go_wp2
   go_ret
   exact ⟨_, _, rfl, hr1, fun _ => hr2, hT.drewN _, hK.drewN _⟩
  ·have d0 : decide (L.l.length ≤ k) = false := by simp; omega
   have d1 : decide (n < 1) = true := by simp; omega
   clear h hx
   go_enter Tryz.func26, Tryz.ntmps26
   go_wp2
   go_quiet (fail)
   go_wp2
   go_ret
   exact ⟨0, k, rfl, by omega, fun h => by omega, H.out.drewN _, (Keeps.refl _ _).drewN _⟩
 ·have d0 : decide (L.l.length ≤ k) = true := by simp; omega
  clear h hx
  go_enter Tryz.func26, Tryz.ntmps26
  go_wp2
  go_quiet (fail)
  go_wp2
  go_ret
  exact ⟨0, k, rfl, by omega, fun h => by omega, H.out.drewN _, (Keeps.refl _ _).drewN _⟩
def nameL : List (List UInt8) := [[97, 61, 49], [97, 61, 50], [97, 61, 49, 44, 98, 61, 120], [106, 111, 98, 61, 97, 112, 105, 44, 122, 111, 110, 101, 61, 101, 117], [106, 111, 98, 61, 119, 101, 98], [107, 61, 118], [110, 61, 48], [97, 61, 51, 44, 99, 61, 57]]
/-- A series that there is. -/
def NameOk (s : ByteArray) : Prop := ∃ l ∈ nameL, s = ⟨l.toArray⟩
def DeltaOk (d : DeltaD) : Prop := NameOk d.ser ∧ 1 ≤ d.n ∧ d.n ≤ 18446744073709551615
theorem names_any (w : World) : Calls Tryz.prog 39 #[] w fun e w' => e = .returned (.slice (some ⟨w.heap.size, 0, none⟩) 8 8) ∧ Blk w' w.heap.size 9 (nameL.map fun l => Value.string ⟨l.toArray⟩).toArray ∧ Below w.heap.size w w' := by
 go_enter Tryz.func39, Tryz.ntmps39
 go_wp2
 go_ret
 exact ⟨rfl, Blk.new w _ _, below_new' _ _⟩
theorem name_at {w : World} {g j : Nat} (h : Blk w g 9 (nameL.map fun l => Value.string ⟨l.toArray⟩).toArray) (hj : j < 8) : ∃ s, w.cell? ⟨g, j, none⟩ = some (.string s) ∧ NameOk s := by
 have hl : j < nameL.length := hj
 refine ⟨⟨nameL[j].toArray⟩, ?_, nameL[j], List.getElem_mem hl, rfl⟩
 rw [h.cell, List.getElem?_toArray, List.getElem?_map, List.getElem?_eq_getElem hl]
 rfl
theorem series_any (b : Nat) (L : TapeL) (k : Nat) (w : World) (h : TapeAt w b L k) :
  Calls Tryz.prog 19 #[.pointer (some ⟨b, 0, none⟩)] w fun e w' => ∃ (s : ByteArray) (k' : Nat), e = .returned (.string s) ∧ NameOk s ∧ TapeAt w' b L k' ∧ Keeps [b] w w' := by
 have H := Lib.hid h
 obtain ⟨_, _, _, _, _, _, hlt, _⟩ := h.cells
 clear h
 go_enter Tryz.func19, Tryz.ntmps19
 go_wp2_with fail
 refine (names_any w).mono ?_
 rintro e w1 ⟨rfl, hb1, hbel⟩
 have hT := H.out.keep (Keeps.of_below (M := []) hbel) (by simp)
 have Hb1 := Lib.hid hb1; have Hbel := Lib.hid hbel; have HT := Lib.hid hT
 clear hb1 hbel hT
 go_wp2_with fail
 refine (next_any b L k 8 w1 HT.out).mono ?_
 rintro e w2 ⟨v, k', rfl, hv0, hv8, hT2, hK2⟩
 obtain ⟨j, rfl⟩ := Int.eq_ofNat_of_zero_le hv0
 have hj8 : (j : Int) < 8 := hv8 (by omega)
 obtain ⟨s, hs, hok⟩ := name_at (hK2.blk Hb1.out (by simp; omega)) (show j < 8 by omega)
 have HT2 := Lib.hid hT2; have HK := Lib.hid ((Keeps.of_below (M := [b]) Hbel.out).trans hK2 (by simp))
 have Hok := Lib.hid hok
 clear hv8 hT2 hK2 hok
 go_wp2
 go_ret
 exact ⟨s, k', rfl, Hok.out, HT2.out, HK.out⟩
theorem n_any (b : Nat) (L : TapeL) (k : Nat) (w : World) (h : TapeAt w b L k) :
  Calls Tryz.prog 79 #[.pointer (some ⟨b, 0, none⟩)] w fun e w' => ∃ (n : Int) (k' : Nat), e = .returned (.int .u64 n) ∧ (1 ≤ n ∧ n ≤ 18446744073709551615) ∧ TapeAt w' b L k' ∧ Keeps [b] w w' := by
 have H := Lib.hid h
 clear h
 go_enter Tryz.func79, Tryz.ntmps79
 go_wp2_with fail
 refine (next_any b L k 12 w H.out).mono ?_
 rintro e w1 ⟨v, k', rfl, hv0, hv8, hT, hK⟩
 have hv12 := hv8 (by omega)
 have HT := Lib.hid hT; have HK := Lib.hid hK
 clear hv8 hT hK
 by_cases c0 : v = 0
 ·subst c0
  go_wp2
  go_ret
  exact ⟨_, _, rfl, ⟨by omega, by omega⟩, HT.out, HK.out⟩
 ·by_cases c1 : v = 1
  ·subst c1
   go_wp2
   go_ret
   exact ⟨_, _, rfl, ⟨by omega, by omega⟩, HT.out, HK.out⟩
  ·by_cases c2 : v = 2
   ·subst c2
    go_wp2_with fail
    refine (next_any b L k' 1073741824 w1 HT.out).mono ?_
    rintro e w2 ⟨x, k2, rfl, hx0, hx1, hT2, hK2⟩
    have hx2 := hx1 (by omega)
    have HT2 := Lib.hid hT2; have HK2 := Lib.hid (HK.out.trans hK2 (by simp))
    clear hx1 hT2 hK2
    go_wp2
    go_ret
    exact ⟨_, _, rfl, ⟨by omega, by omega⟩, HT2.out, HK2.out⟩
   ·have d0 : (v == 0) = false := by simpa using c0
    have d1 : (v == 1) = false := by simpa using c1
    have d2 : (v == 2) = false := by simpa using c2
    clear c0 c1 c2
    go_wp2_with fail
    refine (next_any b L k' 50 w1 HT.out).mono ?_
    rintro e w2 ⟨x, k2, rfl, hx0, hx1, hT2, hK2⟩
    have hx2 := hx1 (by omega)
    have HT2 := Lib.hid hT2; have HK2 := Lib.hid (HK.out.trans hK2 (by simp))
    clear hx1 hT2 hK2
    go_wp2
    go_ret
    exact ⟨_, _, rfl, ⟨by omega, by omega⟩, HT2.out, HK2.out⟩
theorem infoDelta' : (Tryz.prog.info? 38).map (fun i => (i.zero, i.size, i.bytes)) = some (some (.agg #[.string ByteArray.empty, .int .u64 0]), 2, 24) := by kernel_rfl
def DeltasPost (b : Nat) (L : TapeL) (most : Int) (w : World) (e : Ending) (w' : World) : Prop := ∃ (v : Value) (ds : List DeltaD) (k' : Nat), e = .returned v ∧ (∀ d ∈ ds, DeltaOk d) ∧ 1 ≤ ds.length ∧ (ds.length : Int) ≤ most ∧
   w'.ownsRow w.heap.size 38 2 v ds.length (dCells ds) ∧ TapeAt w' b L k' ∧ Keeps [b] w w'
set_option maxRecDepth 100000 in
theorem deltas_any (b : Nat) (L : TapeL) (k : Nat) (most : Int) (w : World) (h : TapeAt w b L k) (h1 : 1 ≤ most) (h2 : most ≤ 1000) :
  Calls Tryz.prog 83 #[.pointer (some ⟨b, 0, none⟩), .int .i64 most] w fun e w' => DeltasPost b L most w e w' := by
 obtain ⟨_, _, _, _, _, _, hbw, _⟩ := h.cells
 have H := Lib.hid h
 obtain ⟨i0, hi0, hz0, hz1, hz2⟩ := info_parts infoDelta'
 have Hi0 := Lib.hid hi0; have Hz0 := Lib.hid hz0; have Hz1 := Lib.hid hz1; have Hz2 := Lib.hid hz2
 clear h hi0 hz0 hz1 hz2
 go_enter Tryz.func83, Tryz.ntmps83
 go_wp2_with fail
 refine (next_any b L k most w H.out).mono ?_
 rintro e w1 ⟨v, k1, rfl, hv0, hv8, hT, hK⟩
 have hv9 := hv8 h1
 have HT := Lib.hid hT; have HK := Lib.hid hK
 clear hv8 hT hK
 go_wp2
 go_loopw [5, 6] (fun out nn wr => ∃ (ds : List DeltaD) (r : Int) (k' : Nat), nn = .int .i64 r ∧ 0 ≤ r ∧ r + ds.length = 1 + v ∧ Hid (∀ d ∈ ds, DeltaOk d) ∧ Hid (wr.ownsRow w.heap.size 38 2 out ds.length (dCells ds)) ∧ Hid (TapeAt wr b L k') ∧ Hid (Keeps [b] w wr))
  (fun _ nn _ => (intOf nn).toNat)
 case atStart => exact ⟨[], 1 + v, k1, rfl, by omega, by simp, (show ∀ _, _ from by simp), World.ownsRow_nil _ _ _ _, HT.out, HK.out⟩
 case round =>
  obtain ⟨ds, r, k', rfl, hr0, hrl, Hok, Hown, HTr, HKr⟩ := hrel
  have Hrl := Lib.hid hrl
  have hr1 : r ≤ 1 + v := by omega
  clear hrl
  by_cases hr : 0 < r
  ·go_wp2_with fail
   refine (series_any b L k' wr HTr.out).mono ?_
   rintro e w2 ⟨s, k2, rfl, hs, hT2, hK2⟩
   have Hs := Lib.hid hs; have HT2 := Lib.hid hT2; have HK2 := Lib.hid hK2
   clear hs hT2 hK2
   go_wp2_with fail
   refine (n_any b L k2 w2 HT2.out).mono ?_
   rintro e w3 ⟨n, k3, rfl, hn, hT3, hK3⟩
   have Hn := Lib.hid hn; have HT3 := Lib.hid hT3
   have hK4 := HK2.out.trans hK3 (by simp)
   have HK4 := Lib.hid hK4
   have hown3 : w3.ownsRow w.heap.size 38 2 u5 ds.length (dCells ds) := own_keep Hown.out hK4 (by simp; omega)
   have Hown3 := Lib.hid (hown3.alloc (.cells #[.string s, .int .u64 n] 38))
   have hds : ds.length ≤ 1000 := by have := Hrl.out; omega
   clear hn hT3 hK3 hK4 hown3
   go_wp2_with (at_builtin; refine wpList_append_any _ rfl (.tmp 15) (.tmp 21) _ rfl w.heap.size 38 i0 _ 2 24 Tryz.underlying31 Hi0.out Hz0.out Hz1.out Hz2.out rfl (by omega) u5 ds.length (dCells ds) rfl Hown3.out (w3.heap.size + 1) (some ⟨w3.heap.size, 0, none⟩) 1 1 (dCell ⟨s, n⟩) rfl (reads_new _ _ _ _ _ rfl) (by intro u hu; simp [dCell] at hu; rcases hu with rfl | rfl <;> rfl) (by unfold maxLen; omega) (by omega) (by have := HKr.out.size; have := HK4.out.size; simp; omega) ?_)
   intro v' w4 hown4 hg4 hat4
   have hlt0 := Hown.out.lt
   have hK5 : Keeps [b] w w4 := ((HKr.out.trans HK4.out (by simp)).alloc _).grown hg4 (fun g hg => .inr (hlt0 g hg).1)
   have hT5 : TapeAt w4 b L k3 := HT3.out.keep (M' := u5.ownBlock.toList) (((Keeps.refl _ _).alloc _).grown hg4 (fun g hg => .inl (by simpa using hg))) (by intro g hg; have := hlt0 g (by simpa using hg); omega)
   have hok4 : ∀ d ∈ ds ++ [(⟨s, n⟩ : DeltaD)], DeltaOk d := fun d hd => by
    rcases List.mem_append.1 hd with hd | hd
    ·exact Hok.out d hd
    ·simp at hd; subst hd; exact ⟨Hs.out, Hn.out⟩
   have Hok4 := Lib.hid hok4
   clear hok4
   have Hown4 : Hid (w4.ownsRow w.heap.size 38 2 v' (ds ++ [(⟨s, n⟩ : DeltaD)]).length (dCells (ds ++ [(⟨s, n⟩ : DeltaD)]))) := by
    show World.ownsRow _ _ _ _ _ _ _
    rw [List.length_append]
    unfold dCells at hown4 ⊢
    rw [List.flatMap_append]
    simpa using hown4
   have HT5 := Lib.hid hT5; have HK5 := Lib.hid hK5
   clear hown4 hg4 hat4 hlt0 hK5 hT5
   go_wp2
   go_roundw
   case rel => exact ⟨ds ++ [(⟨s, n⟩ : DeltaD)], r - 1, k3, rfl, by omega, by have := Hrl.out; simp; omega, Hok4, Hown4, HT5, HK5⟩
   case measure => simp [intOf]; omega
  ·have hr0 : r = 0 := by omega
   subst hr0
   have hpost : DeltasPost b L most w (.returned u5) wr := ⟨u5, ds, k', rfl, Hok.out, by have := Hrl.out; omega, by have := Hrl.out; omega, Hown.out, HTr.out, HKr.out⟩
   go_wp2
   go_ret
   exact hpost
def EntryOk (e : EntryD) : Prop := 0 ≤ e.fr ∧ e.fr < 8 ∧ 0 ≤ e.tag ∧ e.tag < 40 ∧
  ((e.kind = 2 ∧ NameOk e.ser ∧ e.ag = 0 ∧ e.sh = 0 ∧ e.seq = 0 ∧ e.ep = 0 ∧ e.ds = []) ∨
   (e.kind = 1 ∧ e.ser = ByteArray.empty ∧ 0 ≤ e.ag ∧ e.ag < 3 ∧ 0 ≤ e.sh ∧ e.sh < 2 ∧ 1 ≤ e.seq ∧ e.seq ≤ 90 ∧ 1 ≤ e.ep ∧ e.ep ≤ 4 ∧ 1 ≤ e.ds.length ∧ e.ds.length ≤ 4 ∧ ∀ d ∈ e.ds, DeltaOk d))
def EntryPost (b : Nat) (L : TapeL) (w : World) (e : Ending) (w' : World) : Prop := ∃ (en : EntryD) (dv : Value) (k' : Nat), e = .returned (.agg (eCell (en, dv)).toArray) ∧ EntryOk en ∧ (∀ M, (∀ g ∈ M, g < w.heap.size) → Ds w' M dv en.ds) ∧ TapeAt w' b L k' ∧ Keeps [b] w w'
def zeroE : Array Value := #[.int .i64 0, .int .i64 0, .int .i64 0, .int .i64 0, .int .i64 0, .slice none 0 0, .string ⟨#[]⟩, .int .i64 0, .int .i64 0]
/-- The cells of a block that is known whole. -/
theorem blk_cells {w : World} {g : Nat} {t : TypeId} {c0 c1 c2 c3 c4 c5 c6 c7 c8 : Value} (h : Blk w g t #[c0, c1, c2, c3, c4, c5, c6, c7, c8]) :
  w.cell? ⟨g, 0, none⟩ = some c0 ∧ w.cell? ⟨g, 1, none⟩ = some c1 ∧ w.cell? ⟨g, 2, none⟩ = some c2 ∧ w.cell? ⟨g, 3, none⟩ = some c3 ∧ w.cell? ⟨g, 4, none⟩ = some c4 ∧ w.cell? ⟨g, 5, none⟩ = some c5 ∧ w.cell? ⟨g, 6, none⟩ = some c6 ∧ w.cell? ⟨g, 7, none⟩ = some c7 ∧ w.cell? ⟨g, 8, none⟩ = some c8 ∧ (∀ i, w.frozen? ⟨g, i, none⟩ = false) :=
 ⟨h.cell 0, h.cell 1, h.cell 2, h.cell 3, h.cell 4, h.cell 5, h.cell 6, h.cell 7, h.cell 8, h.frozen⟩
theorem step_next (b : Nat) (L : TapeL) (k : Nat) (n : Int) (w0 w : World) (h : TapeAt w b L k) (hK : Keeps [b] w0 w) (hn : 1 ≤ n) :
  Calls Tryz.prog 26 #[.pointer (some ⟨b, 0, none⟩), .int .i64 n] w fun e w' => ∃ (v : Int) (k' : Nat), e = .returned (.int .i64 v) ∧ (0 ≤ v ∧ v < n) ∧ Hid (TapeAt w' b L k') ∧ Hid (Keeps [b] w w') ∧ Hid (Keeps [b] w0 w') :=
 (next_any b L k n w h).mono fun _ _ ⟨v, k', he, h0, h1, hT, hk⟩ => ⟨v, k', he, ⟨h0, h1 hn⟩, hT, hk, hK.trans hk (by simp)⟩
/-- What is known between two calls: the tape, the result's block g0, the entry's block g1. -/
structure St (w0 w : World) (b : Nat) (L : TapeL) (k g0 g1 : Nat) (c1 : Array Value) : Prop where
 tape : TapeAt w b L k
 keeps : Keeps [b] w0 w
 b0 : Blk w g0 33 zeroE
 b1 : Blk w g1 33 c1
 lt0 : b < g0
 lt1 : g0 < g1
 old : w0.heap.size ≤ g0
theorem St.set {w0 w : World} {b : Nat} {L : TapeL} {k g0 g1 : Nat} {c1 : Array Value} (h : St w0 w b L k g0 g1 c1) (i : Nat) (v : Value) : St w0 (w.setCell ⟨g1, i, none⟩ v) b L k g0 g1 (c1.setIfInBounds i v) := by
 have hk : Keeps [g1] w (w.setCell ⟨g1, i, none⟩ v) := (Keeps.refl _ _).setCell (by simp) v
 have := h.lt0; have := h.lt1; have := h.old
 exact ⟨h.tape.keep hk (by intro g hg; simp at hg; omega), h.keeps.trans hk (by intro g hg; simp at hg; right; omega), hk.blk h.b0 (by simp; omega), h.b1.set_ i v, h.lt0, h.lt1, h.old⟩
theorem St.keep {w0 w w' : World} {b : Nat} {L : TapeL} {k k' g0 g1 : Nat} {c1 : Array Value} (h : St w0 w b L k g0 g1 c1) (hT : TapeAt w' b L k') (hk : Keeps [b] w w') : St w0 w' b L k' g0 g1 c1 := by
 have := h.lt0; have := h.lt1; have := h.old
 exact ⟨hT, h.keeps.trans hk (by simp), hk.blk h.b0 (by simp; omega), hk.blk h.b1 (by simp; omega), h.lt0, h.lt1, h.old⟩
theorem st_next {w0 w : World} {b : Nat} {L : TapeL} {k g0 g1 : Nat} {c1 : Array Value} (h : St w0 w b L k g0 g1 c1) (n : Int) (hn : 1 ≤ n) :
  Calls Tryz.prog 26 #[.pointer (some ⟨b, 0, none⟩), .int .i64 n] w fun e w' => ∃ (v : Int) (k' : Nat), e = .returned (.int .i64 v) ∧ (0 ≤ v ∧ v < n) ∧ Hid (St w0 w' b L k' g0 g1 c1) :=
 (next_any b L k n w h.tape).mono fun _ _ ⟨v, k', he, h0, h1, hT, hk⟩ => ⟨v, k', he, ⟨h0, h1 hn⟩, h.keep hT hk⟩
theorem st_series {w0 w : World} {b : Nat} {L : TapeL} {k g0 g1 : Nat} {c1 : Array Value} (h : St w0 w b L k g0 g1 c1) :
  Calls Tryz.prog 19 #[.pointer (some ⟨b, 0, none⟩)] w fun e w' => ∃ (s : ByteArray) (k' : Nat), e = .returned (.string s) ∧ Hid (NameOk s) ∧ Hid (St w0 w' b L k' g0 g1 c1) :=
 (series_any b L k w h.tape).mono fun _ _ ⟨s, k', he, h0, hT, hk⟩ => ⟨s, k', he, h0, h.keep hT hk⟩
def DelOk (w0 w' : World) (v : Value) (ds : List DeltaD) : Prop := (∀ d ∈ ds, DeltaOk d) ∧ 1 ≤ ds.length ∧ ds.length ≤ 4 ∧ (∀ M, (∀ g ∈ M, g < w0.heap.size) → Ds w' M v ds)
theorem st_deltas {w0 w : World} {b : Nat} {L : TapeL} {k g0 g1 : Nat} {c1 : Array Value} (h : St w0 w b L k g0 g1 c1) :
  Calls Tryz.prog 83 #[.pointer (some ⟨b, 0, none⟩), .int .i64 4] w fun e w' => ∃ (v : Value) (ds : List DeltaD) (k' : Nat), e = .returned v ∧ Hid (DelOk w w' v ds) ∧ Hid (St w0 w' b L k' g0 g1 c1) :=
 (deltas_any b L k 4 w h.tape (by omega) (by omega)).mono fun _ _ ⟨v, ds, k', he, h1, h2, h3, h4, hT, hk⟩ => ⟨v, ds, k', he, ⟨h1, h2, by omega, fun M hM => Rd.of_own h4 hM⟩, h.keep hT hk⟩
set_option maxRecDepth 100000 in
set_option maxHeartbeats 1000000 in
theorem entry_any (b : Nat) (L : TapeL) (k : Nat) (w : World) (h : TapeAt w b L k) :
  Calls Tryz.prog 42 #[.pointer (some ⟨b, 0, none⟩)] w fun e w' => EntryPost b L w e w' := by
 have hbw := h.lt
 have H := Lib.hid h
 clear h
 go_enter Tryz.func42, Tryz.ntmps42
 go_wp2_with fail
 have hT0 : TapeAt (w.alloc (.cells zeroE 33)) b L k := H.out.keep (M' := []) ((Keeps.refl _ _).alloc _) (by simp)
 have hB0 : Blk (w.alloc (.cells zeroE 33)) w.heap.size 33 zeroE := Blk.new w _ _
 have hK0 : Keeps [b] w (w.alloc (.cells zeroE 33)) := (Keeps.refl _ _).alloc _
 have hsz : w.heap.size < (w.alloc (.cells zeroE 33)).heap.size := by simp
 refine (step_next b L k 8 w _ hT0 hK0 (by omega)).mono ?_
 rintro e w1 ⟨fr, k1, rfl, ⟨hf0, hf1⟩, HT1, HK1, HKw1⟩
 have hB1 := HK1.out.blk hB0 (by simp; omega)
 have hs1 := HK1.out.size
 clear hT0 hB0 hK0
 obtain ⟨g0, hg0⟩ : ∃ g, g = w.heap.size := ⟨_, rfl⟩
 rw [← hg0] at hB1 ⊢
 have hbg0 : b < g0 := by omega
 have hg1 : g0 < w1.heap.size := by omega
 have HB1 := Lib.hid hB1; have Hg0 := Lib.hid hg0
 clear hB1 hg0 hsz hs1
 go_wp2_with fail
 refine (step_next b L k1 40 w w1 HT1.out HKw1.out (by omega)).mono ?_
 rintro e w2 ⟨tag, k2, rfl, ⟨ht0, ht1⟩, HT2, HK2, HKw2⟩
 have HB2 := Lib.hid (HK2.out.blk HB1.out (by simp; omega))
 have hg2 : g0 < w2.heap.size := Nat.lt_of_lt_of_le hg1 HK2.out.size
 go_wp2_with fail
 have hst : St w (w2.alloc (.cells #[.int .i64 1, .int .i64 0, .int .i64 0, .int .i64 0, .int .i64 0, .slice none 0 0, .string ⟨#[]⟩, .int .i64 fr, .int .i64 tag] 33)) b L k2 g0 w2.heap.size #[.int .i64 1, .int .i64 0, .int .i64 0, .int .i64 0, .int .i64 0, .slice none 0 0, .string ⟨#[]⟩, .int .i64 fr, .int .i64 tag] :=
  ⟨HT2.out.keep (M' := []) ((Keeps.refl _ _).alloc _) (by simp), HKw2.out.alloc _, (HB2.out.below (below_new' w2 _) hg2), Blk.new w2 _ _, hbg0, hg2, by have := Hg0.out; omega⟩
 have Hst := Lib.hid hst
 clear hst
 generalize (w2.alloc (.cells #[.int .i64 1, .int .i64 0, .int .i64 0, .int .i64 0, .int .i64 0, .slice none 0 0, .string ⟨#[]⟩, .int .i64 fr, .int .i64 tag] 33)) = w3 at *
 generalize w2.heap.size = g1 at *
 clear HT2 HK2 HKw2 HB2 HT1 HK1 HKw1 HB1 hg1
 go_wp2_with fail
 refine (st_next Hst.out 5 (by omega)).mono ?_
 rintro e w4 ⟨v, k4, rfl, ⟨hv0, hv1⟩, H4⟩
 clear Hst
 by_cases c0 : v = 0
 ·subst c0
  go_wp2_with fail
  refine (st_series H4.out).mono ?_
  rintro e w5 ⟨sr, k5, rfl, Hok, H5⟩
  obtain ⟨q0, q1, q2, q3, q4, q5, q6, q7, q8, qf⟩ := blk_cells H5.out.b1
  obtain ⟨r0, r1, r2, r3, r4, r5, r6, r7, r8, rf⟩ := blk_cells H5.out.b0
  have H6 := Lib.hid ((H5.out.set 0 (.int .i64 2)).set 6 (.string sr))
  have hl0 := H5.out.lt0; have hl1 := H5.out.lt1; have hl2 := H5.out.old
  clear H4 H5
  go_wp2
  refine bodyPost_ret (v := .agg #[.int .i64 2, .int .i64 0, .int .i64 0, .int .i64 0, .int .i64 0, .slice none 0 0, .string sr, .int .i64 fr, .int .i64 tag]) (by simp [results, Tryz.results42, go_sem, r0, r1, r2, r3, r4, r5, r6, r7, r8]) rfl ?_
  refine ⟨⟨2, 0, 0, 0, 0, [], sr, fr, tag⟩, .slice none 0 0, k5, rfl, ⟨hf0, hf1, ht0, ht1, .inl ⟨rfl, Hok.out, rfl, rfl, rfl, rfl, rfl⟩⟩, fun M _ => Ds.nil _ _, ?_, ?_⟩
  ·refine H6.out.tape.keep (M' := [g0]) ?_ (by intro g hg; simp at hg; omega)
   repeat (first | (with_reducible exact Keeps.refl _ _) | (with_reducible refine Keeps.setCell ?_ (by simp) _))
  ·repeat (first | (with_reducible exact H6.out.keeps) | (with_reducible refine Keeps.setCell ?_ (by right; simp; omega) _))
 ·have d0 : (v == 0) = false := by simpa using c0
  clear c0
  go_wp2_with fail
  refine (st_next H4.out 3 (by omega)).mono ?_
  rintro e w5 ⟨ag, k5, rfl, ⟨ha0, ha1⟩, H5⟩
  clear H4
  go_wp2_with fail
  refine (st_next H5.out 2 (by omega)).mono ?_
  rintro e w6 ⟨sh, k6, rfl, ⟨hs0, hs1⟩, H6⟩
  clear H5
  go_wp2_with fail
  refine (st_next H6.out 12 (by omega)).mono ?_
  rintro e w7 ⟨sq, k7, rfl, ⟨hq0, hq1⟩, H7⟩
  clear H6
  obtain ⟨q0, q1, q2, q3, q4, q5, q6, q7, q8, qf⟩ := blk_cells H7.out.b1
  have hst := ((H7.out.set 1 (.int .i64 ag)).set 2 (.int .i64 sh)).set 3 (.int .i64 (1 + sq))
  have H8 := Lib.hid hst
  clear hst H7
  go_wp2_with fail
  refine (st_next H8.out 9 (by omega)).mono ?_
  rintro e w9 ⟨v9, k9, rfl, ⟨hn0, hn1⟩, H9⟩
  clear H8 q0 q1 q2 q3 q4 q5 q6 q7 q8 qf
  by_cases c9 : v9 = 0
  ·subst c9
   go_wp2_with fail
   refine (st_next H9.out 90 (by omega)).mono ?_
   rintro e wa ⟨sq2, ka, rfl, ⟨hz0, hz1⟩, Ha⟩
   clear H9 hq0 hq1
   have hsq : 1 ≤ 1 + sq2 ∧ 1 + sq2 ≤ 90 := by omega
   obtain ⟨q0, q1, q2, q3, q4, q5, q6, q7, q8, qf⟩ := blk_cells Ha.out.b1
   have hst := Ha.out.set 3 (.int .i64 (1 + sq2))
   have Hb := Lib.hid hst
   clear hst Ha
   go_wp2_with fail
   refine (st_next Hb.out 4 (by omega)).mono ?_
   rintro e wb ⟨ep, kb, rfl, ⟨he0, he1⟩, Hc⟩
   clear Hb
   try clear q0 q1 q2 q3 q4 q5 q6 q7 q8 qf
   obtain ⟨q0, q1, q2, q3, q4, q5, q6, q7, q8, qf⟩ := blk_cells Hc.out.b1
   have Hd := Lib.hid (Hc.out.set 4 (.int .i64 (1 + ep)))
   clear Hc
   go_wp2_with fail
   refine (st_deltas Hd.out).mono ?_
   rintro e wd ⟨dv, ds, kd, rfl, Hdel, He⟩
   clear q0 q1 q2 q3 q4 q5 q6 q7 q8 qf
   obtain ⟨Av, cv, hve, _⟩ := (Hdel.out.2.2.2 [] (by simp)).len
   subst hve
   have hdold : w.heap.size ≤ (wb.setCell ⟨g1, 4, none⟩ (.int .i64 (1 + ep))).heap.size := Hd.out.keeps.size
   have hgs : g1 < (wb.setCell ⟨g1, 4, none⟩ (.int .i64 (1 + ep))).heap.size := Hd.out.b1.lt
   have Hdold := Lib.hid hdold
   have Hgs := Lib.hid hgs
   clear hdold hgs
   obtain ⟨q0, q1, q2, q3, q4, q5, q6, q7, q8, qf⟩ := blk_cells He.out.b1
   obtain ⟨r0, r1, r2, r3, r4, r5, r6, r7, r8, rf⟩ := blk_cells He.out.b0
   have hl2 := He.out.old
   have Hf := Lib.hid (He.out.set 5 (.slice Av ds.length cv))
   clear He Hd
   go_wp2
   refine bodyPost_ret (v := .agg #[.int .i64 1, .int .i64 ag, .int .i64 sh, .int .i64 (1 + sq2), .int .i64 (1 + ep), .slice Av ds.length cv, .string ⟨#[]⟩, .int .i64 fr, .int .i64 tag]) (by simp [results, Tryz.results42, go_sem, r0, r1, r2, r3, r4, r5, r6, r7, r8]) rfl ?_
   refine ⟨⟨1, ag, sh, 1 + sq2, 1 + ep, ds, ⟨#[]⟩, fr, tag⟩, .slice Av ds.length cv, kd, rfl, ⟨hf0, hf1, ht0, ht1, .inr ⟨rfl, rfl, ha0, ha1, hs0, hs1, hsq.1, hsq.2, by simp only []; omega, by simp only []; omega, Hdel.out.2.1, Hdel.out.2.2.1, Hdel.out.1⟩⟩, ?_, ?_, ?_⟩
   ·intro M hM
    have h0 := Hdel.out.2.2.2 (g0 :: g1 :: M) (by intro g hg; simp at hg; have := Hgs.out; have := Hdold.out; rcases hg with rfl | rfl | hg; omega; omega; have := hM g hg; omega)
    refine ((h0.keep (M' := [g0, g1]) ?_ (by intro g hg; simp at hg; rcases hg with rfl | rfl <;> simp)).avoid (fun g hg => .inl (List.mem_cons_of_mem _ (List.mem_cons_of_mem _ hg))))
    repeat (first | (with_reducible exact Keeps.refl _ _) | (with_reducible refine Keeps.setCell ?_ (by simp) _))
   ·refine Hf.out.tape.keep (M' := [g0]) ?_ (by intro g hg; simp at hg; omega)
    repeat (first | (with_reducible exact Keeps.refl _ _) | (with_reducible refine Keeps.setCell ?_ (by simp) _))
   ·repeat (first | (with_reducible exact Hf.out.keeps) | (with_reducible refine Keeps.setCell ?_ (by right; simp; omega) _))
  ·have d9 : (v9 == 0) = false := by simpa using c9
   clear c9
   have hsq : 1 ≤ 1 + sq ∧ 1 + sq ≤ 90 := by omega
   have Hb := H9
   clear H9
   go_wp2_with fail
   refine (st_next Hb.out 4 (by omega)).mono ?_
   rintro e wb ⟨ep, kb, rfl, ⟨he0, he1⟩, Hc⟩
   clear Hb
   try clear q0 q1 q2 q3 q4 q5 q6 q7 q8 qf
   obtain ⟨q0, q1, q2, q3, q4, q5, q6, q7, q8, qf⟩ := blk_cells Hc.out.b1
   have Hd := Lib.hid (Hc.out.set 4 (.int .i64 (1 + ep)))
   clear Hc
   go_wp2_with fail
   refine (st_deltas Hd.out).mono ?_
   rintro e wd ⟨dv, ds, kd, rfl, Hdel, He⟩
   clear q0 q1 q2 q3 q4 q5 q6 q7 q8 qf
   obtain ⟨Av, cv, hve, _⟩ := (Hdel.out.2.2.2 [] (by simp)).len
   subst hve
   have hdold : w.heap.size ≤ (wb.setCell ⟨g1, 4, none⟩ (.int .i64 (1 + ep))).heap.size := Hd.out.keeps.size
   have hgs : g1 < (wb.setCell ⟨g1, 4, none⟩ (.int .i64 (1 + ep))).heap.size := Hd.out.b1.lt
   have Hdold := Lib.hid hdold
   have Hgs := Lib.hid hgs
   clear hdold hgs
   obtain ⟨q0, q1, q2, q3, q4, q5, q6, q7, q8, qf⟩ := blk_cells He.out.b1
   obtain ⟨r0, r1, r2, r3, r4, r5, r6, r7, r8, rf⟩ := blk_cells He.out.b0
   have hl2 := He.out.old
   have Hf := Lib.hid (He.out.set 5 (.slice Av ds.length cv))
   clear He Hd
   go_wp2
   refine bodyPost_ret (v := .agg #[.int .i64 1, .int .i64 ag, .int .i64 sh, .int .i64 (1 + sq), .int .i64 (1 + ep), .slice Av ds.length cv, .string ⟨#[]⟩, .int .i64 fr, .int .i64 tag]) (by simp [results, Tryz.results42, go_sem, r0, r1, r2, r3, r4, r5, r6, r7, r8]) rfl ?_
   refine ⟨⟨1, ag, sh, 1 + sq, 1 + ep, ds, ⟨#[]⟩, fr, tag⟩, .slice Av ds.length cv, kd, rfl, ⟨hf0, hf1, ht0, ht1, .inr ⟨rfl, rfl, ha0, ha1, hs0, hs1, hsq.1, hsq.2, by simp only []; omega, by simp only []; omega, Hdel.out.2.1, Hdel.out.2.2.1, Hdel.out.1⟩⟩, ?_, ?_, ?_⟩
   ·intro M hM
    have h0 := Hdel.out.2.2.2 (g0 :: g1 :: M) (by intro g hg; simp at hg; have := Hgs.out; have := Hdold.out; rcases hg with rfl | rfl | hg; omega; omega; have := hM g hg; omega)
    refine ((h0.keep (M' := [g0, g1]) ?_ (by intro g hg; simp at hg; rcases hg with rfl | rfl <;> simp)).avoid (fun g hg => .inl (List.mem_cons_of_mem _ (List.mem_cons_of_mem _ hg))))
    repeat (first | (with_reducible exact Keeps.refl _ _) | (with_reducible refine Keeps.setCell ?_ (by simp) _))
   ·refine Hf.out.tape.keep (M' := [g0]) ?_ (by intro g hg; simp at hg; omega)
    repeat (first | (with_reducible exact Keeps.refl _ _) | (with_reducible refine Keeps.setCell ?_ (by simp) _))
   ·repeat (first | (with_reducible exact Hf.out.keeps) | (with_reducible refine Keeps.setCell ?_ (by right; simp; omega) _))

end Go.Proofs.YtgdooockldgdlaaGreatDoor.Tape
end
section
namespace Go.Proofs.YtgdooockldgdlaaGreatDoor.Vi
open Go.RowKit Base Mem Tape
theorem toList_inj {a b : ByteArray} (h : a.toList = b.toList) : a = b := by
 rw [Lib.toList_data, Lib.toList_data] at h
 obtain ⟨⟨a⟩⟩ := a
 obtain ⟨⟨b⟩⟩ := b
 simp only [] at h
 rw [h]
set_option maxRecDepth 100000 in
theorem names_ok : (nameL.all fun l => serOk ⟨l.toArray⟩) = true := by decide +kernel
theorem names_len : (nameL.all fun l => decide (l.length ≤ 100)) = true := by decide
theorem name_ser {s : ByteArray} (h : NameOk s) : serOk s = true ∧ s.size ≤ 100 := by
 obtain ⟨l, hl, rfl⟩ := h
 refine ⟨List.all_eq_true.1 names_ok l hl, ?_⟩
 have := List.all_eq_true.1 names_len l hl
 show l.toArray.size ≤ 100
 simpa using this
theorem entry_right {e : EntryD} (h : EntryOk e) : rightE e = 0 ∧ Short e ∧ Wf e := by
 obtain ⟨h1, h2, h3, h4, h5⟩ := h
 have hw : withinB e.fr 8 = true := by simp [withinB]; omega
 have ht : decide (e.tag < 0) = false := decide_eq_false (by omega)
 rcases h5 with ⟨hk, hn, ha, hs, hq, hp, hd⟩ | ⟨hk, hse, a0, a1, s0, s1, q0, q1, p0, p1, d0, d1, hd⟩
 ·obtain ⟨hser, hsz⟩ := (name_ser hn)
  refine ⟨?_, ⟨by omega, by simp [hd], by simp [hd]⟩, by omega, by omega, by omega, by simp [hd]⟩
  unfold rightE kindS
  rw [hw, ht, hk, ha, hs, hq, hp, hd, hser]
  rfl
 ·refine ⟨?_, ⟨by rw [hse]; decide, fun d hx => by have := (name_ser (hd d hx).1).2; omega, by omega⟩, by omega, by omega, by omega, fun d hx => ⟨by have := (hd d hx).2; omega, by have := (hd d hx).2; omega⟩⟩
  have hb : badId e = false := by
   unfold badId withinB
   simp; omega
  have h0 : (e.ds.length == 0 || e.ds.any fun d => d.n == 0) = false := by
   rw [Bool.or_eq_false_iff]
   refine ⟨by simp; intro h; rw [h] at d0; simp at d0, ?_⟩
   rw [List.any_eq_false]
   intro d hx
   have := (hd d hx).2
   simp; omega
  have hall : (e.ds.all fun d => serOk d.ser) = true := by
   rw [List.all_eq_true]
   exact fun d hx => (name_ser (hd d hx).1).1
  have hse2 : e.ser.toList.isEmpty = true := by rw [hse]; decide +kernel
  unfold rightE kindS writtenS
  rw [hw, ht, hb, h0, hall, hk, hse2, if_neg (by simp), if_neg (by simp), if_pos rfl, if_neg (by simp), if_neg (by omega), if_neg (by simp), if_pos rfl]
/-- A shard: its floor, its mask, its refused batches. -/
structure ShD where
 f : Int
 m : Nat
 bad : List Int
structure McD where
 DS : DataW Unit
 DE : DataW Unit
 sh : Lit → Option ShD
def McD.get (st : McD) (kl : Lit) : ShD := (st.sh kl).getD ⟨0, 0, []⟩
open Classical in
noncomputable def McD.set (st : McD) (kl : Lit) (s : ShD) : McD := { st with sh := fun k => if k = kl then some s else st.sh k }
theorem McD.get_set (st : McD) (kl : Lit) (s : ShD) : (st.set kl s).get kl = s := by simp [McD.get, McD.set]
theorem McD.get_other (st : McD) {kl k : Lit} (s : ShD) (h : k ≠ kl) : (st.set kl s).get k = st.get k := by simp [McD.get, McD.set, h]
theorem McD.sh_set (st : McD) (kl : Lit) (s : ShD) : (st.set kl s).sh kl = some s := by simp [McD.set]
theorem McD.sh_other (st : McD) {kl k : Lit} (s : ShD) (h : k ≠ kl) : (st.set kl s).sh k = st.sh k := by simp [McD.set, h]
def ShD.seen (s : ShD) (n : Int) : Bool := Win.seenW s.f s.m n
def ShD.add (s : ShD) (n : Int) : ShD := { s with f := (Win.addW s.f s.m n).1, m := (Win.addW s.f s.m n).2 }
/-- A number put among others, in order. -/
def insI (l : List Int) (n : Int) : List Int := (l ++ [n]).mergeSort (fun a b => decide (a ≤ b))
/-- A batch is counted, or refused for good. -/
noncomputable def countM (st : McD) (kl : Lit) (e : EntryD) : Int × McD :=
 if mayS st.DS e.ds = 0 then (1, ({ st with DS := addL st.DS e.ds } : McD).set kl ((st.get kl).add e.seq))
 else if 8 ≤ (st.get kl).bad.length then (5, st)
 else (3, st.set kl ({ (st.get kl) with bad := insI (st.get kl).bad e.seq }.add e.seq))
def ekey (a : Int) : Lit := .int .i64 a
def stE (st : McD) (e : EntryD) : McD := { st with DE := st.DE.put (ekey e.ag) (.lit (.int .i64 e.ep)) }
/-- An entry's answer: code, number, and what the machine is then. -/
noncomputable def applyM (st : McD) (kl : Lit) (e : EntryD) : Int × Int × McD :=
 if rightE e = 0 then
  if e.kind = 2 then (8, numAt .u64 st.DS (skey e.ser), st)
  else if (st.get kl).seen e.seq = true then (if e.seq ∈ (st.get kl).bad then 3 else 2, 0, st)
  else if e.ep < numAt .i64 st.DE (ekey e.ag) then (4, 0, st)
  else if Win.farW (st.get kl).f e.seq = true then (5, 0, stE st e)
  else ((countM (stE st e) kl e).1, 0, (countM (stE st e) kl e).2)
 else (0, 0, st)
/-- A window lies in block g: its floor, its mask. -/
def WnAt (w : World) (g : Nat) (f : Int) (m : Nat) : Prop := Blk w g 171 #[.int .i64 f, .int .u64 m] ∧ 0 ≤ f ∧ f ≤ 4611686018427387904 ∧ m < 18446744073709551616
theorem WnAt.keep {w w' : World} {M : List Nat} {g : Nat} {f : Int} {m : Nat} (h : WnAt w g f m) (hk : Keeps M w w') (hg : g ∉ M) : WnAt w' g f m := ⟨hk.blk h.1 hg, h.2⟩
theorem wnnew_any (w : World) :
  Calls Tryz.prog 88 #[] w fun e w' => e = .returned (.pointer (some ⟨w.heap.size, 0, none⟩)) ∧ WnAt w' w.heap.size 0 0 ∧ Below w.heap.size w w' := by
 have hR : Hid (WnAt (w.alloc (.cells #[.int .i64 0, .int .u64 0] 171)) w.heap.size 0 0) := ⟨Blk.new w _ _, by omega, by omega, by omega⟩
 go_enter Tryz.func88, Tryz.ntmps88
 go_wp2
 go_ret
 exact ⟨rfl, hR.out, below_new' w _⟩
theorem wnat_any (g : Nat) (f : Int) (m : Nat) (n : Int) (w : World) (h : WnAt w g f m) (hn : n ≤ 9223372036854775807) (hf : f < n) :
  Calls Tryz.prog 89 #[.pointer (some ⟨g, 0, none⟩), .int .i64 n] w fun e w' => e = .returned (.int .u64 (n - f - 1)) ∧ w = w' := by
 obtain ⟨hb, h0, h1, h2⟩ := h
 have c0 := hb.cell 0; have c1 := hb.cell 1
 simp only [List.getElem?_toArray, List.getElem?_cons_succ, List.getElem?_cons_zero] at c0 c1
 clear hb
 have e1 : IntKind.u64.wrap n = n := by rw [IntKind.wrap_u64]; omega
 have e2 : IntKind.u64.wrap f = f := by rw [IntKind.wrap_u64]; omega
 have e3 : IntKind.u64.wrap (n - f) = n - f := by rw [IntKind.wrap_u64]; omega
 have e4 : IntKind.u64.wrap (n - f - 1) = n - f - 1 := by rw [IntKind.wrap_u64]; omega
 go_enter Tryz.func89, Tryz.ntmps89
 go_wp2
 go_ret
 exact ⟨rfl, rfl⟩
theorem wnfar_any (g : Nat) (f : Int) (m : Nat) (n : Int) (w : World) (h : WnAt w g f m) (hn : n ≤ 9223372036854775807) :
  Calls Tryz.prog 48 #[.pointer (some ⟨g, 0, none⟩), .int .i64 n] w fun e w' => e = .returned (.bool (Win.farW f n)) ∧ w = w' := by
 have hat := Lib.hid (fun hf => wnat_any g f m n w h hn hf)
 obtain ⟨hb, h0, h1, h2⟩ := h
 have c0 := hb.cell 0; have c1 := hb.cell 1
 simp only [List.getElem?_toArray, List.getElem?_cons_succ, List.getElem?_cons_zero] at c0 c1
 clear hb
 by_cases hf : f < n
 ·have hp : Hid (∀ b, b = Win.farW f n → Ending.returned (.bool b) = .returned (.bool (Win.farW f n))) := fun b h => by rw [h]
  have hfi : decide (f < n) = true := decide_eq_true hf
  have hq : Hid (decide (64 ≤ n - f - 1) = Win.farW f n) := by show _ = _; unfold Win.farW; rw [decide_eq_true hf, Bool.true_and]
  have Hat := Lib.hid (hat.out hf)
  clear hat
  generalize Win.farW f n = r at *
  go_enter Tryz.func48, Tryz.ntmps48
  go_wp2_with fail
  refine Hat.out.mono ?_
  rintro e w1 ⟨rfl, rfl⟩
  have hq' := hq.out
  go_wp2
  go_ret
  exact ⟨rfl, rfl⟩
 ·have hfi : decide (f < n) = false := decide_eq_false hf
  have hq : Hid (Win.farW f n = false) := by show _ = _; unfold Win.farW; rw [decide_eq_false hf, Bool.false_and]
  rw [hq.out]
  clear hat
  go_enter Tryz.func48, Tryz.ntmps48
  go_wp2
  go_ret
  exact ⟨rfl, rfl⟩
end Go.Proofs.YtgdooockldgdlaaGreatDoor.Vi
end
