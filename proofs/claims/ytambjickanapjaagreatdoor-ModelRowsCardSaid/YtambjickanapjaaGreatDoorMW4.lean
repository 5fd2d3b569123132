/- Texts put together: Shelf, Lab5, Lab6, Ent1, Ent2, Tk, Ent3, Ent4, Ent5, Ent6, CtC, McLay, McM, EntB, PlN, Ent7, Ent8, PlE, PlE2. -/
import Derived.Shelf.Strings.Builder1
import Derived.Shelf.Strings.Builder2
import Derived.Shelf.Strings.OnBuilder
import Derived.Shelf.Small.Bits
import Derived.Shelf.Strconv.Itoa0
import Derived.Shelf.Strings.Search1
import Derived.Shelf.Strings.Search2
import Derived.Shelf.Strings.Search3
import Derived.Shelf.Strings.Cut
import Derived.Shelf.Strings.Count
import Derived.Shelf.LaysM
import Derived.Shelf.Strings.Shaped
import Derived.Shelf.Strings.Split
import Derived.Shelf.Strings.SplitShaped
import Derived.Shelf.Unicode.Decode
import Derived.Shelf.Strings.RuneCount
import Derived.Shelf.Strings.Explode
import Derived.Shelf.Unicode.DecodeSlow
import Derived.Ground.SlgmProg
import Derived.Shelf.SortM.Plain
import Derived.Test.YtambjickanapjaaGreatDoorProg
import Derived.Laws.StructEq
import Derived.Shelf.SlicesQ.IndexFunc
import Derived.Deep.DeepCutAuto
import Derived.Deep.RegionHeld3
import Derived.Shelf.SlGeneric
import Derived.Shelf.SlLaysF0
import Derived.Shelf.SlLaysM
import Derived.Ground.SlsfProg
import Derived.Shelf.SlSortCmp.SmallK
import Derived.Shelf.SlSortCmp.NoneTotal
import Derived.Sort.Walk0
import Derived.Lib.Strings
import Derived.Test.YtambjickanapjaaGreatDoorMW1
import Derived.Test.YtambjickanapjaaGreatDoorMW2
import Derived.Test.YtambjickanapjaaGreatDoorMW3
set_option linter.unusedVariables false
set_option linter.unusedSimpArgs false
set_option maxRecDepth 100000
set_option maxHeartbeats 8000000
section
namespace Go.Proofs
open Go.Shelf
def Tryz.lays156_ren:Go.Shelf.Ren:=⟨fun | 156=>257 | 165=>299 | 166=>300 | 169=>301 | 240=>327 | 241=>328 | 276=>338 | 277=>339 | n=>n,fun | 31=>43 | 9=>9 | 3=>3 | 4=>4 | 0=>0 | 20=>20 | 72=>356 | 76=>360 | 70=>354 | 37=>50 | 75=>359 | 127=>378 | 164=>386 | 5=>5 | 80=>83 | n=>n,fun | n=>n⟩
theorem Tryz.lays156:Go.Proofs.Lays.n156 Tryz.prog Tryz.lays156_ren:={
 mixed:=by kernel_rfl
 f156:=Tryz.func257.trans (congrArg some (by kernel_rfl))
 f165:=Tryz.func299.trans (congrArg some (by kernel_rfl))
 f166:=Tryz.func300.trans (congrArg some (by kernel_rfl))
 f169:=Tryz.func301.trans (congrArg some (by kernel_rfl))
 f240:=Tryz.func327.trans (congrArg some (by kernel_rfl))
 f241:=Tryz.func328.trans (congrArg some (by kernel_rfl))
 f276:=Tryz.func338.trans (congrArg some (by kernel_rfl))
 f277:=Tryz.func339.trans (congrArg some (by kernel_rfl))
 t0:=Tryz.underlying0
 a0:=Tryz.isAgg0
 z0:=Tryz.sizeOf0
 v0:=Tryz.zeroValue0
 t3:=Tryz.underlying3
 a3:=Tryz.isAgg3
 z3:=Tryz.sizeOf3
 v3:=Tryz.zeroValue3
 t4:=Tryz.underlying4
 a4:=Tryz.isAgg4
 z4:=Tryz.sizeOf4
 v4:=Tryz.zeroValue4
 t9:=Tryz.underlying9
 a9:=Tryz.isAgg9
 z9:=Tryz.sizeOf9
 v9:=Tryz.zeroValue9
 t20:=Tryz.underlying20
 a20:=Tryz.isAgg20
 z20:=Tryz.sizeOf20
 v20:=Tryz.zeroValue20
 t31:=Tryz.underlying43
 a31:=Tryz.isAgg43
 z31:=Tryz.sizeOf43
 v31:=Tryz.zeroValue43
 t37:=Tryz.underlying50
 a37:=Tryz.isAgg50
 z37:=Tryz.sizeOf50
 v37:=Tryz.zeroValue50
 t70:=Tryz.underlying354
 a70:=Tryz.isAgg354
 z70:=Tryz.sizeOf354
 v70:=Tryz.zeroValue354
 t72:=Tryz.underlying356
 a72:=Tryz.isAgg356
 z72:=Tryz.sizeOf356
 v72:=Tryz.zeroValue356
 t75:=Tryz.underlying359
 a75:=Tryz.isAgg359
 z75:=Tryz.sizeOf359
 v75:=Tryz.zeroValue359
 t76:=Tryz.underlying360
 a76:=Tryz.isAgg360
 z76:=Tryz.sizeOf360
 v76:=Tryz.zeroValue360
 t127:=Tryz.underlying378
 a127:=Tryz.isAgg378
 z127:=Tryz.sizeOf378
 v127:=Tryz.zeroValue378
 t164:=Tryz.underlying386
 a164:=Tryz.isAgg386
 z164:=Tryz.sizeOf386
 v164:=Tryz.zeroValue386 }
theorem Tryz.Builder_Extra_156:Builder.Extra Tryz.prog Tryz.lays156_ren:={
 sizeBuilder:=by kernel_rfl
 liesBuilder:=by kernel_rfl
 t5:=Tryz.underlying5
 a5:=Tryz.isAgg5
 z5:=Tryz.sizeOf5
 v5:=Tryz.zeroValue5
 infoByte:=by kernel_rfl
 cellsByte:=by kernel_rfl
 sizeByte:=by kernel_rfl
 neB5:=by decide }
open Go.RowKit in
/-- strings.Join: "Join concatenates the elements of its first argument to create a single string. The separator string sep is placed between elements in the resulting string.": HOWEVER MANY ELEMENTS. Below the heap's end the world is as it was. (LAID: no walk: one application.) -/
theorem Tryz.strings_Join (bk o c:Nat) (xs:List ByteArray) (sep:ByteArray) (w:World) (hcells:∀ (j:Nat) x,xs[j]? = some x→w.cell? ⟨bk,o + j,none⟩=some (.string x)) (hbk:bk < w.heap.size) (hN:xs.length≤140737488355328) (hcap:xs.length≤c) (hlen:(Lib.join (xs.map (·.data.toList)) sep.data.toList).length≤140737488355328) :
  Calls Tryz.prog 257 #[.slice (some ⟨bk,o,none⟩) xs.length c,.string sep] w fun e w'=>e=.returned (.string ⟨(Lib.join (xs.map (·.data.toList)) sep.data.toList).toArray⟩)∧Below w.heap.size w w':=Any.strings_Join Tryz.lays156 Tryz.Builder_Extra_156 bk o c xs sep w hcells hbk hN hcap hlen
def Tryz.lays125_ren:Go.Shelf.Ren:=⟨fun | 125=>130 | 128=>203 | 129=>204 | n=>n,fun | 46=>88 | 3=>3 | 51=>85 | 53=>45 | 4=>4 | 5=>5 | 9=>9 | n=>n,fun | n=>n⟩
theorem Tryz.lays125:Go.Proofs.Lays.n125 Tryz.prog Tryz.lays125_ren:={
 mixed:=by kernel_rfl
 f125:=Tryz.func130.trans (congrArg some (by kernel_rfl))
 f128:=Tryz.func203.trans (congrArg some (by kernel_rfl))
 f129:=Tryz.func204.trans (congrArg some (by kernel_rfl))
 t3:=Tryz.underlying3
 a3:=Tryz.isAgg3
 z3:=Tryz.sizeOf3
 v3:=Tryz.zeroValue3
 t4:=Tryz.underlying4
 a4:=Tryz.isAgg4
 z4:=Tryz.sizeOf4
 v4:=Tryz.zeroValue4
 t5:=Tryz.underlying5
 a5:=Tryz.isAgg5
 z5:=Tryz.sizeOf5
 v5:=Tryz.zeroValue5
 t9:=Tryz.underlying9
 a9:=Tryz.isAgg9
 z9:=Tryz.sizeOf9
 v9:=Tryz.zeroValue9
 t46:=Tryz.underlying88
 a46:=Tryz.isAgg88
 z46:=Tryz.sizeOf88
 v46:=Tryz.zeroValue88
 t51:=Tryz.underlying85
 a51:=Tryz.isAgg85
 z51:=Tryz.sizeOf85
 v51:=Tryz.zeroValue85
 t53:=Tryz.underlying45
 a53:=Tryz.isAgg45
 z53:=Tryz.sizeOf45
 v53:=Tryz.zeroValue45 }
/-- bits.Len: "Len returns the minimum number of bits required to represent x; the result is 0 for x == 0.": IT RETURNS 'Lib.bitLen x'; the world is as it was. (A uint has 64 bits in the model.) ITS CALLEE bits.Len64 IS MET BY ITS OWN CONTRACT OFF THE SHELF (lay that first). (LAID: no walk: one application.) -/
theorem Tryz.bits_Len (x:Int) (w:World) (h0:0≤x) (h1:x≤18446744073709551615) :
  Calls Tryz.prog 130 #[.int .u64 x] w fun e w'=>e=.returned (.int .i64 (Lib.bitLen x.toNat))∧w'=w:=Any.bits_Len Tryz.lays125 x w h0 h1
def Tryz.lays145_ren:Go.Shelf.Ren:=⟨fun | 145=>190 | 220=>254 | 219=>294 | 217=>322 | 225=>323 | 224=>324 | 267=>325 | 266=>334 | 314=>335 | n=>n,fun | 9=>9 | 4=>4 | 59=>279 | 3=>3 | 5=>5 | 46=>88 | 146=>382 | 51=>85 | n=>n,fun | 1=>0 | n=>n⟩
theorem Tryz.lays145:Go.Proofs.Lays.n145 Tryz.prog Tryz.lays145_ren:={
 mixed:=by kernel_rfl
 f145:=Tryz.func190.trans (congrArg some (by kernel_rfl))
 f217:=Tryz.func322.trans (congrArg some (by kernel_rfl))
 f219:=Tryz.func294.trans (congrArg some (by kernel_rfl))
 f220:=Tryz.func254.trans (congrArg some (by kernel_rfl))
 f224:=Tryz.func324.trans (congrArg some (by kernel_rfl))
 f225:=Tryz.func323.trans (congrArg some (by kernel_rfl))
 f266:=Tryz.func334.trans (congrArg some (by kernel_rfl))
 f267:=Tryz.func325.trans (congrArg some (by kernel_rfl))
 f314:=Tryz.func335.trans (congrArg some (by kernel_rfl))
 t3:=Tryz.underlying3
 a3:=Tryz.isAgg3
 z3:=Tryz.sizeOf3
 v3:=Tryz.zeroValue3
 t4:=Tryz.underlying4
 a4:=Tryz.isAgg4
 z4:=Tryz.sizeOf4
 v4:=Tryz.zeroValue4
 t5:=Tryz.underlying5
 a5:=Tryz.isAgg5
 z5:=Tryz.sizeOf5
 v5:=Tryz.zeroValue5
 t9:=Tryz.underlying9
 a9:=Tryz.isAgg9
 z9:=Tryz.sizeOf9
 v9:=Tryz.zeroValue9
 t46:=Tryz.underlying88
 a46:=Tryz.isAgg88
 z46:=Tryz.sizeOf88
 v46:=Tryz.zeroValue88
 t51:=Tryz.underlying85
 a51:=Tryz.isAgg85
 z51:=Tryz.sizeOf85
 v51:=Tryz.zeroValue85
 t59:=Tryz.underlying279
 a59:=Tryz.isAgg279
 z59:=Tryz.sizeOf279
 v59:=Tryz.zeroValue279
 t146:=Tryz.underlying382
 a146:=Tryz.isAgg382
 z146:=Tryz.sizeOf382
 v146:=Tryz.zeroValue382
 g1:=by kernel_rfl }
open Go.RowKit Go.Lib in
/-- strings.Cut: "Cut slices s around the first instance of sep, returning the text before and after sep. The found result reports whether sep appears in s. If sep does not appear in s, cut returns s, "", false.": IT RETURNS 'Lib.cut s sep'; the world is as it was but for the count of draws. (LAID: no walk: one application.) -/
theorem Tryz.strings_Cut (s sep:ByteArray) (m:Int) (w:World) (hs:s.size < 4294967281) (hm:w.cell? ⟨0,0,none⟩=some (.int .i64 m)) :
  Calls Tryz.prog 190 #[.string s,.string sep] w fun e w'=>e=.returned (.tuple #[.string ⟨(Lib.cut s.data.toList sep.data.toList).1.toArray⟩,.string ⟨(Lib.cut s.data.toList sep.data.toList).2.1.toArray⟩,.bool (Lib.cut s.data.toList sep.data.toList).2.2])∧∃ n,w'=w.drewN n:=Any.strings_Cut Tryz.lays145 s sep m w hs hm
def Tryz.lays146_ren:Go.Shelf.Ren:=⟨fun | 146=>189 | 221=>253 | 268=>291 | 138=>292 | 143=>293 | 195=>319 | 197=>320 | 218=>321 | 219=>294 | 260=>333 | 217=>322 | 225=>323 | 224=>324 | 267=>325 | 266=>334 | 314=>335 | n=>n,fun | 9=>9 | 31=>43 | 3=>3 | 4=>4 | 0=>0 | 105=>374 | 21=>21 | 5=>5 | 46=>88 | 119=>389 | 139=>392 | 138=>391 | 146=>382 | 51=>85 | n=>n,fun | 1=>0 | 3=>1 | 4=>2 | n=>n⟩
theorem Tryz.lays146:Go.Proofs.Lays.n146 Tryz.prog Tryz.lays146_ren:={
 mixed:=by kernel_rfl
 f138:=Tryz.func292.trans (congrArg some (by kernel_rfl))
 f143:=Tryz.func293.trans (congrArg some (by kernel_rfl))
 f146:=Tryz.func189.trans (congrArg some (by kernel_rfl))
 f195:=Tryz.func319.trans (congrArg some (by kernel_rfl))
 f197:=Tryz.func320.trans (congrArg some (by kernel_rfl))
 f217:=Tryz.func322.trans (congrArg some (by kernel_rfl))
 f218:=Tryz.func321.trans (congrArg some (by kernel_rfl))
 f219:=Tryz.func294.trans (congrArg some (by kernel_rfl))
 f221:=Tryz.func253.trans (congrArg some (by kernel_rfl))
 f224:=Tryz.func324.trans (congrArg some (by kernel_rfl))
 f225:=Tryz.func323.trans (congrArg some (by kernel_rfl))
 f260:=Tryz.func333.trans (congrArg some (by kernel_rfl))
 f266:=Tryz.func334.trans (congrArg some (by kernel_rfl))
 f267:=Tryz.func325.trans (congrArg some (by kernel_rfl))
 f268:=Tryz.func291.trans (congrArg some (by kernel_rfl))
 f314:=Tryz.func335.trans (congrArg some (by kernel_rfl))
 t0:=Tryz.underlying0
 a0:=Tryz.isAgg0
 z0:=Tryz.sizeOf0
 v0:=Tryz.zeroValue0
 t3:=Tryz.underlying3
 a3:=Tryz.isAgg3
 z3:=Tryz.sizeOf3
 v3:=Tryz.zeroValue3
 t4:=Tryz.underlying4
 a4:=Tryz.isAgg4
 z4:=Tryz.sizeOf4
 v4:=Tryz.zeroValue4
 t5:=Tryz.underlying5
 a5:=Tryz.isAgg5
 z5:=Tryz.sizeOf5
 v5:=Tryz.zeroValue5
 t9:=Tryz.underlying9
 a9:=Tryz.isAgg9
 z9:=Tryz.sizeOf9
 v9:=Tryz.zeroValue9
 t21:=Tryz.underlying21
 a21:=Tryz.isAgg21
 z21:=Tryz.sizeOf21
 v21:=Tryz.zeroValue21
 t31:=Tryz.underlying43
 a31:=Tryz.isAgg43
 z31:=Tryz.sizeOf43
 v31:=Tryz.zeroValue43
 t46:=Tryz.underlying88
 a46:=Tryz.isAgg88
 z46:=Tryz.sizeOf88
 v46:=Tryz.zeroValue88
 t51:=Tryz.underlying85
 a51:=Tryz.isAgg85
 z51:=Tryz.sizeOf85
 v51:=Tryz.zeroValue85
 t105:=Tryz.underlying374
 a105:=Tryz.isAgg374
 z105:=Tryz.sizeOf374
 v105:=Tryz.zeroValue374
 t119:=Tryz.underlying389
 a119:=Tryz.isAgg389
 z119:=Tryz.sizeOf389
 t138:=Tryz.underlying391
 a138:=Tryz.isAgg391
 z138:=Tryz.sizeOf391
 v138:=Tryz.zeroValue391
 t139:=Tryz.underlying392
 a139:=Tryz.isAgg392
 z139:=Tryz.sizeOf392
 v139:=Tryz.zeroValue392
 t146:=Tryz.underlying382
 a146:=Tryz.isAgg382
 z146:=Tryz.sizeOf382
 v146:=Tryz.zeroValue382
 g1:=by kernel_rfl
 g3:=by kernel_rfl
 g4:=by kernel_rfl }
open Go.RowKit Go.Lib in
/-- strings.Split. (LAID: no walk: one application.) -/
theorem Tryz.strings_Split (s sep:ByteArray) (m:Int) (w:World) (hs:s.size < 4294967281) (hm:w.cell? ⟨0,0,none⟩=some (.int .i64 m)) (h1:1≤sep.size) :
  Calls Tryz.prog 189 #[.string s,.string sep] w fun e w'=>
   e=.returned (.slice (some ⟨w.heap.size,0,none⟩) (Lib.countB s sep + 1) (Lib.countB s sep + 1))∧w'=w.alloc (.cells ((Lib.splitB sep 0 (Lib.countB s sep) s).map Value.string).toArray 9):=Any.strings_Split Tryz.lays146 (by kernel_rfl) s sep m w hs hm h1
def Tryz.laysSlM5_f126_ren:Go.Shelf.Ren:=⟨fun | 5=>126 | 8=>130 | 7=>194 | 19=>203 | 20=>204 | 10=>258 | 11=>259 | 12=>260 | 13=>261 | 14=>262 | 15=>263 | 16=>264 | 17=>265 | 18=>266 | 30=>302 | 31=>268 | 32=>269 | 33=>303 | 34=>304 | 35=>206 | 40=>329 | n=>n,fun | 23=>112 | 25=>2 | 3=>3 | 32=>88 | 22=>112 | 0=>0 | 44=>85 | 46=>45 | 4=>4 | 36=>289 | 35=>288 | 41=>293 | 5=>5 | 9=>9 | 53=>332 | 57=>335 | 63=>364 | 64=>365 | n=>n,fun | n=>n⟩
theorem Tryz.laysSlM5_f126:Go.Proofs.SlLaysM.n5 Tryz.prog Tryz.laysSlM5_f126_ren:={
 mixed:=by kernel_rfl
 f5:=⟨Tryz.f126.name,by decide,Tryz.func126.trans (congrArg some (by kernel_rfl))⟩
 f7:=⟨Tryz.f194.name,by decide,Tryz.func194.trans (congrArg some (by kernel_rfl))⟩
 f8:=Tryz.func130.trans (congrArg some (by kernel_rfl))
 f10:=⟨Tryz.f258.name,by decide,Tryz.func258.trans (congrArg some (by kernel_rfl))⟩
 f11:=⟨Tryz.f259.name,by decide,Tryz.func259.trans (congrArg some (by kernel_rfl))⟩
 f12:=⟨Tryz.f260.name,by decide,Tryz.func260.trans (congrArg some (by kernel_rfl))⟩
 f13:=⟨Tryz.f261.name,by decide,Tryz.func261.trans (congrArg some (by kernel_rfl))⟩
 f14:=⟨Tryz.f262.name,by decide,Tryz.func262.trans (congrArg some (by kernel_rfl))⟩
 f15:=⟨Tryz.f263.name,by decide,Tryz.func263.trans (congrArg some (by kernel_rfl))⟩
 f16:=⟨Tryz.f264.name,by decide,Tryz.func264.trans (congrArg some (by kernel_rfl))⟩
 f17:=⟨Tryz.f265.name,by decide,Tryz.func265.trans (congrArg some (by kernel_rfl))⟩
 f18:=⟨Tryz.f266.name,by decide,Tryz.func266.trans (congrArg some (by kernel_rfl))⟩
 f19:=Tryz.func203.trans (congrArg some (by kernel_rfl))
 f20:=Tryz.func204.trans (congrArg some (by kernel_rfl))
 f30:=⟨Tryz.f302.name,by decide,Tryz.func302.trans (congrArg some (by kernel_rfl))⟩
 f31:=Tryz.func268.trans (congrArg some (by kernel_rfl))
 f32:=Tryz.func269.trans (congrArg some (by kernel_rfl))
 f33:=⟨Tryz.f303.name,by decide,Tryz.func303.trans (congrArg some (by kernel_rfl))⟩
 f34:=⟨Tryz.f304.name,by decide,Tryz.func304.trans (congrArg some (by kernel_rfl))⟩
 f35:=⟨Tryz.f206.name,by decide,Tryz.func206.trans (congrArg some (by kernel_rfl))⟩
 f40:=⟨Tryz.f329.name,by decide,Tryz.func329.trans (congrArg some (by kernel_rfl))⟩
 t0:=Tryz.underlying0
 a0:=Tryz.isAgg0
 z0:=Tryz.sizeOf0
 v0:=Tryz.zeroValue0
 t3:=Tryz.underlying3
 a3:=Tryz.isAgg3
 z3:=Tryz.sizeOf3
 v3:=Tryz.zeroValue3
 t4:=Tryz.underlying4
 a4:=Tryz.isAgg4
 z4:=Tryz.sizeOf4
 v4:=Tryz.zeroValue4
 t5:=Tryz.underlying5
 a5:=Tryz.isAgg5
 z5:=Tryz.sizeOf5
 v5:=Tryz.zeroValue5
 t9:=Tryz.underlying9
 a9:=Tryz.isAgg9
 z9:=Tryz.sizeOf9
 v9:=Tryz.zeroValue9
 t22:=Tryz.underlying112
 a22:=Tryz.isAgg112
 z22:=Tryz.sizeOf112
 v22:=Tryz.zeroValue112
 t23:=Tryz.underlying112
 a23:=Tryz.isAgg112
 z23:=Tryz.sizeOf112
 v23:=Tryz.zeroValue112
 t25:=Tryz.underlying2
 a25:=Tryz.isAgg2
 z25:=Tryz.sizeOf2
 v25:=Tryz.zeroValue2
 t32:=Tryz.underlying88
 a32:=Tryz.isAgg88
 z32:=Tryz.sizeOf88
 v32:=Tryz.zeroValue88
 t35:=Tryz.underlying288
 a35:=Tryz.isAgg288
 z35:=Tryz.sizeOf288
 v35:=Tryz.zeroValue288
 t36:=Tryz.underlying289
 a36:=Tryz.isAgg289
 z36:=Tryz.sizeOf289
 v36:=Tryz.zeroValue289
 t41:=Tryz.underlying293
 a41:=Tryz.isAgg293
 z41:=Tryz.sizeOf293
 v41:=Tryz.zeroValue293
 t44:=Tryz.underlying85
 a44:=Tryz.isAgg85
 z44:=Tryz.sizeOf85
 v44:=Tryz.zeroValue85
 t46:=Tryz.underlying45
 a46:=Tryz.isAgg45
 z46:=Tryz.sizeOf45
 v46:=Tryz.zeroValue45
 t53:=Tryz.underlying332
 a53:=Tryz.isAgg332
 z53:=Tryz.sizeOf332
 v53:=Tryz.zeroValue332
 t57:=Tryz.underlying335
 a57:=Tryz.isAgg335
 z57:=Tryz.sizeOf335
 v57:=Tryz.zeroValue335
 t63:=Tryz.underlying364
 a63:=Tryz.isAgg364
 z63:=Tryz.sizeOf364
 v63:=Tryz.zeroValue364
 t64:=Tryz.underlying365
 a64:=Tryz.isAgg365
 z64:=Tryz.sizeOf365
 v64:=Tryz.zeroValue365 }
open Go.Sort Go.RowKit in
theorem Tryz.slices_Sort_int (blk off cap:Nat) (zs:List Int) (w:World) (hH:Holds (Value.int .i64) w blk off zs.toArray) (hblk:blk < w.heap.size) (hsz:zs.length < 4611686018427387904) :
  Calls Tryz.prog 126 #[.slice (some ⟨blk,off,none⟩) zs.length cap] w fun e w'=>
   e=.returned (.tuple #[])∧∃ n os,w'=grow (putRow (Value.int .i64) (Sort.ahead w n) blk off (zs.mergeSort fun x y=>decide (x≤y)).toArray) os:=AnyM.slices_Sort_int Tryz.laysSlM5_f126 blk off cap zs w hH hblk hsz
end Go.Proofs
end
section
namespace Go.Proofs.YtambjickanapjaaGreatDoor.Vi
open Go.RowKit Base Mem Go.Sort Go.Shelf
def pairB (x:LabD):ByteArray:=x.name++⟨#[61]⟩++x.value
def joinB (l:List LabD):ByteArray:=⟨(Lib.join ((l.map pairB).map (·.data.toList)) [44]).toArray⟩
/-- A series of labels; else why not. -/
def ltextS (l:List LabD):ByteArray×Nat:=if rightS l=0 then (joinB (sortL l),0) else (⟨#[]⟩,rightS l)
theorem pairB_len (x:LabD):(pairB x).data.toList.length=x.name.size + 1 + x.value.size:=by
 unfold pairB
 rw [ByteArray.data_append,ByteArray.data_append,Array.toList_append,Array.toList_append,List.length_append,List.length_append]
 rfl
theorem join_len (l:List LabD) (h:∀ x∈l,x.name.size≤32∧x.value.size≤32):(Lib.join ((l.map pairB).map (·.data.toList)) [44]).length≤66 * l.length:=by
 induction l with
 | nil=>simp [Lib.join_nil]
 | cons a r ih=>
  rw [List.map_cons,List.map_cons,Lib.join_cons]
  have ha:=h a (by simp)
  have hp:=pairB_len a
  have hr:∀ (r:List LabD),(∀ x∈r,x.name.size≤32∧x.value.size≤32)→(Lib.joinTail [44] ((r.map pairB).map (·.data.toList))).length≤66 * r.length:=by
   intro r hr
   induction r with
   | nil=>simp [Lib.joinTail]
   | cons b q ihq=>
    have hb:=hr b (by simp)
    have hpb:=pairB_len b
    have:=ihq (fun x hx=>hr x (List.mem_cons_of_mem _ hx))
    simp only [Lib.joinTail,List.map_cons,List.flatten_cons,List.length_append,List.length_cons,List.length_nil] at this ⊢
    omega
  have:=hr r (fun x hx=>h x (List.mem_cons_of_mem _ hx))
  rw [List.length_append,List.length_cons]
  omega
theorem okRow_sizes {s:List LabD} (h:okRow s=true):∀ x∈s,x.name.size≤32∧x.value.size≤32:=by
 intro x hx
 obtain ⟨i,hi,rfl⟩:=List.getElem_of_mem hx
 unfold okRow at h
 rw [List.all_eq_true] at h
 have h1:=h i (List.mem_range.2 hi)
 unfold itemOk at h1
 rw [getElem!_pos s i hi,Bool.and_eq_true,Bool.and_eq_true] at h1
 have h2:=h1.1.1
 have h3:=h1.1.2
 unfold nameOk at h2 h3
 simp at h2 h3
 omega
theorem infoStr:(Tryz.prog.info? 9).map (fun i=>(i.zero,i.size,i.bytes))=some (some (.string ByteArray.empty),1,16):=by kernel_rfl
def TextPost (l:List LabD) (w:World) (e:Ending) (w':World):Prop:=e=.returned (.tuple #[.string (ltextS l).1,.int .i64 (ltextS l).2])∧Below w.heap.size w w'
theorem ltext_any (v:Value) (l:List LabD) (w:World) (h:Labs w [] v l) (hl:l.length≤4611686018427387904) :
  Calls Tryz.prog 191 #[v] w fun e w'=>TextPost l w e w':=by
 have hri:=Lib.hid (lright_any v l w h hl)
 have HT:Hid (ltextS l=if rightS l=0 then (joinB (sortL l),0) else (⟨#[]⟩,rightS l)):=rfl
 by_cases hr0:rightS l=0
 ·have hR:Hid (ltextS l=(joinB (sortL l),0)):=by show _=_;rw [HT.out,if_pos hr0]
  have hl8:l.length≤8∧okRow (sortL l)=true:=by
   unfold rightS at hr0
   by_cases h8:8 < l.length
   ·rw [if_pos h8] at hr0;cases hr0
   ·rw [if_neg h8] at hr0
    refine ⟨by omega,?_⟩
    cases hk:okRow (sortL l) with
    | true=>rfl
    | false=>rw [hk] at hr0;simp at hr0
  obtain ⟨hl8,hok⟩:=hl8
  have hjl:=Lib.hid (join_len (sortL l) (okRow_sizes hok))
  have hsz:=Lib.hid (okRow_sizes hok)
  rw [hr0] at hri
  have hso:=Lib.hid (fun W (hk:Keeps [] w W)=>sorted_any v l W (h.keep hk (by simp)) (by omega))
  obtain ⟨A,c,rfl,hc⟩:=h.len
  have hs8:(sortL l).length≤8:=by rw [sortL_len];omega
  have hs0:0 < (sortL l).length:=by
   rw [sortL_len]
   unfold rightS at hr0
   rw [if_neg (by omega),hok] at hr0
   rcases Nat.eq_zero_or_pos l.length with hz | hz
   ·rw [hz] at hr0;simp at hr0
   ·exact hz
  clear h HT hr0 hok
  obtain ⟨i0,hi0,hz0,hz1,hz2⟩:=info_parts infoStr
  have Hi0:=Lib.hid hi0;have Hz0:=Lib.hid hz0;have Hz1:=Lib.hid hz1;have Hz2:=Lib.hid hz2
  clear hi0 hz0 hz1 hz2
  generalize sortL l=s at *
  go_enter Tryz.func191,Tryz.ntmps191
  go_wp2_with fail
  refine hri.out.mono ?_
  rintro e w1 ⟨rfl,hb1⟩
  have hso1:=Lib.hid (hso.out w1 (Keeps.of_below hb1))
  have Hb1:=Lib.hid hb1
  clear hb1 hri hso
  go_wp2_with fail
  refine hso1.out.mono ?_
  rintro e w2 ⟨A1,rfl,hA,hb2⟩
  have HA:=Lib.hid (hA [] (by simp));have Hb2:=Lib.hid (below_then Hb1.out hb2)
  clear hA hb2 hso1 Hb1
  go_wp2_with fail
  go_loopw [5,16] (fun out i wr=>∃ x:Nat,i=.int .i64 x∧x≤s.length∧Hid (wr.ownsRow w2.heap.size 9 1 out x ((s.take x).map fun y=>Value.string (pairB y)))∧Hid (Below w2.heap.size w2 wr)) (fun _ i _=>s.length - (intOf i).toNat)
  case atStart=>exact ⟨0,rfl,by omega,World.ownsRow_nil _ _ _ _,Below.refl _ _⟩
  case round=>
   obtain ⟨x,rfl,hx,Hown,Hbr⟩:=hrel
   by_cases hlt:x < s.length
   ·have hx1:(x:Int) < (s.length:Int):=by omega
    obtain ⟨g,off,_,e1,hg,c0,c1⟩:=(HA.out.keep (Keeps.of_below (M:=[]) Hbr.out) (by simp)).at_ hlt
    obtain rfl:A1=some ⟨g,off,none⟩:=by injection e1
    clear e1
    have Htk:Hid (s.take (x + 1)=s.take x++[s[x]]):=List.take_succ_eq_append_getElem hlt
    have Hpb:Hid (pairB s[x]=s[x].name++⟨#[61]⟩++s[x].value):=rfl
    have hd32:=hsz.out s[x] (List.getElem_mem _)
    generalize s[x]=d at *
    have k1:¬ (9223372036854775807 < d.name.size + 1):=by omega
    have k2:¬ (9223372036854775807 < d.name.size + 1 + d.value.size):=by omega
    have k3:¬ (9223372036854775807 < (d.name++⟨#[61]⟩).size + d.value.size):=by rw [ByteArray.size_append];exact k2
    clear hd32
    have Hrd:Hid (Reads ((wr.alloc (.cells #[.string d.name,.string d.value] 282)).alloc (.cells #[.string (d.name++⟨#[61]⟩++d.value)] 9)) (wr.heap.size + 2) 1 (some ⟨wr.heap.size + 1,0,none⟩) 1 [.string (d.name++⟨#[61]⟩++d.value)]):=by
     have:=reads_new (wr.alloc (.cells #[.string d.name,.string d.value] 282)) 9 1 1 [.string (d.name++⟨#[61]⟩++d.value)] rfl
     show Reads _ _ _ _ _ _
     simpa using this
    have Hown3:=Lib.hid ((Hown.out.alloc (.cells #[.string d.name,.string d.value] 282)).alloc (.cells #[.string (d.name++⟨#[61]⟩++d.value)] 9))
    have hz2:w2.heap.size≤wr.heap.size:=Hbr.out.size
    have hb0:w2.heap.size≤((wr.alloc (.cells #[.string d.name,.string d.value] 282)).alloc (.cells #[.string (d.name++⟨#[61]⟩++d.value)] 9)).heap.size:=by simp;omega
    have hm1:x + 1≤maxLen:=by unfold maxLen;omega
    have hm2:(x + 1) * 16≤140737488355328:=by omega
    have hone:∀ u∈[Value.string (d.name++⟨#[61]⟩++d.value)],u.oneCell'=true:=by intro u hu;simp at hu;subst hu;rfl
    have Hb0:=Lib.hid hb0;have Hm1:=Lib.hid hm1;have Hm2:=Lib.hid hm2;have Hone:=Lib.hid hone
    clear hb0 hm1 hm2 hone
    go_wp2_with (at_builtin;refine wpList_append_any _ rfl (.tmp 20) (.tmp 27) _ rfl w2.heap.size 9 i0 _ 1 16 Tryz.underlying43 Hi0.out Hz0.out Hz1.out Hz2.out rfl (by omega) u5 x ((s.take x).map fun y=>Value.string (pairB y)) rfl Hown3.out (wr.heap.size + 2) (some ⟨wr.heap.size + 1,0,none⟩) 1 1 [.string (d.name++⟨#[61]⟩++d.value)] rfl Hrd.out Hone.out Hm1.out Hm2.out Hb0.out ?_)
    intro v4 w4 hown4 hg4 hat4
    have Hown4:Hid (w4.ownsRow w2.heap.size 9 1 v4 (x + 1) ((s.take (x + 1)).map fun y=>Value.string (pairB y))):=by
     show World.ownsRow _ _ _ _ _ _ _
     rw [Htk.out,List.map_append,List.map_cons,List.map_nil,Hpb.out,List.map_take]
     exact hown4
    have Hb4:Hid (Below w2.heap.size w2 w4):=((Hbr.out.alloc Hbr.out.size _).alloc (by simp;omega) _).grown hg4 (by simp;omega) (fun g hg=>(Hown.out.lt g hg).1)
    clear hown4 hg4 hat4
    go_wp2
    go_roundw
    case rel=>exact ⟨x + 1,by go_num,by omega,Hown4,Hb4⟩
    case measure=>simp [intOf] <;> omega
   ·obtain rfl:x=s.length:=by omega
    have hrow:∃ g c,u5=.slice (some ⟨g,0,none⟩) s.length c∧s.length≤c∧g < wr.heap.size∧∀ (j:Nat) x,(s.map pairB)[j]? = some x→wr.cell? ⟨g,0 + j,none⟩=some (.string x):=by
     have h1:=Hown.out
     rw [List.take_length] at h1
     obtain ⟨g,cap,hv,hge,hgl⟩:=h1.form hs0
     subst hv
     have hrd:=Rd.of_own (M:=[]) h1 (by simp)
     obtain ⟨A',c',he,hc',_,hx⟩:=hrd
     injection he with e1 _ e3
     subst e1 e3
     obtain ⟨g',off',e,_,_,hcell⟩:=hx hs0
     injection e with e
     injection e with e1 e2 _
     subst e1 e2
     refine ⟨g,cap,rfl,hc',hgl,fun j x hjx=>hcell j _ ?_⟩
     rw [List.getElem?_map] at hjx ⊢
     cases hsj:s[j]? with
     | none=>rw [hsj] at hjx;cases hjx
     | some d=>rw [hsj] at hjx;injection hjx with hjx;rw [← hjx];rfl
    obtain ⟨g,cj,rfl,hcj,hgl,hcell⟩:=hrow
    have hjo:=Tryz.strings_Join g 0 cj (s.map pairB) ⟨#[44]⟩ wr hcell hgl (by rw [List.length_map];omega) (by rw [List.length_map];exact hcj) (Nat.le_trans hjl.out (by omega))
    rw [List.length_map] at hjo
    have Hjo:=Lib.hid (show Calls Tryz.prog 257 #[.slice (some ⟨g,0,none⟩) s.length cj,.string ⟨#[44]⟩] wr fun e w'=>e=.returned (.string (joinB s))∧Below wr.heap.size wr w' from hjo)
    have Hall:=Lib.hid (below_then Hb2.out Hbr.out)
    clear hjo hcell
    go_wp2_with fail
    refine Hjo.out.mono ?_
    rintro e w5 ⟨rfl,hb5⟩
    have hp:Hid (TextPost l w (.returned (.tuple #[.string (joinB s),.int .i64 0])) w5):=by
     exact ⟨by rw [hR.out];rfl,below_then Hall.out hb5⟩
    clear hb5
    go_wp2
    go_ret2
    exact hp.out
 ·have hR:Hid (ltextS l=(⟨#[]⟩,rightS l)):=by show _=_;rw [HT.out,if_neg hr0]
  obtain ⟨A,c,rfl,hc⟩:=h.len
  have hri2:((rightS l:Int) != 0)=true:=by simpa using hr0
  clear h HT hr0
  have hp:Hid (∀ w1,Below w.heap.size w w1→TextPost l w (.returned (.tuple #[.string ⟨#[]⟩,.int .i64 (rightS l)])) w1):=fun w1 hb=>⟨by rw [hR.out],hb⟩
  generalize rightS l=r at *
  go_enter Tryz.func191,Tryz.ntmps191
  go_wp2_with fail
  refine hri.out.mono ?_
  rintro e w1 ⟨rfl,hb1⟩
  have Hp:=Lib.hid (hp.out _ hb1)
  clear hb1 hp
  go_wp2
  go_ret2
  exact Hp.out
def partsS (s:ByteArray):List ByteArray:=Lib.splitB ⟨#[44]⟩ 0 (Lib.countB s ⟨#[44]⟩) s
def cutD (p:ByteArray):LabD:=⟨⟨(Lib.cut p.data.toList [61]).1.toArray⟩,⟨(Lib.cut p.data.toList [61]).2.1.toArray⟩⟩
def labsS (s:ByteArray):List LabD:=(partsS s).map cutD
/-- Is a text a series? -/
def serOk (s:ByteArray):Bool:=decide ((ltextS (labsS s)).2=0) && (ltextS (labsS s)).1.toList == s.toList
theorem splitB_size (sep:ByteArray):∀ (k:Nat) (s:ByteArray),∀ p∈Lib.splitB sep 0 k s,p.size≤s.size
 | 0,s,p,h=>by rw [Lib.splitB_zero] at h;simp at h;subst h;exact Nat.le_refl _
 | k + 1,s,p,h=>by
  unfold Lib.splitB at h
  split at h
  ·simp at h;subst h;exact Nat.le_refl _
  ·rcases List.mem_cons.1 h with h | h
   ·subst h;rw [ByteArray.size_extract];omega
   ·have:=splitB_size sep k _ p h
    rw [ByteArray.size_extract] at this
    omega
def ParsePost (s:ByteArray) (w:World) (e:Ending) (w':World):Prop:=∃ v,e=.returned (.tuple #[v,.int .i64 (if serOk s=true then 0 else 12)])∧Below w.heap.size w w'
theorem parse_any (s:ByteArray) (m:Int) (w:World) (hs:s.size < 4294967281) (hm:w.cell? ⟨0,0,none⟩=some (.int .i64 m)) :
  Calls Tryz.prog 121 #[.string s] w fun e w'=>ParsePost s w e w':=by
 have hsp:=Lib.hid (Tryz.strings_Split s ⟨#[44]⟩ m w hs hm (by decide))
 have hsz:=Lib.hid (splitB_size ⟨#[44]⟩ (Lib.countB s ⟨#[44]⟩) s)
 have hcl:=Lib.countB_le ⟨#[44]⟩ (by decide) s.size s (Nat.le_refl _)
 have hln:(partsS s).length=Lib.countB s ⟨#[44]⟩ + 1:=Lib.splitB_all ⟨#[44]⟩ (by decide) 0 _ s rfl
 have hw0:0 < w.heap.size:=by
  rcases Nat.eq_zero_or_pos w.heap.size with h | h
  ·exfalso
   have:=World.block_lt_of_cell? w _ hm
   simp at this;omega
  ·exact h
 have Hm:=Lib.hid hm
 have HO:Hid (serOk s=(decide ((ltextS (labsS s)).2=0) && (ltextS (labsS s)).1.toList == s.toList)):=rfl
 have HL:Hid (labsS s=(partsS s).map cutD):=rfl
 obtain ⟨i0,hi0,hz0,hz1,hz2⟩:=info_parts infoLabel
 have Hi0:=Lib.hid hi0;have Hz0:=Lib.hid hz0;have Hz1:=Lib.hid hz1;have Hz2:=Lib.hid hz2
 clear hi0 hz0 hz1 hz2 hm
 have hps:Hid (∀ p∈partsS s,p.size≤s.size):=hsz.out
 have hpd:Hid (partsS s=Lib.splitB ⟨#[44]⟩ 0 (Lib.countB s ⟨#[44]⟩) s):=rfl
 rw [← hpd.out] at hsp
 rw [← hln] at hsp
 have hlen:(partsS s).length≤4294967295:=by omega
 clear hsz hpd hln hcl
 generalize partsS s=ps at *
 generalize labsS s=ls at *
 go_enter Tryz.func121,Tryz.ntmps121
 go_wp2_with fail
 refine hsp.out.mono ?_
 rintro e w1 ⟨rfl,hw1⟩
 have hb1:Below w.heap.size w w1:=by rw [hw1];exact (Below.refl _ _).alloc (Nat.le_refl _) _
 have hB1:Blk w1 w.heap.size 9 (ps.map Value.string).toArray:=by rw [hw1];exact Blk.new w _ _
 have Hb1:=Lib.hid hb1;have HB1:=Lib.hid hB1
 have hw1s:w.heap.size < w1.heap.size:=hB1.lt
 clear hw1 hb1 hB1 hsp
 go_wp2_with fail
 go_loopw [4,15] (fun out i wr=>∃ x:Nat,i=.int .i64 x∧x≤ps.length∧Hid (wr.ownsRow w1.heap.size 282 2 out x (((ps.take x).map cutD).flatMap labEnc))∧Hid (Below w1.heap.size w1 wr)) (fun _ i _=>ps.length - (intOf i).toNat)
 case atStart=>exact ⟨0,rfl,by omega,World.ownsRow_nil _ _ _ _,Below.refl _ _⟩
 case round=>
  obtain ⟨x,rfl,hx,Hown,Hbr⟩:=hrel
  by_cases hlt:x < ps.length
  ·have hx1:(x:Int) < (ps.length:Int):=by omega
   have c0:wr.cell? ⟨w.heap.size,x,none⟩=some (.string ps[x]):=by
    rw [(HB1.out.below Hbr.out hw1s).cell x,List.getElem?_toArray,List.getElem?_map,List.getElem?_eq_getElem hlt];rfl
   have Htk:Hid (ps.take (x + 1)=ps.take x++[ps[x]]):=List.take_succ_eq_append_getElem hlt
   have hpx:=hps.out ps[x] (List.getElem_mem _)
   have hmr:wr.cell? ⟨0,0,none⟩=some (.int .i64 m):=(Hbr.out.cell (p:=⟨0,0,none⟩) (by simp;omega)).trans ((Hb1.out.cell (p:=⟨0,0,none⟩) hw0).trans Hm.out)
   generalize ps[x]=p at *
   have hcu:=Lib.hid (Tryz.strings_Cut p ⟨#[61]⟩ m wr (by omega) hmr)
   have Hcd:Hid (cutD p=⟨⟨(Lib.cut p.data.toList [61]).1.toArray⟩,⟨(Lib.cut p.data.toList [61]).2.1.toArray⟩⟩):=rfl
   have hcu2:=Lib.hid (show Calls Tryz.prog 190 #[.string p,.string ⟨#[61]⟩] wr fun e w'=>e=.returned (.tuple #[.string (cutD p).name,.string (cutD p).value,.bool (Lib.cut p.data.toList [61]).2.2])∧∃ n,w'=wr.drewN n from hcu.out)
   clear hcu Hcd hmr hpx
   generalize hd:cutD p=d at *
   have Hd:=Lib.hid hd
   generalize (Lib.cut p.data.toList [61]).2.2=fnd at *
   clear hd
   have Htk2:Hid ((ps.take (x + 1)).map cutD=(ps.take x).map cutD++[d]):=by show _=_;rw [Htk.out,List.map_append,List.map_cons,List.map_nil,Hd.out]
   have hz2:w1.heap.size≤wr.heap.size:=Hbr.out.size
   have Hm1:Hid (x + 1≤maxLen):=by show _≤_;unfold maxLen;omega
   have Hm2:Hid ((x + 1) * 32≤140737488355328):=by show _≤_;omega
   have Hone:Hid (∀ u∈labEnc d,u.oneCell'=true):=fun u hu=>by simp [labEnc] at hu;rcases hu with rfl | rfl <;> rfl
   have Hown3:Hid (∀ n,((wr.drewN n).alloc (.cells #[.string d.name,.string d.value] 282)).ownsRow w1.heap.size 282 2 u4 x (((ps.take x).map cutD).flatMap labEnc)):=fun n=>
    own_keep Hown.out (((Keeps.refl [] wr).drewN n).alloc _) (by simp)
   have Hrd:Hid (∀ n,Reads ((wr.drewN n).alloc (.cells #[.string d.name,.string d.value] 282)) (wr.heap.size + 1) 2 (some ⟨wr.heap.size,0,none⟩) 1 (labEnc d)):=fun n=>reads_new (wr.drewN n) 282 2 1 (labEnc d) rfl
   clear Htk Hd
   go_wp2_with fail
   refine hcu2.out.mono ?_
   rintro e w3 ⟨rfl,n,rfl⟩
   go_wp2_with (at_builtin;refine wpList_append_any _ rfl (.tmp 25) (.tmp 29) _ rfl w1.heap.size 282 i0 _ 2 32 Tryz.underlying205 Hi0.out Hz0.out Hz1.out Hz2.out rfl (by omega) u4 x (((ps.take x).map cutD).flatMap labEnc) rfl (Hown3.out n) (wr.heap.size + 1) (some ⟨wr.heap.size,0,none⟩) 1 1 (labEnc d) rfl (Hrd.out n) Hone.out Hm1.out Hm2.out (by simp;omega) ?_)
   intro v4 w4 hown4 hg4 hat4
   have Hown4:Hid (w4.ownsRow w1.heap.size 282 2 v4 (x + 1) (((ps.take (x + 1)).map cutD).flatMap labEnc)):=by
    show World.ownsRow _ _ _ _ _ _ _
    rw [Htk2.out,List.flatMap_append]
    simpa using hown4
   have Hb4:Hid (Below w1.heap.size w1 w4):=(((Keeps.of_below (M:=[]) Hbr.out).drewN n).alloc _).below.grown hg4 (by simp;omega) (fun g hg=>(Hown.out.lt g hg).1)
   clear hown4 hg4 hat4
   go_wp2
   go_roundw
   case rel=>exact ⟨x + 1,by go_num,by omega,Hown4,Hb4⟩
   case measure=>simp [intOf] <;> omega
  ·obtain rfl:x=ps.length:=by omega
   have hown:=Hown.out
   rw [List.take_length,← HL.out] at hown
   have hll:ps.length=ls.length:=by rw [HL.out,List.length_map]
   rw [hll] at hown
   have hlab:Labs wr [] u4 ls:=Rd.of_own hown (by simp)
   have htx:=Lib.hid (show Calls Tryz.prog 191 #[u4] wr fun e w'=>e=.returned (.tuple #[.string (ltextS ls).1,.int .i64 (ltextS ls).2])∧Below wr.heap.size wr w' from ltext_any u4 ls wr hlab (by rw [← hll];omega))
   obtain ⟨A4,c4,rfl,hc4⟩:=hlab.len
   have Hall:=Lib.hid (below_then Hb1.out Hbr.out)
   have hp:Hid (∀ v w',Below wr.heap.size wr w'→ParsePost s w (.returned (.tuple #[v,.int .i64 (if serOk s=true then 0 else 12)])) w'):=fun v w' hb=>⟨v,rfl,below_then Hall.out hb⟩
   clear hown hlab hll Hown
   generalize ltextS ls=t at *
   obtain ⟨t1,t2⟩:=t
   simp only at HO htx
   go_wp2_with fail
   refine htx.out.mono ?_
   rintro e w5 ⟨rfl,hb5⟩
   by_cases h2:t2=0
   ·subst h2
    by_cases h3:(t1.toList == s.toList)=true
    ·have hok:Hid (serOk s=true):=by show _=_;rw [HO.out,h3];rfl
     have Hp:=Lib.hid (hp.out (.slice A4 ls.length ls.length) w5 hb5)
     rw [hok.out,if_pos rfl] at Hp
     clear hp htx hb5
     go_wp2_with fail
     refine (clipLabel A4 ls.length c4 _ hc4).mono ?_
     rintro e w' ⟨rfl,rfl⟩
     go_wp2
     go_ret2
     exact Hp.out
    ·have h3':(t1.toList == s.toList)=false:=by simpa using h3
     have hok:Hid (serOk s=false):=by show _=_;rw [HO.out,h3'];rfl
     have Hp:=Lib.hid (hp.out (.slice none 0 0) w5 hb5)
     rw [hok.out,if_neg (by simp)] at Hp
     clear hp htx hb5 h3
     go_wp2
     go_ret2
     exact Hp.out
   ·have hne:((t2:Int) != 0)=true:=by simpa using h2
    have hok:Hid (serOk s=false):=by show _=_;rw [HO.out,decide_eq_false h2];rfl
    have Hp:=Lib.hid (hp.out (.slice none 0 0) w5 hb5)
    rw [hok.out,if_neg (by simp)] at Hp
    clear hp htx hb5 h2
    go_wp2
    go_ret2
    exact Hp.out
end Go.Proofs.YtambjickanapjaaGreatDoor.Vi
end
section
namespace Go.Proofs.YtambjickanapjaaGreatDoor.Vi
open Go.RowKit Base Mem
def withinB (n e:Int):Bool:=decide (0≤n) && decide (n < e)
theorem within2_any (n e:Int) (w:World):Calls Tryz.prog 119 #[.int .i64 n,.int .i64 e] w fun r w'=>r=.returned (.bool (withinB n e))∧w'=w:=by
 by_cases h0:0≤n
 ·by_cases h1:n < e
  ·have hR:Hid (withinB n e=true):=by show _=_;simp [withinB,h0,h1]
   rw [hR.out]
   go_enter Tryz.func119,Tryz.ntmps119
   go_wp2
   go_ret
   exact ⟨rfl,rfl⟩
  ·have hR:Hid (withinB n e=false):=by show _=_;simp [withinB,h1]
   rw [hR.out]
   have h1':decide (n < e)=false:=decide_eq_false h1
   go_enter Tryz.func119,Tryz.ntmps119
   go_wp2
   go_ret
   exact ⟨rfl,rfl⟩
 ·have hR:Hid (withinB n e=false):=by show _=_;simp [withinB,h0]
  rw [hR.out]
  have h0':decide (0≤n)=false:=decide_eq_false h0
  go_enter Tryz.func119,Tryz.ntmps119
  go_wp2
  go_ret
  exact ⟨rfl,rfl⟩
def eqI (a b c d e f:Int):Bool:=a == d && (b == e && c == f)
theorem eqI_run (a b c d e f:Int) (r:Bool) (h:eqI a b c d e f=r) (w:World):(binOp .eql 33 (.agg #[.int .i64 a,.int .i64 b,.int .i64 c]) (.agg #[.int .i64 d,.int .i64 e,.int .i64 f])).run Tryz.prog w=.ok (.bool r) w:=by
 subst h
 have u3:=Tryz.underlying3
 have a3:=Tryz.isAgg3
 have z3:=Tryz.sizeOf3
 have hS:Tryz.prog.underlying 33=some (.struct (Tryz.prog.fieldsOf 33)):=by kernel_rfl
 have hp:Tryz.prog.stoodInHeld 33=false:=by kernel_rfl
 simp only [eqI]
 rw [run_eql_struct,show (10000:Nat)=9999 + 1 from rfl,run_equalIn_agg w 9999 33 _ _ hS hp]
 simp only [Program.fieldsOf,Tryz.underlying33]
 go_simp
 by_cases h1:a=d <;> by_cases h2:b=e <;> by_cases h3:c=f <;> simp [h1,h2,h3]
def kindS (e:EntryD):Bool:=if e.kind=1 then e.ser.toList.isEmpty else if e.kind=2 then eqI e.ag e.sh e.seq 0 0 0 && e.ep == 0 && e.ds.length == 0 else false
def BoolPost (b:Bool) (w:World) (r:Ending) (w':World):Prop:=r=.returned (.bool b)∧Below w.heap.size w w'
theorem kind_any (e:EntryD) (A:Option Addr) (c:Nat) (w:World) :
  Calls Tryz.prog 118 #[.agg (eCell (e,.slice A e.ds.length c)).toArray] w fun r w'=>BoolPost (kindS e) w r w':=by
 obtain ⟨kind,ag,sh,seq,ep,ds,ser,fr,tag⟩:=e
 have HK:Hid (kindS ⟨kind,ag,sh,seq,ep,ds,ser,fr,tag⟩=if kind=1 then ser.toList.isEmpty else if kind=2 then eqI ag sh seq 0 0 0 && ep == 0 && ds.length == 0 else false):=rfl
 have hb:Hid (∀ o,Below w.heap.size w (w.alloc o)):=fun o=>(Below.refl _ _).alloc (Nat.le_refl _) o
 generalize hn:ds.length=n at *
 simp only [eCell]
 clear hn
 by_cases h1:kind=1
 ·have hR:Hid (kindS ⟨kind,ag,sh,seq,ep,ds,ser,fr,tag⟩=ser.toList.isEmpty):=by show _=_;rw [HK.out,if_pos h1]
  subst h1
  go_enter Tryz.func118,Tryz.ntmps118
  go_wp2
  all_goals go_ret
  all_goals exact ⟨by rw [hR.out];simp,hb.out _⟩
 ·have h1':(kind == 1)=false:=by simpa using h1
  by_cases h2:kind=2
  ·have hR:Hid (kindS ⟨kind,ag,sh,seq,ep,ds,ser,fr,tag⟩=(eqI ag sh seq 0 0 0 && ep == 0 && n == 0)):=by show _=_;rw [HK.out,if_neg h1,if_pos h2]
   have h2':(kind == 2)=true:=by simpa using h2
   clear h1 h2
   cases h3:eqI ag sh seq 0 0 0 with
   | false=>
    have he:=fun W=>eqI_run ag sh seq 0 0 0 false h3 W
    have hR2:Hid (kindS ⟨kind,ag,sh,seq,ep,ds,ser,fr,tag⟩=false):=by show _=_;rw [hR.out,h3];rfl
    rw [hR2.out]
    clear h3
    go_enter Tryz.func118,Tryz.ntmps118
    go_wp2
    go_ret
    exact ⟨rfl,hb.out _⟩
   | true=>
    have he:=fun W=>eqI_run ag sh seq 0 0 0 true h3 W
    have hR1:Hid (kindS ⟨kind,ag,sh,seq,ep,ds,ser,fr,tag⟩=(true && ep == 0 && n == 0)):=by show _=_;rw [hR.out,h3]
    clear h3
    cases h4:(ep == 0) with
    | false=>
     have hR2:Hid (kindS ⟨kind,ag,sh,seq,ep,ds,ser,fr,tag⟩=false):=by show _=_;rw [hR1.out,h4];simp
     rw [hR2.out]
     go_enter Tryz.func118,Tryz.ntmps118
     go_wp2
     go_ret
     exact ⟨rfl,hb.out _⟩
    | true=>
     have hR2:Hid (kindS ⟨kind,ag,sh,seq,ep,ds,ser,fr,tag⟩=((n:Int) == 0)):=by
      show _=_
      rw [hR1.out,h4]
      cases n with
      | zero=>rfl
      | succ n=>
       rw [show ((n + 1:Nat) == 0)=false from rfl]
       symm
       rw [Bool.and_false,beq_eq_false_iff_ne]
       omega
     rw [hR2.out]
     go_enter Tryz.func118,Tryz.ntmps118
     go_wp2
     go_ret
     exact ⟨rfl,hb.out _⟩
  ·have h2':(kind == 2)=false:=by simpa using h2
   have hR:Hid (kindS ⟨kind,ag,sh,seq,ep,ds,ser,fr,tag⟩=false):=by show _=_;rw [HK.out,if_neg h1,if_neg h2]
   rw [hR.out]
   clear h1 h2
   go_enter Tryz.func118,Tryz.ntmps118
   go_wp2
   go_ret
   exact ⟨rfl,hb.out _⟩
end Go.Proofs.YtambjickanapjaaGreatDoor.Vi
end
section
namespace Go.Proofs.YtambjickanapjaaGreatDoor.Vi
open Go.RowKit Base Mem Go.Shelf
instance:Inhabited DeltaD:=⟨⟨⟨#[]⟩,0⟩⟩
def badId (e:EntryD):Bool:=!(withinB e.ag 8) || !(withinB e.sh 4) || decide (e.seq < 1) || decide (e.ep < 1)
def writtenS (e:EntryD):Nat:=if badId e=true then 1 else if 8 < e.ds.length then 3 else if (e.ds.length == 0 || e.ds.any fun d=>d.n == 0)=true then 1 else if (e.ds.all fun d=>serOk d.ser)=true then 0 else 12
theorem zero_any (d:DeltaD) (w:World):Calls Tryz.prog 188 #[.agg #[.string d.ser,.int .u64 d.n]] w fun r w'=>r=.returned (.bool (d.n == 0))∧Below w.heap.size w w':=by
 have hb:Hid (∀ o,Below w.heap.size w (w.alloc o)):=fun o=>(Below.refl _ _).alloc (Nat.le_refl _) o
 go_enter Tryz.func188,Tryz.ntmps188
 go_wp2
 go_ret
 exact ⟨rfl,hb.out _⟩
theorem ds_cells {w:World} {M:List Nat} {v:Value} {l:List DeltaD} (h:Ds w M v l) (h0:0 < l.length):∃ g off c,v=.slice (some ⟨g,off,none⟩) l.length c∧g < w.heap.size∧∀ j,j < l.length→∀ i u,(dCell l[j]!)[i]? = some u→w.cell? ⟨g,off + j * 2 + i,none⟩=some u:=by
 obtain ⟨g,off,c,e,_,hg,_,_⟩:=Rd.at_ dCell 2 (fun _=>rfl) h h0
 refine ⟨g,off,c,e,hg,fun j hj i u hu=>?_⟩
 obtain ⟨g2,off2,c2,e2,_,_,_,hx⟩:=Rd.at_ dCell 2 (fun _=>rfl) h hj
 rw [e] at e2
 injection e2 with e2 _ _
 injection e2 with e2
 injection e2 with e3 e4 _
 subst e3 e4
 exact hx i u (by rw [← getElem!_pos l j hj];exact hu)
theorem anyzero_any (v:Value) (l:List DeltaD) (w:World) (h:Ds w [] v l) (h0:0 < l.length) (hl:l.length≤8) :
  Calls Tryz.prog 187 #[v,.func (.func 188) #[] #[]] w fun r w'=>r=.returned (.bool (l.any fun d=>d.n == 0))∧Below w.heap.size w w':=by
 obtain ⟨g,off,c,rfl,hg,hc⟩:=ds_cells h h0
 have heg:∀ args w,(callFunc 188 args).run Tryz.prog w=.ok (.enter 188 args) w:=enters_of Tryz.func188 (by kernel_rfl) rfl
 have hp:PredBelow Tryz.prog 188 #[] (fun x=>.agg (dCell x).toArray) (fun d=>d.n == 0) w:=fun W x hb=>by
  refine Calls.mono (zero_any x W) ?_
  rintro r w' ⟨rfl,hb2⟩
  exact ⟨rfl,hb.trans (hb2.mono hb.size)⟩
 have:=AnyQ.slices_ContainsFunc Tryz.containsFuncDelta 2 Tryz.isAgg63 Tryz.sizeOf63 dCell (fun _=>rfl) (fun d=>d.n == 0) 188 #[] heg g off l.length c l w hp (Nat.le_refl _) (by omega) hg hc
 rw [List.take_length] at this
 exact this
theorem written_any (e:EntryD) (dv:Value) (m:Int) (w:World) (h:Ds w [] dv e.ds) (hs:∀ d∈e.ds,d.ser.size < 4294967281) (hl:e.ds.length≤4611686018427387904) (hm:w.cell? ⟨0,0,none⟩=some (.int .i64 m)) :
  Calls Tryz.prog 120 #[.agg (eCell (e,dv)).toArray] w fun r w'=>NumPost (writtenS e) w r w':=by
 have HW:Hid (writtenS e=if badId e=true then 1 else if 8 < e.ds.length then 3 else if (e.ds.length == 0 || e.ds.any fun d=>d.n == 0)=true then 1 else if (e.ds.all fun d=>serOk d.ser)=true then 0 else 12):=rfl
 have hw0:0 < w.heap.size:=by
  have:=World.block_lt_of_cell? w _ hm
  simpa using this
 obtain ⟨kind,ag,sh,seq,ep,ds,ser,fr,tag⟩:=e
 simp only [] at h hs hl HW
 have HB:Hid (badId ⟨kind,ag,sh,seq,ep,ds,ser,fr,tag⟩=(!(withinB ag 8) || !(withinB sh 4) || decide (seq < 1) || decide (ep < 1))):=rfl
 generalize writtenS ⟨kind,ag,sh,seq,ep,ds,ser,fr,tag⟩=wr0 at *
 generalize badId ⟨kind,ag,sh,seq,ep,ds,ser,fr,tag⟩=bad at *
 have hwi:=Lib.hid (fun a b W=>within2_any a b W)
 obtain ⟨A,c,rfl,hc⟩:=h.len
 obtain ⟨w2,hw2⟩:∃ w2,w2=w.alloc (.cells #[.int .i64 kind,.int .i64 ag,.int .i64 sh,.int .i64 seq,.int .i64 ep,.slice A ds.length c,.string ser,.int .i64 fr,.int .i64 tag] 36):=⟨_,rfl⟩
 have hB:Blk w2 w.heap.size 36 #[.int .i64 kind,.int .i64 ag,.int .i64 sh,.int .i64 seq,.int .i64 ep,.slice A ds.length c,.string ser,.int .i64 fr,.int .i64 tag]:=by rw [hw2];exact Blk.new w _ _
 have hk2:Keeps [] w w2:=by rw [hw2];exact (Keeps.refl _ _).alloc _
 have c1:=hB.cell 1;have c2:=hB.cell 2;have c3:=hB.cell 3;have c4:=hB.cell 4;have c5:=hB.cell 5
 simp only [List.getElem?_toArray,List.getElem?_cons_succ,List.getElem?_cons_zero] at c1 c2 c3 c4 c5
 have Hm:=Lib.hid hm;have Hs:=Lib.hid hs;have Hk2:=Lib.hid hk2;have Hw2:=Lib.hid hw2;have HD:=Lib.hid (h.keep hk2 (by simp))
 clear hm hs hk2 hw2 h hB
 show Calls Tryz.prog 120 #[.agg #[.int .i64 kind,.int .i64 ag,.int .i64 sh,.int .i64 seq,.int .i64 ep,.slice A ds.length c,.string ser,.int .i64 fr,.int .i64 tag]] w fun r w'=>NumPost wr0 w r w'
 go_enter Tryz.func120,Tryz.ntmps120
 go_upto_region 1 with (fail)
 rw [← Hw2.out]
 go_cut [7] (fun s wx=>s=.bool bad∧wx=w2)
 case first=>
  cases h1:withinB ag 8 with
  | false=>
   have hb:Hid (bad=true):=by show _=_;rw [HB.out,h1];simp
   clear HB HW
   go_wp2_with (go_at_call 119;refine (hwi.out _ _ _).mono ?_;rintro r w' ⟨rfl,rfl⟩;rw [h1])
   go_meet
   exact ⟨by rw [hb.out],rfl⟩
  | true=>
   cases h2:withinB sh 4 with
   | false=>
    have hb:Hid (bad=true):=by show _=_;rw [HB.out,h1,h2];simp
    clear HB HW
    go_wp2_with (go_at_call 119;refine (hwi.out _ _ _).mono ?_;rintro r w' ⟨rfl,rfl⟩;first | rw [h1] | rw [h2])
    go_meet
    exact ⟨by rw [hb.out],rfl⟩
   | true=>
    by_cases h3:seq < 1
    ·have hb:Hid (bad=true):=by show _=_;rw [HB.out,h1,h2,decide_eq_true h3];simp
     clear HB HW
     go_wp2_with (go_at_call 119;refine (hwi.out _ _ _).mono ?_;rintro r w' ⟨rfl,rfl⟩;first | rw [h1] | rw [h2])
     go_meet
     exact ⟨by rw [hb.out],rfl⟩
    ·have h3':decide (seq < 1)=false:=decide_eq_false h3
     have hb:Hid (bad=decide (ep < 1)):=by show _=_;rw [HB.out,h1,h2,h3'];simp
     clear HB HW
     by_cases h4:ep < 1
     ·go_wp2_with (go_at_call 119;refine (hwi.out _ _ _).mono ?_;rintro r w' ⟨rfl,rfl⟩;first | rw [h1] | rw [h2])
      go_meet
      exact ⟨by rw [hb.out,decide_eq_true h4],rfl⟩
     ·have h4':decide (ep < 1)=false:=decide_eq_false h4
      go_wp2_with (go_at_call 119;refine (hwi.out _ _ _).mono ?_;rintro r w' ⟨rfl,rfl⟩;first | rw [h1] | rw [h2])
      go_meet
      exact ⟨by rw [hb.out,h4'],rfl⟩
 case rest=>
  obtain ⟨rfl,rfl⟩:=hcut
  have hbel:Hid (Below w.heap.size w wc):=Hk2.out.below
  have hwc:w.heap.size≤wc.heap.size:=Hk2.out.size
  clear HB hwi
  cases bad with
  | true=>
   have hR:Hid (wr0=1):=by show _=_;rw [HW.out,if_pos rfl]
   clear HW
   go_wp2
   go_ret
   exact ⟨by rw [hR.out];rfl,hbel.out⟩
  | false=>
   by_cases h8:8 < ds.length
   ·have hR:Hid (wr0=3):=by show _=_;rw [HW.out,if_neg (by simp),if_pos h8]
    have h8i:(8:Int) < (ds.length:Int):=by omega
    clear HW
    go_wp2
    go_ret
    exact ⟨by rw [hR.out];rfl,hbel.out⟩
   ·have h8i:decide ((8:Int) < (ds.length:Int))=false:=decide_eq_false (by omega)
    by_cases hn:ds.length=0
    ·have hR:Hid (wr0=1):=by show _=_;rw [HW.out,if_neg (by simp),if_neg h8,hn];rfl
     have hni:((ds.length:Int) == 0)=true:=by rw [beq_iff_eq];omega
     clear HW
     go_wp2
     go_ret
     exact ⟨by rw [hR.out];rfl,hbel.out⟩
    ·have hni:((ds.length:Int) == 0)=false:=by rw [beq_eq_false_iff_ne];omega
     have HW2:Hid (wr0=if (ds.any fun d=>d.n == 0)=true then 1 else if (ds.all fun d=>serOk d.ser)=true then 0 else 12):=by
      show _=_
      rw [HW.out,if_neg (by simp),if_neg h8,show (ds.length == 0)=false by rw [beq_eq_false_iff_ne];omega,Bool.false_or]
     have haz:=Lib.hid (anyzero_any _ ds wc HD.out (by omega) (by omega))
     clear HW
     generalize (ds.any fun d=>d.n == 0)=az at *
     go_wp2_with fail
     refine haz.out.mono ?_
     rintro r w3 ⟨rfl,hb3⟩
     have Hb3:=Lib.hid (below_then hbel.out hb3)
     have HD3:=Lib.hid (HD.out.keep (Keeps.of_below (M:=[]) hb3) (by simp))
     have hm3:w3.cell? ⟨0,0,none⟩=some (.int .i64 m):=(Hb3.out.cell (p:=⟨0,0,none⟩) hw0).trans Hm.out
     have Hm3:=Lib.hid hm3
     have d5:w3.cell? ⟨w.heap.size,5,none⟩=some (.slice A ds.length c):=(hb3.cell (p:=⟨w.heap.size,5,none⟩) (World.block_lt_of_cell? wc _ c5)).trans c5
     clear haz hb3 hm3
     cases az with
     | true=>
      have hR:Hid (wr0=1):=by show _=_;rw [HW2.out,if_pos rfl]
      clear HW2
      go_wp2
      go_ret
      exact ⟨by rw [hR.out];rfl,Hb3.out⟩
     | false=>
      have HW3:Hid (wr0=if (ds.all fun d=>serOk d.ser)=true then 0 else 12):=by show _=_;rw [HW2.out,if_neg (by simp)]
      have hw30:0 < w3.heap.size:=by have:=Hb3.out.size;omega
      clear HW2
      go_wp2_with fail
      go_loopw [49] (fun i wr=>∃ x:Nat,i=.int .i64 x∧x≤ds.length∧Hid (((ds.take x).all fun d=>serOk d.ser)=true)∧Hid (Below w3.heap.size w3 wr)) (fun i _=>ds.length - (intOf i).toNat)
      case atStart=>exact ⟨0,rfl,by omega,rfl,Below.refl _ _⟩
      case round=>
       obtain ⟨x,rfl,hx,Hall,Hbr⟩:=hrel
       by_cases hlt:x < ds.length
       ·have hx1:(x:Int) < (ds.length:Int):=by omega
        obtain ⟨g,off,_,e1,_,hg,_,hcell⟩:=Rd.at_ dCell 2 (fun _=>rfl) (HD3.out.keep (Keeps.of_below (M:=[]) Hbr.out) (by simp)) hlt
        obtain rfl:A=some ⟨g,off,none⟩:=by injection e1
        clear e1
        have p0:=hcell 0 _ rfl
        have p1:=hcell 1 _ rfl
        rw [Nat.add_zero] at p0
        have hsx:=Hs.out ds[x] (List.getElem_mem _)
        have Hnx:Hid (((ds.take (x + 1)).all fun d=>serOk d.ser)=serOk ds[x].ser):=by
         show _=_
         rw [List.take_succ_eq_append_getElem hlt,List.all_append,Hall.out];simp
        have Hbad:Hid (serOk ds[x].ser=false→wr0=12):=fun h=>by
         rw [HW3.out,if_neg]
         intro hall
         rw [List.all_eq_true] at hall
         have:=hall ds[x] (List.getElem_mem _)
         rw [h] at this;cases this
        have hcell2:(wr.alloc (.cells #[.string ds[x].ser,.int .u64 ds[x].n] 63)).cell? ⟨0,0,none⟩=some (.int .i64 m):=by
         rw [World.cell?_alloc_lt _ _ _ (by have:=Hbr.out.size;simp;omega)]
         exact (Hbr.out.cell (p:=⟨0,0,none⟩) hw30).trans Hm3.out
        have hpa:=Lib.hid (parse_any ds[x].ser m _ hsx hcell2)
        have Hbra:Hid (Below w3.heap.size w3 (wr.alloc (.cells #[.string ds[x].ser,.int .u64 ds[x].n] 63))):=Hbr.out.alloc Hbr.out.size _
        clear hcell hcell2 hsx
        generalize ds[x]=d at *
        obtain ⟨dser,dn⟩:=d
        simp only [] at *
        cases hok:serOk dser with
        | true=>
         have ho:Hid (((ds.take (x + 1)).all fun d=>serOk d.ser)=true):=by show _=_;rw [Hnx.out,hok]
         have hpa2 := Lib.hid (show Calls Tryz.prog 121 #[.string dser] (wr.alloc (.cells #[.string dser, .int .u64 dn] 63)) fun e w' => ∃ v, e = .returned (.tuple #[v, .int .i64 0]) ∧ Below (wr.alloc (.cells #[.string dser, .int .u64 dn] 63)).heap.size (wr.alloc (.cells #[.string dser, .int .u64 dn] 63)) w' by
          have := hpa.out; unfold ParsePost at this; rwa [hok, if_pos rfl] at this)
         clear hpa Hbad Hnx hok
         go_wp2_with fail
         refine hpa2.out.mono ?_
         rintro r w4 ⟨v4,rfl,hb4⟩
         have Hb4:=Lib.hid (below_then Hbra.out hb4)
         clear hb4
         go_wp2
         go_roundw
         case rel=>exact ⟨x + 1,by go_num,by omega,ho.out,Hb4.out⟩
         case measure=>simp [intOf] <;> omega
        | false=>
         have hR:=Lib.hid (Hbad.out hok)
         have hpa2 := Lib.hid (show Calls Tryz.prog 121 #[.string dser] (wr.alloc (.cells #[.string dser, .int .u64 dn] 63)) fun e w' => ∃ v, e = .returned (.tuple #[v, .int .i64 12]) ∧ Below (wr.alloc (.cells #[.string dser, .int .u64 dn] 63)).heap.size (wr.alloc (.cells #[.string dser, .int .u64 dn] 63)) w' by
          have := hpa.out; unfold ParsePost at this; rwa [hok, if_neg (by simp)] at this)
         clear hpa Hbad Hnx hok
         go_wp2_with fail
         refine hpa2.out.mono ?_
         rintro r w4 ⟨v4,rfl,hb4⟩
         have Hb4:=Lib.hid (below_then Hb3.out (below_then Hbra.out hb4))
         clear hb4
         go_wp2
         go_ret
         exact ⟨by rw [hR.out];rfl,Hb4.out⟩
       ·obtain rfl:x=ds.length:=by omega
        have hR:Hid (wr0=0):=by
         show _=_
         have:=Hall.out
         rw [List.take_length] at this
         rw [HW3.out,if_pos this]
        go_wp2
        go_ret
        exact ⟨by rw [hR.out];rfl,below_then Hb3.out Hbr.out⟩
end Go.Proofs.YtambjickanapjaaGreatDoor.Vi
end
section
namespace Go.Proofs.YtambjickanapjaaGreatDoor.Mem
open Go.RowKit
theorem wT {P:Program} {ops:Array Oper} {Q:Exit→Act→World→Prop} {md:Region.Mode} {S:World→Prop} (i:Nat) {oi:Oper} {v:Value} {fuel:Nat} {listed:Array Bool} {a:Act} {w:World} (hk:(Region.noSelect ops && (Region.free md ops listed i && (Region.ready md ops listed).contains i))=true) (hi:ops[i]? = some oi) (hw:Region.wanted oi (yielded ops a.tmps)=true) (hy:∀ w,S w→(execOp a.eval oi).run P w=.ok (.value v) w) (hQ:∀ c a w,Q (.panic c) (a.put oi.dst v) w→Q (.panic c) a w) (hS:S w) (h:wpAnyH P md ops Q S fuel (listed.setIfInBounds i true) (a.put oi.dst v) w):wpAnyH P md ops Q S (fuel + 1) listed a w:=by
 rw [Bool.and_eq_true,Bool.and_eq_true] at hk
 exact wpAnyH_take hi hk.1 hk.2.1 hk.2.2 hQ (.inl ⟨hw,hy⟩) hS h
theorem wS {P:Program} {ops:Array Oper} {Q:Exit→Act→World→Prop} {md:Region.Mode} {S:World→Prop} (i:Nat) {oi:Oper} {fuel:Nat} {listed:Array Bool} {a:Act} {w:World} (hk:(Region.noSelect ops && (Region.free md ops listed i && (Region.ready md ops listed).contains i))=true) (hi:ops[i]? = some oi) (hw:Region.wanted oi (yielded ops a.tmps)=false) (hQ:∀ c a w,Q (.panic c) (a.put oi.dst undef) w→Q (.panic c) a w) (hS:S w) (h:wpAnyH P md ops Q S fuel (listed.setIfInBounds i true) (a.put oi.dst undef) w):wpAnyH P md ops Q S (fuel + 1) listed a w:=by
 rw [Bool.and_eq_true,Bool.and_eq_true] at hk
 exact wpAnyH_take hi hk.1 hk.2.1 hk.2.2 hQ (.inr ⟨hw,rfl⟩) hS h
theorem sgl.{u} {α:Type u}:((∀ {xs:List α} {i:Nat} (h:i < xs.toArray.size),xs.toArray[i]=xs[i]'(by simpa using h))∧(∀ (a:α) (xs:List α) (i:Nat) (h:i + 1 < (a :: xs).length),(a :: xs)[i + 1]=xs[i]'(by simpa using h))∧(∀ (a:α) (xs:List α) (h:0 < (a :: xs).length),(a :: xs)[0]=a))∧((∀ (l:List α) (i:Nat) (a:α),l.toArray.setIfInBounds i a=(l.set i a).toArray)∧(∀ {x:α} {xs:List α} {a:α},(x :: xs).set 0 a=a :: xs)∧(∀ {x:α} {xs:List α} {i:Nat} {a:α},(x :: xs).set (i + 1) a=x :: xs.set i a)):=
 ⟨⟨fun h=>List.getElem_toArray h,fun a xs i h=>List.getElem_cons_succ a xs i h,fun a xs h=>List.getElem_cons_zero a xs h⟩,fun l i a=>List.setIfInBounds_toArray l i a,List.set_cons_zero,List.set_cons_succ⟩
structure Pend (l:List Nat) (G:Prop):Prop where
 out:G
theorem pq1 (l:List Nat) {G:Prop} (h:Pend l G):G:=h.out
theorem pq0 {G:Prop} (h:G):Pend [] G:=⟨h⟩
theorem wPq {P:Program} {ops:Array Oper} {Q:Exit→Act→World→Prop} {md:Region.Mode} {S:World→Prop} {i:Nat} {l:List Nat} {oi:Oper} {v:Value} {fuel:Nat} {listed:Array Bool} {a:Act} {w:World} (hk:(Region.noSelect ops && (Region.free md ops listed i && (Region.ready md ops listed).contains i))=true) (hi:ops[i]? = some oi) (hw:Region.wanted oi (yielded ops a.tmps)=true) (hy:∀ w,S w→(execOp a.eval oi).run P w=.ok (.value v) w) (hQ:∀ c a w,Q (.panic c) (a.put oi.dst v) w→Q (.panic c) a w) (hS:S w) (h:Pend l (wpAnyH P md ops Q S fuel (listed.setIfInBounds i true) (a.put oi.dst v) w)):Pend (i :: l) (wpAnyH P md ops Q S (fuel + 1) listed a w):=⟨wT i hk hi hw hy hQ hS h.out⟩
theorem wPr {P:Program} {ops:Array Oper} {Q:Exit→Act→World→Prop} {md:Region.Mode} {S:World→Prop} {i:Nat} {l:List Nat} {oi:Oper} {fuel:Nat} {listed:Array Bool} {a:Act} {w:World} (hk:(Region.noSelect ops && (Region.free md ops listed i && (Region.ready md ops listed).contains i))=true) (hi:ops[i]? = some oi) (hw:Region.wanted oi (yielded ops a.tmps)=false) (hQ:∀ c a w,Q (.panic c) (a.put oi.dst undef) w→Q (.panic c) a w) (hS:S w) (h:Pend l (wpAnyH P md ops Q S fuel (listed.setIfInBounds i true) (a.put oi.dst undef) w)):Pend (i :: l) (wpAnyH P md ops Q S (fuel + 1) listed a w):=⟨wS i hk hi hw hQ hS h.out⟩
structure Bx (p:Prop):Prop where
 out:p
/-- Operations of a drawn region that are free, one behind the other. -/
theorem tk (l : List Nat) {P Q : Prop} (k : Q) (h : Bx Q → Pend l P := by
 intro k
 try simp only [sgl,Act.put]
 repeat ((first | (refine wPq (v:=_) (by kernel_rfl) rfl (by rfl) (by intro w hS;(repeat (have:=hS.1;replace hS:=hS.2));go_simp <;> with_reducible rfl) (fun _ _ _ h=>h) (by assumption) ?_) | (refine wPr (by kernel_rfl) rfl (by rfl) (fun _ _ _ h=>h) (by assumption) ?_));try simp only [sgl,Act.put])
 exact pq0 k.out) : P := pq1 l (h ⟨k⟩)
/-- One that is ready: a call, a store. -/
theorem rd {P:Program} {ops:Array Oper} {Q:Exit→Act→World→Prop} {md:Region.Mode} {S:World→Prop} {fuel:Nat} {listed:Array Bool} {a:Act} {w:World} {o:Oper} (i:Nat)
  (h:∀ K':Act→World→Prop,Shut (∀ a w,S w→(S w→wpAnyH P md ops Q S fuel (listed.setIfInBounds i true) a w)→K' a w)→if Region.wanted o (yielded ops a.tmps)=true then Oper.wp P o a w K' Q else K' (a.put o.dst undef) w)
  (hr:Region.ready md ops listed=[i]:=by kernel_rfl) (ho:ops[i]? = some o:=by rfl):wpAnyH P md ops Q S (fuel + 1) listed a w:=wpAnyH_ready hr (by simp) (AllReadyH.cons ho h AllReadyH.nil)
theorem dn {P:Program} {ops:Array Oper} {Q:Exit→Act→World→Prop} {md:Region.Mode} {S:World→Prop} {fuel:Nat} {listed:Array Bool} {a:Act} {w:World} (h:Q .normal a w) (hr:Region.ready md ops listed=[]:=by kernel_rfl):wpAnyH P md ops Q S fuel listed a w:=wpAnyH_done hr h _
theorem wR {P:Program} {ops:Array Oper} {Q:Exit→Act→World→Prop} {S:World→Prop} {M:List Nat} {id:Nat} {a:Act} {w w0:World} (H:Hid (∀ W,Keeps M w0 W→S W)) (hk:Keeps M w0 w) (h:S w.drew→wpAnyH P .any ops Q S ops.size (Array.replicate ops.size false) a w.drew) (hm:P.follows .mixedOrders=true:=by kernel_rfl):(Code.region id ops true).wp P Q a w:=wp_region_held_drew hm (H.out _ hk.drew) h
theorem Keeps.c {M:List Nat} {w W:World} {p:Addr} {v:Value} (hk:Keeps M w W) (h:w.cell? p=some v) (hn:p.block∉M:=by simp):W.cell? p=some v:=(hk.cell (World.block_lt_of_cell? w p h) hn).trans h
theorem a2 {a b:Prop} (x:a) (y:b):a∧b:=⟨x,y⟩
theorem a3 {a b c:Prop} (x:a) (y:b) (z:c):a∧b∧c:=⟨x,y,z⟩
theorem a4 {a b c d:Prop} (x:a) (y:b) (z:c) (u:d):a∧b∧c∧d:=⟨x,y,z,u⟩
theorem a5 {a b c d e:Prop} (x:a) (y:b) (z:c) (u:d) (v:e):a∧b∧c∧d∧e:=⟨x,y,z,u,v⟩
theorem a6 {a b c d e f:Prop} (x:a) (y:b) (z:c) (u:d) (v:e) (t:f):a∧b∧c∧d∧e∧f:=⟨x,y,z,u,v,t⟩
/-- A row's type: its elements' cells and bytes. -/
structure Elt (P:Program) (t e:TypeId) (size bytes:Nat):Prop where
 ut:P.underlying t=some (.slice e)
 inf:∃ z:Value,(P.info? e).map (fun i=>(i.zero,i.size,i.bytes))=some (some z,size,bytes)∧z.cells.size=size
 pos:0 < size
/-- One element more. -/
theorem ap1 {P:Program} {ops:Array Oper} {rest:List Oper} {o:Oper} {a:Act} {Q:Exit→Act→World→Prop} {w:World} {t e T:TypeId} {size bytes base n:Nat} {v:Value} {xs ns:List Value} (E:Elt P t e size bytes) (s x:Operand) (hown:w.ownsRow base e size v n xs) (hb:base≤w.heap.size)
  (h:∀ v' w',w'.ownsRow base e size v' (n + 1) (xs++ns)→w.grownBy w' v.ownBlock→(v'.ownBlock=v.ownBlock∨v'.ownBlock=some w.heap.size∨v'.ownBlock=some (w.heap.size + 1))→wpList P ops Q rest (a.put o.dst v') w')
  (hn:(n + 1) * bytes≤140737488355328:=by omega) (hm:n + 1≤maxLen:=by unfold maxLen;omega) (hl:ns.length=size:=by rfl) (h1:∀ u∈ns,u.oneCell'=true:=by simp [Value.oneCell'])
  (hs:a.eval s=v:=by rfl) (hx:a.eval x=.slice (some ⟨w.heap.size,0,none⟩) 1 1:=by rfl)
  (ho:o.op=.call { callee:=.builtin .append,args:=#[s,x],argTypes:=#[t,t] }:=by rfl) (hgd:o.guard=none:=by rfl):wpList P ops Q (o :: rest) a (w.alloc (.cells ns.toArray T)):=by
 obtain ⟨z,hi,hz⟩:=E.inf
 obtain ⟨i0,hi0,hz0,hz1,hz2⟩:=info_parts hi
 refine wpList_append_any _ hgd s x t ho base e i0 z size bytes E.ut hi0 hz0 hz1 hz2 hz E.pos v n xs hs (hown.alloc _) (w.heap.size + 1) _ 1 1 ns hx (reads_new _ _ _ _ _ (by rw [hl,Nat.one_mul])) h1 hm hn (by simp;omega) (fun v' w' h2 h3 h4=>h v' w' h2 ?_ ?_)
 ·exact ⟨h3.os,h3.tape,h3.output,by have:=h3.size;simp at this;omega,fun g hg hr=>(h3.block g (by simp;omega) hr).trans (Below.heap_alloc w _ g hg)⟩
 ·rcases h4 with h4 | h4
  ·exact .inl h4
  ·rw [World.size_alloc] at h4;exact .inr (.inr h4)
end Go.Proofs.YtambjickanapjaaGreatDoor.Mem
end
section
namespace Go.Proofs.YtambjickanapjaaGreatDoor.Vi
open Go.RowKit Base Mem Go.Shelf
def rightE (e:EntryD):Nat:=if kindS e=false then 12 else if (!(withinB e.fr 8) || decide (e.tag < 0))=true then 1 else if e.kind=1 then writtenS e else if serOk e.ser=true then 0 else 12
/-- No text of an entry is longer than the library's search takes. -/
def Short (e:EntryD):Prop:=e.ser.size < 4294967281∧(∀ d∈e.ds,d.ser.size < 4294967281)∧e.ds.length≤4611686018427387904
theorem eright_any (e:EntryD) (dv:Value) (m:Int) (w:World) (h:Ds w [] dv e.ds) (hs:Short e) (hm:w.cell? ⟨0,0,none⟩=some (.int .i64 m)) :
  Calls Tryz.prog 50 #[.agg (eCell (e,dv)).toArray] w fun r w'=>NumPost (rightE e) w r w':=by
 have HR:Hid (rightE e=if kindS e=false then 12 else if (!(withinB e.fr 8) || decide (e.tag < 0))=true then 1 else if e.kind=1 then writtenS e else if serOk e.ser=true then 0 else 12):=rfl
 have hw0:0 < w.heap.size:=by
  have:=World.block_lt_of_cell? w _ hm
  simpa using this
 obtain ⟨hs1,hs2,hs3⟩:=hs
 have hkd:=Lib.hid (fun A c W=>kind_any e A c W)
 have hwr:=Lib.hid (fun W (hk:Keeps [] w W) (hmW:W.cell? ⟨0,0,none⟩=some (.int .i64 m))=>written_any e dv m W (h.keep hk (by simp)) hs2 hs3 hmW)
 have hpa:=Lib.hid (fun W (hmW:W.cell? ⟨0,0,none⟩=some (.int .i64 m))=>parse_any e.ser m W hs1 hmW)
 obtain ⟨A,c,rfl,hc⟩:=h.len
 generalize rightE e=rr at *
 generalize kindS e=ks at *
 generalize writtenS e=ws at *
 obtain ⟨kind,ag,sh,seq,ep,ds,ser,fr,tag⟩:=e
 simp only [] at h hs1 hs2 hs3 hkd hwr hpa HR hc
 have hwi:=Lib.hid (fun a b W=>within2_any a b W)
 obtain ⟨w2,hw2⟩:∃ w2,w2=w.alloc (.cells #[.int .i64 kind,.int .i64 ag,.int .i64 sh,.int .i64 seq,.int .i64 ep,.slice A ds.length c,.string ser,.int .i64 fr,.int .i64 tag] 36):=⟨_,rfl⟩
 have hB:Blk w2 w.heap.size 36 #[.int .i64 kind,.int .i64 ag,.int .i64 sh,.int .i64 seq,.int .i64 ep,.slice A ds.length c,.string ser,.int .i64 fr,.int .i64 tag]:=by rw [hw2];exact Blk.new w _ _
 have hk2:Keeps [] w w2:=by rw [hw2];exact (Keeps.refl _ _).alloc _
 have Hm:=Lib.hid hm;have Hk2:=Lib.hid hk2;have Hw2:=Lib.hid hw2;have HB:=Lib.hid hB
 clear hm hk2 hw2 h hs1 hs2 hs3
 have hkd2:Hid (∀ W,Calls Tryz.prog 118 #[.agg #[.int .i64 kind,.int .i64 ag,.int .i64 sh,.int .i64 seq,.int .i64 ep,.slice A ds.length c,.string ser,.int .i64 fr,.int .i64 tag]] W fun r w'=>r=.returned (.bool ks)∧Below W.heap.size W w'):=fun W=>hkd.out A c W
 have hwr2:Hid (∀ W,Keeps [] w W→W.cell? ⟨0,0,none⟩=some (.int .i64 m)→Calls Tryz.prog 120 #[.agg #[.int .i64 kind,.int .i64 ag,.int .i64 sh,.int .i64 seq,.int .i64 ep,.slice A ds.length c,.string ser,.int .i64 fr,.int .i64 tag]] W fun r w'=>r=.returned (.int .i64 ws)∧Below W.heap.size W w'):=fun W hk hmW=>hwr.out W hk hmW
 clear hkd hwr
 have c0:=hB.cell 0;have c1:=hB.cell 1;have c2:=hB.cell 2;have c3:=hB.cell 3;have c4:=hB.cell 4;have c5:=hB.cell 5;have c6:=hB.cell 6;have c7:=hB.cell 7;have c8:=hB.cell 8
 simp only [List.getElem?_toArray,List.getElem?_cons_succ,List.getElem?_cons_zero] at c0 c1 c2 c3 c4 c5 c6 c7 c8
 clear hB
 show Calls Tryz.prog 50 #[.agg #[.int .i64 kind,.int .i64 ag,.int .i64 sh,.int .i64 seq,.int .i64 ep,.slice A ds.length c,.string ser,.int .i64 fr,.int .i64 tag]] w fun r w'=>NumPost rr w r w'
 go_enter Tryz.func50,Tryz.ntmps50
 go_upto_region 1 with (fail)
 rw [← Hw2.out]
 go_wp2_with fail
 refine (hkd2.out _).mono ?_
 rintro r w3 ⟨rfl,hb3⟩
 have hw2s:w.heap.size < w2.heap.size:=HB.out.lt
 have HB3:=Lib.hid (HB.out.below hb3 hw2s)
 have Hk3:Hid (Keeps [] w w3):=Hk2.out.trans (Keeps.of_below (M:=[]) hb3) (by simp)
 have c0:=HB3.out.cell 0;have c1:=HB3.out.cell 1;have c2:=HB3.out.cell 2;have c3:=HB3.out.cell 3;have c4:=HB3.out.cell 4;have c5:=HB3.out.cell 5;have c6:=HB3.out.cell 6;have c7:=HB3.out.cell 7;have c8:=HB3.out.cell 8
 simp only [List.getElem?_toArray,List.getElem?_cons_succ,List.getElem?_cons_zero] at c0 c1 c2 c3 c4 c5 c6 c7 c8
 have hm3:Hid (w3.cell? ⟨0,0,none⟩=some (.int .i64 m)):=Hk3.out.c Hm.out
 clear hb3 hkd2
 cases ks with
 | false=>
  have hR:Hid (rr=12):=by show _=_;rw [HR.out,if_pos rfl]
  clear HR
  go_wp2
  go_ret
  exact ⟨by rw [hR.out];rfl,Hk3.out.below⟩
 | true=>
  have HR2:Hid (rr=if (!(withinB fr 8) || decide (tag < 0))=true then 1 else if kind=1 then ws else if serOk ser=true then 0 else 12):=by show _=_;rw [HR.out,if_neg (by simp)]
  clear HR
  cases h1:withinB fr 8 with
  | false=>
   have hR:Hid (rr=1):=by show _=_;rw [HR2.out,h1];rfl
   clear HR2
   go_wp2_with (go_at_call 119;refine (hwi.out _ _ _).mono ?_;rintro r w' ⟨rfl,rfl⟩;rw [h1])
   go_ret
   exact ⟨by rw [hR.out];rfl,Hk3.out.below⟩
  | true=>
   by_cases h2:tag < 0
   ·have hR:Hid (rr=1):=by show _=_;rw [HR2.out,h1,decide_eq_true h2];rfl
    clear HR2
    go_wp2_with (go_at_call 119;refine (hwi.out _ _ _).mono ?_;rintro r w' ⟨rfl,rfl⟩;rw [h1])
    go_ret
    exact ⟨by rw [hR.out];rfl,Hk3.out.below⟩
   ·have h2':decide (tag < 0)=false:=decide_eq_false h2
    have HR3:Hid (rr=if kind=1 then ws else if serOk ser=true then 0 else 12):=by show _=_;rw [HR2.out,h1,h2',if_neg (by simp)]
    clear HR2
    by_cases h3:kind=1
    ·have hR:Hid (rr=ws):=by show _=_;rw [HR3.out,if_pos h3]
     have h3':(kind == 1)=true:=by simpa using h3
     have hw:=Lib.hid (hwr2.out w3 Hk3.out hm3.out)
     clear HR3 h3 hwr2
     go_wp2_with (go_at_call 119;refine (hwi.out _ _ _).mono ?_;rintro r w' ⟨rfl,rfl⟩;rw [h1])
     refine hw.out.mono ?_
     rintro r w4 ⟨rfl,hb4⟩
     have hb5:=Lib.hid (below_then Hk3.out.below hb4)
     clear hb4
     go_wp2
     go_ret
     exact ⟨by rw [hR.out];rfl,hb5.out⟩
    ·have h3':(kind == 1)=false:=by simpa using h3
     have hR:Hid (rr=if serOk ser=true then 0 else 12):=by show _=_;rw [HR3.out,if_neg h3]
     have hp:=Lib.hid (hpa.out w3 hm3.out)
     clear HR3 h3 hwr2 hpa
     go_wp2_with (go_at_call 119;refine (hwi.out _ _ _).mono ?_;rintro r w' ⟨rfl,rfl⟩;rw [h1])
     refine hp.out.mono ?_
     rintro r w4 ⟨v4,rfl,hb4⟩
     have hb5:=Lib.hid (below_then Hk3.out.below hb4)
     clear hb4 hp
     cases hok:serOk ser with
     | true=>
      have hR2:Hid (rr=0):=by show _=_;rw [hR.out,hok];rfl
      simp only [if_true]
      clear hR
      go_wp2
      go_ret
      exact ⟨by rw [hR2.out];rfl,hb5.out⟩
     | false=>
      have hR2:Hid (rr=12):=by show _=_;rw [hR.out,hok];rfl
      clear hR
      go_wp2
      go_ret
      exact ⟨by rw [hR2.out];rfl,hb5.out⟩
def dBytes (d:DeltaD):List UInt8:=Lib.uvarint d.ser.size++sB d.ser++Lib.uvarint d.n.toNat
def NOk (d:DeltaD):Prop:=0≤d.n∧d.n < 18446744073709551616
def headB (k fr tag:Nat):List UInt8:=[UInt8.ofNat k]++Lib.uvarint fr++Lib.uvarint tag
def bytesE (e : EntryD) : List UInt8 := headB e.kind.toNat e.fr.toNat e.tag.toNat ++ (if e.kind = 2 then Lib.uvarint e.ser.size ++ sB e.ser else
 Lib.uvarint e.ag.toNat ++ Lib.uvarint e.sh.toNat ++ Lib.uvarint e.seq.toNat ++ Lib.uvarint e.ep.toNat ++ Lib.uvarint e.ds.length ++ e.ds.flatMap dBytes)
/-- The numbers of an entry go into their types. -/
def Wf (e:EntryD):Prop:=e.tag≤9223372036854775807∧e.seq≤9223372036854775807∧e.ep≤9223372036854775807∧∀ d∈e.ds,NOk d
theorem right_facts {e:EntryD} (h:rightE e=0):(0≤e.fr∧e.fr < 8∧0≤e.tag)∧(e.kind=2∨e.kind=1∧0≤e.ag∧e.ag < 8∧0≤e.sh∧e.sh < 4∧1≤e.seq∧1≤e.ep∧e.ds.length≤8):=by
 unfold rightE at h
 have hk:kindS e=true:=by
  cases hk:kindS e with
  | true=>rfl
  | false=>rw [hk] at h;cases h
 rw [hk,if_neg (by simp)] at h
 have h1:(!(withinB e.fr 8) || decide (e.tag < 0))=false:=by
  cases h1:(!(withinB e.fr 8) || decide (e.tag < 0)) with
  | false=>rfl
  | true=>rw [h1] at h;cases h
 rw [h1,if_neg (by simp)] at h
 unfold withinB at h1
 simp at h1
 refine ⟨by omega,?_⟩
 by_cases hk1:e.kind=1
 ·rw [if_pos hk1] at h
  unfold writtenS at h
  have h2:badId e=false:=by
   cases h2:badId e with
   | false=>rfl
   | true=>rw [h2] at h;cases h
  rw [h2,if_neg (by simp)] at h
  by_cases h8:8 < e.ds.length
  ·rw [if_pos h8] at h;cases h
  ·unfold badId withinB at h2
   simp at h2
   exact .inr ⟨hk1,by omega⟩
 ·unfold kindS at hk
  rw [if_neg hk1] at hk
  by_cases hk2:e.kind=2
  ·exact .inl hk2
  ·rw [if_neg hk2] at hk;cases hk
def addS (a b:Nat):Nat:=if 18446744073709551615 < a + b then 18446744073709551615 else a + b
theorem add_any (a b:Nat) (w:World) (ha:a < 18446744073709551616) (hb:b < 18446744073709551616) :
  Calls Tryz.prog 176 #[.int .u64 a,.int .u64 b] w fun e w'=>e=.returned (.int .u64 (addS a b))∧w=w':=by
 by_cases h:18446744073709551615 < a + b
 ·have hR:Hid (addS a b=18446744073709551615):=by show _=_;unfold addS;rw [if_pos h]
  rw [hR.out]
  have hw:IntKind.u64.wrap (18446744073709551615 - (b:Int))=18446744073709551615 - (b:Int):=by rw [IntKind.wrap_u64];omega
  have hi:(18446744073709551615:Int) - (b:Int) < (a:Int):=by omega
  go_enter Tryz.func176,Tryz.ntmps176
  go_wp2
  go_ret
  exact ⟨rfl,rfl⟩
 ·have hR:Hid (addS a b=a + b):=by show _=_;unfold addS;rw [if_neg h]
  rw [hR.out]
  have hw:IntKind.u64.wrap (18446744073709551615 - (b:Int))=18446744073709551615 - (b:Int):=by rw [IntKind.wrap_u64];omega
  have hi:decide ((18446744073709551615:Int) - (b:Int) < (a:Int))=false:=decide_eq_false (by omega)
  have hw2:IntKind.u64.wrap ((a:Int) + (b:Int))=(a:Int) + (b:Int):=by rw [IntKind.wrap_u64];omega
  go_enter Tryz.func176,Tryz.ntmps176
  go_wp2
  go_ret
  exact ⟨ret_int (by simp),rfl⟩
end Go.Proofs.YtambjickanapjaaGreatDoor.Vi
end
section
namespace Go.Proofs.YtambjickanapjaaGreatDoor.Vi
open Go.RowKit Base Mem
open Go.Maps (Keyed)
theorem addL_cons (DS:DataW Unit) (d:DeltaD) (r:List DeltaD):addL DS (d :: r)=addL (DS.put (skey d.ser) (.lit (.int .u64 (addZ (numAt .u64 DS (skey d.ser)) d.n)))) r:=rfl
theorem addZ_nat (a b:Nat):addZ (a:Int) (b:Int)=((addS a b:Nat):Int):=by
 unfold addZ addS
 split <;> split <;> first | rfl | omega
def SaPost (g b N:Nat) (DS:DataW Unit) (l:List DeltaD) (w:World) (e:Ending) (w':World):Prop:=
 e=.returned (.int .i64 (mayS DS l))∧SmAt w' g b (N + l.length) (if mayS DS l=0 then addL DS l else DS)∧Keeps [b] w w'
theorem SmAt.more {w:World} {g b N N':Nat} {D:DataW Unit} (h:SmAt w g b N D) (hN:N≤N'):SmAt w g b N' D:=⟨h.1,h.2.1.mono hN,h.2.2⟩
theorem smadd_any (g b N:Nat) (DS:DataW Unit) (v:Value) (l:List DeltaD) (w:World) (h:SmAt w g b N DS) (hd:Ds w [b] v l) (hn:∀ d∈l,DOk d) (hl:l.length≤1099511627776) (hN:N≤1099511627776) :
  Calls Tryz.prog 125 #[.pointer (some ⟨g,0,none⟩),v] w fun e w'=>SaPost g b N DS l w e w':=by
 have HY:=Lib.hid (may_any g b N DS v l w h (hd.avoid (M':=[]) (by simp)) hn hl hN)
 have HM:=Lib.hid h;have HD:=Lib.hid hd;have Hn:=Lib.hid hn
 obtain ⟨A,c,rfl,hc⟩:=hd.len
 clear h hd hn
 go_enter Tryz.func125,Tryz.ntmps125
 go_wp2_with fail
 refine HY.out.mono ?_
 rintro e w1 ⟨rfl,hb1⟩
 have HM1:Hid (SmAt w1 g b N DS):=HM.out.keep (M:=[]) (Keeps.of_below hb1) (by simp) (by simp)
 have HD1:Hid (Ds w1 [b] (.slice A l.length c) l):=HD.out.keep (M':=[]) (Keeps.of_below hb1) (by simp)
 have Hk1:Hid (Keeps [b] w w1):=(Keeps.of_below hb1).mono (M:=[]) (by simp)
 clear HY hb1 HM HD
 by_cases hm:mayS DS l=0
 ·have hR:Hid (∀ w',SmAt w' g b (N + l.length) (addL DS l)→Keeps [b] w w'→SaPost g b N DS l w (.returned (.int .i64 0)) w'):=fun w' h1 h2=>⟨by rw [hm],by rw [if_pos hm];exact h1,h2⟩
  rw [hm]
  clear hm
  go_wp2_with fail
  go_loopw [16] (fun i wr=>∃ (x:Nat) (Dx:DataW Unit),i=.int .i64 x∧x≤l.length∧Hid (SmAt wr g b (N + x) Dx)∧Hid (addL DS l=addL Dx (l.drop x))∧Hid (Keeps [b] w wr)∧Hid (Keeps [b] w1 wr)) (fun i _=>l.length - (intOf i).toNat)
  case atStart=>exact ⟨0,DS,rfl,by omega,HM1.out,rfl,Hk1.out,Keeps.refl _ _⟩
  case round=>
   obtain ⟨x,Dx,rfl,hx,HMr,Hadd,Hkr,Hkr1⟩:=hrel
   by_cases hlt:x < l.length
   ·have hx1:(x:Int) < (l.length:Int):=by omega
    obtain ⟨g3,off,_,e1,_,hg3,_,hcell⟩:=Rd.at_ dCell 2 (fun _=>rfl) (HD1.out.keep Hkr1.out (by simp)) hlt
    obtain rfl:A=some ⟨g3,off,none⟩:=by injection e1
    clear e1
    have p0:=hcell 0 _ rfl
    have p1:=hcell 1 _ rfl
    rw [Nat.add_zero] at p0
    obtain ⟨hn0,hn1,hns⟩:=Hn.out l[x] (List.getElem_mem _)
    have hM0:=Hadd.out
    rw [← List.getElem_cons_drop hlt,addL_cons] at hM0
    clear hcell Hadd
    generalize l[x]=d at *
    obtain ⟨ser,nn⟩:=d
    simp only [] at p0 p1 hn0 hn1 hns hM0
    obtain ⟨n,rfl⟩:=Int.eq_ofNat_of_zero_le hn0
    obtain ⟨hc0,hc1⟩:=om_bd HMr.out.2.1 hns
    obtain ⟨cd,hcd⟩:=Int.eq_ofNat_of_zero_le hc0
    rw [hcd,addZ_nat] at hM0
    rw [hcd] at hc1
    have HM0:=Lib.hid hM0
    have hcd9:cd < 18446744073709551616:=by omega
    have hn9:n < 18446744073709551616:=by omega
    have hs9:addS cd n≤18446744073709551615:=by unfold addS;split <;> omega
    clear hM0
    have hbl:b < wr.heap.size:=HMr.out.2.1.lt
    have hgl:g < wr.heap.size:=HMr.out.1.lt
    have hgb:g≠b:=HMr.out.2.2
    have hBx:=Blk.new wr 63 #[.string ser,.int .u64 n]
    have HkA:Hid (Keeps [b] w (wr.alloc (.cells #[.string ser,.int .u64 n] 63))):=Hkr.out.alloc _
    have HkA1:Hid (Keeps [b] w1 (wr.alloc (.cells #[.string ser,.int .u64 n] 63))):=Hkr1.out.alloc _
    have HMA:Hid (SmAt (wr.alloc (.cells #[.string ser,.int .u64 n] 63)) g b (N + x) Dx):=HMr.out.keep (M:=[]) ((Keeps.refl _ _).alloc _) (by simp) (by simp)
    have HBx:=Lib.hid hBx
    have hb7:b≠wr.heap.size:=by omega
    have Hb7:=Lib.hid hb7
    clear hBx HMr
    go_upto_region 7 with (fail)
    clear p0 p1
    generalize wr.alloc (.cells #[.string ser,.int .u64 n] 63)=wa at *
    generalize wr.heap.size=g7 at *
    have HSB:Hid (∀ W,Keeps [b] wa W→W.cell? ⟨g,0,none⟩=some (.map (some b))∧W.cell? ⟨g7,0,none⟩=some (.string ser)∧W.cell? ⟨g7,1,none⟩=some (.int .u64 n)):=fun W hk=>
     ⟨(hk.blk HMA.out.1 (by simp [hgb])).cell 0,(hk.blk HBx.out (by simp;exact Ne.symm hb7)).cell 0,(hk.blk HBx.out (by simp;exact Ne.symm hb7)).cell 1⟩
    have Hown:Hid (wa.drew.ownsMap Tryz.prog 9 (plainElem Tryz.prog 45) b (N + x) Dx):=HMA.out.2.1
    have hlook:=(om_num Hown.out lawS uMS uU64 (zU64 _) (skey_of hns)).1
    rw [hcd] at hlook
    obtain ⟨w2,hupd,hown2,hturn⟩:=Hown.out.store lawS uMS (by unfold maxLen;omega) (skey_of hns) (plainElem_int uU64 (WalkArith.wf_u64 ⟨by omega,by omega⟩):plainElem (H:=Unit) Tryz.prog 45 (.int .u64 ((addS cd n:Nat):Int))=_)
    have hk2:=turned_keeps hturn
    have HkF:Hid (Keeps [b] w w2):=HkA.out.drew.trans hk2 (by simp)
    have HkF1:Hid (Keeps [b] w1 w2):=HkA1.out.drew.trans hk2 (by simp)
    have HkW:Hid (Keeps [b] wa w2):=((Keeps.refl _ _).drew).trans hk2 (by simp)
    have HMF:Hid (SmAt w2 g b (N + (x + 1)) (Dx.put (skey ser) (.lit (.int .u64 ((addS cd n:Nat):Int))))):=⟨HkW.out.blk HMA.out.1 (by simp [hgb]),hown2,hgb⟩
    clear hown2 hturn hk2 hcd hc0 hc1 hn0 hn1
    refine wR HSB (Keeps.refl _ _) (fun hHeld=>?_)
    refine tk [0,1,2,3,4,5,6,7,8,9,10,11,13,14] ?_
    refine rd 12 (fun K hK=>?_)
    go_simp
    refine hK.out _ _ (HSB.out _ (Keeps.refl _ _).drew) (fun _=>?_)
    clear hK K hHeld;rename_i hHeld
    try simp only [sgl,Act.put]
    refine rd 15 (fun K hK=>?_)
    go_simp
    refine (add_any cd n _ hcd9 hn9).mono ?_
    rintro e w7 ⟨rfl,rfl⟩
    refine hK.out _ _ (HSB.out _ (Keeps.refl _ _).drew) (fun _=>?_)
    clear hK K hHeld;rename_i hHeld
    try simp only [sgl,Act.put]
    refine rd 16 (fun K hK=>?_)
    go_simp
    refine hK.out _ _ (HSB.out _ HkW.out) (fun _=>?_)
    clear hK K hHeld;rename_i hHeld
    try simp only [sgl,Act.put]
    refine dn ?_
    clear hupd hlook
    go_wp2
    go_roundw
    case rel=>exact ⟨x + 1,_,by go_num,by omega,HMF,HM0,HkF,HkF1⟩
    case measure=>simp [intOf] <;> omega
   ·obtain rfl:x=l.length:=by omega
    have hP : Hid (SaPost g b N DS l w (.returned (.int .i64 0)) wr) := hR.out wr (by
     have:=Hadd.out
     rw [List.drop_length] at this
     rw [this]
     exact HMr.out) Hkr.out
    go_wp2
    go_ret
    exact hP.out
 ·have hP:Hid (SaPost g b N DS l w (.returned (.int .i64 (mayS DS l))) w1):=⟨rfl,by rw [if_neg hm];exact HM1.out.more (by omega),Hk1.out⟩
  have hmi:decide (mayS DS l=0)=false:=decide_eq_false hm
  generalize mayS DS l=mm at *
  go_wp2
  go_ret
  exact hP.out
end Go.Proofs.YtambjickanapjaaGreatDoor.Vi
end
section
namespace Go.Proofs
open Go.Shelf
def Tryz.sortDelta_ren:Go.Shelf.Ren:=⟨fun | 6=>212 | 15=>130 | 14=>276 | 28=>203 | 29=>204 | 20=>308 | 21=>309 | 22=>310 | 23=>311 | 24=>312 | 25=>313 | 26=>314 | 27=>315 | 46=>330 | 47=>268 | 48=>269 | 49=>331 | 50=>332 | 57=>340 | n=>n,fun | 22=>34 | 24=>63 | 25=>303 | 3=>3 | 39=>88 | 0=>0 | 53=>85 | 55=>45 | 4=>4 | 46=>289 | 45=>288 | 50=>293 | 5=>5 | 9=>9 | 66=>332 | 70=>335 | 76=>364 | 77=>365 | n=>n,fun | n=>n⟩
theorem Tryz.sortDelta:Go.Proofs.SlLaysF0.n6 Tryz.prog Tryz.sortDelta_ren:={
 mixed:=by kernel_rfl
 f6:=⟨Tryz.f212.name,by decide,Tryz.func212.trans (congrArg some (by kernel_rfl))⟩
 f14:=⟨Tryz.f276.name,by decide,Tryz.func276.trans (congrArg some (by kernel_rfl))⟩
 f15:=Tryz.func130.trans (congrArg some (by kernel_rfl))
 f20:=⟨Tryz.f308.name,by decide,Tryz.func308.trans (congrArg some (by kernel_rfl))⟩
 f21:=⟨Tryz.f309.name,by decide,Tryz.func309.trans (congrArg some (by kernel_rfl))⟩
 f22:=⟨Tryz.f310.name,by decide,Tryz.func310.trans (congrArg some (by kernel_rfl))⟩
 f23:=⟨Tryz.f311.name,by decide,Tryz.func311.trans (congrArg some (by kernel_rfl))⟩
 f24:=⟨Tryz.f312.name,by decide,Tryz.func312.trans (congrArg some (by kernel_rfl))⟩
 f25:=⟨Tryz.f313.name,by decide,Tryz.func313.trans (congrArg some (by kernel_rfl))⟩
 f26:=⟨Tryz.f314.name,by decide,Tryz.func314.trans (congrArg some (by kernel_rfl))⟩
 f27:=⟨Tryz.f315.name,by decide,Tryz.func315.trans (congrArg some (by kernel_rfl))⟩
 f28:=Tryz.func203.trans (congrArg some (by kernel_rfl))
 f29:=Tryz.func204.trans (congrArg some (by kernel_rfl))
 f46:=⟨Tryz.f330.name,by decide,Tryz.func330.trans (congrArg some (by kernel_rfl))⟩
 f47:=Tryz.func268.trans (congrArg some (by kernel_rfl))
 f48:=Tryz.func269.trans (congrArg some (by kernel_rfl))
 f49:=⟨Tryz.f331.name,by decide,Tryz.func331.trans (congrArg some (by kernel_rfl))⟩
 f50:=⟨Tryz.f332.name,by decide,Tryz.func332.trans (congrArg some (by kernel_rfl))⟩
 f57:=⟨Tryz.f340.name,by decide,Tryz.func340.trans (congrArg some (by kernel_rfl))⟩
 t0:=Tryz.underlying0
 a0:=Tryz.isAgg0
 z0:=Tryz.sizeOf0
 v0:=Tryz.zeroValue0
 t3:=Tryz.underlying3
 a3:=Tryz.isAgg3
 z3:=Tryz.sizeOf3
 v3:=Tryz.zeroValue3
 t4:=Tryz.underlying4
 a4:=Tryz.isAgg4
 z4:=Tryz.sizeOf4
 v4:=Tryz.zeroValue4
 t5:=Tryz.underlying5
 a5:=Tryz.isAgg5
 z5:=Tryz.sizeOf5
 v5:=Tryz.zeroValue5
 t9:=Tryz.underlying9
 a9:=Tryz.isAgg9
 z9:=Tryz.sizeOf9
 v9:=Tryz.zeroValue9
 t22:=Tryz.underlying34
 a22:=Tryz.isAgg34
 z22:=Tryz.sizeOf34
 v22:=Tryz.zeroValue34
 t25:=Tryz.underlying303
 a25:=Tryz.isAgg303
 z25:=Tryz.sizeOf303
 v25:=Tryz.zeroValue303
 t39:=Tryz.underlying88
 a39:=Tryz.isAgg88
 z39:=Tryz.sizeOf88
 v39:=Tryz.zeroValue88
 t45:=Tryz.underlying288
 a45:=Tryz.isAgg288
 z45:=Tryz.sizeOf288
 v45:=Tryz.zeroValue288
 t46:=Tryz.underlying289
 a46:=Tryz.isAgg289
 z46:=Tryz.sizeOf289
 v46:=Tryz.zeroValue289
 t50:=Tryz.underlying293
 a50:=Tryz.isAgg293
 z50:=Tryz.sizeOf293
 v50:=Tryz.zeroValue293
 t53:=Tryz.underlying85
 a53:=Tryz.isAgg85
 z53:=Tryz.sizeOf85
 v53:=Tryz.zeroValue85
 t55:=Tryz.underlying45
 a55:=Tryz.isAgg45
 z55:=Tryz.sizeOf45
 v55:=Tryz.zeroValue45
 t66:=Tryz.underlying332
 a66:=Tryz.isAgg332
 z66:=Tryz.sizeOf332
 v66:=Tryz.zeroValue332
 t70:=Tryz.underlying335
 a70:=Tryz.isAgg335
 z70:=Tryz.sizeOf335
 v70:=Tryz.zeroValue335
 t76:=Tryz.underlying364
 a76:=Tryz.isAgg364
 z76:=Tryz.sizeOf364
 v76:=Tryz.zeroValue364
 t77:=Tryz.underlying365
 a77:=Tryz.isAgg365
 z77:=Tryz.sizeOf365
 v77:=Tryz.zeroValue365 }
def Tryz.sortI64_ren:Go.Shelf.Ren:=⟨fun | 5=>126 | 8=>130 | 7=>194 | 19=>203 | 20=>204 | 10=>258 | 11=>259 | 12=>260 | 13=>261 | 14=>262 | 15=>263 | 16=>264 | 17=>265 | 18=>266 | 30=>302 | 31=>268 | 32=>269 | 33=>303 | 34=>304 | 35=>206 | 40=>329 | n=>n,fun | 23=>112 | 25=>2 | 3=>3 | 32=>88 | 22=>112 | 0=>0 | 44=>85 | 46=>45 | 4=>4 | 36=>289 | 35=>288 | 41=>293 | 5=>5 | 9=>9 | 53=>332 | 57=>335 | 63=>364 | 64=>365 | n=>n,fun | n=>n⟩
theorem Tryz.sortI64:Go.Proofs.SlLaysM.n5 Tryz.prog Tryz.sortI64_ren:={
 mixed:=by kernel_rfl
 f5:=⟨Tryz.f126.name,by decide,Tryz.func126.trans (congrArg some (by kernel_rfl))⟩
 f7:=⟨Tryz.f194.name,by decide,Tryz.func194.trans (congrArg some (by kernel_rfl))⟩
 f8:=Tryz.func130.trans (congrArg some (by kernel_rfl))
 f10:=⟨Tryz.f258.name,by decide,Tryz.func258.trans (congrArg some (by kernel_rfl))⟩
 f11:=⟨Tryz.f259.name,by decide,Tryz.func259.trans (congrArg some (by kernel_rfl))⟩
 f12:=⟨Tryz.f260.name,by decide,Tryz.func260.trans (congrArg some (by kernel_rfl))⟩
 f13:=⟨Tryz.f261.name,by decide,Tryz.func261.trans (congrArg some (by kernel_rfl))⟩
 f14:=⟨Tryz.f262.name,by decide,Tryz.func262.trans (congrArg some (by kernel_rfl))⟩
 f15:=⟨Tryz.f263.name,by decide,Tryz.func263.trans (congrArg some (by kernel_rfl))⟩
 f16:=⟨Tryz.f264.name,by decide,Tryz.func264.trans (congrArg some (by kernel_rfl))⟩
 f17:=⟨Tryz.f265.name,by decide,Tryz.func265.trans (congrArg some (by kernel_rfl))⟩
 f18:=⟨Tryz.f266.name,by decide,Tryz.func266.trans (congrArg some (by kernel_rfl))⟩
 f19:=Tryz.func203.trans (congrArg some (by kernel_rfl))
 f20:=Tryz.func204.trans (congrArg some (by kernel_rfl))
 f30:=⟨Tryz.f302.name,by decide,Tryz.func302.trans (congrArg some (by kernel_rfl))⟩
 f31:=Tryz.func268.trans (congrArg some (by kernel_rfl))
 f32:=Tryz.func269.trans (congrArg some (by kernel_rfl))
 f33:=⟨Tryz.f303.name,by decide,Tryz.func303.trans (congrArg some (by kernel_rfl))⟩
 f34:=⟨Tryz.f304.name,by decide,Tryz.func304.trans (congrArg some (by kernel_rfl))⟩
 f35:=⟨Tryz.f206.name,by decide,Tryz.func206.trans (congrArg some (by kernel_rfl))⟩
 f40:=⟨Tryz.f329.name,by decide,Tryz.func329.trans (congrArg some (by kernel_rfl))⟩
 t0:=Tryz.underlying0
 a0:=Tryz.isAgg0
 z0:=Tryz.sizeOf0
 v0:=Tryz.zeroValue0
 t3:=Tryz.underlying3
 a3:=Tryz.isAgg3
 z3:=Tryz.sizeOf3
 v3:=Tryz.zeroValue3
 t4:=Tryz.underlying4
 a4:=Tryz.isAgg4
 z4:=Tryz.sizeOf4
 v4:=Tryz.zeroValue4
 t5:=Tryz.underlying5
 a5:=Tryz.isAgg5
 z5:=Tryz.sizeOf5
 v5:=Tryz.zeroValue5
 t9:=Tryz.underlying9
 a9:=Tryz.isAgg9
 z9:=Tryz.sizeOf9
 v9:=Tryz.zeroValue9
 t22:=Tryz.underlying112
 a22:=Tryz.isAgg112
 z22:=Tryz.sizeOf112
 v22:=Tryz.zeroValue112
 t23:=Tryz.underlying112
 a23:=Tryz.isAgg112
 z23:=Tryz.sizeOf112
 v23:=Tryz.zeroValue112
 t25:=Tryz.underlying2
 a25:=Tryz.isAgg2
 z25:=Tryz.sizeOf2
 v25:=Tryz.zeroValue2
 t32:=Tryz.underlying88
 a32:=Tryz.isAgg88
 z32:=Tryz.sizeOf88
 v32:=Tryz.zeroValue88
 t35:=Tryz.underlying288
 a35:=Tryz.isAgg288
 z35:=Tryz.sizeOf288
 v35:=Tryz.zeroValue288
 t36:=Tryz.underlying289
 a36:=Tryz.isAgg289
 z36:=Tryz.sizeOf289
 v36:=Tryz.zeroValue289
 t41:=Tryz.underlying293
 a41:=Tryz.isAgg293
 z41:=Tryz.sizeOf293
 v41:=Tryz.zeroValue293
 t44:=Tryz.underlying85
 a44:=Tryz.isAgg85
 z44:=Tryz.sizeOf85
 v44:=Tryz.zeroValue85
 t46:=Tryz.underlying45
 a46:=Tryz.isAgg45
 z46:=Tryz.sizeOf45
 v46:=Tryz.zeroValue45
 t53:=Tryz.underlying332
 a53:=Tryz.isAgg332
 z53:=Tryz.sizeOf332
 v53:=Tryz.zeroValue332
 t57:=Tryz.underlying335
 a57:=Tryz.isAgg335
 z57:=Tryz.sizeOf335
 v57:=Tryz.zeroValue335
 t63:=Tryz.underlying364
 a63:=Tryz.isAgg364
 z63:=Tryz.sizeOf364
 v63:=Tryz.zeroValue364
 t64:=Tryz.underlying365
 a64:=Tryz.isAgg365
 z64:=Tryz.sizeOf365
 v64:=Tryz.zeroValue365 }
end Go.Proofs
end
section
namespace Go.Proofs.YtambjickanapjaaGreatDoor.Vi
open Go.RowKit Base Mem Go.Sort Go.Shelf
instance:Inhabited DeltaD:=⟨⟨⟨#[]⟩,0⟩⟩
def cmpD (a b:DeltaD):Int:=cmpS a.ser b.ser
theorem bySer_any (a b:DeltaD) (w:World):Calls Tryz.prog 213 #[.agg #[.string a.ser,.int .u64 a.n],.agg #[.string b.ser,.int .u64 b.n]] w fun e w'=>e=.returned (.int .i64 (cmpD a b))∧∃ q os',w'=Sort.grow (w.drewN q) os':=by
 have hc:=Lib.hid (fun x y W=>compStr x y W)
 have hr:Hid (cmpD a b=cmpS a.ser b.ser):=rfl
 go_enter Tryz.func213,Tryz.ntmps213
 go_wp2_with fail
 refine (hc.out _ _ _).mono ?_
 rintro e w' ⟨rfl,rfl⟩
 go_wp2
 go_ret
 refine ⟨by rw [hr.out];rfl,0,#[.cells #[.string a.ser,.int .u64 a.n] 63,.cells #[.string b.ser,.int .u64 b.n] 63],?_⟩
 simp only [Sort.alloc_eq_grow,Sort.grow_grow]
 rfl
theorem bySer_lays (blk off size:Nat) (w:World):CmpLays Tryz.prog 213 #[] dCell 2 cmpD blk off size w:=fun _ _ _ _ x y=>bySer_any x y _
theorem sLt_ltD (x y:ByteArray):sLt x y=decide (x.toList < y.toList):=bytesLess_eq _ _
theorem ltOf_ser (a b:DeltaD):ltOf cmpD a b=sLt a.ser b.ser:=by
 unfold ltOf cmpD cmpS
 cases h:sLt a.ser b.ser
 ·simp only [Bool.false_eq_true,if_false]
  split <;> simp
 ·simp
theorem swoD:SWO (ltOf cmpD) where
 irrefl x:=by rw [ltOf_ser,sLt_ltD];simp [List.lt_irrefl]
 trans x y z h1 h2:=by simp only [ltOf_ser,sLt_ltD,decide_eq_true_eq] at *;exact List.lt_trans h1 h2
 ntrans x y z h1 h2:=by
  simp only [ltOf_ser,sLt_ltD,decide_eq_false_iff_not,List.not_lt] at *
  exact List.le_trans h2 h1
/-- Deltas in the order of the sort. -/
def sortD (l:List DeltaD):List DeltaD:=(insertionSort (ltOf cmpD) l.toArray 0 l.length).toList
theorem sortF_any (blk off cap:Nat) (l:List DeltaD) (w:World) (hH:HoldsK dCell 2 w blk off l.toArray) (hblk:blk < w.heap.size) (hsz:l.length≤12) :
  Calls Tryz.prog 212 #[.slice (some ⟨blk,off,none⟩) l.length cap,.func (.func 213) #[] #[]] w fun e w'=>
   e=.returned (.tuple #[])∧∃ n os,w'=sortWorldK dCell 2 w blk off n (sortD l).toArray os:=by
 have eg:∀ args w,(callFunc 213 args).run Tryz.prog w=.ok (.enter 213 args) w:=enters_of Tryz.func213 (by kernel_rfl) rfl
 have h:=AnyQ.slices_SortFunc_small Tryz.sortDelta 2 Tryz.isAgg63 Tryz.sizeOf63 dCell (fun _=>rfl) (fun x v hv=>by simp [dCell] at hv;rcases hv with rfl | rfl <;> rfl) cmpD 213 #[] blk off cap l.toArray w eg (bySer_lays blk off _ w) hH hblk (by simpa using hsz)
  (fun n W hn=>(Tryz.bits_Len n W (by omega) (by omega)).mono fun _ _ ⟨h1,h2⟩=>⟨⟨_,h1⟩,h2⟩)
 simp only [List.size_toArray] at h
 exact h
theorem sortF_none (A:Option Addr) (cap:Nat) (w:World):Calls Tryz.prog 212 #[.slice A 0 cap,.func (.func 213) #[] #[]] w fun e w'=>e=.returned (.tuple #[])∧w'=w:=
 AnyF.slices_SortFunc_none Tryz.sortDelta A cap (.func (.func 213) #[] #[]) w
theorem sortD_facts (l:List DeltaD):(sortD l).Perm l∧(sortD l).Pairwise fun a b=>sLt b.ser a.ser=false:=by
 obtain ⟨⟨h1,h2,h3⟩,h4⟩:=insertionSort_holds (lt:=ltOf cmpD) swoD l.toArray 0 l.length (Nat.zero_le _) (by simp)
 unfold sortD
 generalize insertionSort (ltOf cmpD) l.toArray 0 l.length=d at *
 have hs:d.size=l.length:=by simpa using h1
 have e1:d.extract 0 l.length=d:=by rw [← hs];simp
 have e2:l.toArray.extract 0 l.length=l.toArray:=by simp
 rw [e1,e2] at h3
 refine ⟨by simpa using h3,?_⟩
 rw [List.pairwise_iff_getElem]
 intro i j hi hj hij
 have:=h4 i j (Nat.zero_le _) hij (by simpa [hs] using hj)
 rw [ltOf_ser] at this
 have a1:d[j]! = d.toList[j]:=by rw [getElem!_pos d j (by simpa using hj)];simp
 have a2:d[i]! = d.toList[i]:=by rw [getElem!_pos d i (by simpa using hi)];simp
 rw [a1,a2] at this
 exact this
def SfP (v:Value) (l:List DeltaD) (w:World) (e:Ending) (w':World):Prop:=e=.returned (.tuple #[])∧(∀ M:List Nat,(∀ g,v.ownBlock=some g→g∉M)→Ds w' M v (sortD l))∧Keeps v.ownBlock.toList w w'
theorem sortD_len (l:List DeltaD):(sortD l).length=l.length:=(sortD_facts l).1.length_eq
theorem sortR_any (base:Nat) (v:Value) (l:List DeltaD) (w:World) (h:w.ownsRow base 63 2 v l.length (dCells l)) (hl:l.length≤12) :
  Calls Tryz.prog 212 #[v,.func (.func 213) #[] #[]] w fun e w'=>SfP v l w e w':=by
 rcases Nat.eq_zero_or_pos l.length with h0 | h0
 ·obtain rfl:l=[]:=List.length_eq_zero_iff.1 h0
  obtain ⟨A,c,rfl,_⟩:=Rd.of_own h (M:=[]) (by simp)
  refine (sortF_none A c w).mono ?_
  rintro e w' ⟨rfl,rfl⟩
  exact ⟨rfl,fun M _=>⟨A,c,by rw [sortD_len],by rw [sortD_len];exact Nat.zero_le _,dCells_len _,fun hn=>absurd hn (by rw [sortD_len];exact Nat.lt_irrefl 0)⟩,Keeps.refl _ _⟩
 ·rcases h.2 with ⟨_,hn⟩ | ⟨g,cap,cur,rfl,hg0,hb,h1,h2,h3,h4⟩
  ·omega
  ·have hcur:cur=(l.flatMap dCell++cur.toList.drop (l.length * 2)).toArray:=by
    apply Array.ext'
    show cur.toList=l.flatMap dCell++cur.toList.drop (l.length * 2)
    rw [show l.flatMap dCell=cur.toList.take (l.length * 2) from h4.symm,List.take_append_drop]
   have hB:Blk w g 63 (l.flatMap dCell++cur.toList.drop (l.length * 2)).toArray:=by
    unfold Blk
    rw [← hcur]
    exact hb
   refine (sortF_any g 0 cap l w (RowsK.blk_holds dCell 2 (fun _=>rfl) (by omega) hB) hB.lt hl).mono ?_
   rintro e w' ⟨rfl,n,os,rfl⟩
   have hB2:=RowsK.blk_sorted dCell 2 (fun _=>rfl) (by omega) hB (sortD_len l) n os
   refine ⟨rfl,fun M hM=>⟨_,_,by rw [sortD_len],by rw [sortD_len];exact h1,dCells_len _,fun _=>⟨g,0,rfl,hB2.lt,hM g rfl,fun j u hu=>?_⟩⟩,RowsK.keeps_sorted dCell 2 w g n _ os⟩
   have hu':((sortD l).flatMap dCell)[j]? = some u:=hu
   rw [Nat.zero_add,hB2.cell,List.getElem?_toArray,List.getElem?_append_left (List.getElem?_eq_some_iff.1 hu').1]
   exact hu'
end Go.Proofs.YtambjickanapjaaGreatDoor.Vi
end
section
namespace Go.Proofs.YtambjickanapjaaGreatDoor.Vi
open Go.RowKit Base Mem Go.Shelf

end Go.Proofs.YtambjickanapjaaGreatDoor.Vi
end
section
namespace Go.Proofs.YtambjickanapjaaGreatDoor.Vi
open Go.RowKit Base Mem

end Go.Proofs.YtambjickanapjaaGreatDoor.Vi
end
section
namespace Go.Proofs.YtambjickanapjaaGreatDoor.Vi
open Go.RowKit Base Mem Go.Shelf

/-- So many deltas from the front, and how the reader stands. -/
def getDs:Nat→List UInt8→Bool→List DeltaD×List UInt8×Bool
 | 0,l,b=>([],l,b)
 | k + 1,l,b=>
  let t:=textS l b
  let u:=numS t.2.1 t.2.2
  let r:=getDs k u.2.1 u.2.2
  (⟨⟨t.1.toArray⟩,u.1⟩ :: r.1,r.2)
theorem infoDelta2:(Tryz.prog.info? 63).map (fun i=>(i.zero,i.size,i.bytes))=some (some (.agg #[.string ByteArray.empty,.int .u64 0]),2,24):=by kernel_rfl
def GetPost (M:List Nat) (p n:Nat) (l:List UInt8) (b:Bool) (w:World) (e:Ending) (w':World):Prop:=∃ v,e=.returned v∧w'.ownsRow w.heap.size 63 2 v n (dCells (getDs n l b).1)∧RdAt w' M p (getDs n l b).2.1 (getDs n l b).2.2∧Keeps [p] w w'
theorem get_ds (M:List Nat) (p n:Nat) (l:List UInt8) (b:Bool) (w:World) (h:RdAt w M p l b) (hn:n≤8) :
  Calls Tryz.prog 217 #[.pointer (some ⟨p,0,none⟩),.int .i64 n] w fun e w'=>GetPost M p n l b w e w':=by
 have hp0:=h.lt
 have H:=Lib.hid h
 obtain ⟨i0,hi0,hz0,hz1,hz2⟩:=info_parts infoDelta2
 have Hi0:=Lib.hid hi0;have Hz0:=Lib.hid hz0;have Hz1:=Lib.hid hz1;have Hz2:=Lib.hid hz2
 clear h hi0 hz0 hz1 hz2
 go_enter Tryz.func217,Tryz.ntmps217
 go_wp2_with fail
 go_loopw [5,8] (fun out i wr=>∃ (x:Nat) (acc:List DeltaD) (lx:List UInt8) (bx:Bool),i=.int .i64 x∧x≤n∧acc.length=x∧Hid ((getDs n l b)=(acc++(getDs (n - x) lx bx).1,(getDs (n - x) lx bx).2))∧Hid (wr.ownsRow w.heap.size 63 2 out x (dCells acc))∧Hid (RdAt wr (out.ownBlock.toList++M) p lx bx)∧Hid (Keeps [p] w wr)) (fun _ i _=>n - (intOf i).toNat)
 case atStart=>exact ⟨0,[],l,b,rfl,by omega,rfl,(show getDs n l b=_ from rfl),World.ownsRow_nil _ _ _ _,(show RdAt w _ p l b from H.out),Keeps.refl _ _⟩
 case round=>
  obtain ⟨x,acc,lx,bx,rfl,hx,hal,Hg,Hown,HR,Hk⟩:=hrel
  by_cases hlt:x < n
  ·have hx1:(x:Int) < (n:Int):=by omega
   have Hst:Hid (getDs (n - x) lx bx=(⟨⟨(textS lx bx).1.toArray⟩,(numS (textS lx bx).2.1 (textS lx bx).2.2).1⟩ :: (getDs (n - (x + 1)) (numS (textS lx bx).2.1 (textS lx bx).2.2).2.1 (numS (textS lx bx).2.1 (textS lx bx).2.2).2.2).1,(getDs (n - (x + 1)) (numS (textS lx bx).2.1 (textS lx bx).2.2).2.1 (numS (textS lx bx).2.1 (textS lx bx).2.2).2.2).2)):=by
    show _=_
    rw [show n - x=(n - (x + 1)) + 1 by omega]
    rfl
   have ht:=Lib.hid (rtext_any (u5.ownBlock.toList++M) p lx bx wr HR.out)
   generalize textS lx bx=t at *
   obtain ⟨t1,t2,t3⟩:=t
   simp only [] at ht Hst
   go_wp2_with fail
   refine ht.out.mono ?_
   rintro e w3 ⟨rfl,hA3,hk3⟩
   have hu:=Lib.hid (number_any (u5.ownBlock.toList++M) p t2 t3 w3 hA3)
   have Hk3:=Lib.hid hk3
   generalize numS t2 t3=u at *
   obtain ⟨u1,u2',u3'⟩:=u
   simp only [] at hu Hst
   clear hA3 hk3 ht
   go_wp2_with fail
   refine hu.out.mono ?_
   rintro e w4 ⟨rfl,hA4,hk4⟩
   have HA4:=Lib.hid hA4
   have Hk4:Hid (Keeps [p] wr w4):=Hk3.out.trans hk4 (by simp)
   clear hA4 hk4 hu
   have hown4:=own_keep Hown.out Hk4.out (by simp;exact hp0)
   have Hown5:=Lib.hid (hown4.alloc (.cells #[.string ⟨t1.toArray⟩,.int .u64 u1] 63))
   have hlt0:=Lib.hid Hown.out.lt
   have hz4:w.heap.size≤w4.heap.size:=Nat.le_trans Hk.out.size Hk4.out.size
   clear hown4
   go_wp2_with (at_builtin;refine wpList_append_any _ rfl (.tmp 12) (.tmp 17) _ rfl w.heap.size 63 i0 _ 2 24 Tryz.underlying34 Hi0.out Hz0.out Hz1.out Hz2.out rfl (by omega) u5 x (dCells acc) rfl Hown5.out (w4.heap.size + 1) (some ⟨w4.heap.size,0,none⟩) 1 1 (dCell ⟨⟨t1.toArray⟩,u1⟩) rfl (reads_new _ _ _ _ _ rfl) (by intro u hu;simp [dCell] at hu;rcases hu with rfl | rfl <;> rfl) (by unfold maxLen;omega) (by omega) (by simp;omega) ?_)
   intro v6 w6 hown6 hg6 hat6
   have hpo:p∉u5.ownBlock.toList:=fun hm=>by have:=(hlt0.out p (by simpa using hm)).1;omega
   have kg:Keeps u5.ownBlock.toList (w4.alloc (.cells #[.string ⟨t1.toArray⟩,.int .u64 u1] 63)) w6:=(Keeps.refl _ _).grown hg6 (fun g hg=>.inl (by simpa using hg))
   have h1:=HA4.out.keep (M':=[]) ((Keeps.refl _ _).alloc (.cells #[.string ⟨t1.toArray⟩,.int .u64 u1] 63)) (by simp) (by simp)
   have h2 := h1.avoid (M' := v6.ownBlock.toList ++ (u5.ownBlock.toList ++ M)) (fun g hg => by
    rcases List.mem_append.1 hg with h | h
    ·rcases hat6 with h5 | h5
     ·exact .inl (List.mem_append_left _ (by rw [h5] at h;exact h))
     ·rw [h5] at h;simp at h;exact .inr (by simp;omega)
    ·exact .inl h)
   have H6 := Lib.hid ((h2.keep kg (fun g hg => .inl (List.mem_append_right _ (List.mem_append_left _ hg))) hpo).avoid (M' := v6.ownBlock.toList ++ M) (fun g hg => by
    rcases List.mem_append.1 hg with h | h
    ·exact .inl (List.mem_append_left _ h)
    ·exact .inl (List.mem_append_right _ (List.mem_append_right _ h))))
   have Hk6:Hid (Keeps [p] w w6):=((Hk.out.trans Hk4.out (by simp)).alloc _).grown hg6 (fun g hg=>.inr (hlt0.out g hg).1)
   have Hown6:Hid (w6.ownsRow w.heap.size 63 2 v6 (x + 1) (dCells (acc++[⟨⟨t1.toArray⟩,u1⟩]))):=by
    show World.ownsRow _ _ _ _ _ _ _
    unfold dCells at hown6 ⊢
    rw [List.flatMap_append]
    simpa using hown6
   have Hg6:Hid (getDs n l b=((acc++[⟨⟨t1.toArray⟩,u1⟩])++(getDs (n - (x + 1)) u2' u3').1,(getDs (n - (x + 1)) u2' u3').2)):=by
    show _=_
    rw [Hg.out,Hst.out];simp
   clear hown6 hg6 hat6 kg h1 h2 hpo
   go_wp2
   go_roundw
   case rel=>exact ⟨x + 1,acc++[⟨⟨t1.toArray⟩,u1⟩],u2',u3',by go_num,by omega,by simp;omega,Hg6,Hown6,H6,Hk6⟩
   case measure=>simp [intOf] <;> omega
  ·obtain rfl:x=n:=by omega
   have hg:=Hg.out
   rw [Nat.sub_self] at hg
   have hp:Hid (GetPost M p x l b w (.returned u5) wr):=by
    refine ⟨u5,rfl,?_,?_,Hk.out⟩
    ·rw [hg];simpa [getDs] using Hown.out
    ·rw [hg];exact HR.out.avoid (fun g hg=>.inl (List.mem_append_right _ hg))
   clear hg
   go_wp2
   go_ret
   exact hp.out
end Go.Proofs.YtambjickanapjaaGreatDoor.Vi
end
section
namespace Go.Proofs.YtambjickanapjaaGreatDoor.Vi
open Go.RowKit Base Mem
theorem right_kind {e:EntryD} (h:rightE e=0):kindS e=true:=by
 unfold rightE at h
 cases hk:kindS e with
 | true=>rfl
 | false=>rw [hk] at h;cases h
/-- What follows a message's head. -/
def readX (k fr tag:Nat) (l:List UInt8) (b:Bool):EntryD×List UInt8×Bool:=
 if k=2 then (⟨k,0,0,0,0,[],⟨(textS l b).1.toArray⟩,fr,tag⟩,(textS l b).2)
 else
  let a:=countS l b 8
  let s:=countS a.2.1 a.2.2 4
  let q:=intS s.2.1 s.2.2
  let p:=intS q.2.1 q.2.2
  let n:=countS p.2.1 p.2.2 8
  let d:=getDs n.1 n.2.1 n.2.2
  (⟨k,a.1,s.1,q.1,p.1,d.1,⟨#[]⟩,fr,tag⟩,d.2)
def readH (b:List UInt8):EntryD×List UInt8×Bool:=
 let k:=byteS b false
 let f:=countS k.2.1 k.2.2 8
 let t:=intS f.2.1 f.2.2
 readX k.1.toNat f.1 t.1 t.2.1 t.2.2
def zeroD:EntryD:=⟨0,0,0,0,0,[],⟨#[]⟩,0,0⟩
/-- The entry that bytes are, or why not. -/
def readE (b:List UInt8):EntryD×Nat:=if (!(readH b).2.2 && (readH b).2.1.isEmpty)=true∧rightE (readH b).1=0 then ((readH b).1,0) else (zeroD,12)
theorem numS_len (l:List UInt8) (b:Bool):(numS l b).2.1.length≤l.length:=by
 unfold numS
 split
 ·exact Nat.le_refl _
 ·simp only [List.length_drop];omega
theorem intS_len (l:List UInt8) (b:Bool):(intS l b).2.1.length≤l.length:=by
 unfold intS
 split <;> exact numS_len l b
theorem countS_len (l:List UInt8) (b:Bool) (m:Nat):(countS l b m).2.1.length≤l.length:=by
 unfold countS
 split <;> exact intS_len l b
theorem countS_most (l:List UInt8) (b:Bool) (m:Nat):(countS l b m).1≤m:=by
 unfold countS
 split
 ·simp
 ·omega
theorem textS_len (l:List UInt8) (b:Bool):(textS l b).2.1.length≤l.length∧(textS l b).1.length≤l.length:=by
 unfold textS
 split
 ·simp
 ·refine ⟨by simp only [List.length_drop];omega,?_⟩
  unfold cutL
  split
  ·simp
  ·simp only [List.length_take,List.length_drop];omega
theorem byteS_len (l:List UInt8) (b:Bool):(byteS l b).2.1.length≤l.length:=by
 unfold byteS
 split
 ·exact Nat.le_refl _
 ·cases l <;> simp
theorem getDs_short:∀ (n:Nat) (l:List UInt8) (b:Bool),(∀ d∈(getDs n l b).1,d.ser.size≤l.length∧NOk d)∧(getDs n l b).1.length=n
 | 0,_,_=>⟨by simp [getDs],rfl⟩
 | n + 1,l,b=>by
  have h1:=textS_len l b
  have h2:=numS_len (textS l b).2.1 (textS l b).2.2
  have h4:=numS_lt (textS l b).2.1 (textS l b).2.2
  obtain ⟨h3,h5⟩:=getDs_short n (numS (textS l b).2.1 (textS l b).2.2).2.1 (numS (textS l b).2.1 (textS l b).2.2).2.2
  rw [getDs]
  refine ⟨fun d hd=>?_,by simp only [List.length_cons,h5]⟩
  rcases List.mem_cons.1 hd with rfl | hd
  ·refine ⟨h1.2,?_⟩
   unfold NOk
   simp only []
   omega
  ·obtain ⟨h6,h7⟩:=h3 d hd
   exact ⟨by omega,h7⟩
theorem readX_two (fr tag:Nat) (l:List UInt8) (b:Bool):readX 2 fr tag l b=(⟨(2:Nat),0,0,0,0,[],⟨(textS l b).1.toArray⟩,fr,tag⟩,(textS l b).2):=if_pos rfl
theorem readX_else (k fr tag:Nat) (l:List UInt8) (b:Bool) (hk:¬ k=2):∃ a s q p n d,a=countS l b 8∧s=countS a.2.1 a.2.2 4∧q=intS s.2.1 s.2.2∧p=intS q.2.1 q.2.2∧n=countS p.2.1 p.2.2 8∧d=getDs n.1 n.2.1 n.2.2∧
  readX k fr tag l b=(⟨k,a.1,s.1,q.1,p.1,d.1,⟨#[]⟩,fr,tag⟩,d.2):=⟨_,_,_,_,_,_,rfl,rfl,rfl,rfl,rfl,rfl,if_neg hk⟩
theorem readX_all (k fr tag:Nat) (l:List UInt8) (b:Bool) (N:Nat) (h:l.length≤N) (ht:tag≤9223372036854775807):(readX k fr tag l b).1.ser.size≤N∧(∀ d∈(readX k fr tag l b).1.ds,d.ser.size≤N∧NOk d)∧(readX k fr tag l b).1.ds.length≤8∧Wf (readX k fr tag l b).1:=by
 by_cases hk:k=2
 ·subst hk
  have h1:=(textS_len l b).2
  rw [readX_two]
  generalize textS l b=t at *
  refine ⟨?_,fun d hd=>(by cases hd),Nat.zero_le _,?_,?_,?_,fun d hd=>(by cases hd)⟩
  ·show t.1.toArray.size≤N
   rw [List.size_toArray];omega
  ·show (tag:Int)≤_;omega
  ·show (0:Int)≤_;omega
  ·show (0:Int)≤_;omega
 ·obtain ⟨a,s,q,p,n,d,ha,hs,hq,hp,hn,hd,e⟩:=readX_else k fr tag l b hk
  have h1:=countS_len l b 8
  have h2:=countS_len a.2.1 a.2.2 4
  have h3:=intS_len s.2.1 s.2.2
  have h4:=intS_len q.2.1 q.2.2
  have h5:=countS_len p.2.1 p.2.2 8
  have h6:=countS_most p.2.1 p.2.2 8
  have h7:=intS_lt s.2.1 s.2.2
  have h8:=intS_lt q.2.1 q.2.2
  obtain ⟨h9,h10⟩:=getDs_short n.1 n.2.1 n.2.2
  rw [← ha] at h1
  rw [← hs] at h2
  rw [← hq] at h3 h7
  rw [← hp] at h4 h8
  rw [← hn] at h5 h6
  rw [← hd] at h9 h10
  rw [e]
  refine ⟨Nat.zero_le _,fun x hx=>?_,by show d.1.length≤8;omega,?_,?_,?_,fun x hx=>(h9 x hx).2⟩
  ·obtain ⟨h11,h12⟩:=h9 x hx
   exact ⟨by omega,h12⟩
  ·show (tag:Int)≤_;omega
  ·show (q.1:Int)≤_;omega
  ·show (p.1:Int)≤_;omega
theorem readH_eq (l:List UInt8):∃ k f t,k=byteS l false∧f=countS k.2.1 k.2.2 8∧t=intS f.2.1 f.2.2∧readH l=readX k.1.toNat f.1 t.1 t.2.1 t.2.2:=⟨_,_,_,rfl,rfl,rfl,rfl⟩
theorem readH_short (l:List UInt8) (h:l.length < 4294967281):Short (readH l).1∧(readH l).1.ds.length≤8∧Wf (readH l).1:=by
 obtain ⟨k,f,t,hk,hf,ht,e⟩:=readH_eq l
 have h1:=byteS_len l false
 have h2:=countS_len k.2.1 k.2.2 8
 have h3:=intS_len f.2.1 f.2.2
 have h4:=intS_lt f.2.1 f.2.2
 rw [← hk] at h1
 rw [← hf] at h2
 rw [← ht] at h3 h4
 rw [e]
 obtain ⟨h5,h6,h7,h8⟩:=readX_all k.1.toNat f.1 t.1 t.2.1 t.2.2 l.length (by omega) h4
 exact ⟨⟨by omega,fun d hd=>by have:=(h6 d hd).1;omega,by omega⟩,h7,h8⟩
end Go.Proofs.YtambjickanapjaaGreatDoor.Vi
end
