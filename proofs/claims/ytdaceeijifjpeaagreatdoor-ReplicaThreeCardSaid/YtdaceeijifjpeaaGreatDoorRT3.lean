/- Texts put together: Shelf, Lab5, Lab6, Ent1, Ent2, Ent3, Ent4, Ent5, EntB, PlN, Ent6, Ent7, Ent8. -/
import Derived.Shelf.Strings.Builder1
import Derived.Shelf.Strings.Builder2
import Derived.Shelf.Strings.OnBuilder
import Derived.Shelf.Small.Bits
import Derived.Shelf.Strings.BuilderF
import Derived.Shelf.Strings.BuilderK
import Derived.Shelf.Utf8.RuneCount
import Derived.Shelf.Strconv.Itoa0
import Derived.Shelf.Strings.Search1
import Derived.Shelf.Strings.Search2
import Derived.Shelf.Strings.Search3
import Derived.Shelf.Strings.Cut
import Derived.Shelf.Strings.Count
import Derived.Shelf.LaysM
import Derived.Shelf.Strings.Shaped
import Derived.Shelf.Sort.Plain
import Derived.Shelf.Strings.Split
import Derived.Shelf.Strings.SplitShaped
import Derived.Shelf.Unicode.Decode
import Derived.Shelf.Strings.RuneCount
import Derived.Shelf.Strings.Explode
import Derived.Shelf.Unicode.DecodeSlow
import Derived.Shelf.Unicode.DecodeAny
import Derived.Ground.Names2Prog
import Derived.Shelf.Slices.Clone
import Derived.Shelf.Slices.SearchI
import Derived.Shelf.Slices.In.SortNone
import Derived.Ground.SlgnProg
import Derived.Shelf.SlicesE.Clone
import Derived.Ground.SlgmProg
import Derived.Shelf.SortM.Plain
import Derived.Test.YtdaceeijifjpeaaGreatDoorProg
import Derived.Laws.StructEq
import Derived.Shelf.SlicesQ.IndexFunc
import Derived.Deep.DeepCutAuto
import Derived.Test.YtdaceeijifjpeaaGreatDoorRT1
import Derived.Test.YtdaceeijifjpeaaGreatDoorRT2
set_option linter.unusedVariables false
set_option linter.unusedSimpArgs false
section
namespace Go.Proofs
open Go.Shelf
def Tryz.lays156_ren : Go.Shelf.Ren := ⟨fun | 156 => 201 | 165 => 245 | 166 => 246 | 169 => 247 | 240 => 275 | 241 => 276 | 276 => 294 | 277 => 295 | n => n, fun | 31 => 132 | 9 => 9 | 3 => 3 | 4 => 4 | 0 => 0 | 20 => 20 | 72 => 291 | 76 => 295 | 70 => 289 | 37 => 73 | 75 => 294 | 127 => 312 | 164 => 325 | 5 => 5 | 80 => 88 | n => n, fun | n => n⟩
theorem Tryz.lays156 : Go.Proofs.Lays.n156 Tryz.prog Tryz.lays156_ren := {
 mixed := by kernel_rfl
 f156 := Tryz.func201.trans (congrArg some (by kernel_rfl))
 f165 := Tryz.func245.trans (congrArg some (by kernel_rfl))
 f166 := Tryz.func246.trans (congrArg some (by kernel_rfl))
 f169 := Tryz.func247.trans (congrArg some (by kernel_rfl))
 f240 := Tryz.func275.trans (congrArg some (by kernel_rfl))
 f241 := Tryz.func276.trans (congrArg some (by kernel_rfl))
 f276 := Tryz.func294.trans (congrArg some (by kernel_rfl))
 f277 := Tryz.func295.trans (congrArg some (by kernel_rfl))
 t0 := Tryz.underlying0
 a0 := Tryz.isAgg0
 z0 := Tryz.sizeOf0
 v0 := Tryz.zeroValue0
 t3 := Tryz.underlying3
 a3 := Tryz.isAgg3
 z3 := Tryz.sizeOf3
 v3 := Tryz.zeroValue3
 t4 := Tryz.underlying4
 a4 := Tryz.isAgg4
 z4 := Tryz.sizeOf4
 v4 := Tryz.zeroValue4
 t9 := Tryz.underlying9
 a9 := Tryz.isAgg9
 z9 := Tryz.sizeOf9
 v9 := Tryz.zeroValue9
 t20 := Tryz.underlying20
 a20 := Tryz.isAgg20
 z20 := Tryz.sizeOf20
 v20 := Tryz.zeroValue20
 t31 := Tryz.underlying132
 a31 := Tryz.isAgg132
 z31 := Tryz.sizeOf132
 v31 := Tryz.zeroValue132
 t37 := Tryz.underlying73
 a37 := Tryz.isAgg73
 z37 := Tryz.sizeOf73
 v37 := Tryz.zeroValue73
 t70 := Tryz.underlying289
 a70 := Tryz.isAgg289
 z70 := Tryz.sizeOf289
 v70 := Tryz.zeroValue289
 t72 := Tryz.underlying291
 a72 := Tryz.isAgg291
 z72 := Tryz.sizeOf291
 v72 := Tryz.zeroValue291
 t75 := Tryz.underlying294
 a75 := Tryz.isAgg294
 z75 := Tryz.sizeOf294
 v75 := Tryz.zeroValue294
 t76 := Tryz.underlying295
 a76 := Tryz.isAgg295
 z76 := Tryz.sizeOf295
 v76 := Tryz.zeroValue295
 t127 := Tryz.underlying312
 a127 := Tryz.isAgg312
 z127 := Tryz.sizeOf312
 v127 := Tryz.zeroValue312
 t164 := Tryz.underlying325
 a164 := Tryz.isAgg325
 z164 := Tryz.sizeOf325
 v164 := Tryz.zeroValue325 }
theorem Tryz.Builder_Extra_156 : Builder.Extra Tryz.prog Tryz.lays156_ren := {
 sizeBuilder := by kernel_rfl
 liesBuilder := by kernel_rfl
 t5 := Tryz.underlying5
 a5 := Tryz.isAgg5
 z5 := Tryz.sizeOf5
 v5 := Tryz.zeroValue5
 infoByte := by kernel_rfl
 cellsByte := by kernel_rfl
 sizeByte := by kernel_rfl
 neB5 := by decide }
open Go.RowKit in
/-- strings.Join: "Join concatenates the elements of its first argument to create a single string. The separator string sep is placed between elements in the resulting string.": HOWEVER MANY ELEMENTS. Below the heap's end the world is as it was. (LAID: no walk: one application.) -/
theorem Tryz.strings_Join (bk o c : Nat) (xs : List ByteArray) (sep : ByteArray) (w : World) (hcells : ∀ (j : Nat) x, xs[j]? = some x → w.cell? ⟨bk, o + j, none⟩ = some (.string x)) (hbk : bk < w.heap.size) (hN : xs.length ≤ 140737488355328) (hcap : xs.length ≤ c) (hlen : (Lib.join (xs.map (·.data.toList)) sep.data.toList).length ≤ 140737488355328) :
  Calls Tryz.prog 201 #[.slice (some ⟨bk, o, none⟩) xs.length c, .string sep] w fun e w' => e = .returned (.string ⟨(Lib.join (xs.map (·.data.toList)) sep.data.toList).toArray⟩) ∧ Below w.heap.size w w' := Any.strings_Join Tryz.lays156 Tryz.Builder_Extra_156 bk o c xs sep w hcells hbk hN hcap hlen
def Tryz.lays145_ren : Go.Shelf.Ren := ⟨fun | 145 => 147 | 220 => 198 | 219 => 240 | 217 => 270 | 225 => 271 | 224 => 272 | 267 => 273 | 266 => 290 | 314 => 291 | n => n, fun | 9 => 9 | 4 => 4 | 59 => 209 | 3 => 3 | 5 => 5 | 46 => 189 | 146 => 321 | 51 => 234 | n => n, fun | 1 => 0 | n => n⟩
theorem Tryz.lays145 : Go.Proofs.Lays.n145 Tryz.prog Tryz.lays145_ren := {
 mixed := by kernel_rfl
 f145 := Tryz.func147.trans (congrArg some (by kernel_rfl))
 f217 := Tryz.func270.trans (congrArg some (by kernel_rfl))
 f219 := Tryz.func240.trans (congrArg some (by kernel_rfl))
 f220 := Tryz.func198.trans (congrArg some (by kernel_rfl))
 f224 := Tryz.func272.trans (congrArg some (by kernel_rfl))
 f225 := Tryz.func271.trans (congrArg some (by kernel_rfl))
 f266 := Tryz.func290.trans (congrArg some (by kernel_rfl))
 f267 := Tryz.func273.trans (congrArg some (by kernel_rfl))
 f314 := Tryz.func291.trans (congrArg some (by kernel_rfl))
 t3 := Tryz.underlying3
 a3 := Tryz.isAgg3
 z3 := Tryz.sizeOf3
 v3 := Tryz.zeroValue3
 t4 := Tryz.underlying4
 a4 := Tryz.isAgg4
 z4 := Tryz.sizeOf4
 v4 := Tryz.zeroValue4
 t5 := Tryz.underlying5
 a5 := Tryz.isAgg5
 z5 := Tryz.sizeOf5
 v5 := Tryz.zeroValue5
 t9 := Tryz.underlying9
 a9 := Tryz.isAgg9
 z9 := Tryz.sizeOf9
 v9 := Tryz.zeroValue9
 t46 := Tryz.underlying189
 a46 := Tryz.isAgg189
 z46 := Tryz.sizeOf189
 v46 := Tryz.zeroValue189
 t51 := Tryz.underlying234
 a51 := Tryz.isAgg234
 z51 := Tryz.sizeOf234
 v51 := Tryz.zeroValue234
 t59 := Tryz.underlying209
 a59 := Tryz.isAgg209
 z59 := Tryz.sizeOf209
 v59 := Tryz.zeroValue209
 t146 := Tryz.underlying321
 a146 := Tryz.isAgg321
 z146 := Tryz.sizeOf321
 v146 := Tryz.zeroValue321
 g1 := by kernel_rfl }
open Go.RowKit Go.Lib in
/-- strings.Cut: "Cut slices s around the first instance of sep, returning the text before and after sep. The found result reports whether sep appears in s. If sep does not appear in s, cut returns s, "", false.": IT RETURNS 'Lib.cut s sep'; the world is as it was but for the count of draws. (LAID: no walk: one application.) -/
theorem Tryz.strings_Cut (s sep : ByteArray) (m : Int) (w : World) (hs : s.size < 4294967281) (hm : w.cell? ⟨0, 0, none⟩ = some (.int .i64 m)) :
  Calls Tryz.prog 147 #[.string s, .string sep] w fun e w' => e = .returned (.tuple #[.string ⟨(Lib.cut s.data.toList sep.data.toList).1.toArray⟩, .string ⟨(Lib.cut s.data.toList sep.data.toList).2.1.toArray⟩, .bool (Lib.cut s.data.toList sep.data.toList).2.2]) ∧ ∃ n, w' = w.drewN n := Any.strings_Cut Tryz.lays145 s sep m w hs hm
def Tryz.lays189_ren : Go.Shelf.Ren := ⟨fun | 189 => 122 | 125 => 124 | 257 => 156 | 128 => 165 | 129 => 166 | 294 => 208 | 295 => 209 | 296 => 210 | 297 => 211 | 298 => 212 | 299 => 213 | 216 => 214 | 300 => 215 | 301 => 216 | 328 => 251 | 329 => 218 | 330 => 219 | 331 => 252 | 332 => 253 | 215 => 254 | 343 => 286 | n => n, fun | 28 => 22 | 3 => 3 | 46 => 189 | 0 => 0 | 51 => 234 | 53 => 34 | 4 => 4 | 183 => 227 | 182 => 226 | 131 => 231 | 5 => 5 | 9 => 9 | 218 => 274 | 222 => 277 | 228 => 301 | 229 => 302 | n => n, fun | n => n⟩
theorem Tryz.lays189 : Go.Proofs.Lays.n189 Tryz.prog Tryz.lays189_ren := {
 mixed := by kernel_rfl
 f125 := Tryz.func124.trans (congrArg some (by kernel_rfl))
 f128 := Tryz.func165.trans (congrArg some (by kernel_rfl))
 f129 := Tryz.func166.trans (congrArg some (by kernel_rfl))
 f189 := Tryz.func122.trans (congrArg some (by kernel_rfl))
 f215 := Tryz.func254.trans (congrArg some (by kernel_rfl))
 f216 := Tryz.func214.trans (congrArg some (by kernel_rfl))
 f257 := Tryz.func156.trans (congrArg some (by kernel_rfl))
 f294 := Tryz.func208.trans (congrArg some (by kernel_rfl))
 f295 := Tryz.func209.trans (congrArg some (by kernel_rfl))
 f296 := Tryz.func210.trans (congrArg some (by kernel_rfl))
 f297 := Tryz.func211.trans (congrArg some (by kernel_rfl))
 f298 := Tryz.func212.trans (congrArg some (by kernel_rfl))
 f299 := Tryz.func213.trans (congrArg some (by kernel_rfl))
 f300 := Tryz.func215.trans (congrArg some (by kernel_rfl))
 f301 := Tryz.func216.trans (congrArg some (by kernel_rfl))
 f328 := Tryz.func251.trans (congrArg some (by kernel_rfl))
 f329 := Tryz.func218.trans (congrArg some (by kernel_rfl))
 f330 := Tryz.func219.trans (congrArg some (by kernel_rfl))
 f331 := Tryz.func252.trans (congrArg some (by kernel_rfl))
 f332 := Tryz.func253.trans (congrArg some (by kernel_rfl))
 f343 := Tryz.func286.trans (congrArg some (by kernel_rfl))
 t0 := Tryz.underlying0
 a0 := Tryz.isAgg0
 z0 := Tryz.sizeOf0
 v0 := Tryz.zeroValue0
 t3 := Tryz.underlying3
 a3 := Tryz.isAgg3
 z3 := Tryz.sizeOf3
 v3 := Tryz.zeroValue3
 t4 := Tryz.underlying4
 a4 := Tryz.isAgg4
 z4 := Tryz.sizeOf4
 v4 := Tryz.zeroValue4
 t5 := Tryz.underlying5
 a5 := Tryz.isAgg5
 z5 := Tryz.sizeOf5
 v5 := Tryz.zeroValue5
 t9 := Tryz.underlying9
 a9 := Tryz.isAgg9
 z9 := Tryz.sizeOf9
 v9 := Tryz.zeroValue9
 t28 := Tryz.underlying22
 a28 := Tryz.isAgg22
 z28 := Tryz.sizeOf22
 v28 := Tryz.zeroValue22
 t46 := Tryz.underlying189
 a46 := Tryz.isAgg189
 z46 := Tryz.sizeOf189
 v46 := Tryz.zeroValue189
 t51 := Tryz.underlying234
 a51 := Tryz.isAgg234
 z51 := Tryz.sizeOf234
 v51 := Tryz.zeroValue234
 t53 := Tryz.underlying34
 a53 := Tryz.isAgg34
 z53 := Tryz.sizeOf34
 v53 := Tryz.zeroValue34
 t131 := Tryz.underlying231
 a131 := Tryz.isAgg231
 z131 := Tryz.sizeOf231
 v131 := Tryz.zeroValue231
 t182 := Tryz.underlying226
 a182 := Tryz.isAgg226
 z182 := Tryz.sizeOf226
 v182 := Tryz.zeroValue226
 t183 := Tryz.underlying227
 a183 := Tryz.isAgg227
 z183 := Tryz.sizeOf227
 v183 := Tryz.zeroValue227
 t218 := Tryz.underlying274
 a218 := Tryz.isAgg274
 z218 := Tryz.sizeOf274
 v218 := Tryz.zeroValue274
 t222 := Tryz.underlying277
 a222 := Tryz.isAgg277
 z222 := Tryz.sizeOf277
 v222 := Tryz.zeroValue277
 t228 := Tryz.underlying301
 a228 := Tryz.isAgg301
 z228 := Tryz.sizeOf301
 v228 := Tryz.zeroValue301
 t229 := Tryz.underlying302
 a229 := Tryz.isAgg302
 z229 := Tryz.sizeOf302
 v229 := Tryz.zeroValue302 }
open Go.Sort Go.RowKit in
theorem Tryz.slices_Sort_int (blk off cap : Nat) (zs : List Int) (w : World) (hH : Holds (Value.int .i64) w blk off zs.toArray) (hblk : blk < w.heap.size) (hsz : zs.length < 4611686018427387904) :
  Calls Tryz.prog 122 #[.slice (some ⟨blk, off, none⟩) zs.length cap] w fun e w' =>
   e = .returned (.tuple #[]) ∧ ∃ n os, w' = grow (putRow (Value.int .i64) (Sort.ahead w n) blk off (zs.mergeSort fun x y => decide (x ≤ y)).toArray) os := Any.slices_Sort_int Tryz.lays189 blk off cap zs w hH hblk hsz
def Tryz.lays146_ren : Go.Shelf.Ren := ⟨fun | 146 => 146 | 221 => 197 | 268 => 237 | 138 => 238 | 143 => 239 | 195 => 267 | 197 => 268 | 218 => 269 | 219 => 240 | 260 => 289 | 217 => 270 | 225 => 271 | 224 => 272 | 267 => 273 | 266 => 290 | 314 => 291 | n => n, fun | 9 => 9 | 31 => 132 | 3 => 3 | 4 => 4 | 0 => 0 | 105 => 308 | 21 => 21 | 5 => 5 | 46 => 189 | 119 => 330 | 139 => 333 | 138 => 332 | 146 => 321 | 51 => 234 | n => n, fun | 1 => 0 | 3 => 1 | 4 => 2 | n => n⟩
theorem Tryz.lays146 : Go.Proofs.Lays.n146 Tryz.prog Tryz.lays146_ren := {
 mixed := by kernel_rfl
 f138 := Tryz.func238.trans (congrArg some (by kernel_rfl))
 f143 := Tryz.func239.trans (congrArg some (by kernel_rfl))
 f146 := Tryz.func146.trans (congrArg some (by kernel_rfl))
 f195 := Tryz.func267.trans (congrArg some (by kernel_rfl))
 f197 := Tryz.func268.trans (congrArg some (by kernel_rfl))
 f217 := Tryz.func270.trans (congrArg some (by kernel_rfl))
 f218 := Tryz.func269.trans (congrArg some (by kernel_rfl))
 f219 := Tryz.func240.trans (congrArg some (by kernel_rfl))
 f221 := Tryz.func197.trans (congrArg some (by kernel_rfl))
 f224 := Tryz.func272.trans (congrArg some (by kernel_rfl))
 f225 := Tryz.func271.trans (congrArg some (by kernel_rfl))
 f260 := Tryz.func289.trans (congrArg some (by kernel_rfl))
 f266 := Tryz.func290.trans (congrArg some (by kernel_rfl))
 f267 := Tryz.func273.trans (congrArg some (by kernel_rfl))
 f268 := Tryz.func237.trans (congrArg some (by kernel_rfl))
 f314 := Tryz.func291.trans (congrArg some (by kernel_rfl))
 t0 := Tryz.underlying0
 a0 := Tryz.isAgg0
 z0 := Tryz.sizeOf0
 v0 := Tryz.zeroValue0
 t3 := Tryz.underlying3
 a3 := Tryz.isAgg3
 z3 := Tryz.sizeOf3
 v3 := Tryz.zeroValue3
 t4 := Tryz.underlying4
 a4 := Tryz.isAgg4
 z4 := Tryz.sizeOf4
 v4 := Tryz.zeroValue4
 t5 := Tryz.underlying5
 a5 := Tryz.isAgg5
 z5 := Tryz.sizeOf5
 v5 := Tryz.zeroValue5
 t9 := Tryz.underlying9
 a9 := Tryz.isAgg9
 z9 := Tryz.sizeOf9
 v9 := Tryz.zeroValue9
 t21 := Tryz.underlying21
 a21 := Tryz.isAgg21
 z21 := Tryz.sizeOf21
 v21 := Tryz.zeroValue21
 t31 := Tryz.underlying132
 a31 := Tryz.isAgg132
 z31 := Tryz.sizeOf132
 v31 := Tryz.zeroValue132
 t46 := Tryz.underlying189
 a46 := Tryz.isAgg189
 z46 := Tryz.sizeOf189
 v46 := Tryz.zeroValue189
 t51 := Tryz.underlying234
 a51 := Tryz.isAgg234
 z51 := Tryz.sizeOf234
 v51 := Tryz.zeroValue234
 t105 := Tryz.underlying308
 a105 := Tryz.isAgg308
 z105 := Tryz.sizeOf308
 v105 := Tryz.zeroValue308
 t119 := Tryz.underlying330
 a119 := Tryz.isAgg330
 z119 := Tryz.sizeOf330
 t138 := Tryz.underlying332
 a138 := Tryz.isAgg332
 z138 := Tryz.sizeOf332
 v138 := Tryz.zeroValue332
 t139 := Tryz.underlying333
 a139 := Tryz.isAgg333
 z139 := Tryz.sizeOf333
 v139 := Tryz.zeroValue333
 t146 := Tryz.underlying321
 a146 := Tryz.isAgg321
 z146 := Tryz.sizeOf321
 v146 := Tryz.zeroValue321
 g1 := by kernel_rfl
 g3 := by kernel_rfl
 g4 := by kernel_rfl }
open Go.RowKit Go.Lib in
/-- strings.Split. (LAID: no walk: one application.) -/
theorem Tryz.strings_Split (s sep : ByteArray) (m : Int) (w : World) (hs : s.size < 4294967281) (hm : w.cell? ⟨0, 0, none⟩ = some (.int .i64 m)) (h1 : 1 ≤ sep.size) :
  Calls Tryz.prog 146 #[.string s, .string sep] w fun e w' =>
   e = .returned (.slice (some ⟨w.heap.size, 0, none⟩) (Lib.countB s sep + 1) (Lib.countB s sep + 1)) ∧ w' = w.alloc (.cells ((Lib.splitB sep 0 (Lib.countB s sep) s).map Value.string).toArray 9) := Any.strings_Split Tryz.lays146 (by kernel_rfl) s sep m w hs hm h1
end Go.Proofs
end
section
namespace Go.Proofs.YtdaceeijifjpeaaGreatDoor.Vi
open Go.RowKit Base Mem Go.Sort Go.Shelf
def pairB (x : LabD) : ByteArray := x.name ++ ⟨#[61]⟩ ++ x.value
def joinB (l : List LabD) : ByteArray := ⟨(Lib.join ((l.map pairB).map (·.data.toList)) [44]).toArray⟩
/-- A series of labels; else why not. -/
def ltextS (l : List LabD) : ByteArray × Nat := if rightS l = 0 then (joinB (sortL l), 0) else (⟨#[]⟩, rightS l)
theorem pairB_len (x : LabD) : (pairB x).data.toList.length = x.name.size + 1 + x.value.size := by
 unfold pairB
 rw [ByteArray.data_append, ByteArray.data_append, Array.toList_append, Array.toList_append, List.length_append, List.length_append]
 rfl
theorem join_len (l : List LabD) (h : ∀ x ∈ l, x.name.size ≤ 32 ∧ x.value.size ≤ 32) : (Lib.join ((l.map pairB).map (·.data.toList)) [44]).length ≤ 66 * l.length := by
 induction l with
 | nil => simp [Lib.join_nil]
 | cons a r ih =>
  rw [List.map_cons, List.map_cons, Lib.join_cons]
  have ha := h a (by simp)
  have hp := pairB_len a
  have hr : ∀ (r : List LabD), (∀ x ∈ r, x.name.size ≤ 32 ∧ x.value.size ≤ 32) → (Lib.joinTail [44] ((r.map pairB).map (·.data.toList))).length ≤ 66 * r.length := by
   intro r hr
   induction r with
   | nil => simp [Lib.joinTail]
   | cons b q ihq =>
    have hb := hr b (by simp)
    have hpb := pairB_len b
    have := ihq (fun x hx => hr x (List.mem_cons_of_mem _ hx))
    simp only [Lib.joinTail, List.map_cons, List.flatten_cons, List.length_append, List.length_cons, List.length_nil] at this ⊢
    omega
  have := hr r (fun x hx => h x (List.mem_cons_of_mem _ hx))
  rw [List.length_append, List.length_cons]
  omega
theorem okRow_sizes {s : List LabD} (h : okRow s = true) : ∀ x ∈ s, x.name.size ≤ 32 ∧ x.value.size ≤ 32 := by
 intro x hx
 obtain ⟨i, hi, rfl⟩ := List.getElem_of_mem hx
 unfold okRow at h
 rw [List.all_eq_true] at h
 have h1 := h i (List.mem_range.2 hi)
 unfold itemOk at h1
 rw [getElem!_pos s i hi, Bool.and_eq_true, Bool.and_eq_true] at h1
 have h2 := h1.1.1
 have h3 := h1.1.2
 unfold nameOk at h2 h3
 simp at h2 h3
 omega
theorem infoStr : (Tryz.prog.info? 9).map (fun i => (i.zero, i.size, i.bytes)) = some (some (.string ByteArray.empty), 1, 16) := by kernel_rfl
def TextPost (l : List LabD) (w : World) (e : Ending) (w' : World) : Prop := e = .returned (.tuple #[.string (ltextS l).1, .int .i64 (ltextS l).2]) ∧ Below w.heap.size w w'
set_option maxRecDepth 100000 in
theorem ltext_any (v : Value) (l : List LabD) (w : World) (h : Labs w [] v l) (hl : l.length ≤ 4611686018427387904) :
  Calls Tryz.prog 148 #[v] w fun e w' => TextPost l w e w' := by
 have hri := Lib.hid (lright_any v l w h hl)
 have HT : Hid (ltextS l = if rightS l = 0 then (joinB (sortL l), 0) else (⟨#[]⟩, rightS l)) := rfl
 by_cases hr0 : rightS l = 0
 ·have hR : Hid (ltextS l = (joinB (sortL l), 0)) := by show _ = _; rw [HT.out, if_pos hr0]
  have hl8 : l.length ≤ 8 ∧ okRow (sortL l) = true := by
   unfold rightS at hr0
   by_cases h8 : 8 < l.length
   ·rw [if_pos h8] at hr0; cases hr0
   ·rw [if_neg h8] at hr0
    refine ⟨by omega, ?_⟩
    cases hk : okRow (sortL l) with
    | true => rfl
    | false => rw [hk] at hr0; simp at hr0
  obtain ⟨hl8, hok⟩ := hl8
  have hjl := Lib.hid (join_len (sortL l) (okRow_sizes hok))
  have hsz := Lib.hid (okRow_sizes hok)
  rw [hr0] at hri
  have hso := Lib.hid (fun W (hk : Keeps [] w W) => sorted_any v l W (h.keep hk (by simp)) (by omega))
  obtain ⟨A, c, rfl, hc⟩ := h.len
  have hs8 : (sortL l).length ≤ 8 := by rw [sortL_len]; omega
  have hs0 : 0 < (sortL l).length := by
   rw [sortL_len]
   unfold rightS at hr0
   rw [if_neg (by omega), hok] at hr0
   rcases Nat.eq_zero_or_pos l.length with hz | hz
   ·rw [hz] at hr0; simp at hr0
   ·exact hz
  clear h HT hr0 hok
  obtain ⟨i0, hi0, hz0, hz1, hz2⟩ := info_parts infoStr
  have Hi0 := Lib.hid hi0; have Hz0 := Lib.hid hz0; have Hz1 := Lib.hid hz1; have Hz2 := Lib.hid hz2
  clear hi0 hz0 hz1 hz2
  generalize sortL l = s at *
  go_enter Tryz.func148, Tryz.ntmps148
  go_wp2_with fail
  refine hri.out.mono ?_
  rintro e w1 ⟨rfl, hb1⟩
  have hso1 := Lib.hid (hso.out w1 (Keeps.of_below hb1))
  have Hb1 := Lib.hid hb1
  clear hb1 hri hso
  go_wp2_with fail
  refine hso1.out.mono ?_
  rintro e w2 ⟨A1, rfl, hA, hb2⟩
  have HA := Lib.hid (hA [] (by simp)); have Hb2 := Lib.hid (below_then Hb1.out hb2)
  clear hA hb2 hso1 Hb1
  go_wp2_with fail
  go_loopw [5, 16] (fun out i wr => ∃ x : Nat, i = .int .i64 x ∧ x ≤ s.length ∧ Hid (wr.ownsRow w2.heap.size 9 1 out x ((s.take x).map fun y => Value.string (pairB y))) ∧ Hid (Below w2.heap.size w2 wr)) (fun _ i _ => s.length - (intOf i).toNat)
  case atStart => exact ⟨0, rfl, by omega, World.ownsRow_nil _ _ _ _, Below.refl _ _⟩
  case round =>
   obtain ⟨x, rfl, hx, Hown, Hbr⟩ := hrel
   by_cases hlt : x < s.length
   ·have hx1 : (x : Int) < (s.length : Int) := by omega
    obtain ⟨g, off, _, e1, hg, c0, c1⟩ := (HA.out.keep (Keeps.of_below (M := []) Hbr.out) (by simp)).at_ hlt
    obtain rfl : A1 = some ⟨g, off, none⟩ := by injection e1
    clear e1
    have Htk : Hid (s.take (x + 1) = s.take x ++ [s[x]]) := List.take_succ_eq_append_getElem hlt
    have Hpb : Hid (pairB s[x] = s[x].name ++ ⟨#[61]⟩ ++ s[x].value) := rfl
    have hd32 := hsz.out s[x] (List.getElem_mem _)
    generalize s[x] = d at *
    have k1 : ¬ (9223372036854775807 < d.name.size + 1) := by omega
    have k2 : ¬ (9223372036854775807 < d.name.size + 1 + d.value.size) := by omega
    have k3 : ¬ (9223372036854775807 < (d.name ++ ⟨#[61]⟩).size + d.value.size) := by rw [ByteArray.size_append]; exact k2
    clear hd32
    have Hrd : Hid (Reads ((wr.alloc (.cells #[.string d.name, .string d.value] 212)).alloc (.cells #[.string (d.name ++ ⟨#[61]⟩ ++ d.value)] 9)) (wr.heap.size + 2) 1 (some ⟨wr.heap.size + 1, 0, none⟩) 1 [.string (d.name ++ ⟨#[61]⟩ ++ d.value)]) := by
     have := reads_new (wr.alloc (.cells #[.string d.name, .string d.value] 212)) 9 1 1 [.string (d.name ++ ⟨#[61]⟩ ++ d.value)] rfl
     show Reads _ _ _ _ _ _
     simpa using this
    have Hown3 := Lib.hid ((Hown.out.alloc (.cells #[.string d.name, .string d.value] 212)).alloc (.cells #[.string (d.name ++ ⟨#[61]⟩ ++ d.value)] 9))
    have hz2 : w2.heap.size ≤ wr.heap.size := Hbr.out.size
    have hb0 : w2.heap.size ≤ ((wr.alloc (.cells #[.string d.name, .string d.value] 212)).alloc (.cells #[.string (d.name ++ ⟨#[61]⟩ ++ d.value)] 9)).heap.size := by simp; omega
    have hm1 : x + 1 ≤ maxLen := by unfold maxLen; omega
    have hm2 : (x + 1) * 16 ≤ 140737488355328 := by omega
    have hone : ∀ u ∈ [Value.string (d.name ++ ⟨#[61]⟩ ++ d.value)], u.oneCell' = true := by intro u hu; simp at hu; subst hu; rfl
    have Hb0 := Lib.hid hb0; have Hm1 := Lib.hid hm1; have Hm2 := Lib.hid hm2; have Hone := Lib.hid hone
    clear hb0 hm1 hm2 hone
    go_wp2_with (at_builtin; refine wpList_append_any _ rfl (.tmp 20) (.tmp 27) _ rfl w2.heap.size 9 i0 _ 1 16 Tryz.underlying132 Hi0.out Hz0.out Hz1.out Hz2.out rfl (by omega) u5 x ((s.take x).map fun y => Value.string (pairB y)) rfl Hown3.out (wr.heap.size + 2) (some ⟨wr.heap.size + 1, 0, none⟩) 1 1 [.string (d.name ++ ⟨#[61]⟩ ++ d.value)] rfl Hrd.out Hone.out Hm1.out Hm2.out Hb0.out ?_)
    intro v4 w4 hown4 hg4 hat4
    have Hown4 : Hid (w4.ownsRow w2.heap.size 9 1 v4 (x + 1) ((s.take (x + 1)).map fun y => Value.string (pairB y))) := by
     show World.ownsRow _ _ _ _ _ _ _
     rw [Htk.out, List.map_append, List.map_cons, List.map_nil, Hpb.out, List.map_take]
     exact hown4
    have Hb4 : Hid (Below w2.heap.size w2 w4) := ((Hbr.out.alloc Hbr.out.size _).alloc (by simp; omega) _).grown hg4 (by simp; omega) (fun g hg => (Hown.out.lt g hg).1)
    clear hown4 hg4 hat4
    go_wp2
    go_roundw
    case rel => exact ⟨x + 1, by go_num, by omega, Hown4, Hb4⟩
    case measure => simp [intOf] <;> omega
   ·obtain rfl : x = s.length := by omega
    have hrow : ∃ g c, u5 = .slice (some ⟨g, 0, none⟩) s.length c ∧ s.length ≤ c ∧ g < wr.heap.size ∧ ∀ (j : Nat) x, (s.map pairB)[j]? = some x → wr.cell? ⟨g, 0 + j, none⟩ = some (.string x) := by
     have h1 := Hown.out
     rw [List.take_length] at h1
     obtain ⟨g, cap, hv, hge, hgl⟩ := h1.form hs0
     subst hv
     have hrd := Rd.of_own (M := []) h1 (by simp)
     obtain ⟨A', c', he, hc', _, hx⟩ := hrd
     injection he with e1 _ e3
     subst e1 e3
     obtain ⟨g', off', e, _, _, hcell⟩ := hx hs0
     injection e with e
     injection e with e1 e2 _
     subst e1 e2
     refine ⟨g, cap, rfl, hc', hgl, fun j x hjx => hcell j _ ?_⟩
     rw [List.getElem?_map] at hjx ⊢
     cases hsj : s[j]? with
     | none => rw [hsj] at hjx; cases hjx
     | some d => rw [hsj] at hjx; injection hjx with hjx; rw [← hjx]; rfl
    obtain ⟨g, cj, rfl, hcj, hgl, hcell⟩ := hrow
    have hjo := Tryz.strings_Join g 0 cj (s.map pairB) ⟨#[44]⟩ wr hcell hgl (by rw [List.length_map]; omega) (by rw [List.length_map]; exact hcj) (Nat.le_trans hjl.out (by omega))
    rw [List.length_map] at hjo
    have Hjo := Lib.hid (show Calls Tryz.prog 201 #[.slice (some ⟨g, 0, none⟩) s.length cj, .string ⟨#[44]⟩] wr fun e w' => e = .returned (.string (joinB s)) ∧ Below wr.heap.size wr w' from hjo)
    have Hall := Lib.hid (below_then Hb2.out Hbr.out)
    clear hjo hcell
    go_wp2_with fail
    refine Hjo.out.mono ?_
    rintro e w5 ⟨rfl, hb5⟩
    have hp : Hid (TextPost l w (.returned (.tuple #[.string (joinB s), .int .i64 0])) w5) := by
     exact ⟨by rw [hR.out]; rfl, below_then Hall.out hb5⟩
    clear hb5
    go_wp2
    go_ret2
    exact hp.out
 ·have hR : Hid (ltextS l = (⟨#[]⟩, rightS l)) := by show _ = _; rw [HT.out, if_neg hr0]
  obtain ⟨A, c, rfl, hc⟩ := h.len
  have hri2 : ((rightS l : Int) != 0) = true := by simpa using hr0
  clear h HT hr0
  have hp : Hid (∀ w1, Below w.heap.size w w1 → TextPost l w (.returned (.tuple #[.string ⟨#[]⟩, .int .i64 (rightS l)])) w1) := fun w1 hb => ⟨by rw [hR.out], hb⟩
  generalize rightS l = r at *
  go_enter Tryz.func148, Tryz.ntmps148
  go_wp2_with fail
  refine hri.out.mono ?_
  rintro e w1 ⟨rfl, hb1⟩
  have Hp := Lib.hid (hp.out _ hb1)
  clear hb1 hp
  go_wp2
  go_ret2
  exact Hp.out
def partsS (s : ByteArray) : List ByteArray := Lib.splitB ⟨#[44]⟩ 0 (Lib.countB s ⟨#[44]⟩) s
def cutD (p : ByteArray) : LabD := ⟨⟨(Lib.cut p.data.toList [61]).1.toArray⟩, ⟨(Lib.cut p.data.toList [61]).2.1.toArray⟩⟩
def labsS (s : ByteArray) : List LabD := (partsS s).map cutD
/-- Is a text a series? -/
def serOk (s : ByteArray) : Bool := decide ((ltextS (labsS s)).2 = 0) && (ltextS (labsS s)).1.toList == s.toList
theorem splitB_size (sep : ByteArray) : ∀ (k : Nat) (s : ByteArray), ∀ p ∈ Lib.splitB sep 0 k s, p.size ≤ s.size
 | 0, s, p, h => by rw [Lib.splitB_zero] at h; simp at h; subst h; exact Nat.le_refl _
 | k + 1, s, p, h => by
  unfold Lib.splitB at h
  split at h
  ·simp at h; subst h; exact Nat.le_refl _
  ·rcases List.mem_cons.1 h with h | h
   ·subst h; rw [ByteArray.size_extract]; omega
   ·have := splitB_size sep k _ p h
    rw [ByteArray.size_extract] at this
    omega
def ParsePost (s : ByteArray) (w : World) (e : Ending) (w' : World) : Prop := ∃ v, e = .returned (.tuple #[v, .int .i64 (if serOk s = true then 0 else 12)]) ∧ Below w.heap.size w w'
set_option maxRecDepth 100000 in
set_option maxHeartbeats 1000000 in
theorem parse_any (s : ByteArray) (m : Int) (w : World) (hs : s.size < 4294967281) (hm : w.cell? ⟨0, 0, none⟩ = some (.int .i64 m)) :
  Calls Tryz.prog 118 #[.string s] w fun e w' => ParsePost s w e w' := by
 have hsp := Lib.hid (Tryz.strings_Split s ⟨#[44]⟩ m w hs hm (by decide))
 have hsz := Lib.hid (splitB_size ⟨#[44]⟩ (Lib.countB s ⟨#[44]⟩) s)
 have hcl := Lib.countB_le ⟨#[44]⟩ (by decide) s.size s (Nat.le_refl _)
 have hln : (partsS s).length = Lib.countB s ⟨#[44]⟩ + 1 := Lib.splitB_all ⟨#[44]⟩ (by decide) 0 _ s rfl
 have hw0 : 0 < w.heap.size := by
  rcases Nat.eq_zero_or_pos w.heap.size with h | h
  ·exfalso
   have := World.block_lt_of_cell? w _ hm
   simp at this; omega
  ·exact h
 have Hm := Lib.hid hm
 have HO : Hid (serOk s = (decide ((ltextS (labsS s)).2 = 0) && (ltextS (labsS s)).1.toList == s.toList)) := rfl
 have HL : Hid (labsS s = (partsS s).map cutD) := rfl
 obtain ⟨i0, hi0, hz0, hz1, hz2⟩ := info_parts infoLabel
 have Hi0 := Lib.hid hi0; have Hz0 := Lib.hid hz0; have Hz1 := Lib.hid hz1; have Hz2 := Lib.hid hz2
 clear hi0 hz0 hz1 hz2 hm
 have hps : Hid (∀ p ∈ partsS s, p.size ≤ s.size) := hsz.out
 have hpd : Hid (partsS s = Lib.splitB ⟨#[44]⟩ 0 (Lib.countB s ⟨#[44]⟩) s) := rfl
 rw [← hpd.out] at hsp
 rw [← hln] at hsp
 have hlen : (partsS s).length ≤ 4294967295 := by omega
 clear hsz hpd hln hcl
 generalize partsS s = ps at *
 generalize labsS s = ls at *
 go_enter Tryz.func118, Tryz.ntmps118
 go_wp2_with fail
 refine hsp.out.mono ?_
 rintro e w1 ⟨rfl, hw1⟩
 have hb1 : Below w.heap.size w w1 := by rw [hw1]; exact (Below.refl _ _).alloc (Nat.le_refl _) _
 have hB1 : Blk w1 w.heap.size 9 (ps.map Value.string).toArray := by rw [hw1]; exact Blk.new w _ _
 have Hb1 := Lib.hid hb1; have HB1 := Lib.hid hB1
 have hw1s : w.heap.size < w1.heap.size := hB1.lt
 clear hw1 hb1 hB1 hsp
 go_wp2_with fail
 go_loopw [4, 15] (fun out i wr => ∃ x : Nat, i = .int .i64 x ∧ x ≤ ps.length ∧ Hid (wr.ownsRow w1.heap.size 212 2 out x (((ps.take x).map cutD).flatMap labEnc)) ∧ Hid (Below w1.heap.size w1 wr)) (fun _ i _ => ps.length - (intOf i).toNat)
 case atStart => exact ⟨0, rfl, by omega, World.ownsRow_nil _ _ _ _, Below.refl _ _⟩
 case round =>
  obtain ⟨x, rfl, hx, Hown, Hbr⟩ := hrel
  by_cases hlt : x < ps.length
  ·have hx1 : (x : Int) < (ps.length : Int) := by omega
   have c0 : wr.cell? ⟨w.heap.size, x, none⟩ = some (.string ps[x]) := by
    rw [(HB1.out.below Hbr.out hw1s).cell x, List.getElem?_toArray, List.getElem?_map, List.getElem?_eq_getElem hlt]; rfl
   have Htk : Hid (ps.take (x + 1) = ps.take x ++ [ps[x]]) := List.take_succ_eq_append_getElem hlt
   have hpx := hps.out ps[x] (List.getElem_mem _)
   have hmr : wr.cell? ⟨0, 0, none⟩ = some (.int .i64 m) := (Hbr.out.cell (p := ⟨0, 0, none⟩) (by simp; omega)).trans ((Hb1.out.cell (p := ⟨0, 0, none⟩) hw0).trans Hm.out)
   generalize ps[x] = p at *
   have hcu := Lib.hid (Tryz.strings_Cut p ⟨#[61]⟩ m wr (by omega) hmr)
   have Hcd : Hid (cutD p = ⟨⟨(Lib.cut p.data.toList [61]).1.toArray⟩, ⟨(Lib.cut p.data.toList [61]).2.1.toArray⟩⟩) := rfl
   have hcu2 := Lib.hid (show Calls Tryz.prog 147 #[.string p, .string ⟨#[61]⟩] wr fun e w' => e = .returned (.tuple #[.string (cutD p).name, .string (cutD p).value, .bool (Lib.cut p.data.toList [61]).2.2]) ∧ ∃ n, w' = wr.drewN n from hcu.out)
   clear hcu Hcd hmr hpx
   generalize hd : cutD p = d at *
   have Hd := Lib.hid hd
   generalize (Lib.cut p.data.toList [61]).2.2 = fnd at *
   clear hd
   have Htk2 : Hid ((ps.take (x + 1)).map cutD = (ps.take x).map cutD ++ [d]) := by show _ = _; rw [Htk.out, List.map_append, List.map_cons, List.map_nil, Hd.out]
   have hz2 : w1.heap.size ≤ wr.heap.size := Hbr.out.size
   have Hm1 : Hid (x + 1 ≤ maxLen) := by show _ ≤ _; unfold maxLen; omega
   have Hm2 : Hid ((x + 1) * 32 ≤ 140737488355328) := by show _ ≤ _; omega
   have Hone : Hid (∀ u ∈ labEnc d, u.oneCell' = true) := fun u hu => by simp [labEnc] at hu; rcases hu with rfl | rfl <;> rfl
   have Hown3 : Hid (∀ n, ((wr.drewN n).alloc (.cells #[.string d.name, .string d.value] 212)).ownsRow w1.heap.size 212 2 u4 x (((ps.take x).map cutD).flatMap labEnc)) := fun n =>
    own_keep Hown.out (((Keeps.refl [] wr).drewN n).alloc _) (by simp)
   have Hrd : Hid (∀ n, Reads ((wr.drewN n).alloc (.cells #[.string d.name, .string d.value] 212)) (wr.heap.size + 1) 2 (some ⟨wr.heap.size, 0, none⟩) 1 (labEnc d)) := fun n => reads_new (wr.drewN n) 212 2 1 (labEnc d) rfl
   clear Htk Hd
   go_wp2_with fail
   refine hcu2.out.mono ?_
   rintro e w3 ⟨rfl, n, rfl⟩
   go_wp2_with (at_builtin; refine wpList_append_any _ rfl (.tmp 25) (.tmp 29) _ rfl w1.heap.size 212 i0 _ 2 32 Tryz.underlying182 Hi0.out Hz0.out Hz1.out Hz2.out rfl (by omega) u4 x (((ps.take x).map cutD).flatMap labEnc) rfl (Hown3.out n) (wr.heap.size + 1) (some ⟨wr.heap.size, 0, none⟩) 1 1 (labEnc d) rfl (Hrd.out n) Hone.out Hm1.out Hm2.out (by simp; omega) ?_)
   intro v4 w4 hown4 hg4 hat4
   have Hown4 : Hid (w4.ownsRow w1.heap.size 212 2 v4 (x + 1) (((ps.take (x + 1)).map cutD).flatMap labEnc)) := by
    show World.ownsRow _ _ _ _ _ _ _
    rw [Htk2.out, List.flatMap_append]
    simpa using hown4
   have Hb4 : Hid (Below w1.heap.size w1 w4) := (((Keeps.of_below (M := []) Hbr.out).drewN n).alloc _).below.grown hg4 (by simp; omega) (fun g hg => (Hown.out.lt g hg).1)
   clear hown4 hg4 hat4
   go_wp2
   go_roundw
   case rel => exact ⟨x + 1, by go_num, by omega, Hown4, Hb4⟩
   case measure => simp [intOf] <;> omega
  ·obtain rfl : x = ps.length := by omega
   have hown := Hown.out
   rw [List.take_length, ← HL.out] at hown
   have hll : ps.length = ls.length := by rw [HL.out, List.length_map]
   rw [hll] at hown
   have hlab : Labs wr [] u4 ls := Rd.of_own hown (by simp)
   have htx := Lib.hid (show Calls Tryz.prog 148 #[u4] wr fun e w' => e = .returned (.tuple #[.string (ltextS ls).1, .int .i64 (ltextS ls).2]) ∧ Below wr.heap.size wr w' from ltext_any u4 ls wr hlab (by rw [← hll]; omega))
   obtain ⟨A4, c4, rfl, hc4⟩ := hlab.len
   have Hall := Lib.hid (below_then Hb1.out Hbr.out)
   have hp : Hid (∀ v w', Below wr.heap.size wr w' → ParsePost s w (.returned (.tuple #[v, .int .i64 (if serOk s = true then 0 else 12)])) w') := fun v w' hb => ⟨v, rfl, below_then Hall.out hb⟩
   clear hown hlab hll Hown
   generalize ltextS ls = t at *
   obtain ⟨t1, t2⟩ := t
   simp only at HO htx
   go_wp2_with fail
   refine htx.out.mono ?_
   rintro e w5 ⟨rfl, hb5⟩
   by_cases h2 : t2 = 0
   ·subst h2
    by_cases h3 : (t1.toList == s.toList) = true
    ·have hok : Hid (serOk s = true) := by show _ = _; rw [HO.out, h3]; rfl
     have Hp := Lib.hid (hp.out (.slice A4 ls.length ls.length) w5 hb5)
     rw [hok.out, if_pos rfl] at Hp
     clear hp htx hb5
     go_wp2_with fail
     refine (clipLabel A4 ls.length c4 _ hc4).mono ?_
     rintro e w' ⟨rfl, rfl⟩
     go_wp2
     go_ret2
     exact Hp.out
    ·have h3' : (t1.toList == s.toList) = false := by simpa using h3
     have hok : Hid (serOk s = false) := by show _ = _; rw [HO.out, h3']; rfl
     have Hp := Lib.hid (hp.out (.slice none 0 0) w5 hb5)
     rw [hok.out, if_neg (by simp)] at Hp
     clear hp htx hb5 h3
     go_wp2
     go_ret2
     exact Hp.out
   ·have hne : ((t2 : Int) != 0) = true := by simpa using h2
    have hok : Hid (serOk s = false) := by show _ = _; rw [HO.out, decide_eq_false h2]; rfl
    have Hp := Lib.hid (hp.out (.slice none 0 0) w5 hb5)
    rw [hok.out, if_neg (by simp)] at Hp
    clear hp htx hb5 h2
    go_wp2
    go_ret2
    exact Hp.out
end Go.Proofs.YtdaceeijifjpeaaGreatDoor.Vi
end
section
namespace Go.Proofs.YtdaceeijifjpeaaGreatDoor.Vi
open Go.RowKit Base Mem
def withinB (n e : Int) : Bool := decide (0 ≤ n) && decide (n < e)
theorem within2_any (n e : Int) (w : World) : Calls Tryz.prog 116 #[.int .i64 n, .int .i64 e] w fun r w' => r = .returned (.bool (withinB n e)) ∧ w' = w := by
 by_cases h0 : 0 ≤ n
 ·by_cases h1 : n < e
  ·have hR : Hid (withinB n e = true) := by show _ = _; simp [withinB, h0, h1]
   rw [hR.out]
   go_enter Tryz.func116, Tryz.ntmps116
   go_wp2
   go_ret
   exact ⟨rfl, rfl⟩
  ·have hR : Hid (withinB n e = false) := by show _ = _; simp [withinB, h1]
   rw [hR.out]
   have h1' : decide (n < e) = false := decide_eq_false h1
   go_enter Tryz.func116, Tryz.ntmps116
   go_wp2
   go_ret
   exact ⟨rfl, rfl⟩
 ·have hR : Hid (withinB n e = false) := by show _ = _; simp [withinB, h0]
  rw [hR.out]
  have h0' : decide (0 ≤ n) = false := decide_eq_false h0
  go_enter Tryz.func116, Tryz.ntmps116
  go_wp2
  go_ret
  exact ⟨rfl, rfl⟩
def eqI (a b c d e f : Int) : Bool := a == d && (b == e && c == f)
theorem eqI_run (a b c d e f : Int) (r : Bool) (h : eqI a b c d e f = r) (w : World) : (binOp .eql 30 (.agg #[.int .i64 a, .int .i64 b, .int .i64 c]) (.agg #[.int .i64 d, .int .i64 e, .int .i64 f])).run Tryz.prog w = .ok (.bool r) w := by
 subst h
 have u3 := Tryz.underlying3
 have a3 := Tryz.isAgg3
 have z3 := Tryz.sizeOf3
 have hS : Tryz.prog.underlying 30 = some (.struct (Tryz.prog.fieldsOf 30)) := by kernel_rfl
 have hp : Tryz.prog.stoodInHeld 30 = false := by kernel_rfl
 simp only [eqI]
 rw [run_eql_struct, show (10000 : Nat) = 9999 + 1 from rfl, run_equalIn_agg w 9999 30 _ _ hS hp]
 simp only [Program.fieldsOf, Tryz.underlying30]
 go_simp
 by_cases h1 : a = d <;> by_cases h2 : b = e <;> by_cases h3 : c = f <;> simp [h1, h2, h3]
def kindS (e : EntryD) : Bool := if e.kind = 1 then e.ser.toList.isEmpty else if e.kind = 2 then eqI e.ag e.sh e.seq 0 0 0 && e.ep == 0 && e.ds.length == 0 else false
def BoolPost (b : Bool) (w : World) (r : Ending) (w' : World) : Prop := r = .returned (.bool b) ∧ Below w.heap.size w w'
theorem kind_any (e : EntryD) (A : Option Addr) (c : Nat) (w : World) :
  Calls Tryz.prog 115 #[.agg (eCell (e, .slice A e.ds.length c)).toArray] w fun r w' => BoolPost (kindS e) w r w' := by
 obtain ⟨kind, ag, sh, seq, ep, ds, ser, fr, tag⟩ := e
 have HK : Hid (kindS ⟨kind, ag, sh, seq, ep, ds, ser, fr, tag⟩ = if kind = 1 then ser.toList.isEmpty else if kind = 2 then eqI ag sh seq 0 0 0 && ep == 0 && ds.length == 0 else false) := rfl
 have hb : Hid (∀ o, Below w.heap.size w (w.alloc o)) := fun o => (Below.refl _ _).alloc (Nat.le_refl _) o
 generalize hn : ds.length = n at *
 simp only [eCell]
 clear hn
 by_cases h1 : kind = 1
 ·have hR : Hid (kindS ⟨kind, ag, sh, seq, ep, ds, ser, fr, tag⟩ = ser.toList.isEmpty) := by show _ = _; rw [HK.out, if_pos h1]
  subst h1
  go_enter Tryz.func115, Tryz.ntmps115
  go_wp2
  all_goals go_ret
  all_goals exact ⟨by rw [hR.out]; simp, hb.out _⟩
 ·have h1' : (kind == 1) = false := by simpa using h1
  by_cases h2 : kind = 2
  ·have hR : Hid (kindS ⟨kind, ag, sh, seq, ep, ds, ser, fr, tag⟩ = (eqI ag sh seq 0 0 0 && ep == 0 && n == 0)) := by show _ = _; rw [HK.out, if_neg h1, if_pos h2]
   have h2' : (kind == 2) = true := by simpa using h2
   clear h1 h2
   cases h3 : eqI ag sh seq 0 0 0 with
   | false =>
    have he := fun W => eqI_run ag sh seq 0 0 0 false h3 W
    have hR2 : Hid (kindS ⟨kind, ag, sh, seq, ep, ds, ser, fr, tag⟩ = false) := by show _ = _; rw [hR.out, h3]; rfl
    rw [hR2.out]
    clear h3
    go_enter Tryz.func115, Tryz.ntmps115
    go_wp2
    go_ret
    exact ⟨rfl, hb.out _⟩
   | true =>
    have he := fun W => eqI_run ag sh seq 0 0 0 true h3 W
    have hR1 : Hid (kindS ⟨kind, ag, sh, seq, ep, ds, ser, fr, tag⟩ = (true && ep == 0 && n == 0)) := by show _ = _; rw [hR.out, h3]
    clear h3
    cases h4 : (ep == 0) with
    | false =>
     have hR2 : Hid (kindS ⟨kind, ag, sh, seq, ep, ds, ser, fr, tag⟩ = false) := by show _ = _; rw [hR1.out, h4]; simp
     rw [hR2.out]
     go_enter Tryz.func115, Tryz.ntmps115
     go_wp2
     go_ret
     exact ⟨rfl, hb.out _⟩
    | true =>
     have hR2 : Hid (kindS ⟨kind, ag, sh, seq, ep, ds, ser, fr, tag⟩ = ((n : Int) == 0)) := by
      show _ = _
      rw [hR1.out, h4]
      cases n with
      | zero => rfl
      | succ n =>
       rw [show ((n + 1 : Nat) == 0) = false from rfl]
       symm
       rw [Bool.and_false, beq_eq_false_iff_ne]
       omega
     rw [hR2.out]
     go_enter Tryz.func115, Tryz.ntmps115
     go_wp2
     go_ret
     exact ⟨rfl, hb.out _⟩
  ·have h2' : (kind == 2) = false := by simpa using h2
   have hR : Hid (kindS ⟨kind, ag, sh, seq, ep, ds, ser, fr, tag⟩ = false) := by show _ = _; rw [HK.out, if_neg h1, if_neg h2]
   rw [hR.out]
   clear h1 h2
   go_enter Tryz.func115, Tryz.ntmps115
   go_wp2
   go_ret
   exact ⟨rfl, hb.out _⟩
end Go.Proofs.YtdaceeijifjpeaaGreatDoor.Vi
end
section
namespace Go.Proofs.YtdaceeijifjpeaaGreatDoor.Vi
open Go.RowKit Base Mem Go.Shelf
instance : Inhabited DeltaD := ⟨⟨⟨#[]⟩, 0⟩⟩
def badId (e : EntryD) : Bool := !(withinB e.ag 8) || !(withinB e.sh 4) || decide (e.seq < 1) || decide (e.ep < 1)
def writtenS (e : EntryD) : Nat := if badId e = true then 1 else if 8 < e.ds.length then 3 else if (e.ds.length == 0 || e.ds.any fun d => d.n == 0) = true then 1 else if (e.ds.all fun d => serOk d.ser) = true then 0 else 12
theorem zero_any (d : DeltaD) (w : World) : Calls Tryz.prog 145 #[.agg #[.string d.ser, .int .u64 d.n]] w fun r w' => r = .returned (.bool (d.n == 0)) ∧ Below w.heap.size w w' := by
 have hb : Hid (∀ o, Below w.heap.size w (w.alloc o)) := fun o => (Below.refl _ _).alloc (Nat.le_refl _) o
 go_enter Tryz.func145, Tryz.ntmps145
 go_wp2
 go_ret
 exact ⟨rfl, hb.out _⟩
theorem ds_cells {w : World} {M : List Nat} {v : Value} {l : List DeltaD} (h : Ds w M v l) (h0 : 0 < l.length) : ∃ g off c, v = .slice (some ⟨g, off, none⟩) l.length c ∧ g < w.heap.size ∧ ∀ j, j < l.length → ∀ i u, (dCell l[j]!)[i]? = some u → w.cell? ⟨g, off + j * 2 + i, none⟩ = some u := by
 obtain ⟨g, off, c, e, _, hg, _, _⟩ := Rd.at_ dCell 2 (fun _ => rfl) h h0
 refine ⟨g, off, c, e, hg, fun j hj i u hu => ?_⟩
 obtain ⟨g2, off2, c2, e2, _, _, _, hx⟩ := Rd.at_ dCell 2 (fun _ => rfl) h hj
 rw [e] at e2
 injection e2 with e2 _ _
 injection e2 with e2
 injection e2 with e3 e4 _
 subst e3 e4
 exact hx i u (by rw [← getElem!_pos l j hj]; exact hu)
theorem anyzero_any (v : Value) (l : List DeltaD) (w : World) (h : Ds w [] v l) (h0 : 0 < l.length) (hl : l.length ≤ 8) :
  Calls Tryz.prog 144 #[v, .func (.func 145) #[] #[]] w fun r w' => r = .returned (.bool (l.any fun d => d.n == 0)) ∧ Below w.heap.size w w' := by
 obtain ⟨g, off, c, rfl, hg, hc⟩ := ds_cells h h0
 have heg : ∀ args w, (callFunc 145 args).run Tryz.prog w = .ok (.enter 145 args) w := enters_of Tryz.func145 (by kernel_rfl) rfl
 have hp : PredBelow Tryz.prog 145 #[] (fun x => .agg (dCell x).toArray) (fun d => d.n == 0) w := fun W x hb => by
  refine Calls.mono (zero_any x W) ?_
  rintro r w' ⟨rfl, hb2⟩
  exact ⟨rfl, hb.trans (hb2.mono hb.size)⟩
 have := AnyQ.slices_ContainsFunc Tryz.containsFuncDelta 2 Tryz.isAgg91 Tryz.sizeOf91 dCell (fun _ => rfl) (fun d => d.n == 0) 145 #[] heg g off l.length c l w hp (Nat.le_refl _) (by omega) hg hc
 rw [List.take_length] at this
 exact this
set_option maxRecDepth 100000 in
set_option maxHeartbeats 1000000 in
theorem written_any (e : EntryD) (dv : Value) (m : Int) (w : World) (h : Ds w [] dv e.ds) (hs : ∀ d ∈ e.ds, d.ser.size < 4294967281) (hl : e.ds.length ≤ 4611686018427387904) (hm : w.cell? ⟨0, 0, none⟩ = some (.int .i64 m)) :
  Calls Tryz.prog 117 #[.agg (eCell (e, dv)).toArray] w fun r w' => NumPost (writtenS e) w r w' := by
 have HW : Hid (writtenS e = if badId e = true then 1 else if 8 < e.ds.length then 3 else if (e.ds.length == 0 || e.ds.any fun d => d.n == 0) = true then 1 else if (e.ds.all fun d => serOk d.ser) = true then 0 else 12) := rfl
 have hw0 : 0 < w.heap.size := by
  have := World.block_lt_of_cell? w _ hm
  simpa using this
 obtain ⟨kind, ag, sh, seq, ep, ds, ser, fr, tag⟩ := e
 simp only [] at h hs hl HW
 have HB : Hid (badId ⟨kind, ag, sh, seq, ep, ds, ser, fr, tag⟩ = (!(withinB ag 8) || !(withinB sh 4) || decide (seq < 1) || decide (ep < 1))) := rfl
 generalize writtenS ⟨kind, ag, sh, seq, ep, ds, ser, fr, tag⟩ = wr0 at *
 generalize badId ⟨kind, ag, sh, seq, ep, ds, ser, fr, tag⟩ = bad at *
 have hwi := Lib.hid (fun a b W => within2_any a b W)
 obtain ⟨A, c, rfl, hc⟩ := h.len
 obtain ⟨w2, hw2⟩ : ∃ w2, w2 = w.alloc (.cells #[.int .i64 kind, .int .i64 ag, .int .i64 sh, .int .i64 seq, .int .i64 ep, .slice A ds.length c, .string ser, .int .i64 fr, .int .i64 tag] 33) := ⟨_, rfl⟩
 have hB : Blk w2 w.heap.size 33 #[.int .i64 kind, .int .i64 ag, .int .i64 sh, .int .i64 seq, .int .i64 ep, .slice A ds.length c, .string ser, .int .i64 fr, .int .i64 tag] := by rw [hw2]; exact Blk.new w _ _
 have hk2 : Keeps [] w w2 := by rw [hw2]; exact (Keeps.refl _ _).alloc _
 have c1 := hB.cell 1; have c2 := hB.cell 2; have c3 := hB.cell 3; have c4 := hB.cell 4; have c5 := hB.cell 5
 simp only [List.getElem?_toArray, List.getElem?_cons_succ, List.getElem?_cons_zero] at c1 c2 c3 c4 c5
 have Hm := Lib.hid hm; have Hs := Lib.hid hs; have Hk2 := Lib.hid hk2; have Hw2 := Lib.hid hw2; have HD := Lib.hid (h.keep hk2 (by simp))
 clear hm hs hk2 hw2 h hB
 show Calls Tryz.prog 117 #[.agg #[.int .i64 kind, .int .i64 ag, .int .i64 sh, .int .i64 seq, .int .i64 ep, .slice A ds.length c, .string ser, .int .i64 fr, .int .i64 tag]] w fun r w' => NumPost wr0 w r w'
 go_enter Tryz.func117, Tryz.ntmps117
 go_upto_region 1 with (fail)
 rw [← Hw2.out]
 go_cut [7] (fun s wx => s = .bool bad ∧ wx = w2)
 case first =>
  cases h1 : withinB ag 8 with
  | false =>
   have hb : Hid (bad = true) := by show _ = _; rw [HB.out, h1]; simp
   clear HB HW
   go_wp2_with (go_at_call 116; refine (hwi.out _ _ _).mono ?_; rintro r w' ⟨rfl, rfl⟩; rw [h1])
   go_meet
   exact ⟨by rw [hb.out], rfl⟩
  | true =>
   cases h2 : withinB sh 4 with
   | false =>
    have hb : Hid (bad = true) := by show _ = _; rw [HB.out, h1, h2]; simp
    clear HB HW
    go_wp2_with (go_at_call 116; refine (hwi.out _ _ _).mono ?_; rintro r w' ⟨rfl, rfl⟩; first | rw [h1] | rw [h2])
    go_meet
    exact ⟨by rw [hb.out], rfl⟩
   | true =>
    by_cases h3 : seq < 1
    ·have hb : Hid (bad = true) := by show _ = _; rw [HB.out, h1, h2, decide_eq_true h3]; simp
     clear HB HW
     go_wp2_with (go_at_call 116; refine (hwi.out _ _ _).mono ?_; rintro r w' ⟨rfl, rfl⟩; first | rw [h1] | rw [h2])
     go_meet
     exact ⟨by rw [hb.out], rfl⟩
    ·have h3' : decide (seq < 1) = false := decide_eq_false h3
     have hb : Hid (bad = decide (ep < 1)) := by show _ = _; rw [HB.out, h1, h2, h3']; simp
     clear HB HW
     by_cases h4 : ep < 1
     ·go_wp2_with (go_at_call 116; refine (hwi.out _ _ _).mono ?_; rintro r w' ⟨rfl, rfl⟩; first | rw [h1] | rw [h2])
      go_meet
      exact ⟨by rw [hb.out, decide_eq_true h4], rfl⟩
     ·have h4' : decide (ep < 1) = false := decide_eq_false h4
      go_wp2_with (go_at_call 116; refine (hwi.out _ _ _).mono ?_; rintro r w' ⟨rfl, rfl⟩; first | rw [h1] | rw [h2])
      go_meet
      exact ⟨by rw [hb.out, h4'], rfl⟩
 case rest =>
  obtain ⟨rfl, rfl⟩ := hcut
  have hbel : Hid (Below w.heap.size w wc) := Hk2.out.below
  have hwc : w.heap.size ≤ wc.heap.size := Hk2.out.size
  clear HB hwi
  cases bad with
  | true =>
   have hR : Hid (wr0 = 1) := by show _ = _; rw [HW.out, if_pos rfl]
   clear HW
   go_wp2
   go_ret
   exact ⟨by rw [hR.out]; rfl, hbel.out⟩
  | false =>
   by_cases h8 : 8 < ds.length
   ·have hR : Hid (wr0 = 3) := by show _ = _; rw [HW.out, if_neg (by simp), if_pos h8]
    have h8i : (8 : Int) < (ds.length : Int) := by omega
    clear HW
    go_wp2
    go_ret
    exact ⟨by rw [hR.out]; rfl, hbel.out⟩
   ·have h8i : decide ((8 : Int) < (ds.length : Int)) = false := decide_eq_false (by omega)
    by_cases hn : ds.length = 0
    ·have hR : Hid (wr0 = 1) := by show _ = _; rw [HW.out, if_neg (by simp), if_neg h8, hn]; rfl
     have hni : ((ds.length : Int) == 0) = true := by rw [beq_iff_eq]; omega
     clear HW
     go_wp2
     go_ret
     exact ⟨by rw [hR.out]; rfl, hbel.out⟩
    ·have hni : ((ds.length : Int) == 0) = false := by rw [beq_eq_false_iff_ne]; omega
     have HW2 : Hid (wr0 = if (ds.any fun d => d.n == 0) = true then 1 else if (ds.all fun d => serOk d.ser) = true then 0 else 12) := by
      show _ = _
      rw [HW.out, if_neg (by simp), if_neg h8, show (ds.length == 0) = false by rw [beq_eq_false_iff_ne]; omega, Bool.false_or]
     have haz := Lib.hid (anyzero_any _ ds wc HD.out (by omega) (by omega))
     clear HW
     generalize (ds.any fun d => d.n == 0) = az at *
     go_wp2_with fail
     refine haz.out.mono ?_
     rintro r w3 ⟨rfl, hb3⟩
     have Hb3 := Lib.hid (below_then hbel.out hb3)
     have HD3 := Lib.hid (HD.out.keep (Keeps.of_below (M := []) hb3) (by simp))
     have hm3 : w3.cell? ⟨0, 0, none⟩ = some (.int .i64 m) := (Hb3.out.cell (p := ⟨0, 0, none⟩) hw0).trans Hm.out
     have Hm3 := Lib.hid hm3
     have d5 : w3.cell? ⟨w.heap.size, 5, none⟩ = some (.slice A ds.length c) := (hb3.cell (p := ⟨w.heap.size, 5, none⟩) (World.block_lt_of_cell? wc _ c5)).trans c5
     clear haz hb3 hm3
     cases az with
     | true =>
      have hR : Hid (wr0 = 1) := by show _ = _; rw [HW2.out, if_pos rfl]
      clear HW2
      go_wp2
      go_ret
      exact ⟨by rw [hR.out]; rfl, Hb3.out⟩
     | false =>
      have HW3 : Hid (wr0 = if (ds.all fun d => serOk d.ser) = true then 0 else 12) := by show _ = _; rw [HW2.out, if_neg (by simp)]
      have hw30 : 0 < w3.heap.size := by have := Hb3.out.size; omega
      clear HW2
      go_wp2_with fail
      go_loopw [49] (fun i wr => ∃ x : Nat, i = .int .i64 x ∧ x ≤ ds.length ∧ Hid (((ds.take x).all fun d => serOk d.ser) = true) ∧ Hid (Below w3.heap.size w3 wr)) (fun i _ => ds.length - (intOf i).toNat)
      case atStart => exact ⟨0, rfl, by omega, rfl, Below.refl _ _⟩
      case round =>
       obtain ⟨x, rfl, hx, Hall, Hbr⟩ := hrel
       by_cases hlt : x < ds.length
       ·have hx1 : (x : Int) < (ds.length : Int) := by omega
        obtain ⟨g, off, _, e1, _, hg, _, hcell⟩ := Rd.at_ dCell 2 (fun _ => rfl) (HD3.out.keep (Keeps.of_below (M := []) Hbr.out) (by simp)) hlt
        obtain rfl : A = some ⟨g, off, none⟩ := by injection e1
        clear e1
        have p0 := hcell 0 _ rfl
        have p1 := hcell 1 _ rfl
        rw [Nat.add_zero] at p0
        have hsx := Hs.out ds[x] (List.getElem_mem _)
        have Hnx : Hid (((ds.take (x + 1)).all fun d => serOk d.ser) = serOk ds[x].ser) := by
         show _ = _
         rw [List.take_succ_eq_append_getElem hlt, List.all_append, Hall.out]; simp
        have Hbad : Hid (serOk ds[x].ser = false → wr0 = 12) := fun h => by
         rw [HW3.out, if_neg]
         intro hall
         rw [List.all_eq_true] at hall
         have := hall ds[x] (List.getElem_mem _)
         rw [h] at this; cases this
        have hcell2 : (wr.alloc (.cells #[.string ds[x].ser, .int .u64 ds[x].n] 91)).cell? ⟨0, 0, none⟩ = some (.int .i64 m) := by
         rw [World.cell?_alloc_lt _ _ _ (by have := Hbr.out.size; simp; omega)]
         exact (Hbr.out.cell (p := ⟨0, 0, none⟩) hw30).trans Hm3.out
        have hpa := Lib.hid (parse_any ds[x].ser m _ hsx hcell2)
        have Hbra : Hid (Below w3.heap.size w3 (wr.alloc (.cells #[.string ds[x].ser, .int .u64 ds[x].n] 91))) := Hbr.out.alloc Hbr.out.size _
        clear hcell hcell2 hsx
        generalize ds[x] = d at *
        obtain ⟨dser, dn⟩ := d
        simp only [] at *
        cases hok : serOk dser with
        | true =>
         have ho : Hid (((ds.take (x + 1)).all fun d => serOk d.ser) = true) := by show _ = _; rw [Hnx.out, hok]
         have hpa2 := Lib.hid (show Calls Tryz.prog 118 #[.string dser] (wr.alloc (.cells #[.string dser, .int .u64 dn] 91)) fun e w' => ∃ v, e = .returned (.tuple #[v, .int .i64 0]) ∧ Below (wr.alloc (.cells #[.string dser, .int .u64 dn] 91)).heap.size (wr.alloc (.cells #[.string dser, .int .u64 dn] 91)) w' by
          have := hpa.out; unfold ParsePost at this; rwa [hok, if_pos rfl] at this)
         clear hpa Hbad Hnx hok
         go_wp2_with fail
         refine hpa2.out.mono ?_
         rintro r w4 ⟨v4, rfl, hb4⟩
         have Hb4 := Lib.hid (below_then Hbra.out hb4)
         clear hb4
         go_wp2
         go_roundw
         case rel => exact ⟨x + 1, by go_num, by omega, ho.out, Hb4.out⟩
         case measure => simp [intOf] <;> omega
        | false =>
         have hR := Lib.hid (Hbad.out hok)
         have hpa2 := Lib.hid (show Calls Tryz.prog 118 #[.string dser] (wr.alloc (.cells #[.string dser, .int .u64 dn] 91)) fun e w' => ∃ v, e = .returned (.tuple #[v, .int .i64 12]) ∧ Below (wr.alloc (.cells #[.string dser, .int .u64 dn] 91)).heap.size (wr.alloc (.cells #[.string dser, .int .u64 dn] 91)) w' by
          have := hpa.out; unfold ParsePost at this; rwa [hok, if_neg (by simp)] at this)
         clear hpa Hbad Hnx hok
         go_wp2_with fail
         refine hpa2.out.mono ?_
         rintro r w4 ⟨v4, rfl, hb4⟩
         have Hb4 := Lib.hid (below_then Hb3.out (below_then Hbra.out hb4))
         clear hb4
         go_wp2
         go_ret
         exact ⟨by rw [hR.out]; rfl, Hb4.out⟩
       ·obtain rfl : x = ds.length := by omega
        have hR : Hid (wr0 = 0) := by
         show _ = _
         have := Hall.out
         rw [List.take_length] at this
         rw [HW3.out, if_pos this]
        go_wp2
        go_ret
        exact ⟨by rw [hR.out]; rfl, below_then Hb3.out Hbr.out⟩
def rightE (e : EntryD) : Nat := if kindS e = false then 12 else if (!(withinB e.fr 8) || decide (e.tag < 0)) = true then 1 else if e.kind = 1 then writtenS e else if serOk e.ser = true then 0 else 12
/-- No text of an entry is longer than the library's search takes. -/
def Short (e : EntryD) : Prop := e.ser.size < 4294967281 ∧ (∀ d ∈ e.ds, d.ser.size < 4294967281) ∧ e.ds.length ≤ 4611686018427387904
set_option maxRecDepth 100000 in
set_option maxHeartbeats 1000000 in
theorem eright_any (e : EntryD) (dv : Value) (m : Int) (w : World) (h : Ds w [] dv e.ds) (hs : Short e) (hm : w.cell? ⟨0, 0, none⟩ = some (.int .i64 m)) :
  Calls Tryz.prog 75 #[.agg (eCell (e, dv)).toArray] w fun r w' => NumPost (rightE e) w r w' := by
 have HR : Hid (rightE e = if kindS e = false then 12 else if (!(withinB e.fr 8) || decide (e.tag < 0)) = true then 1 else if e.kind = 1 then writtenS e else if serOk e.ser = true then 0 else 12) := rfl
 have hw0 : 0 < w.heap.size := by
  have := World.block_lt_of_cell? w _ hm
  simpa using this
 obtain ⟨hs1, hs2, hs3⟩ := hs
 have hkd := Lib.hid (fun A c W => kind_any e A c W)
 have hwr := Lib.hid (fun W (hk : Keeps [] w W) (hmW : W.cell? ⟨0, 0, none⟩ = some (.int .i64 m)) => written_any e dv m W (h.keep hk (by simp)) hs2 hs3 hmW)
 have hpa := Lib.hid (fun W (hmW : W.cell? ⟨0, 0, none⟩ = some (.int .i64 m)) => parse_any e.ser m W hs1 hmW)
 obtain ⟨A, c, rfl, hc⟩ := h.len
 generalize rightE e = rr at *
 generalize kindS e = ks at *
 generalize writtenS e = ws at *
 obtain ⟨kind, ag, sh, seq, ep, ds, ser, fr, tag⟩ := e
 simp only [] at h hs1 hs2 hs3 hkd hwr hpa HR hc
 have hwi := Lib.hid (fun a b W => within2_any a b W)
 obtain ⟨w2, hw2⟩ : ∃ w2, w2 = w.alloc (.cells #[.int .i64 kind, .int .i64 ag, .int .i64 sh, .int .i64 seq, .int .i64 ep, .slice A ds.length c, .string ser, .int .i64 fr, .int .i64 tag] 33) := ⟨_, rfl⟩
 have hB : Blk w2 w.heap.size 33 #[.int .i64 kind, .int .i64 ag, .int .i64 sh, .int .i64 seq, .int .i64 ep, .slice A ds.length c, .string ser, .int .i64 fr, .int .i64 tag] := by rw [hw2]; exact Blk.new w _ _
 have hk2 : Keeps [] w w2 := by rw [hw2]; exact (Keeps.refl _ _).alloc _
 have Hm := Lib.hid hm; have Hk2 := Lib.hid hk2; have Hw2 := Lib.hid hw2; have HB := Lib.hid hB
 clear hm hk2 hw2 h hs1 hs2 hs3
 have hkd2 : Hid (∀ W, Calls Tryz.prog 115 #[.agg #[.int .i64 kind, .int .i64 ag, .int .i64 sh, .int .i64 seq, .int .i64 ep, .slice A ds.length c, .string ser, .int .i64 fr, .int .i64 tag]] W fun r w' => r = .returned (.bool ks) ∧ Below W.heap.size W w') := fun W => hkd.out A c W
 have hwr2 : Hid (∀ W, Keeps [] w W → W.cell? ⟨0, 0, none⟩ = some (.int .i64 m) → Calls Tryz.prog 117 #[.agg #[.int .i64 kind, .int .i64 ag, .int .i64 sh, .int .i64 seq, .int .i64 ep, .slice A ds.length c, .string ser, .int .i64 fr, .int .i64 tag]] W fun r w' => r = .returned (.int .i64 ws) ∧ Below W.heap.size W w') := fun W hk hmW => hwr.out W hk hmW
 clear hkd hwr
 have c0 := hB.cell 0; have c1 := hB.cell 1; have c2 := hB.cell 2; have c3 := hB.cell 3; have c4 := hB.cell 4; have c5 := hB.cell 5; have c6 := hB.cell 6; have c7 := hB.cell 7; have c8 := hB.cell 8
 simp only [List.getElem?_toArray, List.getElem?_cons_succ, List.getElem?_cons_zero] at c0 c1 c2 c3 c4 c5 c6 c7 c8
 clear hB
 show Calls Tryz.prog 75 #[.agg #[.int .i64 kind, .int .i64 ag, .int .i64 sh, .int .i64 seq, .int .i64 ep, .slice A ds.length c, .string ser, .int .i64 fr, .int .i64 tag]] w fun r w' => NumPost rr w r w'
 go_enter Tryz.func75, Tryz.ntmps75
 go_upto_region 1 with (fail)
 rw [← Hw2.out]
 go_wp2_with fail
 refine (hkd2.out _).mono ?_
 rintro r w3 ⟨rfl, hb3⟩
 have hw2s : w.heap.size < w2.heap.size := HB.out.lt
 have HB3 := Lib.hid (HB.out.below hb3 hw2s)
 have Hk3 : Hid (Keeps [] w w3) := Hk2.out.trans (Keeps.of_below (M := []) hb3) (by simp)
 have c0 := HB3.out.cell 0; have c1 := HB3.out.cell 1; have c2 := HB3.out.cell 2; have c3 := HB3.out.cell 3; have c4 := HB3.out.cell 4; have c5 := HB3.out.cell 5; have c6 := HB3.out.cell 6; have c7 := HB3.out.cell 7; have c8 := HB3.out.cell 8
 simp only [List.getElem?_toArray, List.getElem?_cons_succ, List.getElem?_cons_zero] at c0 c1 c2 c3 c4 c5 c6 c7 c8
 have hm3 : Hid (w3.cell? ⟨0, 0, none⟩ = some (.int .i64 m)) := (Hk3.out.cell (p := ⟨0, 0, none⟩) hw0 (by simp)).trans Hm.out
 clear hb3 hkd2
 cases ks with
 | false =>
  have hR : Hid (rr = 12) := by show _ = _; rw [HR.out, if_pos rfl]
  clear HR
  go_wp2
  go_ret
  exact ⟨by rw [hR.out]; rfl, Hk3.out.below⟩
 | true =>
  have HR2 : Hid (rr = if (!(withinB fr 8) || decide (tag < 0)) = true then 1 else if kind = 1 then ws else if serOk ser = true then 0 else 12) := by show _ = _; rw [HR.out, if_neg (by simp)]
  clear HR
  cases h1 : withinB fr 8 with
  | false =>
   have hR : Hid (rr = 1) := by show _ = _; rw [HR2.out, h1]; rfl
   clear HR2
   go_wp2_with (go_at_call 116; refine (hwi.out _ _ _).mono ?_; rintro r w' ⟨rfl, rfl⟩; rw [h1])
   go_ret
   exact ⟨by rw [hR.out]; rfl, Hk3.out.below⟩
  | true =>
   by_cases h2 : tag < 0
   ·have hR : Hid (rr = 1) := by show _ = _; rw [HR2.out, h1, decide_eq_true h2]; rfl
    clear HR2
    go_wp2_with (go_at_call 116; refine (hwi.out _ _ _).mono ?_; rintro r w' ⟨rfl, rfl⟩; rw [h1])
    go_ret
    exact ⟨by rw [hR.out]; rfl, Hk3.out.below⟩
   ·have h2' : decide (tag < 0) = false := decide_eq_false h2
    have HR3 : Hid (rr = if kind = 1 then ws else if serOk ser = true then 0 else 12) := by show _ = _; rw [HR2.out, h1, h2', if_neg (by simp)]
    clear HR2
    by_cases h3 : kind = 1
    ·have hR : Hid (rr = ws) := by show _ = _; rw [HR3.out, if_pos h3]
     have h3' : (kind == 1) = true := by simpa using h3
     have hw := Lib.hid (hwr2.out w3 Hk3.out hm3.out)
     clear HR3 h3 hwr2
     go_wp2_with (go_at_call 116; refine (hwi.out _ _ _).mono ?_; rintro r w' ⟨rfl, rfl⟩; rw [h1])
     refine hw.out.mono ?_
     rintro r w4 ⟨rfl, hb4⟩
     have hb5 := Lib.hid (below_then Hk3.out.below hb4)
     clear hb4
     go_wp2
     go_ret
     exact ⟨by rw [hR.out]; rfl, hb5.out⟩
    ·have h3' : (kind == 1) = false := by simpa using h3
     have hR : Hid (rr = if serOk ser = true then 0 else 12) := by show _ = _; rw [HR3.out, if_neg h3]
     have hp := Lib.hid (hpa.out w3 hm3.out)
     clear HR3 h3 hwr2 hpa
     go_wp2_with (go_at_call 116; refine (hwi.out _ _ _).mono ?_; rintro r w' ⟨rfl, rfl⟩; rw [h1])
     refine hp.out.mono ?_
     rintro r w4 ⟨v4, rfl, hb4⟩
     have hb5 := Lib.hid (below_then Hk3.out.below hb4)
     clear hb4 hp
     cases hok : serOk ser with
     | true =>
      have hR2 : Hid (rr = 0) := by show _ = _; rw [hR.out, hok]; rfl
      simp only [if_true]
      clear hR
      go_wp2
      go_ret
      exact ⟨by rw [hR2.out]; rfl, hb5.out⟩
     | false =>
      have hR2 : Hid (rr = 12) := by show _ = _; rw [hR.out, hok]; rfl
      clear hR
      go_wp2
      go_ret
      exact ⟨by rw [hR2.out]; rfl, hb5.out⟩
def dBytes (d : DeltaD) : List UInt8 := Lib.uvarint d.ser.size ++ sB d.ser ++ Lib.uvarint d.n.toNat
def NOk (d : DeltaD) : Prop := 0 ≤ d.n ∧ d.n < 18446744073709551616
def EPutPost (M : List Nat) (l : List UInt8) (w : World) (e : Ending) (w' : World) : Prop := ∃ A, e = .returned (.slice A l.length l.length) ∧ Bs w' M (.slice A l.length l.length) l ∧ Below w.heap.size w w'
set_option maxRecDepth 100000 in
set_option maxHeartbeats 1000000 in
theorem eput_any (M : List Nat) (A : Option Addr) (l : List UInt8) (dv : Value) (ds : List DeltaD) (w : World) (hM : ∀ g ∈ M, g < w.heap.size) (hb : Bs w M (.slice A l.length l.length) l) (h : Ds w [] dv ds) (hn : ∀ d ∈ ds, NOk d)
    (hl : ds.length ≤ 4611686018427387904) (hsz : l.length + (ds.flatMap dBytes).length ≤ 140737488355000) :
    Calls Tryz.prog 190 #[.slice A l.length l.length, dv] w fun e w' => EPutPost M (l ++ ds.flatMap dBytes) w e w' := by
  obtain ⟨Ad, cd, rfl, hcd⟩ := h.len
  have Hh := Lib.hid h; have Hb := Lib.hid hb; have Hn := Lib.hid hn; have HM := Lib.hid hM; have Hsz := Lib.hid hsz
  clear h hb hn hM hsz
  go_enter Tryz.func190, Tryz.ntmps190
  go_wp2_with fail
  go_loopw [0, 9] (fun b i wr => ∃ (x : Nat) (A' : Option Addr) (L : List UInt8), i = .int .i64 x ∧ x ≤ ds.length ∧ b = .slice A' L.length L.length ∧ Hid (L = l ++ (ds.take x).flatMap dBytes) ∧ Hid (Bs wr M (.slice A' L.length L.length) L) ∧ Hid (Below w.heap.size w wr)) (fun _ i _ => ds.length - (intOf i).toNat)
  case atStart => exact ⟨0, A, l, rfl, by omega, rfl, (show l = l ++ (ds.take 0).flatMap dBytes by simp), Hb.out, Below.refl _ _⟩
  case round =>
    obtain ⟨x, A', L, rfl, hx, rfl, HL, HB, Hbr⟩ := hrel
    by_cases hlt : x < ds.length
    · have hx1 : (x : Int) < (ds.length : Int) := by omega
      obtain ⟨g, off, _, e1, _, hg, _, hcell⟩ := Rd.at_ dCell 2 (fun _ => rfl) (Hh.out.keep (Keeps.of_below (M := []) Hbr.out) (by simp)) hlt
      obtain rfl : Ad = some ⟨g, off, none⟩ := by injection e1
      clear e1
      have p0 := hcell 0 _ rfl
      have p1 := hcell 1 _ rfl
      rw [Nat.add_zero] at p0
      obtain ⟨hn0, hn1⟩ := Hn.out ds[x] (List.getElem_mem _)
      have htk : ds.take (x + 1) = ds.take x ++ [ds[x]] := List.take_succ_eq_append_getElem hlt
      have HL2 : Hid (L ++ dBytes ds[x] = l ++ (ds.take (x + 1)).flatMap dBytes) := by show _ = _; rw [htk, List.flatMap_append, HL.out]; simp
      have hlen : L.length + (dBytes ds[x]).length ≤ 140737488355000 := by
        have h1 := congrArg List.length HL2.out
        rw [List.length_append, List.length_append] at h1
        have h2 : ((ds.take (x + 1)).flatMap dBytes).length ≤ (ds.flatMap dBytes).length := by
          conv => rhs; rw [← List.take_append_drop (x + 1) ds, List.flatMap_append, List.length_append]
          omega
        have := Hsz.out
        omega
      have hsizes : (dBytes ds[x]).length = (Lib.uvarint ds[x].ser.size).length + ds[x].ser.size + (Lib.uvarint ds[x].n.toNat).length := by
        unfold dBytes; rw [List.length_append, List.length_append]; rfl
      have hdb : dBytes ds[x] = Lib.uvarint ds[x].ser.size ++ sB ds[x].ser ++ Lib.uvarint ds[x].n.toNat := rfl
      clear hcell htk
      generalize hdd : ds[x] = d at *
      obtain ⟨dser, dn⟩ := d
      simp only [] at p0 p1 hn0 hn1 hsizes hdb
      obtain ⟨n, rfl⟩ := Int.eq_ofNat_of_zero_le hn0
      rw [Int.toNat_natCast] at hsizes hdb
      have hbl := Blk.new wr 91 #[.string dser, .int .u64 n]
      have d0 := hbl.cell 0; have d1 := hbl.cell 1
      simp only [List.getElem?_toArray, List.getElem?_cons_succ, List.getElem?_cons_zero] at d0 d1
      have ka : Keeps [] wr (wr.alloc (.cells #[.string dser, .int .u64 n] 91)) := (Keeps.refl _ _).alloc _
      have hbn : wr.heap.size < (wr.alloc (.cells #[.string dser, .int .u64 n] 91)).heap.size := by simp
      have Htx : Hid (Calls Tryz.prog 139 #[.slice A' L.length L.length, .string dser] (wr.alloc (.cells #[.string dser, .int .u64 n] 91)).drew fun e w' => BsPost (L ++ Lib.uvarint dser.size ++ sB dser) (wr.alloc (.cells #[.string dser, .int .u64 n] 91)).drew e w') :=
        text_any _ L dser _ ((HB.out.avoid (M' := []) (by simp)).keep ka.drew (by simp)) (by omega)
      have Hpt : Hid (∀ W A2, Bs W [] (.slice A2 (L ++ Lib.uvarint dser.size ++ sB dser).length (L ++ Lib.uvarint dser.size ++ sB dser).length) (L ++ Lib.uvarint dser.size ++ sB dser) → Calls Tryz.prog 111 #[.slice A2 (L ++ Lib.uvarint dser.size ++ sB dser).length (L ++ Lib.uvarint dser.size ++ sB dser).length, .int .u64 n] W fun e w' => BsPost (L ++ dBytes ⟨dser, n⟩) W e w') := fun W A2 h2 => by
        have := put_any _ (L ++ Lib.uvarint dser.size ++ sB dser) n W h2 (by omega) (by rw [List.length_append, List.length_append]; have : (sB dser).length = dser.size := rfl; omega)
        rw [hdb]
        simpa only [List.append_assoc] using this
      generalize hL2 : L ++ Lib.uvarint dser.size ++ sB dser = L2 at *
      generalize hL3 : L ++ dBytes ⟨dser, n⟩ = L3 at *
      have HMr : Hid (∀ g ∈ M, g < wr.heap.size) := fun g hg => Nat.lt_of_lt_of_le (HM.out g hg) Hbr.out.size
      have Hka := Lib.hid (show Below wr.heap.size wr (wr.alloc (.cells #[.string dser, .int .u64 n] 91)).drew from ka.drew.below)
      clear hlen hsizes hdb hL2 hL3 hbl ka hdd
      go_wp2_with fail
      go_region_held3 (fun w' => w'.cell? ⟨wr.heap.size, 0, none⟩ = some (.string dser) ∧ w'.cell? ⟨wr.heap.size, 1, none⟩ = some (.int .u64 n)) (first | exact ⟨r0, r1⟩ | exact ⟨q0, q1⟩ | exact ⟨d0, d1⟩) (first
        | (go_at_call 139
           refine Htx.out.mono ?_
           rintro e w5 ⟨A5, rfl, hR5, hb5⟩
           have HR5 := Lib.hid (hR5 [] (by simp))
           have Hb5 := Lib.hid (below_then Hka.out hb5)
           have q0 : w5.cell? ⟨wr.heap.size, 0, none⟩ = some (.string dser) := (hb5.cell (p := ⟨wr.heap.size, 0, none⟩) hbn).trans d0
           have q1 : w5.cell? ⟨wr.heap.size, 1, none⟩ = some (.int .u64 n) := (hb5.cell (p := ⟨wr.heap.size, 1, none⟩) hbn).trans d1
           have Hbn5 := Lib.hid (show wr.heap.size < w5.heap.size from Nat.lt_of_lt_of_le hbn hb5.size)
           clear hR5 hb5)
        | (go_at_call 111
           refine (Hpt.out _ A5 HR5.out).mono ?_
           rintro e w6 ⟨A6, rfl, hR6, hb6⟩
           have HR6 := Lib.hid (hR6 M (fun g hg => Nat.lt_of_lt_of_le (HMr.out g hg) Hb5.out.size))
           have Hb6 := Lib.hid (below_then Hb5.out hb6)
           have r0 : w6.cell? ⟨wr.heap.size, 0, none⟩ = some (.string dser) := (hb6.cell (p := ⟨wr.heap.size, 0, none⟩) Hbn5.out).trans q0
           have r1 : w6.cell? ⟨wr.heap.size, 1, none⟩ = some (.int .u64 n) := (hb6.cell (p := ⟨wr.heap.size, 1, none⟩) Hbn5.out).trans q1
           clear hR6 hb6))
      all_goals
        go_wp2
        go_roundw
        case rel => exact ⟨x + 1, A6, L3, by go_num, by omega, rfl, HL2, HR6.out, below_then Hbr.out Hb6.out⟩
        case measure => simp [intOf] <;> omega
    · obtain rfl : x = ds.length := by omega
      have hfin : Hid (L = l ++ ds.flatMap dBytes) := by show _ = _; rw [HL.out, List.take_length]
      have hp : Hid (EPutPost M (l ++ ds.flatMap dBytes) w (.returned (.slice A' L.length L.length)) wr) := by
        show EPutPost _ _ _ _ _
        rw [← hfin.out]
        exact ⟨A', rfl, HB.out, Hbr.out⟩
      go_wp2
      go_ret
      exact hp.out
def headB (k fr tag : Nat) : List UInt8 := [UInt8.ofNat k] ++ Lib.uvarint fr ++ Lib.uvarint tag
def bytesE (e : EntryD) : List UInt8 := headB e.kind.toNat e.fr.toNat e.tag.toNat ++ (if e.kind = 2 then Lib.uvarint e.ser.size ++ sB e.ser else
 Lib.uvarint e.ag.toNat ++ Lib.uvarint e.sh.toNat ++ Lib.uvarint e.seq.toNat ++ Lib.uvarint e.ep.toNat ++ Lib.uvarint e.ds.length ++ e.ds.flatMap dBytes)
/-- The numbers of an entry go into their types. -/
def Wf (e : EntryD) : Prop := e.tag ≤ 9223372036854775807 ∧ e.seq ≤ 9223372036854775807 ∧ e.ep ≤ 9223372036854775807 ∧ ∀ d ∈ e.ds, NOk d
def EB0 (be : List UInt8) (w : World) (r : Ending) (w' : World) : Prop := ∃ A, r = .returned (.tuple #[.slice A be.length be.length, .int .i64 0]) ∧ (∀ M, (∀ g ∈ M, g < w.heap.size) → Bs w' M (.slice A be.length be.length) be) ∧ Below w.heap.size w w'
theorem right_facts {e : EntryD} (h : rightE e = 0) : (0 ≤ e.fr ∧ e.fr < 8 ∧ 0 ≤ e.tag) ∧ (e.kind = 2 ∨ e.kind = 1 ∧ 0 ≤ e.ag ∧ e.ag < 8 ∧ 0 ≤ e.sh ∧ e.sh < 4 ∧ 1 ≤ e.seq ∧ 1 ≤ e.ep ∧ e.ds.length ≤ 8) := by
 unfold rightE at h
 have hk : kindS e = true := by
  cases hk : kindS e with
  | true => rfl
  | false => rw [hk] at h; cases h
 rw [hk, if_neg (by simp)] at h
 have h1 : (!(withinB e.fr 8) || decide (e.tag < 0)) = false := by
  cases h1 : (!(withinB e.fr 8) || decide (e.tag < 0)) with
  | false => rfl
  | true => rw [h1] at h; cases h
 rw [h1, if_neg (by simp)] at h
 unfold withinB at h1
 simp at h1
 refine ⟨by omega, ?_⟩
 by_cases hk1 : e.kind = 1
 ·rw [if_pos hk1] at h
  unfold writtenS at h
  have h2 : badId e = false := by
   cases h2 : badId e with
   | false => rfl
   | true => rw [h2] at h; cases h
  rw [h2, if_neg (by simp)] at h
  by_cases h8 : 8 < e.ds.length
  ·rw [if_pos h8] at h; cases h
  ·unfold badId withinB at h2
   simp at h2
   exact .inr ⟨hk1, by omega⟩
 ·unfold kindS at hk
  rw [if_neg hk1] at hk
  by_cases hk2 : e.kind = 2
  ·exact .inl hk2
  ·rw [if_neg hk2] at hk; cases hk
set_option maxRecDepth 100000 in
set_option maxHeartbeats 1000000 in
theorem ebytes_2 (e : EntryD) (dv : Value) (m : Int) (w : World) (hkind : e.kind = 2) (hr0 : rightE e = 0) (h : Ds w [] dv e.ds) (hs : Short e) (hw : Wf e) (hm : w.cell? ⟨0, 0, none⟩ = some (.int .i64 m)) :
    Calls Tryz.prog 138 #[.agg (eCell (e, dv)).toArray] w fun r w' => EB0 (bytesE e) w r w' := by
  obtain ⟨⟨hf0, hf8, ht0⟩, hrest⟩ := right_facts hr0
  have hri := Lib.hid (fun W (hk : Keeps [] w W) (hmW : W.cell? ⟨0, 0, none⟩ = some (.int .i64 m)) => eright_any e dv m W (h.keep hk (by simp)) hs hmW)
  have hw0 : 0 < w.heap.size := by
    have := World.block_lt_of_cell? w _ hm
    simpa using this
  have HP : Hid (∀ A w', (∀ M, (∀ g ∈ M, g < w.heap.size) → Bs w' M (.slice A (bytesE e).length (bytesE e).length) (bytesE e)) → Below w.heap.size w w' → EB0 (bytesE e) w (.returned (.tuple #[.slice A (bytesE e).length (bytesE e).length, .int .i64 0])) w') := fun A w' h1 h2 => ⟨A, rfl, h1, h2⟩
  rw [hr0] at hri
  obtain ⟨hw1, hw2, hw3, hw4⟩ := hw
  obtain ⟨hs1, hs2, hs3⟩ := hs
  obtain ⟨A, c, rfl, hc⟩ := h.len
  have HBE : Hid (bytesE e = headB e.kind.toNat e.fr.toNat e.tag.toNat ++ (if e.kind = 2 then Lib.uvarint e.ser.size ++ sB e.ser else Lib.uvarint e.ag.toNat ++ Lib.uvarint e.sh.toNat ++ Lib.uvarint e.seq.toNat ++ Lib.uvarint e.ep.toNat ++ Lib.uvarint e.ds.length ++ e.ds.flatMap dBytes)) := rfl
  clear hr0
  generalize bytesE e = be at *
  obtain ⟨kind, ag, sh, seq, ep, ds, ser, fr, tag⟩ := e
  simp only [] at hkind h hf0 hf8 ht0 hrest hri HP hw1 hw2 hw3 hw4 hs1 hs2 hs3 hc HBE
  subst hkind
  obtain ⟨fr, rfl⟩ := Int.eq_ofNat_of_zero_le hf0
  obtain ⟨tag, rfl⟩ := Int.eq_ofNat_of_zero_le ht0
  have ht9 : tag < 18446744073709551616 := by omega
  have hfr9 : fr < 18446744073709551616 := by omega
  rw [Int.toNat_natCast, Int.toNat_natCast] at HBE
  have HE : Hid (be = headB 2 fr tag ++ (Lib.uvarint ser.size ++ sB ser)) := by show _ = _; rw [HBE.out, if_pos rfl]; rfl
  clear HBE hrest
  obtain ⟨w2, hw2e⟩ : ∃ w2, w2 = w.alloc (.cells #[.int .i64 2, .int .i64 ag, .int .i64 sh, .int .i64 seq, .int .i64 ep, .slice A ds.length c, .string ser, .int .i64 fr, .int .i64 tag] 33) := ⟨_, rfl⟩
  have hB : Blk w2 w.heap.size 33 #[.int .i64 2, .int .i64 ag, .int .i64 sh, .int .i64 seq, .int .i64 ep, .slice A ds.length c, .string ser, .int .i64 fr, .int .i64 tag] := by rw [hw2e]; exact Blk.new w _ _
  have hk2 : Keeps [] w w2 := by rw [hw2e]; exact (Keeps.refl _ _).alloc _
  have hm2 : w2.cell? ⟨0, 0, none⟩ = some (.int .i64 m) := (hk2.cell (p := ⟨0, 0, none⟩) hw0 (by simp)).trans hm
  have Hri := Lib.hid (show Calls Tryz.prog 75 #[.agg #[.int .i64 2, .int .i64 ag, .int .i64 sh, .int .i64 seq, .int .i64 ep, .slice A ds.length c, .string ser, .int .i64 fr, .int .i64 tag]] w2 fun r w' => r = .returned (.int .i64 0) ∧ Below w2.heap.size w2 w' from hri.out w2 hk2 hm2)
  have Hk2 := Lib.hid hk2; have Hw2 := Lib.hid hw2e; have HB := Lib.hid hB; have Hh := Lib.hid h
  have c0 := hB.cell 0; have c1 := hB.cell 1; have c2 := hB.cell 2; have c3 := hB.cell 3; have c4 := hB.cell 4; have c5 := hB.cell 5; have c6 := hB.cell 6; have c7 := hB.cell 7; have c8 := hB.cell 8
  simp only [List.getElem?_toArray, List.getElem?_cons_succ, List.getElem?_cons_zero] at c0 c1 c2 c3 c4 c5 c6 c7 c8
  clear hri hB hk2 hm2 hw2e h hm
  show Calls Tryz.prog 138 #[.agg #[.int .i64 2, .int .i64 ag, .int .i64 sh, .int .i64 seq, .int .i64 ep, .slice A ds.length c, .string ser, .int .i64 fr, .int .i64 tag]] w fun r w' => EB0 be w r w'
  go_enter Tryz.func138, Tryz.ntmps138
  go_upto_region 1 with (fail)
  rw [← Hw2.out]
  go_wp2_with fail
  refine Hri.out.mono ?_
  rintro r w3 ⟨rfl, hb3⟩
  have hw2s : w.heap.size < w2.heap.size := HB.out.lt
  have HB3 := Lib.hid (HB.out.below hb3 hw2s)
  have Hk3 : Hid (Keeps [] w w3) := Hk2.out.trans (Keeps.of_below (M := []) hb3) (by simp)
  have c0 := HB3.out.cell 0; have c1 := HB3.out.cell 1; have c2 := HB3.out.cell 2; have c3 := HB3.out.cell 3; have c4 := HB3.out.cell 4; have c5 := HB3.out.cell 5; have c6 := HB3.out.cell 6; have c7 := HB3.out.cell 7; have c8 := HB3.out.cell 8
  simp only [List.getElem?_toArray, List.getElem?_cons_succ, List.getElem?_cons_zero] at c0 c1 c2 c3 c4 c5 c6 c7 c8
  have hw3s : w.heap.size < w3.heap.size := HB3.out.lt
  clear hb3 Hri
  have ka : Keeps [] w3 (w3.alloc (.cells #[.int .u8 2] 5)).drew := ((Keeps.refl _ _).alloc _).drew
  have hBa := HB3.out
  have hb8 : Bs (w3.alloc (.cells #[.int .u8 2] 5)).drew [] (.slice (some ⟨w3.heap.size, 0, none⟩) 1 1) [UInt8.ofNat 2] := ⟨_, _, rfl, Nat.le_refl _, rfl, fun _ => ⟨w3.heap.size, 0, rfl, by simp, by simp, fun j u hu => by
    have := (Blk.new w3 5 #[.int .u8 2]).cell (0 + j)
    rw [show ((w3.alloc (.cells #[.int .u8 2] 5)).drew).cell? ⟨w3.heap.size, 0 + j, none⟩ = (w3.alloc (.cells #[.int .u8 2] 5)).cell? ⟨w3.heap.size, 0 + j, none⟩ from rfl, this, Nat.zero_add]
    cases j with
    | zero => exact hu
    | succ j => cases hu⟩⟩
  have Hp1 : Hid (Calls Tryz.prog 111 #[.slice (some ⟨w3.heap.size, 0, none⟩) 1 1, .int .u64 fr] (w3.alloc (.cells #[.int .u8 2] 5)).drew fun r w' => BsPost ([UInt8.ofNat 2] ++ Lib.uvarint fr) (w3.alloc (.cells #[.int .u8 2] 5)).drew r w') := put_any _ [UInt8.ofNat 2] fr _ hb8 hfr9 (by simp)
  have Hp2 : Hid (∀ W A2, Bs W [] (.slice A2 ([UInt8.ofNat 2] ++ Lib.uvarint fr).length ([UInt8.ofNat 2] ++ Lib.uvarint fr).length) ([UInt8.ofNat 2] ++ Lib.uvarint fr) → Calls Tryz.prog 111 #[.slice A2 ([UInt8.ofNat 2] ++ Lib.uvarint fr).length ([UInt8.ofNat 2] ++ Lib.uvarint fr).length, .int .u64 tag] W fun r w' => BsPost (headB 2 fr tag) W r w') := fun W A2 h2 => by
    have hl := Lib.uvarint_length64 hfr9
    exact put_any _ ([UInt8.ofNat 2] ++ Lib.uvarint fr) tag W h2 ht9 (by rw [List.length_append]; simp; omega)
  have hHl : (headB 2 fr tag).length ≤ 21 := by
    have h1 := Lib.uvarint_length64 hfr9
    have h2 := Lib.uvarint_length64 ht9
    unfold headB
    rw [List.length_append, List.length_append]; simp; omega
  generalize headB 2 fr tag = H at *
  generalize hL1 : [UInt8.ofNat 2] ++ Lib.uvarint fr = L1 at *
  have Hka := Lib.hid (show Below w3.heap.size w3 (w3.alloc (.cells #[.int .u8 2] 5)).drew from ka.below)
  have a0 : (w3.alloc (.cells #[.int .u8 2] 5)).cell? ⟨w.heap.size, 0, none⟩ = some (.int .i64 2) := (Hka.out.cell (p := ⟨w.heap.size, 0, none⟩) hw3s).trans c0
  have a7 : (w3.alloc (.cells #[.int .u8 2] 5)).cell? ⟨w.heap.size, 7, none⟩ = some (.int .i64 fr) := (Hka.out.cell (p := ⟨w.heap.size, 7, none⟩) hw3s).trans c7
  have a8 : (w3.alloc (.cells #[.int .u8 2] 5)).cell? ⟨w.heap.size, 8, none⟩ = some (.int .i64 tag) := (Hka.out.cell (p := ⟨w.heap.size, 8, none⟩) hw3s).trans c8
  clear hb8 ka hBa hL1
  have hfi : (fr : Int) < 8 := by omega
  have hwf : IntKind.u64.wrap (fr : Int) = (fr : Int) := by rw [IntKind.wrap_u64]; omega
  have hwt : IntKind.u64.wrap (tag : Int) = (tag : Int) := by rw [IntKind.wrap_u64]; omega
  have hwk : IntKind.u8.wrap 2 = 2 := by decide
  have hti : (tag : Int) ≤ 9223372036854775807 := by omega
  go_upto_region 4 with (fail)
  go_cut [5] (fun s wx => ∃ A6, s = .slice A6 H.length H.length ∧ Hid (∀ M, (∀ g ∈ M, g < w3.heap.size) → Bs wx M (.slice A6 H.length H.length) H) ∧ Hid (Below w3.heap.size w3 wx))
  case first =>
    go_region_held3 (fun w' => w'.cell? ⟨w.heap.size, 0, none⟩ = some (.int .i64 2) ∧ w'.cell? ⟨w.heap.size, 7, none⟩ = some (.int .i64 fr) ∧ w'.cell? ⟨w.heap.size, 8, none⟩ = some (.int .i64 tag)) (first | exact ⟨r0, r7, r8⟩ | exact ⟨q0, q7, q8⟩ | exact ⟨a0, a7, a8⟩ | exact ⟨c0, c7, c8⟩) (first
      | (go_at_call_of 111 (Value.slice (some ⟨w3.heap.size, 0, none⟩) 1 1)
         with_reducible refine Hp1.out.mono ?_
         rintro r w5 ⟨A5, rfl, hR5, hb5⟩
         have HR5 := Lib.hid (hR5 [] (by simp))
         have Hb5 := Lib.hid (below_then Hka.out hb5)
         have q0 : w5.cell? ⟨w.heap.size, 0, none⟩ = some (.int .i64 2) := (Hb5.out.cell (p := ⟨w.heap.size, 0, none⟩) hw3s).trans c0
         have q7 : w5.cell? ⟨w.heap.size, 7, none⟩ = some (.int .i64 fr) := (Hb5.out.cell (p := ⟨w.heap.size, 7, none⟩) hw3s).trans c7
         have q8 : w5.cell? ⟨w.heap.size, 8, none⟩ = some (.int .i64 tag) := (Hb5.out.cell (p := ⟨w.heap.size, 8, none⟩) hw3s).trans c8
         clear hR5 hb5)
      | (go_at_call 111
         with_reducible refine (Hp2.out _ A5 HR5.out).mono ?_
         rintro r w6 ⟨A6, rfl, hR6, hb6⟩
         have HR6 := Lib.hid (fun M (hM : ∀ g ∈ M, g < w3.heap.size) => hR6 M (fun g hg => Nat.lt_of_lt_of_le (hM g hg) Hb5.out.size))
         have Hb6 := Lib.hid (below_then Hb5.out hb6)
         have r0 : w6.cell? ⟨w.heap.size, 0, none⟩ = some (.int .i64 2) := (Hb6.out.cell (p := ⟨w.heap.size, 0, none⟩) hw3s).trans c0
         have r7 : w6.cell? ⟨w.heap.size, 7, none⟩ = some (.int .i64 fr) := (Hb6.out.cell (p := ⟨w.heap.size, 7, none⟩) hw3s).trans c7
         have r8 : w6.cell? ⟨w.heap.size, 8, none⟩ = some (.int .i64 tag) := (Hb6.out.cell (p := ⟨w.heap.size, 8, none⟩) hw3s).trans c8
         clear hR6 hb6))
    all_goals
      go_wp2_with fail
      go_meet
      exact ⟨A6, rfl, HR6.out, Hb6.out⟩
  case rest =>
    obtain ⟨A6, rfl, HR6, Hb6⟩ := hcut
    clear Hp1 Hp2 a0 a7 a8 Hka c0 c1 c2 c3 c4 c5 c6 c7 c8
    have HB6 := Lib.hid (HB3.out.below Hb6.out hw3s)
    have c0 := HB6.out.cell 0; have c1 := HB6.out.cell 1; have c2 := HB6.out.cell 2; have c3 := HB6.out.cell 3; have c4 := HB6.out.cell 4; have c5 := HB6.out.cell 5; have c6 := HB6.out.cell 6
    simp only [List.getElem?_toArray, List.getElem?_cons_succ, List.getElem?_cons_zero] at c0 c1 c2 c3 c4 c5 c6
    have HA6 := Lib.hid (below_then Hk3.out.below Hb6.out)
    have htx := Lib.hid (text_any _ H ser wc (HR6.out [] (by simp)) (by omega))
    go_wp2_with fail
    refine htx.out.mono ?_
    rintro r w7 ⟨A7, rfl, hR7, hb7⟩
    have hp : Hid (EB0 be w (.returned (.tuple #[.slice A7 (H ++ Lib.uvarint ser.size ++ sB ser).length (H ++ Lib.uvarint ser.size ++ sB ser).length, .int .i64 0])) w7) := by
      have := HP.out A7 w7
      show EB0 _ _ _ _
      rw [HE.out, ← List.append_assoc] at this ⊢
      exact this (fun M hM => hR7 M (fun g hg => Nat.lt_of_lt_of_le (hM g hg) HA6.out.size)) (below_then HA6.out hb7)
    clear hR7 hb7 htx
    generalize H ++ Lib.uvarint ser.size ++ sB ser = F at *
    go_wp2
    go_ret2
    exact hp.out
/-- The five numbers of a batch. -/
def nums5 (a b c d e : Nat) : List Nat := [a, b, c, d, e]
theorem nums5_lt (a b c d e : Nat) (ha : a < 18446744073709551616) (hb : b < 18446744073709551616) (hc : c < 18446744073709551616) (hd : d < 18446744073709551616) (he : e < 18446744073709551616) : ∀ n ∈ nums5 a b c d e, n < 18446744073709551616 := by
 intro n hn
 simp [nums5] at hn
 omega
theorem nums5_len (a b c d e : Nat) (ha : a < 18446744073709551616) (hb : b < 18446744073709551616) (hc : c < 18446744073709551616) (hd : d < 18446744073709551616) (he : e < 18446744073709551616) : ((nums5 a b c d e).flatMap Lib.uvarint).length ≤ 50 := by
 have h1 := Lib.uvarint_length64 ha
 have h2 := Lib.uvarint_length64 hb
 have h3 := Lib.uvarint_length64 hc
 have h4 := Lib.uvarint_length64 hd
 have h5 := Lib.uvarint_length64 he
 simp [nums5]
 omega
theorem dBytes_len (ds : List DeltaD) (h : ∀ d ∈ ds, d.ser.size < 4294967281) (hn : ∀ d ∈ ds, NOk d) : (ds.flatMap dBytes).length ≤ ds.length * 4294967301 := by
 induction ds with
 | nil => simp
 | cons d ds ih =>
  have h1 := ih (fun x hx => h x (by simp [hx])) (fun x hx => hn x (by simp [hx]))
  have h2 := h d (by simp)
  obtain ⟨h3, h4⟩ := hn d (by simp)
  have h5 := Lib.uvarint_length64 (x := d.ser.size) (by omega)
  have h6 := Lib.uvarint_length64 (x := d.n.toNat) (by omega)
  have h7 : (dBytes d).length = (Lib.uvarint d.ser.size).length + d.ser.size + (Lib.uvarint d.n.toNat).length := by
   unfold dBytes; rw [List.length_append, List.length_append]; rfl
  rw [List.flatMap_cons, List.length_append, List.length_cons]
  omega
set_option maxRecDepth 100000 in
set_option maxHeartbeats 1000000 in
theorem ebytes_1 (e : EntryD) (dv : Value) (m : Int) (w : World) (hkind : e.kind = 1) (hr0 : rightE e = 0) (h : Ds w [] dv e.ds) (hs : Short e) (hw : Wf e) (hm : w.cell? ⟨0, 0, none⟩ = some (.int .i64 m)) :
    Calls Tryz.prog 138 #[.agg (eCell (e, dv)).toArray] w fun r w' => EB0 (bytesE e) w r w' := by
  obtain ⟨⟨hf0, hf8, ht0⟩, hrest⟩ := right_facts hr0
  have hri := Lib.hid (fun W (hk : Keeps [] w W) (hmW : W.cell? ⟨0, 0, none⟩ = some (.int .i64 m)) => eright_any e dv m W (h.keep hk (by simp)) hs hmW)
  have hw0 : 0 < w.heap.size := by
    have := World.block_lt_of_cell? w _ hm
    simpa using this
  have HP : Hid (∀ A w', (∀ M, (∀ g ∈ M, g < w.heap.size) → Bs w' M (.slice A (bytesE e).length (bytesE e).length) (bytesE e)) → Below w.heap.size w w' → EB0 (bytesE e) w (.returned (.tuple #[.slice A (bytesE e).length (bytesE e).length, .int .i64 0])) w') := fun A w' h1 h2 => ⟨A, rfl, h1, h2⟩
  rw [hr0] at hri
  obtain ⟨hw1, hw2, hw3, hw4⟩ := hw
  obtain ⟨hs1, hs2, hs3⟩ := hs
  obtain ⟨A, c, rfl, hc⟩ := h.len
  have HBE : Hid (bytesE e = headB e.kind.toNat e.fr.toNat e.tag.toNat ++ (if e.kind = 2 then Lib.uvarint e.ser.size ++ sB e.ser else Lib.uvarint e.ag.toNat ++ Lib.uvarint e.sh.toNat ++ Lib.uvarint e.seq.toNat ++ Lib.uvarint e.ep.toNat ++ Lib.uvarint e.ds.length ++ e.ds.flatMap dBytes)) := rfl
  clear hr0
  generalize bytesE e = be at *
  obtain ⟨kind, ag, sh, seq, ep, ds, ser, fr, tag⟩ := e
  simp only [] at hkind h hf0 hf8 ht0 hrest hri HP hw1 hw2 hw3 hw4 hs1 hs2 hs3 hc HBE
  subst hkind
  obtain ⟨fr, rfl⟩ := Int.eq_ofNat_of_zero_le hf0
  obtain ⟨tag, rfl⟩ := Int.eq_ofNat_of_zero_le ht0
  have ht9 : tag < 18446744073709551616 := by omega
  have hfr9 : fr < 18446744073709551616 := by omega
  rw [Int.toNat_natCast, Int.toNat_natCast] at HBE
  obtain ⟨_, ha0, ha8, hs0, hs4, hq0, hp0, hd8⟩ := hrest.resolve_left (by decide)
  obtain ⟨ag, rfl⟩ := Int.eq_ofNat_of_zero_le ha0
  obtain ⟨sh, rfl⟩ := Int.eq_ofNat_of_zero_le hs0
  obtain ⟨seq, rfl⟩ := Int.eq_ofNat_of_zero_le (show 0 ≤ seq by omega)
  obtain ⟨ep, rfl⟩ := Int.eq_ofNat_of_zero_le (show 0 ≤ ep by omega)
  have HE : Hid (be = headB 1 fr tag ++ (nums5 ag sh seq ep ds.length).flatMap Lib.uvarint ++ ds.flatMap dBytes) := by show _ = _; rw [HBE.out, if_neg (by decide)]; simp [nums5]
  clear HBE hrest
  obtain ⟨w2, hw2e⟩ : ∃ w2, w2 = w.alloc (.cells #[.int .i64 1, .int .i64 ag, .int .i64 sh, .int .i64 seq, .int .i64 ep, .slice A ds.length c, .string ser, .int .i64 fr, .int .i64 tag] 33) := ⟨_, rfl⟩
  have hB : Blk w2 w.heap.size 33 #[.int .i64 1, .int .i64 ag, .int .i64 sh, .int .i64 seq, .int .i64 ep, .slice A ds.length c, .string ser, .int .i64 fr, .int .i64 tag] := by rw [hw2e]; exact Blk.new w _ _
  have hk2 : Keeps [] w w2 := by rw [hw2e]; exact (Keeps.refl _ _).alloc _
  have hm2 : w2.cell? ⟨0, 0, none⟩ = some (.int .i64 m) := (hk2.cell (p := ⟨0, 0, none⟩) hw0 (by simp)).trans hm
  have Hri := Lib.hid (show Calls Tryz.prog 75 #[.agg #[.int .i64 1, .int .i64 ag, .int .i64 sh, .int .i64 seq, .int .i64 ep, .slice A ds.length c, .string ser, .int .i64 fr, .int .i64 tag]] w2 fun r w' => r = .returned (.int .i64 0) ∧ Below w2.heap.size w2 w' from hri.out w2 hk2 hm2)
  have Hk2 := Lib.hid hk2; have Hw2 := Lib.hid hw2e; have HB := Lib.hid hB; have Hh := Lib.hid h
  have c0 := hB.cell 0; have c1 := hB.cell 1; have c2 := hB.cell 2; have c3 := hB.cell 3; have c4 := hB.cell 4; have c5 := hB.cell 5; have c6 := hB.cell 6; have c7 := hB.cell 7; have c8 := hB.cell 8
  simp only [List.getElem?_toArray, List.getElem?_cons_succ, List.getElem?_cons_zero] at c0 c1 c2 c3 c4 c5 c6 c7 c8
  clear hri hB hk2 hm2 hw2e h hm
  show Calls Tryz.prog 138 #[.agg #[.int .i64 1, .int .i64 ag, .int .i64 sh, .int .i64 seq, .int .i64 ep, .slice A ds.length c, .string ser, .int .i64 fr, .int .i64 tag]] w fun r w' => EB0 be w r w'
  go_enter Tryz.func138, Tryz.ntmps138
  go_upto_region 1 with (fail)
  rw [← Hw2.out]
  go_wp2_with fail
  refine Hri.out.mono ?_
  rintro r w3 ⟨rfl, hb3⟩
  have hw2s : w.heap.size < w2.heap.size := HB.out.lt
  have HB3 := Lib.hid (HB.out.below hb3 hw2s)
  have Hk3 : Hid (Keeps [] w w3) := Hk2.out.trans (Keeps.of_below (M := []) hb3) (by simp)
  have c0 := HB3.out.cell 0; have c1 := HB3.out.cell 1; have c2 := HB3.out.cell 2; have c3 := HB3.out.cell 3; have c4 := HB3.out.cell 4; have c5 := HB3.out.cell 5; have c6 := HB3.out.cell 6; have c7 := HB3.out.cell 7; have c8 := HB3.out.cell 8
  simp only [List.getElem?_toArray, List.getElem?_cons_succ, List.getElem?_cons_zero] at c0 c1 c2 c3 c4 c5 c6 c7 c8
  have hw3s : w.heap.size < w3.heap.size := HB3.out.lt
  clear hb3 Hri
  have ka : Keeps [] w3 (w3.alloc (.cells #[.int .u8 1] 5)).drew := ((Keeps.refl _ _).alloc _).drew
  have hBa := HB3.out
  have hb8 : Bs (w3.alloc (.cells #[.int .u8 1] 5)).drew [] (.slice (some ⟨w3.heap.size, 0, none⟩) 1 1) [UInt8.ofNat 1] := ⟨_, _, rfl, Nat.le_refl _, rfl, fun _ => ⟨w3.heap.size, 0, rfl, by simp, by simp, fun j u hu => by
    have := (Blk.new w3 5 #[.int .u8 1]).cell (0 + j)
    rw [show ((w3.alloc (.cells #[.int .u8 1] 5)).drew).cell? ⟨w3.heap.size, 0 + j, none⟩ = (w3.alloc (.cells #[.int .u8 1] 5)).cell? ⟨w3.heap.size, 0 + j, none⟩ from rfl, this, Nat.zero_add]
    cases j with
    | zero => exact hu
    | succ j => cases hu⟩⟩
  have Hp1 : Hid (Calls Tryz.prog 111 #[.slice (some ⟨w3.heap.size, 0, none⟩) 1 1, .int .u64 fr] (w3.alloc (.cells #[.int .u8 1] 5)).drew fun r w' => BsPost ([UInt8.ofNat 1] ++ Lib.uvarint fr) (w3.alloc (.cells #[.int .u8 1] 5)).drew r w') := put_any _ [UInt8.ofNat 1] fr _ hb8 hfr9 (by simp)
  have Hp2 : Hid (∀ W A2, Bs W [] (.slice A2 ([UInt8.ofNat 1] ++ Lib.uvarint fr).length ([UInt8.ofNat 1] ++ Lib.uvarint fr).length) ([UInt8.ofNat 1] ++ Lib.uvarint fr) → Calls Tryz.prog 111 #[.slice A2 ([UInt8.ofNat 1] ++ Lib.uvarint fr).length ([UInt8.ofNat 1] ++ Lib.uvarint fr).length, .int .u64 tag] W fun r w' => BsPost (headB 1 fr tag) W r w') := fun W A2 h2 => by
    have hl := Lib.uvarint_length64 hfr9
    exact put_any _ ([UInt8.ofNat 1] ++ Lib.uvarint fr) tag W h2 ht9 (by rw [List.length_append]; simp; omega)
  have hHl : (headB 1 fr tag).length ≤ 21 := by
    have h1 := Lib.uvarint_length64 hfr9
    have h2 := Lib.uvarint_length64 ht9
    unfold headB
    rw [List.length_append, List.length_append]; simp; omega
  generalize headB 1 fr tag = H at *
  generalize hL1 : [UInt8.ofNat 1] ++ Lib.uvarint fr = L1 at *
  have Hka := Lib.hid (show Below w3.heap.size w3 (w3.alloc (.cells #[.int .u8 1] 5)).drew from ka.below)
  have a0 : (w3.alloc (.cells #[.int .u8 1] 5)).cell? ⟨w.heap.size, 0, none⟩ = some (.int .i64 1) := (Hka.out.cell (p := ⟨w.heap.size, 0, none⟩) hw3s).trans c0
  have a7 : (w3.alloc (.cells #[.int .u8 1] 5)).cell? ⟨w.heap.size, 7, none⟩ = some (.int .i64 fr) := (Hka.out.cell (p := ⟨w.heap.size, 7, none⟩) hw3s).trans c7
  have a8 : (w3.alloc (.cells #[.int .u8 1] 5)).cell? ⟨w.heap.size, 8, none⟩ = some (.int .i64 tag) := (Hka.out.cell (p := ⟨w.heap.size, 8, none⟩) hw3s).trans c8
  clear hb8 ka hBa hL1
  have hfi : (fr : Int) < 8 := by omega
  have hwf : IntKind.u64.wrap (fr : Int) = (fr : Int) := by rw [IntKind.wrap_u64]; omega
  have hwt : IntKind.u64.wrap (tag : Int) = (tag : Int) := by rw [IntKind.wrap_u64]; omega
  have hwk : IntKind.u8.wrap 1 = 1 := by decide
  have hti : (tag : Int) ≤ 9223372036854775807 := by omega
  go_upto_region 4 with (fail)
  go_cut [5] (fun s wx => ∃ A6, s = .slice A6 H.length H.length ∧ Hid (∀ M, (∀ g ∈ M, g < w3.heap.size) → Bs wx M (.slice A6 H.length H.length) H) ∧ Hid (Below w3.heap.size w3 wx))
  case first =>
    go_region_held3 (fun w' => w'.cell? ⟨w.heap.size, 0, none⟩ = some (.int .i64 1) ∧ w'.cell? ⟨w.heap.size, 7, none⟩ = some (.int .i64 fr) ∧ w'.cell? ⟨w.heap.size, 8, none⟩ = some (.int .i64 tag)) (first | exact ⟨r0, r7, r8⟩ | exact ⟨q0, q7, q8⟩ | exact ⟨a0, a7, a8⟩ | exact ⟨c0, c7, c8⟩) (first
      | (go_at_call_of 111 (Value.slice (some ⟨w3.heap.size, 0, none⟩) 1 1)
         with_reducible refine Hp1.out.mono ?_
         rintro r w5 ⟨A5, rfl, hR5, hb5⟩
         have HR5 := Lib.hid (hR5 [] (by simp))
         have Hb5 := Lib.hid (below_then Hka.out hb5)
         have q0 : w5.cell? ⟨w.heap.size, 0, none⟩ = some (.int .i64 1) := (Hb5.out.cell (p := ⟨w.heap.size, 0, none⟩) hw3s).trans c0
         have q7 : w5.cell? ⟨w.heap.size, 7, none⟩ = some (.int .i64 fr) := (Hb5.out.cell (p := ⟨w.heap.size, 7, none⟩) hw3s).trans c7
         have q8 : w5.cell? ⟨w.heap.size, 8, none⟩ = some (.int .i64 tag) := (Hb5.out.cell (p := ⟨w.heap.size, 8, none⟩) hw3s).trans c8
         clear hR5 hb5)
      | (go_at_call 111
         with_reducible refine (Hp2.out _ A5 HR5.out).mono ?_
         rintro r w6 ⟨A6, rfl, hR6, hb6⟩
         have HR6 := Lib.hid (fun M (hM : ∀ g ∈ M, g < w3.heap.size) => hR6 M (fun g hg => Nat.lt_of_lt_of_le (hM g hg) Hb5.out.size))
         have Hb6 := Lib.hid (below_then Hb5.out hb6)
         have r0 : w6.cell? ⟨w.heap.size, 0, none⟩ = some (.int .i64 1) := (Hb6.out.cell (p := ⟨w.heap.size, 0, none⟩) hw3s).trans c0
         have r7 : w6.cell? ⟨w.heap.size, 7, none⟩ = some (.int .i64 fr) := (Hb6.out.cell (p := ⟨w.heap.size, 7, none⟩) hw3s).trans c7
         have r8 : w6.cell? ⟨w.heap.size, 8, none⟩ = some (.int .i64 tag) := (Hb6.out.cell (p := ⟨w.heap.size, 8, none⟩) hw3s).trans c8
         clear hR6 hb6))
    all_goals
      go_wp2_with fail
      go_meet
      exact ⟨A6, rfl, HR6.out, Hb6.out⟩
  case rest =>
    obtain ⟨A6, rfl, HR6, Hb6⟩ := hcut
    clear Hp1 Hp2 a0 a7 a8 Hka c0 c1 c2 c3 c4 c5 c6 c7 c8
    have HB6 := Lib.hid (HB3.out.below Hb6.out hw3s)
    have c0 := HB6.out.cell 0; have c1 := HB6.out.cell 1; have c2 := HB6.out.cell 2; have c3 := HB6.out.cell 3; have c4 := HB6.out.cell 4; have c5 := HB6.out.cell 5; have c6 := HB6.out.cell 6
    simp only [List.getElem?_toArray, List.getElem?_cons_succ, List.getElem?_cons_zero] at c0 c1 c2 c3 c4 c5 c6
    have HA6 := Lib.hid (below_then Hk3.out.below Hb6.out)
    have hwa : IntKind.u64.wrap (ag : Int) = (ag : Int) := by rw [IntKind.wrap_u64]; omega
    have hwb : IntKind.u64.wrap (sh : Int) = (sh : Int) := by rw [IntKind.wrap_u64]; omega
    have hwc : IntKind.u64.wrap (seq : Int) = (seq : Int) := by rw [IntKind.wrap_u64]; omega
    have hwd : IntKind.u64.wrap (ep : Int) = (ep : Int) := by rw [IntKind.wrap_u64]; omega
    have hwe : IntKind.u64.wrap (ds.length : Int) = (ds.length : Int) := by rw [IntKind.wrap_u64]; omega
    have hN := Lib.hid (nums5_lt ag sh seq ep ds.length (by omega) (by omega) (by omega) (by omega) (by omega))
    have hNl := Lib.hid (nums5_len ag sh seq ep ds.length (by omega) (by omega) (by omega) (by omega) (by omega))
    have hDl := Lib.hid (dBytes_len ds hs2 hw4)
    have HNw := Lib.hid hw4
    have Hhl := Lib.hid hHl
    have hka : Keeps [] wc (wc.alloc (.cells #[.int .u64 ag, .int .u64 sh, .int .u64 seq, .int .u64 ep, .int .u64 ds.length] 34)) := (Keeps.refl _ _).alloc _
    have Hka := Lib.hid hka
    have HN5 := Lib.hid (Blk.new wc 34 #[.int .u64 ag, .int .u64 sh, .int .u64 seq, .int .u64 ep, .int .u64 ds.length])
    have Hcc : Hid (∀ x, (hx : x < 5) → (#[Value.int .u64 ag, .int .u64 sh, .int .u64 seq, .int .u64 ep, .int .u64 ds.length])[x]? = some (.int .u64 ((nums5 ag sh seq ep ds.length)[x]'hx))) := fun x hx => by
      rcases x with _ | _ | _ | _ | _ | x
      all_goals first | rfl | omega
    clear hka hw1 hw2 hw3 hw4 hs1 hs2 hs3
    obtain ⟨w7, hw7⟩ : ∃ w7, w7 = wc.alloc (.cells #[.int .u64 ag, .int .u64 sh, .int .u64 seq, .int .u64 ep, .int .u64 ds.length] 34) := ⟨_, rfl⟩
    have Hw7 := Lib.hid hw7
    rw [← hw7] at Hka HN5
    have hwc7 : wc.heap.size < w7.heap.size := HN5.out.lt
    clear hw7
    go_upto_block 1 with (fail)
    rw [← Hw7.out]
    have hww3 : w.heap.size < w3.heap.size := hw3s
    have hwc3 : w3.heap.size ≤ wc.heap.size := Hb6.out.size
    have HR7 : Hid (∀ M, (∀ g ∈ M, g < w.heap.size) → Bs w7 M (.slice A6 H.length H.length) H) := fun M hM => (HR6.out M (fun g hg => by have := hM g hg; omega)).keep Hka.out (by simp)
    go_loopw [5, 53] (fun b i wr => ∃ (x : Nat) (A' : Option Addr) (L : List UInt8), i = .int .i64 x ∧ x ≤ 5 ∧ b = .slice A' L.length L.length ∧ Hid (L = H ++ ((nums5 ag sh seq ep ds.length).take x).flatMap Lib.uvarint) ∧ Hid (∀ M, (∀ g ∈ M, g < w.heap.size) → Bs wr M (.slice A' L.length L.length) L) ∧ Hid (Below w7.heap.size w7 wr)) (fun _ i _ => 5 - (intOf i).toNat)
    case atStart => exact ⟨0, A6, H, rfl, by omega, rfl, (show H = H ++ ((nums5 ag sh seq ep ds.length).take 0).flatMap Lib.uvarint by simp), HR7.out, Below.refl _ _⟩
    case round =>
      obtain ⟨x, A', L, rfl, hx, rfl, HL, HB, Hbr⟩ := hrel
      clear c0 c1 c2 c3 c4 c5 c6
      have hLl : Hid (L.length ≤ 71) := by
        have h1 := Hhl.out
        have h2 := hNl.out
        have h3 := congrArg List.length HL.out
        have h4 : (((nums5 ag sh seq ep ds.length).take x).flatMap Lib.uvarint).length ≤ ((nums5 ag sh seq ep ds.length).flatMap Lib.uvarint).length := by
          conv => rhs; rw [← List.take_append_drop x (nums5 ag sh seq ep ds.length), List.flatMap_append, List.length_append]
          omega
        rw [List.length_append] at h3
        show _ ≤ _; omega
      by_cases hlt : x < 5
      · have hx1 : (x : Int) < 5 := by omega
        have hc7 : wr.cell? ⟨wc.heap.size, x, none⟩ = some (.int .u64 ((nums5 ag sh seq ep ds.length)[x]'hlt)) := by
          rw [(HN5.out.below Hbr.out hwc7).cell x]; exact Hcc.out x hlt
        have Hn := Lib.hid (hN.out _ (List.getElem_mem (l := nums5 ag sh seq ep ds.length) (n := x) hlt))
        have HL2 : Hid (L ++ Lib.uvarint ((nums5 ag sh seq ep ds.length)[x]'hlt) = H ++ ((nums5 ag sh seq ep ds.length).take (x + 1)).flatMap Lib.uvarint) := by
          show _ = _
          rw [List.take_succ_eq_append_getElem (l := nums5 ag sh seq ep ds.length) (i := x) hlt, List.flatMap_append, HL.out]
          simp
        generalize (nums5 ag sh seq ep ds.length)[x]'hlt = n at *
        have Hp := Lib.hid (put_any _ L n wr (HB.out [] (by simp)) Hn.out (by have := hLl.out; omega))
        go_wp2_with fail
        refine Hp.out.mono ?_
        rintro r w8 ⟨A8, rfl, hR8, hb8⟩
        have HR8 := Lib.hid (fun M (hM : ∀ g ∈ M, g < w.heap.size) => hR8 M (fun g hg => by have := hM g hg; have := Hbr.out.size; omega))
        have Hb8 := Lib.hid (below_then Hbr.out hb8)
        clear hR8 hb8 Hp
        generalize L ++ Lib.uvarint n = L2 at *
        go_wp2
        go_roundw
        case rel => exact ⟨x + 1, A8, L2, by go_num, by omega, rfl, HL2, HR8, Hb8⟩
        case measure => simp [intOf] <;> omega
      · obtain rfl : x = 5 := by omega
        have hL5 : Hid (L = H ++ (nums5 ag sh seq ep ds.length).flatMap Lib.uvarint) := HL.out
        have HBw := Lib.hid ((HB6.out.below Hka.out.below (by have := Hb6.out.size; omega)).below Hbr.out (by have := Hb6.out.size; omega))
        have c5 := HBw.out.cell 5
        simp only [List.getElem?_toArray, List.getElem?_cons_succ, List.getElem?_cons_zero] at c5
        have Hw : Hid (Below w.heap.size w wr) := below_then (below_then HA6.out Hka.out.below) Hbr.out
        have hds : Ds wr [] (.slice A ds.length c) ds := Hh.out.keep (Keeps.of_below (M := []) Hw.out) (by simp)
        have Hpt := Lib.hid (eput_any (List.range w.heap.size) A' L (.slice A ds.length c) ds wr (fun g hg => by have := List.mem_range.1 hg; have := Hw.out.size; omega) (HB.out (List.range w.heap.size) (fun g hg => List.mem_range.1 hg)) hds HNw.out (by omega) (by have := hLl.out; have := hDl.out; have : ds.length * 4294967301 ≤ 8 * 4294967301 := Nat.mul_le_mul_right _ (by omega); omega))
        clear hds
        go_wp2_with fail
        refine Hpt.out.mono ?_
        rintro r w9 ⟨A9, rfl, hR9, hb9⟩
        have hp : Hid (EB0 be w (.returned (.tuple #[.slice A9 (L ++ ds.flatMap dBytes).length (L ++ ds.flatMap dBytes).length, .int .i64 0])) w9) := by
          have := HP.out A9 w9
          show EB0 _ _ _ _
          rw [HE.out, ← hL5.out] at this ⊢
          exact this (fun M hM => hR9.avoid (fun g hg => .inl (List.mem_range.2 (hM g hg)))) (below_then Hw.out hb9)
        clear hR9 hb9 Hpt
        generalize L ++ ds.flatMap dBytes = F at *
        go_wp2
        go_ret2
        exact hp.out
end Go.Proofs.YtdaceeijifjpeaaGreatDoor.Vi
end
section
namespace Go.Proofs.YtdaceeijifjpeaaGreatDoor.Vi
open Go.RowKit Base Mem
/-- A number that was put is got. -/
theorem getF_put (n i acc : Nat) (r : List UInt8) (hacc : acc < 2 ^ (7 * i)) (hb : acc + n * 2 ^ (7 * i) < 18446744073709551616) (hz : i = 0 ∨ 0 < n) :
  getF i acc (Lib.uvarint n ++ r) = (acc + n * 2 ^ (7 * i), i + (Lib.uvarint n).length) := by
 induction n using Nat.strongRecOn generalizing i acc with
 | _ n ih =>
 have hp : 0 < 2 ^ (7 * i) := Nat.two_pow_pos _
 have hi : i < 10 := by
  rcases hz with rfl | h0
  ·omega
  ·apply Decidable.byContradiction; intro hge
   have h1 : 2 ^ 70 ≤ 2 ^ (7 * i) := Nat.pow_le_pow_right (by omega) (by omega)
   have h2 : 1 * 2 ^ (7 * i) ≤ n * 2 ^ (7 * i) := Nat.mul_le_mul_right _ h0
   have h3 : (2 : Nat) ^ 70 = 1180591620717411303424 := rfl
   omega
 by_cases hs : n < 128
 ·rw [Lib.uvarint_small hs]
  have hc : (n.toUInt8).toNat = n := by rw [Nat.toUInt8_eq, UInt8.toNat_ofNat']; omega
  have hm : n % 128 = n := Nat.mod_eq_of_lt hs
  rw [List.singleton_append, getF, hc, hm, if_neg (by omega), if_neg (by omega), if_neg (by omega), if_neg (by omega)]
  simp
 ·rw [Lib.uvarint_big (by omega)]
  have hc : ((n % 128 + 128).toUInt8).toNat = n % 128 + 128 := by rw [Nat.toUInt8_eq, UInt8.toNat_ofNat']; omega
  have hm : (n % 128 + 128) % 128 = n % 128 := by omega
  have hpow : 2 ^ (7 * (i + 1)) = 128 * 2 ^ (7 * i) := by rw [show 7 * (i + 1) = 7 * i + 7 by omega, Nat.pow_add, Nat.mul_comm]
  have hsplit : n * 2 ^ (7 * i) = n % 128 * 2 ^ (7 * i) + n / 128 * (128 * 2 ^ (7 * i)) := by
   conv => lhs; rw [← Nat.mod_add_div n 128]
   rw [Nat.add_mul, Nat.mul_comm 128 (n / 128), Nat.mul_assoc]
  have hlt : n % 128 * 2 ^ (7 * i) ≤ 127 * 2 ^ (7 * i) := Nat.mul_le_mul_right _ (by omega)
  rw [List.cons_append, getF, hc, hm, if_neg (by omega), if_neg (by omega), if_pos (by omega)]
  rw [ih (n / 128) (by omega) (i + 1) (acc + n % 128 * 2 ^ (7 * i)) (by rw [hpow]; omega) (by rw [hpow]; omega) (.inr (by omega))]
  rw [hpow, List.length_cons]
  congr 1 <;> omega
theorem getL_put (n : Nat) (r : List UInt8) (hn : n < 18446744073709551616) : getL (Lib.uvarint n ++ r) = (n, (Lib.uvarint n).length) := by
 have := getF_put n 0 0 r (by decide) (by omega) (.inl rfl)
 simpa [getL] using this
theorem numS_put (n : Nat) (r : List UInt8) (hn : n < 18446744073709551616) : numS (Lib.uvarint n ++ r) false = (n, r, false) := by
 have h1 := Lib.uvarint_pos n
 unfold numS
 rw [getL_put n r hn, if_neg (fun h => by rcases h with h | h; cases h; simp only [] at h; omega)]
 simp
theorem intS_put (n : Nat) (r : List UInt8) (hn : n ≤ 9223372036854775807) : intS (Lib.uvarint n ++ r) false = (n, r, false) := by
 unfold intS
 rw [numS_put n r (by omega), if_neg (by simp only []; omega)]
theorem countS_put (n : Nat) (r : List UInt8) (most : Nat) (hn : n ≤ most) (hm : most ≤ 9223372036854775807) : countS (Lib.uvarint n ++ r) false most = (n, r, false) := by
 unfold countS
 rw [intS_put n r (by omega), if_neg (by simp only []; omega)]
theorem cutL_put (s r : List UInt8) (hn : s.length < 18446744073709551616) : cutL (Lib.uvarint s.length ++ s ++ r) = (s, (Lib.uvarint s.length).length + s.length) := by
 have h1 := Lib.uvarint_pos s.length
 unfold cutL
 rw [List.append_assoc, getL_put _ _ hn, if_neg (by simp only [List.length_append]; omega)]
 simp
theorem textS_put (s r : List UInt8) (hn : s.length < 18446744073709551616) : textS (Lib.uvarint s.length ++ s ++ r) false = (s, r, false) := by
 have h1 := Lib.uvarint_pos s.length
 unfold textS
 rw [cutL_put s r hn, if_neg (fun h => by rcases h with h | h; cases h; simp only [] at h; omega)]
 simp only [Prod.mk.injEq, and_true, true_and]
 rw [← List.length_append, List.drop_left]
end Go.Proofs.YtdaceeijifjpeaaGreatDoor.Vi
end
section
namespace Go.Proofs.YtdaceeijifjpeaaGreatDoor.Vi
open Go.RowKit Base Mem Go.Shelf
def addS (a b : Nat) : Nat := if 18446744073709551615 < a + b then 18446744073709551615 else a + b
theorem add_any (a b : Nat) (w : World) (ha : a < 18446744073709551616) (hb : b < 18446744073709551616) :
  Calls Tryz.prog 249 #[.int .u64 a, .int .u64 b] w fun e w' => e = .returned (.int .u64 (addS a b)) ∧ w = w' := by
 by_cases h : 18446744073709551615 < a + b
 ·have hR : Hid (addS a b = 18446744073709551615) := by show _ = _; unfold addS; rw [if_pos h]
  rw [hR.out]
  have hw : IntKind.u64.wrap (18446744073709551615 - (b : Int)) = 18446744073709551615 - (b : Int) := by rw [IntKind.wrap_u64]; omega
  have hi : (18446744073709551615 : Int) - (b : Int) < (a : Int) := by omega
  go_enter Tryz.func249, Tryz.ntmps249
  go_wp2
  go_ret
  exact ⟨rfl, rfl⟩
 ·have hR : Hid (addS a b = a + b) := by show _ = _; unfold addS; rw [if_neg h]
  rw [hR.out]
  have hw : IntKind.u64.wrap (18446744073709551615 - (b : Int)) = 18446744073709551615 - (b : Int) := by rw [IntKind.wrap_u64]; omega
  have hi : decide ((18446744073709551615 : Int) - (b : Int) < (a : Int)) = false := decide_eq_false (by omega)
  have hw2 : IntKind.u64.wrap ((a : Int) + (b : Int)) = (a : Int) + (b : Int) := by rw [IntKind.wrap_u64]; omega
  go_enter Tryz.func249, Tryz.ntmps249
  go_wp2
  go_ret
  exact ⟨ret_int (by simp), rfl⟩

/-- So many deltas from the front, and how the reader stands. -/
def getDs : Nat → List UInt8 → Bool → List DeltaD × List UInt8 × Bool
 | 0, l, b => ([], l, b)
 | k + 1, l, b =>
  let t := textS l b
  let u := numS t.2.1 t.2.2
  let r := getDs k u.2.1 u.2.2
  (⟨⟨t.1.toArray⟩, u.1⟩ :: r.1, r.2)
theorem infoDelta2 : (Tryz.prog.info? 91).map (fun i => (i.zero, i.size, i.bytes)) = some (some (.agg #[.string ByteArray.empty, .int .u64 0]), 2, 24) := by kernel_rfl
def GetPost (M : List Nat) (p n : Nat) (l : List UInt8) (b : Bool) (w : World) (e : Ending) (w' : World) : Prop := ∃ v, e = .returned v ∧ w'.ownsRow w.heap.size 91 2 v n (dCells (getDs n l b).1) ∧ RdAt w' M p (getDs n l b).2.1 (getDs n l b).2.2 ∧ Keeps [p] w w'
set_option maxRecDepth 100000 in
set_option maxHeartbeats 600000 in
theorem get_ds (M : List Nat) (p n : Nat) (l : List UInt8) (b : Bool) (w : World) (h : RdAt w M p l b) (hn : n ≤ 8) :
  Calls Tryz.prog 188 #[.pointer (some ⟨p, 0, none⟩), .int .i64 n] w fun e w' => GetPost M p n l b w e w' := by
 have hp0 := h.lt
 have H := Lib.hid h
 obtain ⟨i0, hi0, hz0, hz1, hz2⟩ := info_parts infoDelta2
 have Hi0 := Lib.hid hi0; have Hz0 := Lib.hid hz0; have Hz1 := Lib.hid hz1; have Hz2 := Lib.hid hz2
 clear h hi0 hz0 hz1 hz2
 go_enter Tryz.func188, Tryz.ntmps188
 go_wp2_with fail
 go_loopw [5, 8] (fun out i wr => ∃ (x : Nat) (acc : List DeltaD) (lx : List UInt8) (bx : Bool), i = .int .i64 x ∧ x ≤ n ∧ acc.length = x ∧ Hid ((getDs n l b) = (acc ++ (getDs (n - x) lx bx).1, (getDs (n - x) lx bx).2)) ∧ Hid (wr.ownsRow w.heap.size 91 2 out x (dCells acc)) ∧ Hid (RdAt wr (out.ownBlock.toList ++ M) p lx bx) ∧ Hid (Keeps [p] w wr)) (fun _ i _ => n - (intOf i).toNat)
 case atStart => exact ⟨0, [], l, b, rfl, by omega, rfl, (show getDs n l b = _ from rfl), World.ownsRow_nil _ _ _ _, (show RdAt w _ p l b from H.out), Keeps.refl _ _⟩
 case round =>
  obtain ⟨x, acc, lx, bx, rfl, hx, hal, Hg, Hown, HR, Hk⟩ := hrel
  by_cases hlt : x < n
  ·have hx1 : (x : Int) < (n : Int) := by omega
   have Hst : Hid (getDs (n - x) lx bx = (⟨⟨(textS lx bx).1.toArray⟩, (numS (textS lx bx).2.1 (textS lx bx).2.2).1⟩ :: (getDs (n - (x + 1)) (numS (textS lx bx).2.1 (textS lx bx).2.2).2.1 (numS (textS lx bx).2.1 (textS lx bx).2.2).2.2).1, (getDs (n - (x + 1)) (numS (textS lx bx).2.1 (textS lx bx).2.2).2.1 (numS (textS lx bx).2.1 (textS lx bx).2.2).2.2).2)) := by
    show _ = _
    rw [show n - x = (n - (x + 1)) + 1 by omega]
    rfl
   have ht := Lib.hid (rtext_any (u5.ownBlock.toList ++ M) p lx bx wr HR.out)
   generalize textS lx bx = t at *
   obtain ⟨t1, t2, t3⟩ := t
   simp only [] at ht Hst
   go_wp2_with fail
   refine ht.out.mono ?_
   rintro e w3 ⟨rfl, hA3, hk3⟩
   have hu := Lib.hid (number_any (u5.ownBlock.toList ++ M) p t2 t3 w3 hA3)
   have Hk3 := Lib.hid hk3
   generalize numS t2 t3 = u at *
   obtain ⟨u1, u2', u3'⟩ := u
   simp only [] at hu Hst
   clear hA3 hk3 ht
   go_wp2_with fail
   refine hu.out.mono ?_
   rintro e w4 ⟨rfl, hA4, hk4⟩
   have HA4 := Lib.hid hA4
   have Hk4 : Hid (Keeps [p] wr w4) := Hk3.out.trans hk4 (by simp)
   clear hA4 hk4 hu
   have hown4 := own_keep Hown.out Hk4.out (by simp; exact hp0)
   have Hown5 := Lib.hid (hown4.alloc (.cells #[.string ⟨t1.toArray⟩, .int .u64 u1] 91))
   have hlt0 := Lib.hid Hown.out.lt
   have hz4 : w.heap.size ≤ w4.heap.size := Nat.le_trans Hk.out.size Hk4.out.size
   clear hown4
   go_wp2_with (at_builtin; refine wpList_append_any _ rfl (.tmp 12) (.tmp 17) _ rfl w.heap.size 91 i0 _ 2 24 Tryz.underlying31 Hi0.out Hz0.out Hz1.out Hz2.out rfl (by omega) u5 x (dCells acc) rfl Hown5.out (w4.heap.size + 1) (some ⟨w4.heap.size, 0, none⟩) 1 1 (dCell ⟨⟨t1.toArray⟩, u1⟩) rfl (reads_new _ _ _ _ _ rfl) (by intro u hu; simp [dCell] at hu; rcases hu with rfl | rfl <;> rfl) (by unfold maxLen; omega) (by omega) (by simp; omega) ?_)
   intro v6 w6 hown6 hg6 hat6
   have hpo : p ∉ u5.ownBlock.toList := fun hm => by have := (hlt0.out p (by simpa using hm)).1; omega
   have kg : Keeps u5.ownBlock.toList (w4.alloc (.cells #[.string ⟨t1.toArray⟩, .int .u64 u1] 91)) w6 := (Keeps.refl _ _).grown hg6 (fun g hg => .inl (by simpa using hg))
   have h1 := HA4.out.keep (M' := []) ((Keeps.refl _ _).alloc (.cells #[.string ⟨t1.toArray⟩, .int .u64 u1] 91)) (by simp) (by simp)
   have h2 := h1.avoid (M' := v6.ownBlock.toList ++ (u5.ownBlock.toList ++ M)) (fun g hg => by
    rcases List.mem_append.1 hg with h | h
    ·rcases hat6 with h5 | h5
     ·exact .inl (List.mem_append_left _ (by rw [h5] at h; exact h))
     ·rw [h5] at h; simp at h; exact .inr (by simp; omega)
    ·exact .inl h)
   have H6 := Lib.hid ((h2.keep kg (fun g hg => .inl (List.mem_append_right _ (List.mem_append_left _ hg))) hpo).avoid (M' := v6.ownBlock.toList ++ M) (fun g hg => by
    rcases List.mem_append.1 hg with h | h
    ·exact .inl (List.mem_append_left _ h)
    ·exact .inl (List.mem_append_right _ (List.mem_append_right _ h))))
   have Hk6 : Hid (Keeps [p] w w6) := ((Hk.out.trans Hk4.out (by simp)).alloc _).grown hg6 (fun g hg => .inr (hlt0.out g hg).1)
   have Hown6 : Hid (w6.ownsRow w.heap.size 91 2 v6 (x + 1) (dCells (acc ++ [⟨⟨t1.toArray⟩, u1⟩]))) := by
    show World.ownsRow _ _ _ _ _ _ _
    unfold dCells at hown6 ⊢
    rw [List.flatMap_append]
    simpa using hown6
   have Hg6 : Hid (getDs n l b = ((acc ++ [⟨⟨t1.toArray⟩, u1⟩]) ++ (getDs (n - (x + 1)) u2' u3').1, (getDs (n - (x + 1)) u2' u3').2)) := by
    show _ = _
    rw [Hg.out, Hst.out]; simp
   clear hown6 hg6 hat6 kg h1 h2 hpo
   go_wp2
   go_roundw
   case rel => exact ⟨x + 1, acc ++ [⟨⟨t1.toArray⟩, u1⟩], u2', u3', by go_num, by omega, by simp; omega, Hg6, Hown6, H6, Hk6⟩
   case measure => simp [intOf] <;> omega
  ·obtain rfl : x = n := by omega
   have hg := Hg.out
   rw [Nat.sub_self] at hg
   have hp : Hid (GetPost M p x l b w (.returned u5) wr) := by
    refine ⟨u5, rfl, ?_, ?_, Hk.out⟩
    ·rw [hg]; simpa [getDs] using Hown.out
    ·rw [hg]; exact HR.out.avoid (fun g hg => .inl (List.mem_append_right _ hg))
   clear hg
   go_wp2
   go_ret
   exact hp.out
end Go.Proofs.YtdaceeijifjpeaaGreatDoor.Vi
end
