/- Texts put together: Shelf, Lab5, Lab6, Ent1, Ent2, Ent3, Ent4, Ent5, Ent6, CtC, McLay, McM, EntB, PlN, Ent7, Ent8, PlE, PlE2, EntC, Ent9, EntA, EntD, EntK, EntE, McO, WinP, McP. -/
import Derived.Shelf.Strings.Builder1
import Derived.Shelf.Strings.Builder2
import Derived.Shelf.Strings.OnBuilder
import Derived.Shelf.Small.Bits
import Derived.Shelf.Utf8.RuneCount
import Derived.Shelf.Strconv.Itoa0
import Derived.Shelf.Strings.Search1
import Derived.Shelf.Strings.Search2
import Derived.Shelf.Strings.Search3
import Derived.Shelf.Strings.Cut
import Derived.Shelf.Strings.Count
import Derived.Shelf.LaysM
import Derived.Shelf.Strings.Shaped
import Derived.Shelf.Strings.Split
import Derived.Shelf.Strings.SplitShaped
import Derived.Shelf.Unicode.Decode
import Derived.Shelf.Strings.RuneCount
import Derived.Shelf.Strings.Explode
import Derived.Shelf.Unicode.DecodeSlow
import Derived.Shelf.Unicode.DecodeAny
import Derived.Ground.SlgnProg
import Derived.Shelf.SlicesE.Clone
import Derived.Test.YtinnifhnabncfaaGreatDoorProg
import Derived.Laws.StructEq
import Derived.Shelf.SlicesQ.IndexFunc
import Derived.Deep.DeepCutAuto
import Derived.Shelf.SlGeneric
import Derived.Shelf.SlLaysF0
import Derived.Shelf.SlLaysM
import Derived.Ground.SlsfProg
import Derived.Ground.SlgmProg
import Derived.Shelf.SlSortCmp.SmallK
import Derived.Shelf.SlSortCmp.NoneTotal
import Derived.Sort.Walk0
import Derived.Lib.Strings
import Derived.Shelf.SlicesQ.Equal
import Derived.WalkKit
import Derived.Lib.Hide
import Derived.Test.YtinnifhnabncfaaGreatDoorMR1
import Derived.Test.YtinnifhnabncfaaGreatDoorMR2
set_option linter.unusedVariables false
set_option linter.unusedSimpArgs false
section
namespace Go.Proofs
open Go.Shelf
def Tryz.lays156_ren : Go.Shelf.Ren := ⟨fun | 156 => 199 | 165 => 232 | 166 => 233 | 169 => 234 | 240 => 252 | 241 => 253 | 276 => 261 | 277 => 262 | n => n, fun | 31 => 102 | 9 => 9 | 3 => 3 | 4 => 4 | 0 => 0 | 20 => 20 | 72 => 257 | 76 => 261 | 70 => 255 | 37 => 36 | 75 => 260 | 127 => 275 | 164 => 284 | 5 => 5 | 80 => 84 | n => n, fun | n => n⟩
theorem Tryz.lays156 : Go.Proofs.Lays.n156 Tryz.prog Tryz.lays156_ren := {
 mixed := by kernel_rfl
 f156 := Tryz.func199.trans (congrArg some (by kernel_rfl))
 f165 := Tryz.func232.trans (congrArg some (by kernel_rfl))
 f166 := Tryz.func233.trans (congrArg some (by kernel_rfl))
 f169 := Tryz.func234.trans (congrArg some (by kernel_rfl))
 f240 := Tryz.func252.trans (congrArg some (by kernel_rfl))
 f241 := Tryz.func253.trans (congrArg some (by kernel_rfl))
 f276 := Tryz.func261.trans (congrArg some (by kernel_rfl))
 f277 := Tryz.func262.trans (congrArg some (by kernel_rfl))
 t0 := Tryz.underlying0
 a0 := Tryz.isAgg0
 z0 := Tryz.sizeOf0
 v0 := Tryz.zeroValue0
 t3 := Tryz.underlying3
 a3 := Tryz.isAgg3
 z3 := Tryz.sizeOf3
 v3 := Tryz.zeroValue3
 t4 := Tryz.underlying4
 a4 := Tryz.isAgg4
 z4 := Tryz.sizeOf4
 v4 := Tryz.zeroValue4
 t9 := Tryz.underlying9
 a9 := Tryz.isAgg9
 z9 := Tryz.sizeOf9
 v9 := Tryz.zeroValue9
 t20 := Tryz.underlying20
 a20 := Tryz.isAgg20
 z20 := Tryz.sizeOf20
 v20 := Tryz.zeroValue20
 t31 := Tryz.underlying102
 a31 := Tryz.isAgg102
 z31 := Tryz.sizeOf102
 v31 := Tryz.zeroValue102
 t37 := Tryz.underlying36
 a37 := Tryz.isAgg36
 z37 := Tryz.sizeOf36
 v37 := Tryz.zeroValue36
 t70 := Tryz.underlying255
 a70 := Tryz.isAgg255
 z70 := Tryz.sizeOf255
 v70 := Tryz.zeroValue255
 t72 := Tryz.underlying257
 a72 := Tryz.isAgg257
 z72 := Tryz.sizeOf257
 v72 := Tryz.zeroValue257
 t75 := Tryz.underlying260
 a75 := Tryz.isAgg260
 z75 := Tryz.sizeOf260
 v75 := Tryz.zeroValue260
 t76 := Tryz.underlying261
 a76 := Tryz.isAgg261
 z76 := Tryz.sizeOf261
 v76 := Tryz.zeroValue261
 t127 := Tryz.underlying275
 a127 := Tryz.isAgg275
 z127 := Tryz.sizeOf275
 v127 := Tryz.zeroValue275
 t164 := Tryz.underlying284
 a164 := Tryz.isAgg284
 z164 := Tryz.sizeOf284
 v164 := Tryz.zeroValue284 }
theorem Tryz.Builder_Extra_156 : Builder.Extra Tryz.prog Tryz.lays156_ren := {
 sizeBuilder := by kernel_rfl
 liesBuilder := by kernel_rfl
 t5 := Tryz.underlying5
 a5 := Tryz.isAgg5
 z5 := Tryz.sizeOf5
 v5 := Tryz.zeroValue5
 infoByte := by kernel_rfl
 cellsByte := by kernel_rfl
 sizeByte := by kernel_rfl
 neB5 := by decide }
open Go.RowKit in
/-- strings.Join: "Join concatenates the elements of its first argument to create a single string. The separator string sep is placed between elements in the resulting string.": HOWEVER MANY ELEMENTS. Below the heap's end the world is as it was. (LAID: no walk: one application.) -/
theorem Tryz.strings_Join (bk o c : Nat) (xs : List ByteArray) (sep : ByteArray) (w : World) (hcells : ∀ (j : Nat) x, xs[j]? = some x → w.cell? ⟨bk, o + j, none⟩ = some (.string x)) (hbk : bk < w.heap.size) (hN : xs.length ≤ 140737488355328) (hcap : xs.length ≤ c) (hlen : (Lib.join (xs.map (·.data.toList)) sep.data.toList).length ≤ 140737488355328) :
  Calls Tryz.prog 199 #[.slice (some ⟨bk, o, none⟩) xs.length c, .string sep] w fun e w' => e = .returned (.string ⟨(Lib.join (xs.map (·.data.toList)) sep.data.toList).toArray⟩) ∧ Below w.heap.size w w' := Any.strings_Join Tryz.lays156 Tryz.Builder_Extra_156 bk o c xs sep w hcells hbk hN hcap hlen
def Tryz.lays125_ren : Go.Shelf.Ren := ⟨fun | 125 => 190 | 128 => 213 | 129 => 214 | n => n, fun | 46 => 39 | 3 => 3 | 51 => 136 | 53 => 66 | 4 => 4 | 5 => 5 | 9 => 9 | n => n, fun | n => n⟩
theorem Tryz.lays125 : Go.Proofs.Lays.n125 Tryz.prog Tryz.lays125_ren := {
 mixed := by kernel_rfl
 f125 := Tryz.func190.trans (congrArg some (by kernel_rfl))
 f128 := Tryz.func213.trans (congrArg some (by kernel_rfl))
 f129 := Tryz.func214.trans (congrArg some (by kernel_rfl))
 t3 := Tryz.underlying3
 a3 := Tryz.isAgg3
 z3 := Tryz.sizeOf3
 v3 := Tryz.zeroValue3
 t4 := Tryz.underlying4
 a4 := Tryz.isAgg4
 z4 := Tryz.sizeOf4
 v4 := Tryz.zeroValue4
 t5 := Tryz.underlying5
 a5 := Tryz.isAgg5
 z5 := Tryz.sizeOf5
 v5 := Tryz.zeroValue5
 t9 := Tryz.underlying9
 a9 := Tryz.isAgg9
 z9 := Tryz.sizeOf9
 v9 := Tryz.zeroValue9
 t46 := Tryz.underlying39
 a46 := Tryz.isAgg39
 z46 := Tryz.sizeOf39
 v46 := Tryz.zeroValue39
 t51 := Tryz.underlying136
 a51 := Tryz.isAgg136
 z51 := Tryz.sizeOf136
 v51 := Tryz.zeroValue136
 t53 := Tryz.underlying66
 a53 := Tryz.isAgg66
 z53 := Tryz.sizeOf66
 v53 := Tryz.zeroValue66 }
/-- bits.Len: "Len returns the minimum number of bits required to represent x; the result is 0 for x == 0.": IT RETURNS 'Lib.bitLen x'; the world is as it was. (A uint has 64 bits in the model.) ITS CALLEE bits.Len64 IS MET BY ITS OWN CONTRACT OFF THE SHELF (lay that first). (LAID: no walk: one application.) -/
theorem Tryz.bits_Len (x : Int) (w : World) (h0 : 0 ≤ x) (h1 : x ≤ 18446744073709551615) :
  Calls Tryz.prog 190 #[.int .u64 x] w fun e w' => e = .returned (.int .i64 (Lib.bitLen x.toNat)) ∧ w' = w := Any.bits_Len Tryz.lays125 x w h0 h1
def Tryz.lays145_ren : Go.Shelf.Ren := ⟨fun | 145 => 174 | 220 => 196 | 219 => 227 | 217 => 247 | 225 => 248 | 224 => 249 | 267 => 250 | 266 => 257 | 314 => 258 | n => n, fun | 9 => 9 | 4 => 4 | 59 => 220 | 3 => 3 | 5 => 5 | 46 => 39 | 146 => 280 | 51 => 136 | n => n, fun | 1 => 0 | n => n⟩
theorem Tryz.lays145 : Go.Proofs.Lays.n145 Tryz.prog Tryz.lays145_ren := {
 mixed := by kernel_rfl
 f145 := Tryz.func174.trans (congrArg some (by kernel_rfl))
 f217 := Tryz.func247.trans (congrArg some (by kernel_rfl))
 f219 := Tryz.func227.trans (congrArg some (by kernel_rfl))
 f220 := Tryz.func196.trans (congrArg some (by kernel_rfl))
 f224 := Tryz.func249.trans (congrArg some (by kernel_rfl))
 f225 := Tryz.func248.trans (congrArg some (by kernel_rfl))
 f266 := Tryz.func257.trans (congrArg some (by kernel_rfl))
 f267 := Tryz.func250.trans (congrArg some (by kernel_rfl))
 f314 := Tryz.func258.trans (congrArg some (by kernel_rfl))
 t3 := Tryz.underlying3
 a3 := Tryz.isAgg3
 z3 := Tryz.sizeOf3
 v3 := Tryz.zeroValue3
 t4 := Tryz.underlying4
 a4 := Tryz.isAgg4
 z4 := Tryz.sizeOf4
 v4 := Tryz.zeroValue4
 t5 := Tryz.underlying5
 a5 := Tryz.isAgg5
 z5 := Tryz.sizeOf5
 v5 := Tryz.zeroValue5
 t9 := Tryz.underlying9
 a9 := Tryz.isAgg9
 z9 := Tryz.sizeOf9
 v9 := Tryz.zeroValue9
 t46 := Tryz.underlying39
 a46 := Tryz.isAgg39
 z46 := Tryz.sizeOf39
 v46 := Tryz.zeroValue39
 t51 := Tryz.underlying136
 a51 := Tryz.isAgg136
 z51 := Tryz.sizeOf136
 v51 := Tryz.zeroValue136
 t59 := Tryz.underlying220
 a59 := Tryz.isAgg220
 z59 := Tryz.sizeOf220
 v59 := Tryz.zeroValue220
 t146 := Tryz.underlying280
 a146 := Tryz.isAgg280
 z146 := Tryz.sizeOf280
 v146 := Tryz.zeroValue280
 g1 := by kernel_rfl }
open Go.RowKit Go.Lib in
/-- strings.Cut: "Cut slices s around the first instance of sep, returning the text before and after sep. The found result reports whether sep appears in s. If sep does not appear in s, cut returns s, "", false.": IT RETURNS 'Lib.cut s sep'; the world is as it was but for the count of draws. (LAID: no walk: one application.) -/
theorem Tryz.strings_Cut (s sep : ByteArray) (m : Int) (w : World) (hs : s.size < 4294967281) (hm : w.cell? ⟨0, 0, none⟩ = some (.int .i64 m)) :
  Calls Tryz.prog 174 #[.string s, .string sep] w fun e w' => e = .returned (.tuple #[.string ⟨(Lib.cut s.data.toList sep.data.toList).1.toArray⟩, .string ⟨(Lib.cut s.data.toList sep.data.toList).2.1.toArray⟩, .bool (Lib.cut s.data.toList sep.data.toList).2.2]) ∧ ∃ n, w' = w.drewN n := Any.strings_Cut Tryz.lays145 s sep m w hs hm
def Tryz.lays146_ren : Go.Shelf.Ren := ⟨fun | 146 => 173 | 221 => 195 | 268 => 224 | 138 => 225 | 143 => 226 | 195 => 244 | 197 => 245 | 218 => 246 | 219 => 227 | 260 => 256 | 217 => 247 | 225 => 248 | 224 => 249 | 267 => 250 | 266 => 257 | 314 => 258 | n => n, fun | 9 => 9 | 31 => 102 | 3 => 3 | 4 => 4 | 0 => 0 | 105 => 271 | 21 => 21 | 5 => 5 | 46 => 39 | 119 => 287 | 139 => 290 | 138 => 289 | 146 => 280 | 51 => 136 | n => n, fun | 1 => 0 | 3 => 1 | 4 => 2 | n => n⟩
theorem Tryz.lays146 : Go.Proofs.Lays.n146 Tryz.prog Tryz.lays146_ren := {
 mixed := by kernel_rfl
 f138 := Tryz.func225.trans (congrArg some (by kernel_rfl))
 f143 := Tryz.func226.trans (congrArg some (by kernel_rfl))
 f146 := Tryz.func173.trans (congrArg some (by kernel_rfl))
 f195 := Tryz.func244.trans (congrArg some (by kernel_rfl))
 f197 := Tryz.func245.trans (congrArg some (by kernel_rfl))
 f217 := Tryz.func247.trans (congrArg some (by kernel_rfl))
 f218 := Tryz.func246.trans (congrArg some (by kernel_rfl))
 f219 := Tryz.func227.trans (congrArg some (by kernel_rfl))
 f221 := Tryz.func195.trans (congrArg some (by kernel_rfl))
 f224 := Tryz.func249.trans (congrArg some (by kernel_rfl))
 f225 := Tryz.func248.trans (congrArg some (by kernel_rfl))
 f260 := Tryz.func256.trans (congrArg some (by kernel_rfl))
 f266 := Tryz.func257.trans (congrArg some (by kernel_rfl))
 f267 := Tryz.func250.trans (congrArg some (by kernel_rfl))
 f268 := Tryz.func224.trans (congrArg some (by kernel_rfl))
 f314 := Tryz.func258.trans (congrArg some (by kernel_rfl))
 t0 := Tryz.underlying0
 a0 := Tryz.isAgg0
 z0 := Tryz.sizeOf0
 v0 := Tryz.zeroValue0
 t3 := Tryz.underlying3
 a3 := Tryz.isAgg3
 z3 := Tryz.sizeOf3
 v3 := Tryz.zeroValue3
 t4 := Tryz.underlying4
 a4 := Tryz.isAgg4
 z4 := Tryz.sizeOf4
 v4 := Tryz.zeroValue4
 t5 := Tryz.underlying5
 a5 := Tryz.isAgg5
 z5 := Tryz.sizeOf5
 v5 := Tryz.zeroValue5
 t9 := Tryz.underlying9
 a9 := Tryz.isAgg9
 z9 := Tryz.sizeOf9
 v9 := Tryz.zeroValue9
 t21 := Tryz.underlying21
 a21 := Tryz.isAgg21
 z21 := Tryz.sizeOf21
 v21 := Tryz.zeroValue21
 t31 := Tryz.underlying102
 a31 := Tryz.isAgg102
 z31 := Tryz.sizeOf102
 v31 := Tryz.zeroValue102
 t46 := Tryz.underlying39
 a46 := Tryz.isAgg39
 z46 := Tryz.sizeOf39
 v46 := Tryz.zeroValue39
 t51 := Tryz.underlying136
 a51 := Tryz.isAgg136
 z51 := Tryz.sizeOf136
 v51 := Tryz.zeroValue136
 t105 := Tryz.underlying271
 a105 := Tryz.isAgg271
 z105 := Tryz.sizeOf271
 v105 := Tryz.zeroValue271
 t119 := Tryz.underlying287
 a119 := Tryz.isAgg287
 z119 := Tryz.sizeOf287
 t138 := Tryz.underlying289
 a138 := Tryz.isAgg289
 z138 := Tryz.sizeOf289
 v138 := Tryz.zeroValue289
 t139 := Tryz.underlying290
 a139 := Tryz.isAgg290
 z139 := Tryz.sizeOf290
 v139 := Tryz.zeroValue290
 t146 := Tryz.underlying280
 a146 := Tryz.isAgg280
 z146 := Tryz.sizeOf280
 v146 := Tryz.zeroValue280
 g1 := by kernel_rfl
 g3 := by kernel_rfl
 g4 := by kernel_rfl }
open Go.RowKit Go.Lib in
/-- strings.Split. (LAID: no walk: one application.) -/
theorem Tryz.strings_Split (s sep : ByteArray) (m : Int) (w : World) (hs : s.size < 4294967281) (hm : w.cell? ⟨0, 0, none⟩ = some (.int .i64 m)) (h1 : 1 ≤ sep.size) :
  Calls Tryz.prog 173 #[.string s, .string sep] w fun e w' =>
   e = .returned (.slice (some ⟨w.heap.size, 0, none⟩) (Lib.countB s sep + 1) (Lib.countB s sep + 1)) ∧ w' = w.alloc (.cells ((Lib.splitB sep 0 (Lib.countB s sep) s).map Value.string).toArray 9) := Any.strings_Split Tryz.lays146 (by kernel_rfl) s sep m w hs hm h1
end Go.Proofs
end
section
namespace Go.Proofs.YtinnifhnabncfaaGreatDoor.Vi
open Go.RowKit Base Mem Go.Sort Go.Shelf
def pairB (x : LabD) : ByteArray := x.name ++ ⟨#[61]⟩ ++ x.value
def joinB (l : List LabD) : ByteArray := ⟨(Lib.join ((l.map pairB).map (·.data.toList)) [44]).toArray⟩
/-- A series of labels; else why not. -/
def ltextS (l : List LabD) : ByteArray × Nat := if rightS l = 0 then (joinB (sortL l), 0) else (⟨#[]⟩, rightS l)
theorem pairB_len (x : LabD) : (pairB x).data.toList.length = x.name.size + 1 + x.value.size := by
 unfold pairB
 rw [ByteArray.data_append, ByteArray.data_append, Array.toList_append, Array.toList_append, List.length_append, List.length_append]
 rfl
theorem join_len (l : List LabD) (h : ∀ x ∈ l, x.name.size ≤ 32 ∧ x.value.size ≤ 32) : (Lib.join ((l.map pairB).map (·.data.toList)) [44]).length ≤ 66 * l.length := by
 induction l with
 | nil => simp [Lib.join_nil]
 | cons a r ih =>
  rw [List.map_cons, List.map_cons, Lib.join_cons]
  have ha := h a (by simp)
  have hp := pairB_len a
  have hr : ∀ (r : List LabD), (∀ x ∈ r, x.name.size ≤ 32 ∧ x.value.size ≤ 32) → (Lib.joinTail [44] ((r.map pairB).map (·.data.toList))).length ≤ 66 * r.length := by
   intro r hr
   induction r with
   | nil => simp [Lib.joinTail]
   | cons b q ihq =>
    have hb := hr b (by simp)
    have hpb := pairB_len b
    have := ihq (fun x hx => hr x (List.mem_cons_of_mem _ hx))
    simp only [Lib.joinTail, List.map_cons, List.flatten_cons, List.length_append, List.length_cons, List.length_nil] at this ⊢
    omega
  have := hr r (fun x hx => h x (List.mem_cons_of_mem _ hx))
  rw [List.length_append, List.length_cons]
  omega
theorem okRow_sizes {s : List LabD} (h : okRow s = true) : ∀ x ∈ s, x.name.size ≤ 32 ∧ x.value.size ≤ 32 := by
 intro x hx
 obtain ⟨i, hi, rfl⟩ := List.getElem_of_mem hx
 unfold okRow at h
 rw [List.all_eq_true] at h
 have h1 := h i (List.mem_range.2 hi)
 unfold itemOk at h1
 rw [getElem!_pos s i hi, Bool.and_eq_true, Bool.and_eq_true] at h1
 have h2 := h1.1.1
 have h3 := h1.1.2
 unfold nameOk at h2 h3
 simp at h2 h3
 omega
theorem infoStr : (Tryz.prog.info? 9).map (fun i => (i.zero, i.size, i.bytes)) = some (some (.string ByteArray.empty), 1, 16) := by kernel_rfl
def TextPost (l : List LabD) (w : World) (e : Ending) (w' : World) : Prop := e = .returned (.tuple #[.string (ltextS l).1, .int .i64 (ltextS l).2]) ∧ Below w.heap.size w w'
set_option maxRecDepth 100000 in
theorem ltext_any (v : Value) (l : List LabD) (w : World) (h : Labs w [] v l) (hl : l.length ≤ 4611686018427387904) :
  Calls Tryz.prog 175 #[v] w fun e w' => TextPost l w e w' := by
 have hri := Lib.hid (lright_any v l w h hl)
 have HT : Hid (ltextS l = if rightS l = 0 then (joinB (sortL l), 0) else (⟨#[]⟩, rightS l)) := rfl
 by_cases hr0 : rightS l = 0
 ·have hR : Hid (ltextS l = (joinB (sortL l), 0)) := by show _ = _; rw [HT.out, if_pos hr0]
  have hl8 : l.length ≤ 8 ∧ okRow (sortL l) = true := by
   unfold rightS at hr0
   by_cases h8 : 8 < l.length
   ·rw [if_pos h8] at hr0; cases hr0
   ·rw [if_neg h8] at hr0
    refine ⟨by omega, ?_⟩
    cases hk : okRow (sortL l) with
    | true => rfl
    | false => rw [hk] at hr0; simp at hr0
  obtain ⟨hl8, hok⟩ := hl8
  have hjl := Lib.hid (join_len (sortL l) (okRow_sizes hok))
  have hsz := Lib.hid (okRow_sizes hok)
  rw [hr0] at hri
  have hso := Lib.hid (fun W (hk : Keeps [] w W) => sorted_any v l W (h.keep hk (by simp)) (by omega))
  obtain ⟨A, c, rfl, hc⟩ := h.len
  have hs8 : (sortL l).length ≤ 8 := by rw [sortL_len]; omega
  have hs0 : 0 < (sortL l).length := by
   rw [sortL_len]
   unfold rightS at hr0
   rw [if_neg (by omega), hok] at hr0
   rcases Nat.eq_zero_or_pos l.length with hz | hz
   ·rw [hz] at hr0; simp at hr0
   ·exact hz
  clear h HT hr0 hok
  obtain ⟨i0, hi0, hz0, hz1, hz2⟩ := info_parts infoStr
  have Hi0 := Lib.hid hi0; have Hz0 := Lib.hid hz0; have Hz1 := Lib.hid hz1; have Hz2 := Lib.hid hz2
  clear hi0 hz0 hz1 hz2
  generalize sortL l = s at *
  go_enter Tryz.func175, Tryz.ntmps175
  go_wp2_with fail
  refine hri.out.mono ?_
  rintro e w1 ⟨rfl, hb1⟩
  have hso1 := Lib.hid (hso.out w1 (Keeps.of_below hb1))
  have Hb1 := Lib.hid hb1
  clear hb1 hri hso
  go_wp2_with fail
  refine hso1.out.mono ?_
  rintro e w2 ⟨A1, rfl, hA, hb2⟩
  have HA := Lib.hid (hA [] (by simp)); have Hb2 := Lib.hid (below_then Hb1.out hb2)
  clear hA hb2 hso1 Hb1
  go_wp2_with fail
  go_loopw [5, 16] (fun out i wr => ∃ x : Nat, i = .int .i64 x ∧ x ≤ s.length ∧ Hid (wr.ownsRow w2.heap.size 9 1 out x ((s.take x).map fun y => Value.string (pairB y))) ∧ Hid (Below w2.heap.size w2 wr)) (fun _ i _ => s.length - (intOf i).toNat)
  case atStart => exact ⟨0, rfl, by omega, World.ownsRow_nil _ _ _ _, Below.refl _ _⟩
  case round =>
   obtain ⟨x, rfl, hx, Hown, Hbr⟩ := hrel
   by_cases hlt : x < s.length
   ·have hx1 : (x : Int) < (s.length : Int) := by omega
    obtain ⟨g, off, _, e1, hg, c0, c1⟩ := (HA.out.keep (Keeps.of_below (M := []) Hbr.out) (by simp)).at_ hlt
    obtain rfl : A1 = some ⟨g, off, none⟩ := by injection e1
    clear e1
    have Htk : Hid (s.take (x + 1) = s.take x ++ [s[x]]) := List.take_succ_eq_append_getElem hlt
    have Hpb : Hid (pairB s[x] = s[x].name ++ ⟨#[61]⟩ ++ s[x].value) := rfl
    have hd32 := hsz.out s[x] (List.getElem_mem _)
    generalize s[x] = d at *
    have k1 : ¬ (9223372036854775807 < d.name.size + 1) := by omega
    have k2 : ¬ (9223372036854775807 < d.name.size + 1 + d.value.size) := by omega
    have k3 : ¬ (9223372036854775807 < (d.name ++ ⟨#[61]⟩).size + d.value.size) := by rw [ByteArray.size_append]; exact k2
    clear hd32
    have Hrd : Hid (Reads ((wr.alloc (.cells #[.string d.name, .string d.value] 215)).alloc (.cells #[.string (d.name ++ ⟨#[61]⟩ ++ d.value)] 9)) (wr.heap.size + 2) 1 (some ⟨wr.heap.size + 1, 0, none⟩) 1 [.string (d.name ++ ⟨#[61]⟩ ++ d.value)]) := by
     have := reads_new (wr.alloc (.cells #[.string d.name, .string d.value] 215)) 9 1 1 [.string (d.name ++ ⟨#[61]⟩ ++ d.value)] rfl
     show Reads _ _ _ _ _ _
     simpa using this
    have Hown3 := Lib.hid ((Hown.out.alloc (.cells #[.string d.name, .string d.value] 215)).alloc (.cells #[.string (d.name ++ ⟨#[61]⟩ ++ d.value)] 9))
    have hz2 : w2.heap.size ≤ wr.heap.size := Hbr.out.size
    have hb0 : w2.heap.size ≤ ((wr.alloc (.cells #[.string d.name, .string d.value] 215)).alloc (.cells #[.string (d.name ++ ⟨#[61]⟩ ++ d.value)] 9)).heap.size := by simp; omega
    have hm1 : x + 1 ≤ maxLen := by unfold maxLen; omega
    have hm2 : (x + 1) * 16 ≤ 140737488355328 := by omega
    have hone : ∀ u ∈ [Value.string (d.name ++ ⟨#[61]⟩ ++ d.value)], u.oneCell' = true := by intro u hu; simp at hu; subst hu; rfl
    have Hb0 := Lib.hid hb0; have Hm1 := Lib.hid hm1; have Hm2 := Lib.hid hm2; have Hone := Lib.hid hone
    clear hb0 hm1 hm2 hone
    go_wp2_with (at_builtin; refine wpList_append_any _ rfl (.tmp 20) (.tmp 27) _ rfl w2.heap.size 9 i0 _ 1 16 Tryz.underlying102 Hi0.out Hz0.out Hz1.out Hz2.out rfl (by omega) u5 x ((s.take x).map fun y => Value.string (pairB y)) rfl Hown3.out (wr.heap.size + 2) (some ⟨wr.heap.size + 1, 0, none⟩) 1 1 [.string (d.name ++ ⟨#[61]⟩ ++ d.value)] rfl Hrd.out Hone.out Hm1.out Hm2.out Hb0.out ?_)
    intro v4 w4 hown4 hg4 hat4
    have Hown4 : Hid (w4.ownsRow w2.heap.size 9 1 v4 (x + 1) ((s.take (x + 1)).map fun y => Value.string (pairB y))) := by
     show World.ownsRow _ _ _ _ _ _ _
     rw [Htk.out, List.map_append, List.map_cons, List.map_nil, Hpb.out, List.map_take]
     exact hown4
    have Hb4 : Hid (Below w2.heap.size w2 w4) := ((Hbr.out.alloc Hbr.out.size _).alloc (by simp; omega) _).grown hg4 (by simp; omega) (fun g hg => (Hown.out.lt g hg).1)
    clear hown4 hg4 hat4
    go_wp2
    go_roundw
    case rel => exact ⟨x + 1, by go_num, by omega, Hown4, Hb4⟩
    case measure => simp [intOf] <;> omega
   ·obtain rfl : x = s.length := by omega
    have hrow : ∃ g c, u5 = .slice (some ⟨g, 0, none⟩) s.length c ∧ s.length ≤ c ∧ g < wr.heap.size ∧ ∀ (j : Nat) x, (s.map pairB)[j]? = some x → wr.cell? ⟨g, 0 + j, none⟩ = some (.string x) := by
     have h1 := Hown.out
     rw [List.take_length] at h1
     obtain ⟨g, cap, hv, hge, hgl⟩ := h1.form hs0
     subst hv
     have hrd := Rd.of_own (M := []) h1 (by simp)
     obtain ⟨A', c', he, hc', _, hx⟩ := hrd
     injection he with e1 _ e3
     subst e1 e3
     obtain ⟨g', off', e, _, _, hcell⟩ := hx hs0
     injection e with e
     injection e with e1 e2 _
     subst e1 e2
     refine ⟨g, cap, rfl, hc', hgl, fun j x hjx => hcell j _ ?_⟩
     rw [List.getElem?_map] at hjx ⊢
     cases hsj : s[j]? with
     | none => rw [hsj] at hjx; cases hjx
     | some d => rw [hsj] at hjx; injection hjx with hjx; rw [← hjx]; rfl
    obtain ⟨g, cj, rfl, hcj, hgl, hcell⟩ := hrow
    have hjo := Tryz.strings_Join g 0 cj (s.map pairB) ⟨#[44]⟩ wr hcell hgl (by rw [List.length_map]; omega) (by rw [List.length_map]; exact hcj) (Nat.le_trans hjl.out (by omega))
    rw [List.length_map] at hjo
    have Hjo := Lib.hid (show Calls Tryz.prog 199 #[.slice (some ⟨g, 0, none⟩) s.length cj, .string ⟨#[44]⟩] wr fun e w' => e = .returned (.string (joinB s)) ∧ Below wr.heap.size wr w' from hjo)
    have Hall := Lib.hid (below_then Hb2.out Hbr.out)
    clear hjo hcell
    go_wp2_with fail
    refine Hjo.out.mono ?_
    rintro e w5 ⟨rfl, hb5⟩
    have hp : Hid (TextPost l w (.returned (.tuple #[.string (joinB s), .int .i64 0])) w5) := by
     exact ⟨by rw [hR.out]; rfl, below_then Hall.out hb5⟩
    clear hb5
    go_wp2
    go_ret2
    exact hp.out
 ·have hR : Hid (ltextS l = (⟨#[]⟩, rightS l)) := by show _ = _; rw [HT.out, if_neg hr0]
  obtain ⟨A, c, rfl, hc⟩ := h.len
  have hri2 : ((rightS l : Int) != 0) = true := by simpa using hr0
  clear h HT hr0
  have hp : Hid (∀ w1, Below w.heap.size w w1 → TextPost l w (.returned (.tuple #[.string ⟨#[]⟩, .int .i64 (rightS l)])) w1) := fun w1 hb => ⟨by rw [hR.out], hb⟩
  generalize rightS l = r at *
  go_enter Tryz.func175, Tryz.ntmps175
  go_wp2_with fail
  refine hri.out.mono ?_
  rintro e w1 ⟨rfl, hb1⟩
  have Hp := Lib.hid (hp.out _ hb1)
  clear hb1 hp
  go_wp2
  go_ret2
  exact Hp.out
def partsS (s : ByteArray) : List ByteArray := Lib.splitB ⟨#[44]⟩ 0 (Lib.countB s ⟨#[44]⟩) s
def cutD (p : ByteArray) : LabD := ⟨⟨(Lib.cut p.data.toList [61]).1.toArray⟩, ⟨(Lib.cut p.data.toList [61]).2.1.toArray⟩⟩
def labsS (s : ByteArray) : List LabD := (partsS s).map cutD
/-- Is a text a series? -/
def serOk (s : ByteArray) : Bool := decide ((ltextS (labsS s)).2 = 0) && (ltextS (labsS s)).1.toList == s.toList
theorem splitB_size (sep : ByteArray) : ∀ (k : Nat) (s : ByteArray), ∀ p ∈ Lib.splitB sep 0 k s, p.size ≤ s.size
 | 0, s, p, h => by rw [Lib.splitB_zero] at h; simp at h; subst h; exact Nat.le_refl _
 | k + 1, s, p, h => by
  unfold Lib.splitB at h
  split at h
  ·simp at h; subst h; exact Nat.le_refl _
  ·rcases List.mem_cons.1 h with h | h
   ·subst h; rw [ByteArray.size_extract]; omega
   ·have := splitB_size sep k _ p h
    rw [ByteArray.size_extract] at this
    omega
def ParsePost (s : ByteArray) (w : World) (e : Ending) (w' : World) : Prop := ∃ v, e = .returned (.tuple #[v, .int .i64 (if serOk s = true then 0 else 12)]) ∧ Below w.heap.size w w'
set_option maxRecDepth 100000 in
set_option maxHeartbeats 1000000 in
theorem parse_any (s : ByteArray) (m : Int) (w : World) (hs : s.size < 4294967281) (hm : w.cell? ⟨0, 0, none⟩ = some (.int .i64 m)) :
  Calls Tryz.prog 126 #[.string s] w fun e w' => ParsePost s w e w' := by
 have hsp := Lib.hid (Tryz.strings_Split s ⟨#[44]⟩ m w hs hm (by decide))
 have hsz := Lib.hid (splitB_size ⟨#[44]⟩ (Lib.countB s ⟨#[44]⟩) s)
 have hcl := Lib.countB_le ⟨#[44]⟩ (by decide) s.size s (Nat.le_refl _)
 have hln : (partsS s).length = Lib.countB s ⟨#[44]⟩ + 1 := Lib.splitB_all ⟨#[44]⟩ (by decide) 0 _ s rfl
 have hw0 : 0 < w.heap.size := by
  rcases Nat.eq_zero_or_pos w.heap.size with h | h
  ·exfalso
   have := World.block_lt_of_cell? w _ hm
   simp at this; omega
  ·exact h
 have Hm := Lib.hid hm
 have HO : Hid (serOk s = (decide ((ltextS (labsS s)).2 = 0) && (ltextS (labsS s)).1.toList == s.toList)) := rfl
 have HL : Hid (labsS s = (partsS s).map cutD) := rfl
 obtain ⟨i0, hi0, hz0, hz1, hz2⟩ := info_parts infoLabel
 have Hi0 := Lib.hid hi0; have Hz0 := Lib.hid hz0; have Hz1 := Lib.hid hz1; have Hz2 := Lib.hid hz2
 clear hi0 hz0 hz1 hz2 hm
 have hps : Hid (∀ p ∈ partsS s, p.size ≤ s.size) := hsz.out
 have hpd : Hid (partsS s = Lib.splitB ⟨#[44]⟩ 0 (Lib.countB s ⟨#[44]⟩) s) := rfl
 rw [← hpd.out] at hsp
 rw [← hln] at hsp
 have hlen : (partsS s).length ≤ 4294967295 := by omega
 clear hsz hpd hln hcl
 generalize partsS s = ps at *
 generalize labsS s = ls at *
 go_enter Tryz.func126, Tryz.ntmps126
 go_wp2_with fail
 refine hsp.out.mono ?_
 rintro e w1 ⟨rfl, hw1⟩
 have hb1 : Below w.heap.size w w1 := by rw [hw1]; exact (Below.refl _ _).alloc (Nat.le_refl _) _
 have hB1 : Blk w1 w.heap.size 9 (ps.map Value.string).toArray := by rw [hw1]; exact Blk.new w _ _
 have Hb1 := Lib.hid hb1; have HB1 := Lib.hid hB1
 have hw1s : w.heap.size < w1.heap.size := hB1.lt
 clear hw1 hb1 hB1 hsp
 go_wp2_with fail
 go_loopw [4, 15] (fun out i wr => ∃ x : Nat, i = .int .i64 x ∧ x ≤ ps.length ∧ Hid (wr.ownsRow w1.heap.size 215 2 out x (((ps.take x).map cutD).flatMap labEnc)) ∧ Hid (Below w1.heap.size w1 wr)) (fun _ i _ => ps.length - (intOf i).toNat)
 case atStart => exact ⟨0, rfl, by omega, World.ownsRow_nil _ _ _ _, Below.refl _ _⟩
 case round =>
  obtain ⟨x, rfl, hx, Hown, Hbr⟩ := hrel
  by_cases hlt : x < ps.length
  ·have hx1 : (x : Int) < (ps.length : Int) := by omega
   have c0 : wr.cell? ⟨w.heap.size, x, none⟩ = some (.string ps[x]) := by
    rw [(HB1.out.below Hbr.out hw1s).cell x, List.getElem?_toArray, List.getElem?_map, List.getElem?_eq_getElem hlt]; rfl
   have Htk : Hid (ps.take (x + 1) = ps.take x ++ [ps[x]]) := List.take_succ_eq_append_getElem hlt
   have hpx := hps.out ps[x] (List.getElem_mem _)
   have hmr : wr.cell? ⟨0, 0, none⟩ = some (.int .i64 m) := (Hbr.out.cell (p := ⟨0, 0, none⟩) (by simp; omega)).trans ((Hb1.out.cell (p := ⟨0, 0, none⟩) hw0).trans Hm.out)
   generalize ps[x] = p at *
   have hcu := Lib.hid (Tryz.strings_Cut p ⟨#[61]⟩ m wr (by omega) hmr)
   have Hcd : Hid (cutD p = ⟨⟨(Lib.cut p.data.toList [61]).1.toArray⟩, ⟨(Lib.cut p.data.toList [61]).2.1.toArray⟩⟩) := rfl
   have hcu2 := Lib.hid (show Calls Tryz.prog 174 #[.string p, .string ⟨#[61]⟩] wr fun e w' => e = .returned (.tuple #[.string (cutD p).name, .string (cutD p).value, .bool (Lib.cut p.data.toList [61]).2.2]) ∧ ∃ n, w' = wr.drewN n from hcu.out)
   clear hcu Hcd hmr hpx
   generalize hd : cutD p = d at *
   have Hd := Lib.hid hd
   generalize (Lib.cut p.data.toList [61]).2.2 = fnd at *
   clear hd
   have Htk2 : Hid ((ps.take (x + 1)).map cutD = (ps.take x).map cutD ++ [d]) := by show _ = _; rw [Htk.out, List.map_append, List.map_cons, List.map_nil, Hd.out]
   have hz2 : w1.heap.size ≤ wr.heap.size := Hbr.out.size
   have Hm1 : Hid (x + 1 ≤ maxLen) := by show _ ≤ _; unfold maxLen; omega
   have Hm2 : Hid ((x + 1) * 32 ≤ 140737488355328) := by show _ ≤ _; omega
   have Hone : Hid (∀ u ∈ labEnc d, u.oneCell' = true) := fun u hu => by simp [labEnc] at hu; rcases hu with rfl | rfl <;> rfl
   have Hown3 : Hid (∀ n, ((wr.drewN n).alloc (.cells #[.string d.name, .string d.value] 215)).ownsRow w1.heap.size 215 2 u4 x (((ps.take x).map cutD).flatMap labEnc)) := fun n =>
    own_keep Hown.out (((Keeps.refl [] wr).drewN n).alloc _) (by simp)
   have Hrd : Hid (∀ n, Reads ((wr.drewN n).alloc (.cells #[.string d.name, .string d.value] 215)) (wr.heap.size + 1) 2 (some ⟨wr.heap.size, 0, none⟩) 1 (labEnc d)) := fun n => reads_new (wr.drewN n) 215 2 1 (labEnc d) rfl
   clear Htk Hd
   go_wp2_with fail
   refine hcu2.out.mono ?_
   rintro e w3 ⟨rfl, n, rfl⟩
   go_wp2_with (at_builtin; refine wpList_append_any _ rfl (.tmp 25) (.tmp 29) _ rfl w1.heap.size 215 i0 _ 2 32 Tryz.underlying168 Hi0.out Hz0.out Hz1.out Hz2.out rfl (by omega) u4 x (((ps.take x).map cutD).flatMap labEnc) rfl (Hown3.out n) (wr.heap.size + 1) (some ⟨wr.heap.size, 0, none⟩) 1 1 (labEnc d) rfl (Hrd.out n) Hone.out Hm1.out Hm2.out (by simp; omega) ?_)
   intro v4 w4 hown4 hg4 hat4
   have Hown4 : Hid (w4.ownsRow w1.heap.size 215 2 v4 (x + 1) (((ps.take (x + 1)).map cutD).flatMap labEnc)) := by
    show World.ownsRow _ _ _ _ _ _ _
    rw [Htk2.out, List.flatMap_append]
    simpa using hown4
   have Hb4 : Hid (Below w1.heap.size w1 w4) := (((Keeps.of_below (M := []) Hbr.out).drewN n).alloc _).below.grown hg4 (by simp; omega) (fun g hg => (Hown.out.lt g hg).1)
   clear hown4 hg4 hat4
   go_wp2
   go_roundw
   case rel => exact ⟨x + 1, by go_num, by omega, Hown4, Hb4⟩
   case measure => simp [intOf] <;> omega
  ·obtain rfl : x = ps.length := by omega
   have hown := Hown.out
   rw [List.take_length, ← HL.out] at hown
   have hll : ps.length = ls.length := by rw [HL.out, List.length_map]
   rw [hll] at hown
   have hlab : Labs wr [] u4 ls := Rd.of_own hown (by simp)
   have htx := Lib.hid (show Calls Tryz.prog 175 #[u4] wr fun e w' => e = .returned (.tuple #[.string (ltextS ls).1, .int .i64 (ltextS ls).2]) ∧ Below wr.heap.size wr w' from ltext_any u4 ls wr hlab (by rw [← hll]; omega))
   obtain ⟨A4, c4, rfl, hc4⟩ := hlab.len
   have Hall := Lib.hid (below_then Hb1.out Hbr.out)
   have hp : Hid (∀ v w', Below wr.heap.size wr w' → ParsePost s w (.returned (.tuple #[v, .int .i64 (if serOk s = true then 0 else 12)])) w') := fun v w' hb => ⟨v, rfl, below_then Hall.out hb⟩
   clear hown hlab hll Hown
   generalize ltextS ls = t at *
   obtain ⟨t1, t2⟩ := t
   simp only at HO htx
   go_wp2_with fail
   refine htx.out.mono ?_
   rintro e w5 ⟨rfl, hb5⟩
   by_cases h2 : t2 = 0
   ·subst h2
    by_cases h3 : (t1.toList == s.toList) = true
    ·have hok : Hid (serOk s = true) := by show _ = _; rw [HO.out, h3]; rfl
     have Hp := Lib.hid (hp.out (.slice A4 ls.length ls.length) w5 hb5)
     rw [hok.out, if_pos rfl] at Hp
     clear hp htx hb5
     go_wp2_with fail
     refine (clipLabel A4 ls.length c4 _ hc4).mono ?_
     rintro e w' ⟨rfl, rfl⟩
     go_wp2
     go_ret2
     exact Hp.out
    ·have h3' : (t1.toList == s.toList) = false := by simpa using h3
     have hok : Hid (serOk s = false) := by show _ = _; rw [HO.out, h3']; rfl
     have Hp := Lib.hid (hp.out (.slice none 0 0) w5 hb5)
     rw [hok.out, if_neg (by simp)] at Hp
     clear hp htx hb5 h3
     go_wp2
     go_ret2
     exact Hp.out
   ·have hne : ((t2 : Int) != 0) = true := by simpa using h2
    have hok : Hid (serOk s = false) := by show _ = _; rw [HO.out, decide_eq_false h2]; rfl
    have Hp := Lib.hid (hp.out (.slice none 0 0) w5 hb5)
    rw [hok.out, if_neg (by simp)] at Hp
    clear hp htx hb5 h2
    go_wp2
    go_ret2
    exact Hp.out
end Go.Proofs.YtinnifhnabncfaaGreatDoor.Vi
end
section
namespace Go.Proofs.YtinnifhnabncfaaGreatDoor.Vi
open Go.RowKit Base Mem
def withinB (n e : Int) : Bool := decide (0 ≤ n) && decide (n < e)
theorem within2_any (n e : Int) (w : World) : Calls Tryz.prog 124 #[.int .i64 n, .int .i64 e] w fun r w' => r = .returned (.bool (withinB n e)) ∧ w' = w := by
 by_cases h0 : 0 ≤ n
 ·by_cases h1 : n < e
  ·have hR : Hid (withinB n e = true) := by show _ = _; simp [withinB, h0, h1]
   rw [hR.out]
   go_enter Tryz.func124, Tryz.ntmps124
   go_wp2
   go_ret
   exact ⟨rfl, rfl⟩
  ·have hR : Hid (withinB n e = false) := by show _ = _; simp [withinB, h1]
   rw [hR.out]
   have h1' : decide (n < e) = false := decide_eq_false h1
   go_enter Tryz.func124, Tryz.ntmps124
   go_wp2
   go_ret
   exact ⟨rfl, rfl⟩
 ·have hR : Hid (withinB n e = false) := by show _ = _; simp [withinB, h0]
  rw [hR.out]
  have h0' : decide (0 ≤ n) = false := decide_eq_false h0
  go_enter Tryz.func124, Tryz.ntmps124
  go_wp2
  go_ret
  exact ⟨rfl, rfl⟩
def eqI (a b c d e f : Int) : Bool := a == d && (b == e && c == f)
theorem eqI_run (a b c d e f : Int) (r : Bool) (h : eqI a b c d e f = r) (w : World) : (binOp .eql 23 (.agg #[.int .i64 a, .int .i64 b, .int .i64 c]) (.agg #[.int .i64 d, .int .i64 e, .int .i64 f])).run Tryz.prog w = .ok (.bool r) w := by
 subst h
 have u3 := Tryz.underlying3
 have a3 := Tryz.isAgg3
 have z3 := Tryz.sizeOf3
 have hS : Tryz.prog.underlying 23 = some (.struct (Tryz.prog.fieldsOf 23)) := by kernel_rfl
 have hp : Tryz.prog.stoodInHeld 23 = false := by kernel_rfl
 simp only [eqI]
 rw [run_eql_struct, show (10000 : Nat) = 9999 + 1 from rfl, run_equalIn_agg w 9999 23 _ _ hS hp]
 simp only [Program.fieldsOf, Tryz.underlying23]
 go_simp
 by_cases h1 : a = d <;> by_cases h2 : b = e <;> by_cases h3 : c = f <;> simp [h1, h2, h3]
def kindS (e : EntryD) : Bool := if e.kind = 1 then e.ser.toList.isEmpty else if e.kind = 2 then eqI e.ag e.sh e.seq 0 0 0 && e.ep == 0 && e.ds.length == 0 else false
def BoolPost (b : Bool) (w : World) (r : Ending) (w' : World) : Prop := r = .returned (.bool b) ∧ Below w.heap.size w w'
theorem kind_any (e : EntryD) (A : Option Addr) (c : Nat) (w : World) :
  Calls Tryz.prog 123 #[.agg (eCell (e, .slice A e.ds.length c)).toArray] w fun r w' => BoolPost (kindS e) w r w' := by
 obtain ⟨kind, ag, sh, seq, ep, ds, ser, fr, tag⟩ := e
 have HK : Hid (kindS ⟨kind, ag, sh, seq, ep, ds, ser, fr, tag⟩ = if kind = 1 then ser.toList.isEmpty else if kind = 2 then eqI ag sh seq 0 0 0 && ep == 0 && ds.length == 0 else false) := rfl
 have hb : Hid (∀ o, Below w.heap.size w (w.alloc o)) := fun o => (Below.refl _ _).alloc (Nat.le_refl _) o
 generalize hn : ds.length = n at *
 simp only [eCell]
 clear hn
 by_cases h1 : kind = 1
 ·have hR : Hid (kindS ⟨kind, ag, sh, seq, ep, ds, ser, fr, tag⟩ = ser.toList.isEmpty) := by show _ = _; rw [HK.out, if_pos h1]
  subst h1
  go_enter Tryz.func123, Tryz.ntmps123
  go_wp2
  all_goals go_ret
  all_goals exact ⟨by rw [hR.out]; simp, hb.out _⟩
 ·have h1' : (kind == 1) = false := by simpa using h1
  by_cases h2 : kind = 2
  ·have hR : Hid (kindS ⟨kind, ag, sh, seq, ep, ds, ser, fr, tag⟩ = (eqI ag sh seq 0 0 0 && ep == 0 && n == 0)) := by show _ = _; rw [HK.out, if_neg h1, if_pos h2]
   have h2' : (kind == 2) = true := by simpa using h2
   clear h1 h2
   cases h3 : eqI ag sh seq 0 0 0 with
   | false =>
    have he := fun W => eqI_run ag sh seq 0 0 0 false h3 W
    have hR2 : Hid (kindS ⟨kind, ag, sh, seq, ep, ds, ser, fr, tag⟩ = false) := by show _ = _; rw [hR.out, h3]; rfl
    rw [hR2.out]
    clear h3
    go_enter Tryz.func123, Tryz.ntmps123
    go_wp2
    go_ret
    exact ⟨rfl, hb.out _⟩
   | true =>
    have he := fun W => eqI_run ag sh seq 0 0 0 true h3 W
    have hR1 : Hid (kindS ⟨kind, ag, sh, seq, ep, ds, ser, fr, tag⟩ = (true && ep == 0 && n == 0)) := by show _ = _; rw [hR.out, h3]
    clear h3
    cases h4 : (ep == 0) with
    | false =>
     have hR2 : Hid (kindS ⟨kind, ag, sh, seq, ep, ds, ser, fr, tag⟩ = false) := by show _ = _; rw [hR1.out, h4]; simp
     rw [hR2.out]
     go_enter Tryz.func123, Tryz.ntmps123
     go_wp2
     go_ret
     exact ⟨rfl, hb.out _⟩
    | true =>
     have hR2 : Hid (kindS ⟨kind, ag, sh, seq, ep, ds, ser, fr, tag⟩ = ((n : Int) == 0)) := by
      show _ = _
      rw [hR1.out, h4]
      cases n with
      | zero => rfl
      | succ n =>
       rw [show ((n + 1 : Nat) == 0) = false from rfl]
       symm
       rw [Bool.and_false, beq_eq_false_iff_ne]
       omega
     rw [hR2.out]
     go_enter Tryz.func123, Tryz.ntmps123
     go_wp2
     go_ret
     exact ⟨rfl, hb.out _⟩
  ·have h2' : (kind == 2) = false := by simpa using h2
   have hR : Hid (kindS ⟨kind, ag, sh, seq, ep, ds, ser, fr, tag⟩ = false) := by show _ = _; rw [HK.out, if_neg h1, if_neg h2]
   rw [hR.out]
   clear h1 h2
   go_enter Tryz.func123, Tryz.ntmps123
   go_wp2
   go_ret
   exact ⟨rfl, hb.out _⟩
end Go.Proofs.YtinnifhnabncfaaGreatDoor.Vi
end
section
namespace Go.Proofs.YtinnifhnabncfaaGreatDoor.Vi
open Go.RowKit Base Mem Go.Shelf
instance : Inhabited DeltaD := ⟨⟨⟨#[]⟩, 0⟩⟩
def badId (e : EntryD) : Bool := !(withinB e.ag 8) || !(withinB e.sh 4) || decide (e.seq < 1) || decide (e.ep < 1)
def writtenS (e : EntryD) : Nat := if badId e = true then 1 else if 8 < e.ds.length then 3 else if (e.ds.length == 0 || e.ds.any fun d => d.n == 0) = true then 1 else if (e.ds.all fun d => serOk d.ser) = true then 0 else 12
theorem zero_any (d : DeltaD) (w : World) : Calls Tryz.prog 172 #[.agg #[.string d.ser, .int .u64 d.n]] w fun r w' => r = .returned (.bool (d.n == 0)) ∧ Below w.heap.size w w' := by
 have hb : Hid (∀ o, Below w.heap.size w (w.alloc o)) := fun o => (Below.refl _ _).alloc (Nat.le_refl _) o
 go_enter Tryz.func172, Tryz.ntmps172
 go_wp2
 go_ret
 exact ⟨rfl, hb.out _⟩
theorem ds_cells {w : World} {M : List Nat} {v : Value} {l : List DeltaD} (h : Ds w M v l) (h0 : 0 < l.length) : ∃ g off c, v = .slice (some ⟨g, off, none⟩) l.length c ∧ g < w.heap.size ∧ ∀ j, j < l.length → ∀ i u, (dCell l[j]!)[i]? = some u → w.cell? ⟨g, off + j * 2 + i, none⟩ = some u := by
 obtain ⟨g, off, c, e, _, hg, _, _⟩ := Rd.at_ dCell 2 (fun _ => rfl) h h0
 refine ⟨g, off, c, e, hg, fun j hj i u hu => ?_⟩
 obtain ⟨g2, off2, c2, e2, _, _, _, hx⟩ := Rd.at_ dCell 2 (fun _ => rfl) h hj
 rw [e] at e2
 injection e2 with e2 _ _
 injection e2 with e2
 injection e2 with e3 e4 _
 subst e3 e4
 exact hx i u (by rw [← getElem!_pos l j hj]; exact hu)
theorem anyzero_any (v : Value) (l : List DeltaD) (w : World) (h : Ds w [] v l) (h0 : 0 < l.length) (hl : l.length ≤ 8) :
  Calls Tryz.prog 171 #[v, .func (.func 172) #[] #[]] w fun r w' => r = .returned (.bool (l.any fun d => d.n == 0)) ∧ Below w.heap.size w w' := by
 obtain ⟨g, off, c, rfl, hg, hc⟩ := ds_cells h h0
 have heg : ∀ args w, (callFunc 172 args).run Tryz.prog w = .ok (.enter 172 args) w := enters_of Tryz.func172 (by kernel_rfl) rfl
 have hp : PredBelow Tryz.prog 172 #[] (fun x => .agg (dCell x).toArray) (fun d => d.n == 0) w := fun W x hb => by
  refine Calls.mono (zero_any x W) ?_
  rintro r w' ⟨rfl, hb2⟩
  exact ⟨rfl, hb.trans (hb2.mono hb.size)⟩
 have := AnyQ.slices_ContainsFunc Tryz.containsFuncDelta 2 Tryz.isAgg86 Tryz.sizeOf86 dCell (fun _ => rfl) (fun d => d.n == 0) 172 #[] heg g off l.length c l w hp (Nat.le_refl _) (by omega) hg hc
 rw [List.take_length] at this
 exact this
set_option maxRecDepth 100000 in
set_option maxHeartbeats 1000000 in
theorem written_any (e : EntryD) (dv : Value) (m : Int) (w : World) (h : Ds w [] dv e.ds) (hs : ∀ d ∈ e.ds, d.ser.size < 4294967281) (hl : e.ds.length ≤ 4611686018427387904) (hm : w.cell? ⟨0, 0, none⟩ = some (.int .i64 m)) :
  Calls Tryz.prog 125 #[.agg (eCell (e, dv)).toArray] w fun r w' => NumPost (writtenS e) w r w' := by
 have HW : Hid (writtenS e = if badId e = true then 1 else if 8 < e.ds.length then 3 else if (e.ds.length == 0 || e.ds.any fun d => d.n == 0) = true then 1 else if (e.ds.all fun d => serOk d.ser) = true then 0 else 12) := rfl
 have hw0 : 0 < w.heap.size := by
  have := World.block_lt_of_cell? w _ hm
  simpa using this
 obtain ⟨kind, ag, sh, seq, ep, ds, ser, fr, tag⟩ := e
 simp only [] at h hs hl HW
 have HB : Hid (badId ⟨kind, ag, sh, seq, ep, ds, ser, fr, tag⟩ = (!(withinB ag 8) || !(withinB sh 4) || decide (seq < 1) || decide (ep < 1))) := rfl
 generalize writtenS ⟨kind, ag, sh, seq, ep, ds, ser, fr, tag⟩ = wr0 at *
 generalize badId ⟨kind, ag, sh, seq, ep, ds, ser, fr, tag⟩ = bad at *
 have hwi := Lib.hid (fun a b W => within2_any a b W)
 obtain ⟨A, c, rfl, hc⟩ := h.len
 obtain ⟨w2, hw2⟩ : ∃ w2, w2 = w.alloc (.cells #[.int .i64 kind, .int .i64 ag, .int .i64 sh, .int .i64 seq, .int .i64 ep, .slice A ds.length c, .string ser, .int .i64 fr, .int .i64 tag] 26) := ⟨_, rfl⟩
 have hB : Blk w2 w.heap.size 26 #[.int .i64 kind, .int .i64 ag, .int .i64 sh, .int .i64 seq, .int .i64 ep, .slice A ds.length c, .string ser, .int .i64 fr, .int .i64 tag] := by rw [hw2]; exact Blk.new w _ _
 have hk2 : Keeps [] w w2 := by rw [hw2]; exact (Keeps.refl _ _).alloc _
 have c1 := hB.cell 1; have c2 := hB.cell 2; have c3 := hB.cell 3; have c4 := hB.cell 4; have c5 := hB.cell 5
 simp only [List.getElem?_toArray, List.getElem?_cons_succ, List.getElem?_cons_zero] at c1 c2 c3 c4 c5
 have Hm := Lib.hid hm; have Hs := Lib.hid hs; have Hk2 := Lib.hid hk2; have Hw2 := Lib.hid hw2; have HD := Lib.hid (h.keep hk2 (by simp))
 clear hm hs hk2 hw2 h hB
 show Calls Tryz.prog 125 #[.agg #[.int .i64 kind, .int .i64 ag, .int .i64 sh, .int .i64 seq, .int .i64 ep, .slice A ds.length c, .string ser, .int .i64 fr, .int .i64 tag]] w fun r w' => NumPost wr0 w r w'
 go_enter Tryz.func125, Tryz.ntmps125
 go_upto_region 1 with (fail)
 rw [← Hw2.out]
 go_cut [7] (fun s wx => s = .bool bad ∧ wx = w2)
 case first =>
  cases h1 : withinB ag 8 with
  | false =>
   have hb : Hid (bad = true) := by show _ = _; rw [HB.out, h1]; simp
   clear HB HW
   go_wp2_with (go_at_call 124; refine (hwi.out _ _ _).mono ?_; rintro r w' ⟨rfl, rfl⟩; rw [h1])
   go_meet
   exact ⟨by rw [hb.out], rfl⟩
  | true =>
   cases h2 : withinB sh 4 with
   | false =>
    have hb : Hid (bad = true) := by show _ = _; rw [HB.out, h1, h2]; simp
    clear HB HW
    go_wp2_with (go_at_call 124; refine (hwi.out _ _ _).mono ?_; rintro r w' ⟨rfl, rfl⟩; first | rw [h1] | rw [h2])
    go_meet
    exact ⟨by rw [hb.out], rfl⟩
   | true =>
    by_cases h3 : seq < 1
    ·have hb : Hid (bad = true) := by show _ = _; rw [HB.out, h1, h2, decide_eq_true h3]; simp
     clear HB HW
     go_wp2_with (go_at_call 124; refine (hwi.out _ _ _).mono ?_; rintro r w' ⟨rfl, rfl⟩; first | rw [h1] | rw [h2])
     go_meet
     exact ⟨by rw [hb.out], rfl⟩
    ·have h3' : decide (seq < 1) = false := decide_eq_false h3
     have hb : Hid (bad = decide (ep < 1)) := by show _ = _; rw [HB.out, h1, h2, h3']; simp
     clear HB HW
     by_cases h4 : ep < 1
     ·go_wp2_with (go_at_call 124; refine (hwi.out _ _ _).mono ?_; rintro r w' ⟨rfl, rfl⟩; first | rw [h1] | rw [h2])
      go_meet
      exact ⟨by rw [hb.out, decide_eq_true h4], rfl⟩
     ·have h4' : decide (ep < 1) = false := decide_eq_false h4
      go_wp2_with (go_at_call 124; refine (hwi.out _ _ _).mono ?_; rintro r w' ⟨rfl, rfl⟩; first | rw [h1] | rw [h2])
      go_meet
      exact ⟨by rw [hb.out, h4'], rfl⟩
 case rest =>
  obtain ⟨rfl, rfl⟩ := hcut
  have hbel : Hid (Below w.heap.size w wc) := Hk2.out.below
  have hwc : w.heap.size ≤ wc.heap.size := Hk2.out.size
  clear HB hwi
  cases bad with
  | true =>
   have hR : Hid (wr0 = 1) := by show _ = _; rw [HW.out, if_pos rfl]
   clear HW
   go_wp2
   go_ret
   exact ⟨by rw [hR.out]; rfl, hbel.out⟩
  | false =>
   by_cases h8 : 8 < ds.length
   ·have hR : Hid (wr0 = 3) := by show _ = _; rw [HW.out, if_neg (by simp), if_pos h8]
    have h8i : (8 : Int) < (ds.length : Int) := by omega
    clear HW
    go_wp2
    go_ret
    exact ⟨by rw [hR.out]; rfl, hbel.out⟩
   ·have h8i : decide ((8 : Int) < (ds.length : Int)) = false := decide_eq_false (by omega)
    by_cases hn : ds.length = 0
    ·have hR : Hid (wr0 = 1) := by show _ = _; rw [HW.out, if_neg (by simp), if_neg h8, hn]; rfl
     have hni : ((ds.length : Int) == 0) = true := by rw [beq_iff_eq]; omega
     clear HW
     go_wp2
     go_ret
     exact ⟨by rw [hR.out]; rfl, hbel.out⟩
    ·have hni : ((ds.length : Int) == 0) = false := by rw [beq_eq_false_iff_ne]; omega
     have HW2 : Hid (wr0 = if (ds.any fun d => d.n == 0) = true then 1 else if (ds.all fun d => serOk d.ser) = true then 0 else 12) := by
      show _ = _
      rw [HW.out, if_neg (by simp), if_neg h8, show (ds.length == 0) = false by rw [beq_eq_false_iff_ne]; omega, Bool.false_or]
     have haz := Lib.hid (anyzero_any _ ds wc HD.out (by omega) (by omega))
     clear HW
     generalize (ds.any fun d => d.n == 0) = az at *
     go_wp2_with fail
     refine haz.out.mono ?_
     rintro r w3 ⟨rfl, hb3⟩
     have Hb3 := Lib.hid (below_then hbel.out hb3)
     have HD3 := Lib.hid (HD.out.keep (Keeps.of_below (M := []) hb3) (by simp))
     have hm3 : w3.cell? ⟨0, 0, none⟩ = some (.int .i64 m) := (Hb3.out.cell (p := ⟨0, 0, none⟩) hw0).trans Hm.out
     have Hm3 := Lib.hid hm3
     have d5 : w3.cell? ⟨w.heap.size, 5, none⟩ = some (.slice A ds.length c) := (hb3.cell (p := ⟨w.heap.size, 5, none⟩) (World.block_lt_of_cell? wc _ c5)).trans c5
     clear haz hb3 hm3
     cases az with
     | true =>
      have hR : Hid (wr0 = 1) := by show _ = _; rw [HW2.out, if_pos rfl]
      clear HW2
      go_wp2
      go_ret
      exact ⟨by rw [hR.out]; rfl, Hb3.out⟩
     | false =>
      have HW3 : Hid (wr0 = if (ds.all fun d => serOk d.ser) = true then 0 else 12) := by show _ = _; rw [HW2.out, if_neg (by simp)]
      have hw30 : 0 < w3.heap.size := by have := Hb3.out.size; omega
      clear HW2
      go_wp2_with fail
      go_loopw [49] (fun i wr => ∃ x : Nat, i = .int .i64 x ∧ x ≤ ds.length ∧ Hid (((ds.take x).all fun d => serOk d.ser) = true) ∧ Hid (Below w3.heap.size w3 wr)) (fun i _ => ds.length - (intOf i).toNat)
      case atStart => exact ⟨0, rfl, by omega, rfl, Below.refl _ _⟩
      case round =>
       obtain ⟨x, rfl, hx, Hall, Hbr⟩ := hrel
       by_cases hlt : x < ds.length
       ·have hx1 : (x : Int) < (ds.length : Int) := by omega
        obtain ⟨g, off, _, e1, _, hg, _, hcell⟩ := Rd.at_ dCell 2 (fun _ => rfl) (HD3.out.keep (Keeps.of_below (M := []) Hbr.out) (by simp)) hlt
        obtain rfl : A = some ⟨g, off, none⟩ := by injection e1
        clear e1
        have p0 := hcell 0 _ rfl
        have p1 := hcell 1 _ rfl
        rw [Nat.add_zero] at p0
        have hsx := Hs.out ds[x] (List.getElem_mem _)
        have Hnx : Hid (((ds.take (x + 1)).all fun d => serOk d.ser) = serOk ds[x].ser) := by
         show _ = _
         rw [List.take_succ_eq_append_getElem hlt, List.all_append, Hall.out]; simp
        have Hbad : Hid (serOk ds[x].ser = false → wr0 = 12) := fun h => by
         rw [HW3.out, if_neg]
         intro hall
         rw [List.all_eq_true] at hall
         have := hall ds[x] (List.getElem_mem _)
         rw [h] at this; cases this
        have hcell2 : (wr.alloc (.cells #[.string ds[x].ser, .int .u64 ds[x].n] 86)).cell? ⟨0, 0, none⟩ = some (.int .i64 m) := by
         rw [World.cell?_alloc_lt _ _ _ (by have := Hbr.out.size; simp; omega)]
         exact (Hbr.out.cell (p := ⟨0, 0, none⟩) hw30).trans Hm3.out
        have hpa := Lib.hid (parse_any ds[x].ser m _ hsx hcell2)
        have Hbra : Hid (Below w3.heap.size w3 (wr.alloc (.cells #[.string ds[x].ser, .int .u64 ds[x].n] 86))) := Hbr.out.alloc Hbr.out.size _
        clear hcell hcell2 hsx
        generalize ds[x] = d at *
        obtain ⟨dser, dn⟩ := d
        simp only [] at *
        cases hok : serOk dser with
        | true =>
         have ho : Hid (((ds.take (x + 1)).all fun d => serOk d.ser) = true) := by show _ = _; rw [Hnx.out, hok]
         have hpa2 := Lib.hid (show Calls Tryz.prog 126 #[.string dser] (wr.alloc (.cells #[.string dser, .int .u64 dn] 86)) fun e w' => ∃ v, e = .returned (.tuple #[v, .int .i64 0]) ∧ Below (wr.alloc (.cells #[.string dser, .int .u64 dn] 86)).heap.size (wr.alloc (.cells #[.string dser, .int .u64 dn] 86)) w' by
          have := hpa.out; unfold ParsePost at this; rwa [hok, if_pos rfl] at this)
         clear hpa Hbad Hnx hok
         go_wp2_with fail
         refine hpa2.out.mono ?_
         rintro r w4 ⟨v4, rfl, hb4⟩
         have Hb4 := Lib.hid (below_then Hbra.out hb4)
         clear hb4
         go_wp2
         go_roundw
         case rel => exact ⟨x + 1, by go_num, by omega, ho.out, Hb4.out⟩
         case measure => simp [intOf] <;> omega
        | false =>
         have hR := Lib.hid (Hbad.out hok)
         have hpa2 := Lib.hid (show Calls Tryz.prog 126 #[.string dser] (wr.alloc (.cells #[.string dser, .int .u64 dn] 86)) fun e w' => ∃ v, e = .returned (.tuple #[v, .int .i64 12]) ∧ Below (wr.alloc (.cells #[.string dser, .int .u64 dn] 86)).heap.size (wr.alloc (.cells #[.string dser, .int .u64 dn] 86)) w' by
          have := hpa.out; unfold ParsePost at this; rwa [hok, if_neg (by simp)] at this)
         clear hpa Hbad Hnx hok
         go_wp2_with fail
         refine hpa2.out.mono ?_
         rintro r w4 ⟨v4, rfl, hb4⟩
         have Hb4 := Lib.hid (below_then Hb3.out (below_then Hbra.out hb4))
         clear hb4
         go_wp2
         go_ret
         exact ⟨by rw [hR.out]; rfl, Hb4.out⟩
       ·obtain rfl : x = ds.length := by omega
        have hR : Hid (wr0 = 0) := by
         show _ = _
         have := Hall.out
         rw [List.take_length] at this
         rw [HW3.out, if_pos this]
        go_wp2
        go_ret
        exact ⟨by rw [hR.out]; rfl, below_then Hb3.out Hbr.out⟩
def rightE (e : EntryD) : Nat := if kindS e = false then 12 else if (!(withinB e.fr 8) || decide (e.tag < 0)) = true then 1 else if e.kind = 1 then writtenS e else if serOk e.ser = true then 0 else 12
/-- No text of an entry is longer than the library's search takes. -/
def Short (e : EntryD) : Prop := e.ser.size < 4294967281 ∧ (∀ d ∈ e.ds, d.ser.size < 4294967281) ∧ e.ds.length ≤ 4611686018427387904
set_option maxRecDepth 100000 in
set_option maxHeartbeats 1000000 in
theorem eright_any (e : EntryD) (dv : Value) (m : Int) (w : World) (h : Ds w [] dv e.ds) (hs : Short e) (hm : w.cell? ⟨0, 0, none⟩ = some (.int .i64 m)) :
  Calls Tryz.prog 66 #[.agg (eCell (e, dv)).toArray] w fun r w' => NumPost (rightE e) w r w' := by
 have HR : Hid (rightE e = if kindS e = false then 12 else if (!(withinB e.fr 8) || decide (e.tag < 0)) = true then 1 else if e.kind = 1 then writtenS e else if serOk e.ser = true then 0 else 12) := rfl
 have hw0 : 0 < w.heap.size := by
  have := World.block_lt_of_cell? w _ hm
  simpa using this
 obtain ⟨hs1, hs2, hs3⟩ := hs
 have hkd := Lib.hid (fun A c W => kind_any e A c W)
 have hwr := Lib.hid (fun W (hk : Keeps [] w W) (hmW : W.cell? ⟨0, 0, none⟩ = some (.int .i64 m)) => written_any e dv m W (h.keep hk (by simp)) hs2 hs3 hmW)
 have hpa := Lib.hid (fun W (hmW : W.cell? ⟨0, 0, none⟩ = some (.int .i64 m)) => parse_any e.ser m W hs1 hmW)
 obtain ⟨A, c, rfl, hc⟩ := h.len
 generalize rightE e = rr at *
 generalize kindS e = ks at *
 generalize writtenS e = ws at *
 obtain ⟨kind, ag, sh, seq, ep, ds, ser, fr, tag⟩ := e
 simp only [] at h hs1 hs2 hs3 hkd hwr hpa HR hc
 have hwi := Lib.hid (fun a b W => within2_any a b W)
 obtain ⟨w2, hw2⟩ : ∃ w2, w2 = w.alloc (.cells #[.int .i64 kind, .int .i64 ag, .int .i64 sh, .int .i64 seq, .int .i64 ep, .slice A ds.length c, .string ser, .int .i64 fr, .int .i64 tag] 26) := ⟨_, rfl⟩
 have hB : Blk w2 w.heap.size 26 #[.int .i64 kind, .int .i64 ag, .int .i64 sh, .int .i64 seq, .int .i64 ep, .slice A ds.length c, .string ser, .int .i64 fr, .int .i64 tag] := by rw [hw2]; exact Blk.new w _ _
 have hk2 : Keeps [] w w2 := by rw [hw2]; exact (Keeps.refl _ _).alloc _
 have Hm := Lib.hid hm; have Hk2 := Lib.hid hk2; have Hw2 := Lib.hid hw2; have HB := Lib.hid hB
 clear hm hk2 hw2 h hs1 hs2 hs3
 have hkd2 : Hid (∀ W, Calls Tryz.prog 123 #[.agg #[.int .i64 kind, .int .i64 ag, .int .i64 sh, .int .i64 seq, .int .i64 ep, .slice A ds.length c, .string ser, .int .i64 fr, .int .i64 tag]] W fun r w' => r = .returned (.bool ks) ∧ Below W.heap.size W w') := fun W => hkd.out A c W
 have hwr2 : Hid (∀ W, Keeps [] w W → W.cell? ⟨0, 0, none⟩ = some (.int .i64 m) → Calls Tryz.prog 125 #[.agg #[.int .i64 kind, .int .i64 ag, .int .i64 sh, .int .i64 seq, .int .i64 ep, .slice A ds.length c, .string ser, .int .i64 fr, .int .i64 tag]] W fun r w' => r = .returned (.int .i64 ws) ∧ Below W.heap.size W w') := fun W hk hmW => hwr.out W hk hmW
 clear hkd hwr
 have c0 := hB.cell 0; have c1 := hB.cell 1; have c2 := hB.cell 2; have c3 := hB.cell 3; have c4 := hB.cell 4; have c5 := hB.cell 5; have c6 := hB.cell 6; have c7 := hB.cell 7; have c8 := hB.cell 8
 simp only [List.getElem?_toArray, List.getElem?_cons_succ, List.getElem?_cons_zero] at c0 c1 c2 c3 c4 c5 c6 c7 c8
 clear hB
 show Calls Tryz.prog 66 #[.agg #[.int .i64 kind, .int .i64 ag, .int .i64 sh, .int .i64 seq, .int .i64 ep, .slice A ds.length c, .string ser, .int .i64 fr, .int .i64 tag]] w fun r w' => NumPost rr w r w'
 go_enter Tryz.func66, Tryz.ntmps66
 go_upto_region 1 with (fail)
 rw [← Hw2.out]
 go_wp2_with fail
 refine (hkd2.out _).mono ?_
 rintro r w3 ⟨rfl, hb3⟩
 have hw2s : w.heap.size < w2.heap.size := HB.out.lt
 have HB3 := Lib.hid (HB.out.below hb3 hw2s)
 have Hk3 : Hid (Keeps [] w w3) := Hk2.out.trans (Keeps.of_below (M := []) hb3) (by simp)
 have c0 := HB3.out.cell 0; have c1 := HB3.out.cell 1; have c2 := HB3.out.cell 2; have c3 := HB3.out.cell 3; have c4 := HB3.out.cell 4; have c5 := HB3.out.cell 5; have c6 := HB3.out.cell 6; have c7 := HB3.out.cell 7; have c8 := HB3.out.cell 8
 simp only [List.getElem?_toArray, List.getElem?_cons_succ, List.getElem?_cons_zero] at c0 c1 c2 c3 c4 c5 c6 c7 c8
 have hm3 : Hid (w3.cell? ⟨0, 0, none⟩ = some (.int .i64 m)) := (Hk3.out.cell (p := ⟨0, 0, none⟩) hw0 (by simp)).trans Hm.out
 clear hb3 hkd2
 cases ks with
 | false =>
  have hR : Hid (rr = 12) := by show _ = _; rw [HR.out, if_pos rfl]
  clear HR
  go_wp2
  go_ret
  exact ⟨by rw [hR.out]; rfl, Hk3.out.below⟩
 | true =>
  have HR2 : Hid (rr = if (!(withinB fr 8) || decide (tag < 0)) = true then 1 else if kind = 1 then ws else if serOk ser = true then 0 else 12) := by show _ = _; rw [HR.out, if_neg (by simp)]
  clear HR
  cases h1 : withinB fr 8 with
  | false =>
   have hR : Hid (rr = 1) := by show _ = _; rw [HR2.out, h1]; rfl
   clear HR2
   go_wp2_with (go_at_call 124; refine (hwi.out _ _ _).mono ?_; rintro r w' ⟨rfl, rfl⟩; rw [h1])
   go_ret
   exact ⟨by rw [hR.out]; rfl, Hk3.out.below⟩
  | true =>
   by_cases h2 : tag < 0
   ·have hR : Hid (rr = 1) := by show _ = _; rw [HR2.out, h1, decide_eq_true h2]; rfl
    clear HR2
    go_wp2_with (go_at_call 124; refine (hwi.out _ _ _).mono ?_; rintro r w' ⟨rfl, rfl⟩; rw [h1])
    go_ret
    exact ⟨by rw [hR.out]; rfl, Hk3.out.below⟩
   ·have h2' : decide (tag < 0) = false := decide_eq_false h2
    have HR3 : Hid (rr = if kind = 1 then ws else if serOk ser = true then 0 else 12) := by show _ = _; rw [HR2.out, h1, h2', if_neg (by simp)]
    clear HR2
    by_cases h3 : kind = 1
    ·have hR : Hid (rr = ws) := by show _ = _; rw [HR3.out, if_pos h3]
     have h3' : (kind == 1) = true := by simpa using h3
     have hw := Lib.hid (hwr2.out w3 Hk3.out hm3.out)
     clear HR3 h3 hwr2
     go_wp2_with (go_at_call 124; refine (hwi.out _ _ _).mono ?_; rintro r w' ⟨rfl, rfl⟩; rw [h1])
     refine hw.out.mono ?_
     rintro r w4 ⟨rfl, hb4⟩
     have hb5 := Lib.hid (below_then Hk3.out.below hb4)
     clear hb4
     go_wp2
     go_ret
     exact ⟨by rw [hR.out]; rfl, hb5.out⟩
    ·have h3' : (kind == 1) = false := by simpa using h3
     have hR : Hid (rr = if serOk ser = true then 0 else 12) := by show _ = _; rw [HR3.out, if_neg h3]
     have hp := Lib.hid (hpa.out w3 hm3.out)
     clear HR3 h3 hwr2 hpa
     go_wp2_with (go_at_call 124; refine (hwi.out _ _ _).mono ?_; rintro r w' ⟨rfl, rfl⟩; rw [h1])
     refine hp.out.mono ?_
     rintro r w4 ⟨v4, rfl, hb4⟩
     have hb5 := Lib.hid (below_then Hk3.out.below hb4)
     clear hb4 hp
     cases hok : serOk ser with
     | true =>
      have hR2 : Hid (rr = 0) := by show _ = _; rw [hR.out, hok]; rfl
      simp only [if_true]
      clear hR
      go_wp2
      go_ret
      exact ⟨by rw [hR2.out]; rfl, hb5.out⟩
     | false =>
      have hR2 : Hid (rr = 12) := by show _ = _; rw [hR.out, hok]; rfl
      clear hR
      go_wp2
      go_ret
      exact ⟨by rw [hR2.out]; rfl, hb5.out⟩
def NOk (d : DeltaD) : Prop := 0 ≤ d.n ∧ d.n < 18446744073709551616
/-- The numbers of an entry go into their types. -/
def Wf (e : EntryD) : Prop := e.tag ≤ 9223372036854775807 ∧ e.seq ≤ 9223372036854775807 ∧ e.ep ≤ 9223372036854775807 ∧ ∀ d ∈ e.ds, NOk d
def addS (a b : Nat) : Nat := if 18446744073709551615 < a + b then 18446744073709551615 else a + b
theorem add_any (a b : Nat) (w : World) (ha : a < 18446744073709551616) (hb : b < 18446744073709551616) :
  Calls Tryz.prog 75 #[.int .u64 a, .int .u64 b] w fun e w' => e = .returned (.int .u64 (addS a b)) ∧ w = w' := by
 by_cases h : 18446744073709551615 < a + b
 ·have hR : Hid (addS a b = 18446744073709551615) := by show _ = _; unfold addS; rw [if_pos h]
  rw [hR.out]
  have hw : IntKind.u64.wrap (18446744073709551615 - (b : Int)) = 18446744073709551615 - (b : Int) := by rw [IntKind.wrap_u64]; omega
  have hi : (18446744073709551615 : Int) - (b : Int) < (a : Int) := by omega
  go_enter Tryz.func75, Tryz.ntmps75
  go_wp2
  go_ret
  exact ⟨rfl, rfl⟩
 ·have hR : Hid (addS a b = a + b) := by show _ = _; unfold addS; rw [if_neg h]
  rw [hR.out]
  have hw : IntKind.u64.wrap (18446744073709551615 - (b : Int)) = 18446744073709551615 - (b : Int) := by rw [IntKind.wrap_u64]; omega
  have hi : decide ((18446744073709551615 : Int) - (b : Int) < (a : Int)) = false := decide_eq_false (by omega)
  have hw2 : IntKind.u64.wrap ((a : Int) + (b : Int)) = (a : Int) + (b : Int) := by rw [IntKind.wrap_u64]; omega
  go_enter Tryz.func75, Tryz.ntmps75
  go_wp2
  go_ret
  exact ⟨ret_int (by simp), rfl⟩
end Go.Proofs.YtinnifhnabncfaaGreatDoor.Vi
end
section
namespace Go.Proofs.YtinnifhnabncfaaGreatDoor.Vi
open Go.RowKit Base Mem
open Go.Maps (Keyed)
theorem addL_cons (DS : DataW Unit) (d : DeltaD) (r : List DeltaD) : addL DS (d :: r) = addL (DS.put (skey d.ser) (.lit (.int .u64 (addZ (numAt .u64 DS (skey d.ser)) d.n)))) r := rfl
theorem addZ_nat (a b : Nat) : addZ (a : Int) (b : Int) = ((addS a b : Nat) : Int) := by
 unfold addZ addS
 split <;> split <;> first | rfl | omega
def SaPost (g b N : Nat) (DS : DataW Unit) (l : List DeltaD) (w : World) (e : Ending) (w' : World) : Prop :=
 e = .returned (.int .i64 (mayS DS l)) ∧ SmAt w' g b (N + l.length) (if mayS DS l = 0 then addL DS l else DS) ∧ Keeps [b] w w'
theorem SmAt.more {w : World} {g b N N' : Nat} {D : DataW Unit} (h : SmAt w g b N D) (hN : N ≤ N') : SmAt w g b N' D := ⟨h.1, h.2.1.mono hN, h.2.2⟩
set_option maxRecDepth 100000 in
set_option maxHeartbeats 2000000 in
theorem smadd_any (g b N : Nat) (DS : DataW Unit) (v : Value) (l : List DeltaD) (w : World) (h : SmAt w g b N DS) (hd : Ds w [b] v l) (hn : ∀ d ∈ l, DOk d) (hl : l.length ≤ 1099511627776) (hN : N ≤ 1099511627776) :
  Calls Tryz.prog 161 #[.pointer (some ⟨g, 0, none⟩), v] w fun e w' => SaPost g b N DS l w e w' := by
 have HY := Lib.hid (may_any g b N DS v l w h (hd.avoid (M' := []) (by simp)) hn hl hN)
 have HM := Lib.hid h; have HD := Lib.hid hd; have Hn := Lib.hid hn
 obtain ⟨A, c, rfl, hc⟩ := hd.len
 clear h hd hn
 go_enter Tryz.func161, Tryz.ntmps161
 go_wp2_with fail
 refine HY.out.mono ?_
 rintro e w1 ⟨rfl, hb1⟩
 have HM1 : Hid (SmAt w1 g b N DS) := HM.out.keep (M := []) (Keeps.of_below hb1) (by simp) (by simp)
 have HD1 : Hid (Ds w1 [b] (.slice A l.length c) l) := HD.out.keep (M' := []) (Keeps.of_below hb1) (by simp)
 have Hk1 : Hid (Keeps [b] w w1) := (Keeps.of_below hb1).mono (M := []) (by simp)
 clear HY hb1 HM HD
 by_cases hm : mayS DS l = 0
 ·have hR : Hid (∀ w', SmAt w' g b (N + l.length) (addL DS l) → Keeps [b] w w' → SaPost g b N DS l w (.returned (.int .i64 0)) w') := fun w' h1 h2 => ⟨by rw [hm], by rw [if_pos hm]; exact h1, h2⟩
  rw [hm]
  clear hm
  go_wp2_with fail
  go_loopw [16] (fun i wr => ∃ (x : Nat) (Dx : DataW Unit), i = .int .i64 x ∧ x ≤ l.length ∧ Hid (SmAt wr g b (N + x) Dx) ∧ Hid (addL DS l = addL Dx (l.drop x)) ∧ Hid (Keeps [b] w wr) ∧ Hid (Keeps [b] w1 wr)) (fun i _ => l.length - (intOf i).toNat)
  case atStart => exact ⟨0, DS, rfl, by omega, HM1.out, rfl, Hk1.out, Keeps.refl _ _⟩
  case round =>
   obtain ⟨x, Dx, rfl, hx, HMr, Hadd, Hkr, Hkr1⟩ := hrel
   by_cases hlt : x < l.length
   ·have hx1 : (x : Int) < (l.length : Int) := by omega
    obtain ⟨g3, off, _, e1, _, hg3, _, hcell⟩ := Rd.at_ dCell 2 (fun _ => rfl) (HD1.out.keep Hkr1.out (by simp)) hlt
    obtain rfl : A = some ⟨g3, off, none⟩ := by injection e1
    clear e1
    have p0 := hcell 0 _ rfl
    have p1 := hcell 1 _ rfl
    rw [Nat.add_zero] at p0
    obtain ⟨hn0, hn1, hns⟩ := Hn.out l[x] (List.getElem_mem _)
    have hM0 := Hadd.out
    rw [← List.getElem_cons_drop hlt, addL_cons] at hM0
    clear hcell Hadd
    generalize l[x] = d at *
    obtain ⟨ser, nn⟩ := d
    simp only [] at p0 p1 hn0 hn1 hns hM0
    obtain ⟨n, rfl⟩ := Int.eq_ofNat_of_zero_le hn0
    obtain ⟨hc0, hc1⟩ := om_bd HMr.out.2.1 hns
    obtain ⟨cd, hcd⟩ := Int.eq_ofNat_of_zero_le hc0
    rw [hcd, addZ_nat] at hM0
    rw [hcd] at hc1
    have HM0 := Lib.hid hM0
    have hcd9 : cd < 18446744073709551616 := by omega
    have hn9 : n < 18446744073709551616 := by omega
    have hs9 : addS cd n ≤ 18446744073709551615 := by unfold addS; split <;> omega
    clear hM0
    have hbl : b < wr.heap.size := HMr.out.2.1.lt
    have hgl : g < wr.heap.size := HMr.out.1.lt
    have hgb : g ≠ b := HMr.out.2.2
    have hBx := Blk.new wr 86 #[.string ser, .int .u64 n]
    have HkA : Hid (Keeps [b] w (wr.alloc (.cells #[.string ser, .int .u64 n] 86))) := Hkr.out.alloc _
    have HkA1 : Hid (Keeps [b] w1 (wr.alloc (.cells #[.string ser, .int .u64 n] 86))) := Hkr1.out.alloc _
    have HMA : Hid (SmAt (wr.alloc (.cells #[.string ser, .int .u64 n] 86)) g b (N + x) Dx) := HMr.out.keep (M := []) ((Keeps.refl _ _).alloc _) (by simp) (by simp)
    have HBx := Lib.hid hBx
    have hb7 : b ≠ wr.heap.size := by omega
    have Hb7 := Lib.hid hb7
    clear hBx HMr
    go_upto_region 7 with (fail)
    clear p0 p1
    generalize wr.alloc (.cells #[.string ser, .int .u64 n] 86) = wa at *
    generalize wr.heap.size = g7 at *
    have HSB : Hid (∀ W, Keeps [b] wa W → W.cell? ⟨g, 0, none⟩ = some (.map (some b)) ∧ W.cell? ⟨g7, 0, none⟩ = some (.string ser) ∧ W.cell? ⟨g7, 1, none⟩ = some (.int .u64 n)) := fun W hk =>
     ⟨(hk.blk HMA.out.1 (by simp [hgb])).cell 0, (hk.blk HBx.out (by simp; exact Ne.symm hb7)).cell 0, (hk.blk HBx.out (by simp; exact Ne.symm hb7)).cell 1⟩
    have Hown : Hid (wa.drew.ownsMap Tryz.prog 9 (plainElem Tryz.prog 66) b (N + x) Dx) := HMA.out.2.1
    have hlook := (om_num Hown.out lawS uMS uU64 (zU64 _) (skey_of hns)).1
    rw [hcd] at hlook
    obtain ⟨w2, hupd, hown2, hturn⟩ := Hown.out.store lawS uMS (by unfold maxLen; omega) (skey_of hns) (plainElem_int uU64 (WalkArith.wf_u64 ⟨by omega, by omega⟩) : plainElem (H := Unit) Tryz.prog 66 (.int .u64 ((addS cd n : Nat) : Int)) = _)
    have hk2 := turned_keeps hturn
    have HkF : Hid (Keeps [b] w w2) := HkA.out.drew.trans hk2 (by simp)
    have HkF1 : Hid (Keeps [b] w1 w2) := HkA1.out.drew.trans hk2 (by simp)
    have HkW : Hid (Keeps [b] wa w2) := ((Keeps.refl _ _).drew).trans hk2 (by simp)
    have HMF : Hid (SmAt w2 g b (N + (x + 1)) (Dx.put (skey ser) (.lit (.int .u64 ((addS cd n : Nat) : Int))))) := ⟨HkW.out.blk HMA.out.1 (by simp [hgb]), hown2, hgb⟩
    clear hown2 hturn hk2 hcd hc0 hc1 hn0 hn1
    refine wp_region_held_drew (S := (fun W => W.cell? ⟨g, 0, none⟩ = some (.map (some b)) ∧ W.cell? ⟨g7, 0, none⟩ = some (.string ser) ∧ W.cell? ⟨g7, 1, none⟩ = some (.int .u64 n))) (by kernel_rfl) (HSB.out _ (Keeps.refl _ _).drew) (fun hHeld => ?_)
    refine wpAnyH_take (i := 0) (oi := _) (v := ?v0) rfl (by kernel_rfl) (by kernel_rfl) (by kernel_rfl) (fun _ _ _ h => h) (Or.inl ⟨by rfl, ?y0⟩) (by assumption) ?r0
    case y0 => (intro w hSw; (obtain ⟨hS0, hS1, hS2⟩ := hSw); go_simp <;> with_reducible rfl)
    try simp only [List.getElem_toArray, List.getElem_cons_succ, List.getElem_cons_zero, Act.put, List.setIfInBounds_toArray, List.set_cons_zero, List.set_cons_succ]
    refine wpAnyH_take (i := 1) (oi := _) (v := ?v1) rfl (by kernel_rfl) (by kernel_rfl) (by kernel_rfl) (fun _ _ _ h => h) (Or.inl ⟨by rfl, ?y1⟩) (by assumption) ?r1
    case y1 => (intro w hSw; (obtain ⟨hS0, hS1, hS2⟩ := hSw); go_simp <;> with_reducible rfl)
    try simp only [List.getElem_toArray, List.getElem_cons_succ, List.getElem_cons_zero, Act.put, List.setIfInBounds_toArray, List.set_cons_zero, List.set_cons_succ]
    refine wpAnyH_take (i := 2) (oi := _) (v := ?v2) rfl (by kernel_rfl) (by kernel_rfl) (by kernel_rfl) (fun _ _ _ h => h) (Or.inl ⟨by rfl, ?y2⟩) (by assumption) ?r2
    case y2 => (intro w hSw; (obtain ⟨hS0, hS1, hS2⟩ := hSw); go_simp <;> with_reducible rfl)
    try simp only [List.getElem_toArray, List.getElem_cons_succ, List.getElem_cons_zero, Act.put, List.setIfInBounds_toArray, List.set_cons_zero, List.set_cons_succ]
    refine wpAnyH_take (i := 3) (oi := _) (v := ?v3) rfl (by kernel_rfl) (by kernel_rfl) (by kernel_rfl) (fun _ _ _ h => h) (Or.inl ⟨by rfl, ?y3⟩) (by assumption) ?r3
    case y3 => (intro w hSw; (obtain ⟨hS0, hS1, hS2⟩ := hSw); go_simp <;> with_reducible rfl)
    try simp only [List.getElem_toArray, List.getElem_cons_succ, List.getElem_cons_zero, Act.put, List.setIfInBounds_toArray, List.set_cons_zero, List.set_cons_succ]
    refine wpAnyH_take (i := 4) (oi := _) (v := ?v4) rfl (by kernel_rfl) (by kernel_rfl) (by kernel_rfl) (fun _ _ _ h => h) (Or.inl ⟨by rfl, ?y4⟩) (by assumption) ?r4
    case y4 => (intro w hSw; (obtain ⟨hS0, hS1, hS2⟩ := hSw); go_simp <;> with_reducible rfl)
    try simp only [List.getElem_toArray, List.getElem_cons_succ, List.getElem_cons_zero, Act.put, List.setIfInBounds_toArray, List.set_cons_zero, List.set_cons_succ]
    refine wpAnyH_take (i := 5) (oi := _) (v := ?v5) rfl (by kernel_rfl) (by kernel_rfl) (by kernel_rfl) (fun _ _ _ h => h) (Or.inl ⟨by rfl, ?y5⟩) (by assumption) ?r5
    case y5 => (intro w hSw; (obtain ⟨hS0, hS1, hS2⟩ := hSw); go_simp <;> with_reducible rfl)
    try simp only [List.getElem_toArray, List.getElem_cons_succ, List.getElem_cons_zero, Act.put, List.setIfInBounds_toArray, List.set_cons_zero, List.set_cons_succ]
    refine wpAnyH_take (i := 6) (oi := _) (v := ?v6) rfl (by kernel_rfl) (by kernel_rfl) (by kernel_rfl) (fun _ _ _ h => h) (Or.inl ⟨by rfl, ?y6⟩) (by assumption) ?r6
    case y6 => (intro w hSw; (obtain ⟨hS0, hS1, hS2⟩ := hSw); go_simp <;> with_reducible rfl)
    try simp only [List.getElem_toArray, List.getElem_cons_succ, List.getElem_cons_zero, Act.put, List.setIfInBounds_toArray, List.set_cons_zero, List.set_cons_succ]
    refine wpAnyH_take (i := 7) (oi := _) (v := ?v7) rfl (by kernel_rfl) (by kernel_rfl) (by kernel_rfl) (fun _ _ _ h => h) (Or.inl ⟨by rfl, ?y7⟩) (by assumption) ?r7
    case y7 => (intro w hSw; (obtain ⟨hS0, hS1, hS2⟩ := hSw); go_simp <;> with_reducible rfl)
    try simp only [List.getElem_toArray, List.getElem_cons_succ, List.getElem_cons_zero, Act.put, List.setIfInBounds_toArray, List.set_cons_zero, List.set_cons_succ]
    refine wpAnyH_take (i := 8) (oi := _) (v := ?v8) rfl (by kernel_rfl) (by kernel_rfl) (by kernel_rfl) (fun _ _ _ h => h) (Or.inl ⟨by rfl, ?y8⟩) (by assumption) ?r8
    case y8 => (intro w hSw; (obtain ⟨hS0, hS1, hS2⟩ := hSw); go_simp <;> with_reducible rfl)
    try simp only [List.getElem_toArray, List.getElem_cons_succ, List.getElem_cons_zero, Act.put, List.setIfInBounds_toArray, List.set_cons_zero, List.set_cons_succ]
    refine wpAnyH_take (i := 9) (oi := _) (v := ?v9) rfl (by kernel_rfl) (by kernel_rfl) (by kernel_rfl) (fun _ _ _ h => h) (Or.inl ⟨by rfl, ?y9⟩) (by assumption) ?r9
    case y9 => (intro w hSw; (obtain ⟨hS0, hS1, hS2⟩ := hSw); go_simp <;> with_reducible rfl)
    try simp only [List.getElem_toArray, List.getElem_cons_succ, List.getElem_cons_zero, Act.put, List.setIfInBounds_toArray, List.set_cons_zero, List.set_cons_succ]
    refine wpAnyH_take (i := 10) (oi := _) (v := ?v10) rfl (by kernel_rfl) (by kernel_rfl) (by kernel_rfl) (fun _ _ _ h => h) (Or.inl ⟨by rfl, ?y10⟩) (by assumption) ?r10
    case y10 => (intro w hSw; (obtain ⟨hS0, hS1, hS2⟩ := hSw); go_simp <;> with_reducible rfl)
    try simp only [List.getElem_toArray, List.getElem_cons_succ, List.getElem_cons_zero, Act.put, List.setIfInBounds_toArray, List.set_cons_zero, List.set_cons_succ]
    refine wpAnyH_take (i := 11) (oi := _) (v := ?v11) rfl (by kernel_rfl) (by kernel_rfl) (by kernel_rfl) (fun _ _ _ h => h) (Or.inl ⟨by rfl, ?y11⟩) (by assumption) ?r11
    case y11 => (intro w hSw; (obtain ⟨hS0, hS1, hS2⟩ := hSw); go_simp <;> with_reducible rfl)
    try simp only [List.getElem_toArray, List.getElem_cons_succ, List.getElem_cons_zero, Act.put, List.setIfInBounds_toArray, List.set_cons_zero, List.set_cons_succ]
    refine wpAnyH_take (i := 13) (oi := _) (v := ?v13) rfl (by kernel_rfl) (by kernel_rfl) (by kernel_rfl) (fun _ _ _ h => h) (Or.inl ⟨by rfl, ?y13⟩) (by assumption) ?r13
    case y13 => (intro w hSw; (obtain ⟨hS0, hS1, hS2⟩ := hSw); go_simp <;> with_reducible rfl)
    try simp only [List.getElem_toArray, List.getElem_cons_succ, List.getElem_cons_zero, Act.put, List.setIfInBounds_toArray, List.set_cons_zero, List.set_cons_succ]
    refine wpAnyH_take (i := 14) (oi := _) (v := ?v14) rfl (by kernel_rfl) (by kernel_rfl) (by kernel_rfl) (fun _ _ _ h => h) (Or.inl ⟨by rfl, ?y14⟩) (by assumption) ?r14
    case y14 => (intro w hSw; (obtain ⟨hS0, hS1, hS2⟩ := hSw); go_simp <;> with_reducible rfl)
    try simp only [List.getElem_toArray, List.getElem_cons_succ, List.getElem_cons_zero, Act.put, List.setIfInBounds_toArray, List.set_cons_zero, List.set_cons_succ]
    refine wpAnyH_ready (rs := [12]) (by kernel_rfl) (by simp) ?_
    refine AllReadyH.cons (o := _) rfl (fun K hK => ?_) AllReadyH.nil
    go_simp
    refine hK.out _ _ (HSB.out _ (Keeps.refl _ _).drew) (fun hHeld2 => ?_)
    clear hK K hHeld
    have hHeld := hHeld2
    clear hHeld2
    try simp only [List.getElem_toArray, List.getElem_cons_succ, List.getElem_cons_zero, Act.put, List.setIfInBounds_toArray, List.set_cons_zero, List.set_cons_succ]
    refine wpAnyH_ready (rs := [15]) (by kernel_rfl) (by simp) ?_
    refine AllReadyH.cons (o := _) rfl (fun K hK => ?_) AllReadyH.nil
    go_simp
    refine (add_any cd n _ hcd9 hn9).mono ?_
    rintro e w7 ⟨rfl, rfl⟩
    refine hK.out _ _ (HSB.out _ (Keeps.refl _ _).drew) (fun hHeld2 => ?_)
    clear hK K hHeld
    have hHeld := hHeld2
    clear hHeld2
    try simp only [List.getElem_toArray, List.getElem_cons_succ, List.getElem_cons_zero, Act.put, List.setIfInBounds_toArray, List.set_cons_zero, List.set_cons_succ]
    refine wpAnyH_ready (rs := [16]) (by kernel_rfl) (by simp) ?_
    refine AllReadyH.cons (o := _) rfl (fun K hK => ?_) AllReadyH.nil
    go_simp
    refine hK.out _ _ (HSB.out _ HkW.out) (fun hHeld2 => ?_)
    clear hK K hHeld
    have hHeld := hHeld2
    clear hHeld2
    try simp only [List.getElem_toArray, List.getElem_cons_succ, List.getElem_cons_zero, Act.put, List.setIfInBounds_toArray, List.set_cons_zero, List.set_cons_succ]
    refine wpAnyH_done (by kernel_rfl) ?_ _
    clear hupd hlook
    go_wp2
    go_roundw
    case rel => exact ⟨x + 1, _, by go_num, by omega, HMF, HM0, HkF, HkF1⟩
    case measure => simp [intOf] <;> omega
   ·obtain rfl : x = l.length := by omega
    have hP : Hid (SaPost g b N DS l w (.returned (.int .i64 0)) wr) := hR.out wr (by
     have := Hadd.out
     rw [List.drop_length] at this
     rw [this]
     exact HMr.out) Hkr.out
    go_wp2
    go_ret
    exact hP.out
 ·have hP : Hid (SaPost g b N DS l w (.returned (.int .i64 (mayS DS l))) w1) := ⟨rfl, by rw [if_neg hm]; exact HM1.out.more (by omega), Hk1.out⟩
  have hmi : decide (mayS DS l = 0) = false := decide_eq_false hm
  generalize mayS DS l = mm at *
  go_wp2
  go_ret
  exact hP.out
end Go.Proofs.YtinnifhnabncfaaGreatDoor.Vi
end
section
namespace Go.Proofs
open Go.Shelf
def Tryz.sortDelta_ren : Go.Shelf.Ren := ⟨fun | 6 => 166 | 15 => 190 | 14 => 191 | 28 => 213 | 29 => 214 | 20 => 215 | 21 => 216 | 22 => 217 | 23 => 218 | 24 => 219 | 25 => 220 | 26 => 221 | 27 => 222 | 46 => 241 | 47 => 236 | 48 => 237 | 49 => 242 | 50 => 243 | 57 => 255 | n => n, fun | 22 => 24 | 24 => 86 | 25 => 212 | 3 => 3 | 39 => 39 | 0 => 0 | 53 => 136 | 55 => 66 | 4 => 4 | 46 => 238 | 45 => 237 | 50 => 243 | 5 => 5 | 9 => 9 | 66 => 263 | 70 => 266 | 76 => 276 | 77 => 277 | n => n, fun | n => n⟩
theorem Tryz.sortDelta : Go.Proofs.SlLaysF0.n6 Tryz.prog Tryz.sortDelta_ren := {
 mixed := by kernel_rfl
 f6 := ⟨Tryz.f166.name, by decide, Tryz.func166.trans (congrArg some (by kernel_rfl))⟩
 f14 := ⟨Tryz.f191.name, by decide, Tryz.func191.trans (congrArg some (by kernel_rfl))⟩
 f15 := Tryz.func190.trans (congrArg some (by kernel_rfl))
 f20 := ⟨Tryz.f215.name, by decide, Tryz.func215.trans (congrArg some (by kernel_rfl))⟩
 f21 := ⟨Tryz.f216.name, by decide, Tryz.func216.trans (congrArg some (by kernel_rfl))⟩
 f22 := ⟨Tryz.f217.name, by decide, Tryz.func217.trans (congrArg some (by kernel_rfl))⟩
 f23 := ⟨Tryz.f218.name, by decide, Tryz.func218.trans (congrArg some (by kernel_rfl))⟩
 f24 := ⟨Tryz.f219.name, by decide, Tryz.func219.trans (congrArg some (by kernel_rfl))⟩
 f25 := ⟨Tryz.f220.name, by decide, Tryz.func220.trans (congrArg some (by kernel_rfl))⟩
 f26 := ⟨Tryz.f221.name, by decide, Tryz.func221.trans (congrArg some (by kernel_rfl))⟩
 f27 := ⟨Tryz.f222.name, by decide, Tryz.func222.trans (congrArg some (by kernel_rfl))⟩
 f28 := Tryz.func213.trans (congrArg some (by kernel_rfl))
 f29 := Tryz.func214.trans (congrArg some (by kernel_rfl))
 f46 := ⟨Tryz.f241.name, by decide, Tryz.func241.trans (congrArg some (by kernel_rfl))⟩
 f47 := Tryz.func236.trans (congrArg some (by kernel_rfl))
 f48 := Tryz.func237.trans (congrArg some (by kernel_rfl))
 f49 := ⟨Tryz.f242.name, by decide, Tryz.func242.trans (congrArg some (by kernel_rfl))⟩
 f50 := ⟨Tryz.f243.name, by decide, Tryz.func243.trans (congrArg some (by kernel_rfl))⟩
 f57 := ⟨Tryz.f255.name, by decide, Tryz.func255.trans (congrArg some (by kernel_rfl))⟩
 t0 := Tryz.underlying0
 a0 := Tryz.isAgg0
 z0 := Tryz.sizeOf0
 v0 := Tryz.zeroValue0
 t3 := Tryz.underlying3
 a3 := Tryz.isAgg3
 z3 := Tryz.sizeOf3
 v3 := Tryz.zeroValue3
 t4 := Tryz.underlying4
 a4 := Tryz.isAgg4
 z4 := Tryz.sizeOf4
 v4 := Tryz.zeroValue4
 t5 := Tryz.underlying5
 a5 := Tryz.isAgg5
 z5 := Tryz.sizeOf5
 v5 := Tryz.zeroValue5
 t9 := Tryz.underlying9
 a9 := Tryz.isAgg9
 z9 := Tryz.sizeOf9
 v9 := Tryz.zeroValue9
 t22 := Tryz.underlying24
 a22 := Tryz.isAgg24
 z22 := Tryz.sizeOf24
 v22 := Tryz.zeroValue24
 t25 := Tryz.underlying212
 a25 := Tryz.isAgg212
 z25 := Tryz.sizeOf212
 v25 := Tryz.zeroValue212
 t39 := Tryz.underlying39
 a39 := Tryz.isAgg39
 z39 := Tryz.sizeOf39
 v39 := Tryz.zeroValue39
 t45 := Tryz.underlying237
 a45 := Tryz.isAgg237
 z45 := Tryz.sizeOf237
 v45 := Tryz.zeroValue237
 t46 := Tryz.underlying238
 a46 := Tryz.isAgg238
 z46 := Tryz.sizeOf238
 v46 := Tryz.zeroValue238
 t50 := Tryz.underlying243
 a50 := Tryz.isAgg243
 z50 := Tryz.sizeOf243
 v50 := Tryz.zeroValue243
 t53 := Tryz.underlying136
 a53 := Tryz.isAgg136
 z53 := Tryz.sizeOf136
 v53 := Tryz.zeroValue136
 t55 := Tryz.underlying66
 a55 := Tryz.isAgg66
 z55 := Tryz.sizeOf66
 v55 := Tryz.zeroValue66
 t66 := Tryz.underlying263
 a66 := Tryz.isAgg263
 z66 := Tryz.sizeOf263
 v66 := Tryz.zeroValue263
 t70 := Tryz.underlying266
 a70 := Tryz.isAgg266
 z70 := Tryz.sizeOf266
 v70 := Tryz.zeroValue266
 t76 := Tryz.underlying276
 a76 := Tryz.isAgg276
 z76 := Tryz.sizeOf276
 v76 := Tryz.zeroValue276
 t77 := Tryz.underlying277
 a77 := Tryz.isAgg277
 z77 := Tryz.sizeOf277
 v77 := Tryz.zeroValue277 }
def Tryz.sortI64_ren : Go.Shelf.Ren := ⟨fun | 5 => 162 | 8 => 190 | 7 => 189 | 19 => 213 | 20 => 214 | 10 => 204 | 11 => 205 | 12 => 206 | 13 => 207 | 14 => 208 | 15 => 209 | 16 => 210 | 17 => 211 | 18 => 212 | 30 => 235 | 31 => 236 | 32 => 237 | 33 => 238 | 34 => 239 | 35 => 240 | 40 => 254 | n => n, fun | 23 => 34 | 25 => 2 | 3 => 3 | 32 => 39 | 22 => 34 | 0 => 0 | 44 => 136 | 46 => 66 | 4 => 4 | 36 => 238 | 35 => 237 | 41 => 243 | 5 => 5 | 9 => 9 | 53 => 263 | 57 => 266 | 63 => 276 | 64 => 277 | n => n, fun | n => n⟩
theorem Tryz.sortI64 : Go.Proofs.SlLaysM.n5 Tryz.prog Tryz.sortI64_ren := {
 mixed := by kernel_rfl
 f5 := ⟨Tryz.f162.name, by decide, Tryz.func162.trans (congrArg some (by kernel_rfl))⟩
 f7 := ⟨Tryz.f189.name, by decide, Tryz.func189.trans (congrArg some (by kernel_rfl))⟩
 f8 := Tryz.func190.trans (congrArg some (by kernel_rfl))
 f10 := ⟨Tryz.f204.name, by decide, Tryz.func204.trans (congrArg some (by kernel_rfl))⟩
 f11 := ⟨Tryz.f205.name, by decide, Tryz.func205.trans (congrArg some (by kernel_rfl))⟩
 f12 := ⟨Tryz.f206.name, by decide, Tryz.func206.trans (congrArg some (by kernel_rfl))⟩
 f13 := ⟨Tryz.f207.name, by decide, Tryz.func207.trans (congrArg some (by kernel_rfl))⟩
 f14 := ⟨Tryz.f208.name, by decide, Tryz.func208.trans (congrArg some (by kernel_rfl))⟩
 f15 := ⟨Tryz.f209.name, by decide, Tryz.func209.trans (congrArg some (by kernel_rfl))⟩
 f16 := ⟨Tryz.f210.name, by decide, Tryz.func210.trans (congrArg some (by kernel_rfl))⟩
 f17 := ⟨Tryz.f211.name, by decide, Tryz.func211.trans (congrArg some (by kernel_rfl))⟩
 f18 := ⟨Tryz.f212.name, by decide, Tryz.func212.trans (congrArg some (by kernel_rfl))⟩
 f19 := Tryz.func213.trans (congrArg some (by kernel_rfl))
 f20 := Tryz.func214.trans (congrArg some (by kernel_rfl))
 f30 := ⟨Tryz.f235.name, by decide, Tryz.func235.trans (congrArg some (by kernel_rfl))⟩
 f31 := Tryz.func236.trans (congrArg some (by kernel_rfl))
 f32 := Tryz.func237.trans (congrArg some (by kernel_rfl))
 f33 := ⟨Tryz.f238.name, by decide, Tryz.func238.trans (congrArg some (by kernel_rfl))⟩
 f34 := ⟨Tryz.f239.name, by decide, Tryz.func239.trans (congrArg some (by kernel_rfl))⟩
 f35 := ⟨Tryz.f240.name, by decide, Tryz.func240.trans (congrArg some (by kernel_rfl))⟩
 f40 := ⟨Tryz.f254.name, by decide, Tryz.func254.trans (congrArg some (by kernel_rfl))⟩
 t0 := Tryz.underlying0
 a0 := Tryz.isAgg0
 z0 := Tryz.sizeOf0
 v0 := Tryz.zeroValue0
 t3 := Tryz.underlying3
 a3 := Tryz.isAgg3
 z3 := Tryz.sizeOf3
 v3 := Tryz.zeroValue3
 t4 := Tryz.underlying4
 a4 := Tryz.isAgg4
 z4 := Tryz.sizeOf4
 v4 := Tryz.zeroValue4
 t5 := Tryz.underlying5
 a5 := Tryz.isAgg5
 z5 := Tryz.sizeOf5
 v5 := Tryz.zeroValue5
 t9 := Tryz.underlying9
 a9 := Tryz.isAgg9
 z9 := Tryz.sizeOf9
 v9 := Tryz.zeroValue9
 t22 := Tryz.underlying34
 a22 := Tryz.isAgg34
 z22 := Tryz.sizeOf34
 v22 := Tryz.zeroValue34
 t23 := Tryz.underlying34
 a23 := Tryz.isAgg34
 z23 := Tryz.sizeOf34
 v23 := Tryz.zeroValue34
 t25 := Tryz.underlying2
 a25 := Tryz.isAgg2
 z25 := Tryz.sizeOf2
 v25 := Tryz.zeroValue2
 t32 := Tryz.underlying39
 a32 := Tryz.isAgg39
 z32 := Tryz.sizeOf39
 v32 := Tryz.zeroValue39
 t35 := Tryz.underlying237
 a35 := Tryz.isAgg237
 z35 := Tryz.sizeOf237
 v35 := Tryz.zeroValue237
 t36 := Tryz.underlying238
 a36 := Tryz.isAgg238
 z36 := Tryz.sizeOf238
 v36 := Tryz.zeroValue238
 t41 := Tryz.underlying243
 a41 := Tryz.isAgg243
 z41 := Tryz.sizeOf243
 v41 := Tryz.zeroValue243
 t44 := Tryz.underlying136
 a44 := Tryz.isAgg136
 z44 := Tryz.sizeOf136
 v44 := Tryz.zeroValue136
 t46 := Tryz.underlying66
 a46 := Tryz.isAgg66
 z46 := Tryz.sizeOf66
 v46 := Tryz.zeroValue66
 t53 := Tryz.underlying263
 a53 := Tryz.isAgg263
 z53 := Tryz.sizeOf263
 v53 := Tryz.zeroValue263
 t57 := Tryz.underlying266
 a57 := Tryz.isAgg266
 z57 := Tryz.sizeOf266
 v57 := Tryz.zeroValue266
 t63 := Tryz.underlying276
 a63 := Tryz.isAgg276
 z63 := Tryz.sizeOf276
 v63 := Tryz.zeroValue276
 t64 := Tryz.underlying277
 a64 := Tryz.isAgg277
 z64 := Tryz.sizeOf277
 v64 := Tryz.zeroValue277 }
end Go.Proofs
end
section
namespace Go.Proofs.YtinnifhnabncfaaGreatDoor.Vi
open Go.RowKit Base Mem Go.Sort Go.Shelf
instance : Inhabited DeltaD := ⟨⟨⟨#[]⟩, 0⟩⟩
def cmpD (a b : DeltaD) : Int := cmpS a.ser b.ser
theorem bySer_any (a b : DeltaD) (w : World) : Calls Tryz.prog 167 #[.agg #[.string a.ser, .int .u64 a.n], .agg #[.string b.ser, .int .u64 b.n]] w fun e w' => e = .returned (.int .i64 (cmpD a b)) ∧ ∃ q os', w' = Sort.grow (w.drewN q) os' := by
 have hc := Lib.hid (fun x y W => compStr x y W)
 have hr : Hid (cmpD a b = cmpS a.ser b.ser) := rfl
 go_enter Tryz.func167, Tryz.ntmps167
 go_wp2_with fail
 refine (hc.out _ _ _).mono ?_
 rintro e w' ⟨rfl, rfl⟩
 go_wp2
 go_ret
 refine ⟨by rw [hr.out]; rfl, 0, #[.cells #[.string a.ser, .int .u64 a.n] 86, .cells #[.string b.ser, .int .u64 b.n] 86], ?_⟩
 simp only [Sort.alloc_eq_grow, Sort.grow_grow]
 rfl
theorem bySer_lays (blk off size : Nat) (w : World) : CmpLays Tryz.prog 167 #[] dCell 2 cmpD blk off size w := fun _ _ _ _ x y => bySer_any x y _
theorem sLt_ltD (x y : ByteArray) : sLt x y = decide (x.toList < y.toList) := bytesLess_eq _ _
theorem ltOf_ser (a b : DeltaD) : ltOf cmpD a b = sLt a.ser b.ser := by
 unfold ltOf cmpD cmpS
 cases h : sLt a.ser b.ser
 ·simp only [Bool.false_eq_true, if_false]
  split <;> simp
 ·simp
theorem swoD : SWO (ltOf cmpD) where
 irrefl x := by rw [ltOf_ser, sLt_ltD]; simp [List.lt_irrefl]
 trans x y z h1 h2 := by simp only [ltOf_ser, sLt_ltD, decide_eq_true_eq] at *; exact List.lt_trans h1 h2
 ntrans x y z h1 h2 := by
  simp only [ltOf_ser, sLt_ltD, decide_eq_false_iff_not, List.not_lt] at *
  exact List.le_trans h2 h1
/-- Deltas in the order of the sort. -/
def sortD (l : List DeltaD) : List DeltaD := (insertionSort (ltOf cmpD) l.toArray 0 l.length).toList
theorem sortF_any (blk off cap : Nat) (l : List DeltaD) (w : World) (hH : HoldsK dCell 2 w blk off l.toArray) (hblk : blk < w.heap.size) (hsz : l.length ≤ 12) :
  Calls Tryz.prog 166 #[.slice (some ⟨blk, off, none⟩) l.length cap, .func (.func 167) #[] #[]] w fun e w' =>
   e = .returned (.tuple #[]) ∧ ∃ n os, w' = sortWorldK dCell 2 w blk off n (sortD l).toArray os := by
 have eg : ∀ args w, (callFunc 167 args).run Tryz.prog w = .ok (.enter 167 args) w := enters_of Tryz.func167 (by kernel_rfl) rfl
 have h := AnyQ.slices_SortFunc_small Tryz.sortDelta 2 Tryz.isAgg86 Tryz.sizeOf86 dCell (fun _ => rfl) (fun x v hv => by simp [dCell] at hv; rcases hv with rfl | rfl <;> rfl) cmpD 167 #[] blk off cap l.toArray w eg (bySer_lays blk off _ w) hH hblk (by simpa using hsz)
  (fun n W hn => (Tryz.bits_Len n W (by omega) (by omega)).mono fun _ _ ⟨h1, h2⟩ => ⟨⟨_, h1⟩, h2⟩)
 simp only [List.size_toArray] at h
 exact h
theorem sortF_none (A : Option Addr) (cap : Nat) (w : World) : Calls Tryz.prog 166 #[.slice A 0 cap, .func (.func 167) #[] #[]] w fun e w' => e = .returned (.tuple #[]) ∧ w' = w :=
 AnyF.slices_SortFunc_none Tryz.sortDelta A cap (.func (.func 167) #[] #[]) w
theorem sortD_facts (l : List DeltaD) : (sortD l).Perm l ∧ (sortD l).Pairwise fun a b => sLt b.ser a.ser = false := by
 obtain ⟨⟨h1, h2, h3⟩, h4⟩ := insertionSort_holds (lt := ltOf cmpD) swoD l.toArray 0 l.length (Nat.zero_le _) (by simp)
 unfold sortD
 generalize insertionSort (ltOf cmpD) l.toArray 0 l.length = d at *
 have hs : d.size = l.length := by simpa using h1
 have e1 : d.extract 0 l.length = d := by rw [← hs]; simp
 have e2 : l.toArray.extract 0 l.length = l.toArray := by simp
 rw [e1, e2] at h3
 refine ⟨by simpa using h3, ?_⟩
 rw [List.pairwise_iff_getElem]
 intro i j hi hj hij
 have := h4 i j (Nat.zero_le _) hij (by simpa [hs] using hj)
 rw [ltOf_ser] at this
 have a1 : d[j]! = d.toList[j] := by rw [getElem!_pos d j (by simpa using hj)]; simp
 have a2 : d[i]! = d.toList[i] := by rw [getElem!_pos d i (by simpa using hi)]; simp
 rw [a1, a2] at this
 exact this
def SfP (v : Value) (l : List DeltaD) (w : World) (e : Ending) (w' : World) : Prop := e = .returned (.tuple #[]) ∧ (∀ M : List Nat, (∀ g, v.ownBlock = some g → g ∉ M) → Ds w' M v (sortD l)) ∧ Keeps v.ownBlock.toList w w'
theorem sortD_len (l : List DeltaD) : (sortD l).length = l.length := (sortD_facts l).1.length_eq
theorem sortR_any (base : Nat) (v : Value) (l : List DeltaD) (w : World) (h : w.ownsRow base 86 2 v l.length (dCells l)) (hl : l.length ≤ 12) :
  Calls Tryz.prog 166 #[v, .func (.func 167) #[] #[]] w fun e w' => SfP v l w e w' := by
 rcases Nat.eq_zero_or_pos l.length with h0 | h0
 ·obtain rfl : l = [] := List.length_eq_zero_iff.1 h0
  obtain ⟨A, c, rfl, _⟩ := Rd.of_own h (M := []) (by simp)
  refine (sortF_none A c w).mono ?_
  rintro e w' ⟨rfl, rfl⟩
  exact ⟨rfl, fun M _ => ⟨A, c, by rw [sortD_len], by rw [sortD_len]; exact Nat.zero_le _, dCells_len _, fun hn => absurd hn (by rw [sortD_len]; exact Nat.lt_irrefl 0)⟩, Keeps.refl _ _⟩
 ·rcases h.2 with ⟨_, hn⟩ | ⟨g, cap, cur, rfl, hg0, hb, h1, h2, h3, h4⟩
  ·omega
  ·have hcur : cur = (l.flatMap dCell ++ cur.toList.drop (l.length * 2)).toArray := by
    apply Array.ext'
    show cur.toList = l.flatMap dCell ++ cur.toList.drop (l.length * 2)
    rw [show l.flatMap dCell = cur.toList.take (l.length * 2) from h4.symm, List.take_append_drop]
   have hB : Blk w g 86 (l.flatMap dCell ++ cur.toList.drop (l.length * 2)).toArray := by
    unfold Blk
    rw [← hcur]
    exact hb
   refine (sortF_any g 0 cap l w (RowsK.blk_holds dCell 2 (fun _ => rfl) (by omega) hB) hB.lt hl).mono ?_
   rintro e w' ⟨rfl, n, os, rfl⟩
   have hB2 := RowsK.blk_sorted dCell 2 (fun _ => rfl) (by omega) hB (sortD_len l) n os
   refine ⟨rfl, fun M hM => ⟨_, _, by rw [sortD_len], by rw [sortD_len]; exact h1, dCells_len _, fun _ => ⟨g, 0, rfl, hB2.lt, hM g rfl, fun j u hu => ?_⟩⟩, RowsK.keeps_sorted dCell 2 w g n _ os⟩
   have hu' : ((sortD l).flatMap dCell)[j]? = some u := hu
   rw [Nat.zero_add, hB2.cell, List.getElem?_toArray, List.getElem?_append_left (List.getElem?_eq_some_iff.1 hu').1]
   exact hu'
end Go.Proofs.YtinnifhnabncfaaGreatDoor.Vi
end
section
namespace Go.Proofs.YtinnifhnabncfaaGreatDoor.Vi
open Go.RowKit Base Mem Go.Shelf

end Go.Proofs.YtinnifhnabncfaaGreatDoor.Vi
end
section
namespace Go.Proofs.YtinnifhnabncfaaGreatDoor.Vi
open Go.RowKit Base Mem

end Go.Proofs.YtinnifhnabncfaaGreatDoor.Vi
end
section
namespace Go.Proofs.YtinnifhnabncfaaGreatDoor.Vi
open Go.RowKit Base Mem Go.Shelf


end Go.Proofs.YtinnifhnabncfaaGreatDoor.Vi
end
section
namespace Go.Proofs.YtinnifhnabncfaaGreatDoor.Vi
open Go.RowKit Base Mem


end Go.Proofs.YtinnifhnabncfaaGreatDoor.Vi
end
section
namespace Go.Proofs.YtinnifhnabncfaaGreatDoor.Vi
open Go.RowKit Base Mem Go.Shelf
def zeroA : Array Value := #[.int .i64 0, .int .i64 0, .int .i64 0, .int .i64 0, .int .i64 0, .slice none 0 0, .string ⟨#[]⟩, .int .i64 0, .int .i64 0]
/-- What stands between two calls: the reader, the result's block, the entry's block. -/
structure Re (w0 w : World) (p g0 g5 : Nat) (l : List UInt8) (bad : Bool) (c : Array Value) : Prop where
 rd : RdAt w [g5] p l bad
 keeps : Below w0.heap.size w0 w
 b0 : Blk w g0 26 zeroA
 b5 : Blk w g5 26 c
 o0 : w0.heap.size ≤ g0
 o1 : g0 < p
 o2 : p < g5
theorem Re.set {w0 w : World} {p g0 g5 : Nat} {l : List UInt8} {bad : Bool} {c : Array Value} (h : Re w0 w p g0 g5 l bad c) (i : Nat) (v : Value) : Re w0 (w.setCell ⟨g5, i, none⟩ v) p g0 g5 l bad (c.setIfInBounds i v) := by
 have h0 := h.o0; have h1 := h.o1; have h2 := h.o2
 have hk : Keeps [g5] w (w.setCell ⟨g5, i, none⟩ v) := (Keeps.refl _ _).setCell (by simp) v
 exact ⟨h.rd.keep hk (by simp) (by simp; omega), ((Keeps.of_below (M := []) h.keeps).trans hk (by intro g hg; simp at hg; right; omega)).below, hk.blk h.b0 (by simp; omega), h.b5.set_ i v, h0, h1, h2⟩

def dEq (x y : DeltaD) : Bool := x.ser.toList == y.ser.toList && (x.n == y.n)
def dsEq (a b : List DeltaD) : Bool := Lib.allEq dEq a b
theorem dEq_at : NeqAt Tryz.prog 86 (fun x => .agg (dCell x).toArray) dEq := by
 refine ⟨fun x y w => ?_, GuardAt.agg _ (by kernel_rfl)⟩
 have u1 := Tryz.underlying9
 have a1 := Tryz.isAgg9
 have z1 := Tryz.sizeOf9
 have u3 := Tryz.underlying66
 have a3 := Tryz.isAgg66
 have z3 := Tryz.sizeOf66
 have hS : Tryz.prog.underlying 86 = some (.struct (Tryz.prog.fieldsOf 86)) := by kernel_rfl
 have hp : Tryz.prog.stoodInHeld 86 = false := by kernel_rfl
 simp only [dCell, dEq]
 rw [run_neq_struct, show (10000 : Nat) = 9999 + 1 from rfl, run_equalIn_agg w 9999 86 _ _ hS hp]
 simp only [Program.fieldsOf, Tryz.underlying86]
 go_simp
 by_cases h1 : x.ser.toList = y.ser.toList <;> by_cases h2 : x.n = y.n <;> simp [h1, h2]
def SamePost (r : Bool) (w : World) (e : Ending) (w' : World) : Prop := e = .returned (.bool r) ∧ Below w.heap.size w w'

def kl : List DeltaD := [⟨⟨#[97]⟩, 1⟩, ⟨⟨#[98]⟩, 2⟩, ⟨⟨#[97]⟩, 3⟩]
end Go.Proofs.YtinnifhnabncfaaGreatDoor.Vi
end
section
namespace Go.Proofs.YtinnifhnabncfaaGreatDoor.Vi
open Go.RowKit Base Mem Tape
theorem toList_inj {a b : ByteArray} (h : a.toList = b.toList) : a = b := by
 rw [Lib.toList_data, Lib.toList_data] at h
 obtain ⟨⟨a⟩⟩ := a
 obtain ⟨⟨b⟩⟩ := b
 simp only [] at h
 rw [h]
set_option maxRecDepth 100000 in
theorem names_ok : (nameL.all fun l => serOk ⟨l.toArray⟩) = true := by decide +kernel
theorem names_len : (nameL.all fun l => decide (l.length ≤ 100)) = true := by decide
theorem name_ser {s : ByteArray} (h : NameOk s) : serOk s = true ∧ s.size ≤ 100 := by
 obtain ⟨l, hl, rfl⟩ := h
 refine ⟨List.all_eq_true.1 names_ok l hl, ?_⟩
 have := List.all_eq_true.1 names_len l hl
 show l.toArray.size ≤ 100
 simpa using this
theorem entry_right {e : EntryD} (h : EntryOk e) : rightE e = 0 ∧ Short e ∧ Wf e := by
 obtain ⟨h1, h2, h3, h4, h5⟩ := h
 have hw : withinB e.fr 8 = true := by simp [withinB]; omega
 have ht : decide (e.tag < 0) = false := decide_eq_false (by omega)
 rcases h5 with ⟨hk, hn, ha, hs, hq, hp, hd⟩ | ⟨hk, hse, a0, a1, s0, s1, q0, q1, p0, p1, d0, d1, hd⟩
 ·obtain ⟨hser, hsz⟩ := (name_ser hn)
  refine ⟨?_, ⟨by omega, by simp [hd], by simp [hd]⟩, by omega, by omega, by omega, by simp [hd]⟩
  unfold rightE kindS
  rw [hw, ht, hk, ha, hs, hq, hp, hd, hser]
  rfl
 ·refine ⟨?_, ⟨by rw [hse]; decide, fun d hx => by have := (name_ser (hd d hx).1).2; omega, by omega⟩, by omega, by omega, by omega, fun d hx => ⟨by have := (hd d hx).2; omega, by have := (hd d hx).2; omega⟩⟩
  have hb : badId e = false := by
   unfold badId withinB
   simp; omega
  have h0 : (e.ds.length == 0 || e.ds.any fun d => d.n == 0) = false := by
   rw [Bool.or_eq_false_iff]
   refine ⟨by simp; intro h; rw [h] at d0; simp at d0, ?_⟩
   rw [List.any_eq_false]
   intro d hx
   have := (hd d hx).2
   simp; omega
  have hall : (e.ds.all fun d => serOk d.ser) = true := by
   rw [List.all_eq_true]
   exact fun d hx => (name_ser (hd d hx).1).1
  have hse2 : e.ser.toList.isEmpty = true := by rw [hse]; decide +kernel
  unfold rightE kindS writtenS
  rw [hw, ht, hb, h0, hall, hk, hse2, if_neg (by simp), if_neg (by simp), if_pos rfl, if_neg (by simp), if_neg (by omega), if_neg (by simp), if_pos rfl]
theorem dsEq_iff (a b : List DeltaD) : dsEq a b = true ↔ a = b := by
 unfold dsEq
 induction a generalizing b with
 | nil => cases b <;> simp [Lib.allEq]
 | cons x a ih =>
  cases b with
  | nil => simp [Lib.allEq]
  | cons y b =>
   obtain ⟨xs, xn⟩ := x
   obtain ⟨ys, yn⟩ := y
   simp only [Lib.allEq, Bool.and_eq_true, ih, dEq, beq_iff_eq, List.cons.injEq, DeltaD.mk.injEq]
   constructor
   ·rintro ⟨⟨h1, h2⟩, h3⟩; exact ⟨⟨toList_inj h1, h2⟩, h3⟩
   ·rintro ⟨⟨rfl, rfl⟩, rfl⟩; exact ⟨⟨rfl, rfl⟩, rfl⟩
end Go.Proofs.YtinnifhnabncfaaGreatDoor.Vi
end
section
namespace Go.Proofs.YtinnifhnabncfaaGreatDoor.Vi
open Go.RowKit Base Mem Go.Shelf
open Go.Maps (Keyed)
/-- These deltas have been met: those of the map that are no longer to come. -/
def Coll (D : DataW Unit) (left : Lit → Bool) (ss : List DeltaD) : Prop :=
 ss.Pairwise (fun a b => a.ser ≠ b.ser) ∧ ∀ d, d ∈ ss ↔ (Maps.has D (skey d.ser) = true ∧ left (skey d.ser) = false ∧ d.n = numAt .u64 D (skey d.ser))
theorem coll_start (D : DataW Unit) : Coll D (Maps.has D) [] := ⟨List.Pairwise.nil, fun d => ⟨fun h => (by simp at h), fun ⟨h1, h2, _⟩ => by rw [h1] at h2; cases h2⟩⟩
theorem coll_step {D : DataW Unit} {left : Lit → Bool} {ss : List DeltaD} (h : Coll D left ss) {x : ByteArray} {c : Int} (hl : left (skey x) = true) (hh : Maps.has D (skey x) = true) (hc : numAt .u64 D (skey x) = c) :
  Coll D (fun z => left z && !z.sameKey (skey x)) (ss ++ [⟨x, c⟩]) := by
 obtain ⟨h1, h2⟩ := h
 refine ⟨List.pairwise_append.2 ⟨h1, by simp, fun a ha b hb => ?_⟩, fun d => ?_⟩
 ·simp at hb
  subst hb
  intro e
  have := ((h2 a).1 ha).2.1
  rw [show a.ser = x from e, hl] at this
  cases this
 ·rw [List.mem_append, h2 d, List.mem_singleton]
  show _ ↔ (_ ∧ (left (skey d.ser) && !(skey d.ser).sameKey (skey x)) = false ∧ _)
  by_cases e : d.ser = x
  ·subst e
   rw [hl, WideAt.sameKey_self (skey_key _)]
   constructor
   ·rintro (⟨_, h, _⟩ | h)
    ·cases h
    ·rw [h]
     exact ⟨hh, rfl, hc.symm⟩
   ·rintro ⟨_, _, h⟩
    right
    obtain ⟨s, n⟩ := d
    simp only [] at h hc ⊢
    rw [h, hc]
  ·have hne : skey d.ser ≠ skey x := fun h => e (skey_inj h)
   rw [Maps.sameKey_ne hne, Bool.not_false, Bool.and_true]
   constructor
   ·rintro (h | h)
    ·exact h
    ·exact absurd (by rw [h]) e
   ·exact fun h => .inl h
/-- All of a map, by series. -/
def IsAll (D : DataW Unit) (l : List DeltaD) : Prop := (l.Pairwise fun a b => sLt a.ser b.ser = true) ∧ ∀ d, d ∈ l ↔ (Maps.has D (skey d.ser) = true ∧ d.n = numAt .u64 D (skey d.ser))
theorem coll_end {D : DataW Unit} {left : Lit → Bool} {ss : List DeltaD} (h : Coll D left ss) (hl : ∀ kl, left kl = false) : IsAll D (sortD ss) := by
 obtain ⟨h1, h2⟩ := h
 obtain ⟨h3, h4⟩ := sortD_facts ss
 have h5 : (sortD ss).Pairwise (fun a b => a.ser ≠ b.ser) := (h3.pairwise_iff (fun {_ _} h => Ne.symm h)).2 h1
 refine ⟨(h4.and h5).imp (fun {a b} hab => ?_), fun d => ?_⟩
 ·have h6 := hab.1
  rw [sLt_ltD, decide_eq_false_iff_not, List.not_lt] at h6
  rw [sLt_ltD, decide_eq_true_eq]
  rcases List.le_iff_lt_or_eq.1 h6 with h7 | h7
  ·exact h7
  ·exact absurd (toList_inj h7) hab.2
 ·rw [h3.mem_iff, h2 d]
  constructor
  ·exact fun h => ⟨h.1, h.2.2⟩
  ·exact fun h => ⟨h.1, hl _, h.2⟩
def AlP (D : DataW Unit) (w : World) (e : Ending) (w' : World) : Prop := ∃ v l, e = .returned v ∧ IsAll D l ∧ l.length ≤ 12 ∧ (∀ M, (∀ g ∈ M, g < w.heap.size) → Ds w' M v l) ∧ Keeps [] w w'
set_option maxRecDepth 100000 in
set_option maxHeartbeats 2000000 in
theorem small_any (g b N : Nat) (D : DataW Unit) (w : World) (h : SmAt w g b N D) (h12 : Maps.size D ≤ 12) :
  Calls Tryz.prog 116 #[.pointer (some ⟨g, 0, none⟩)] w fun e w' => AlP D w e w' := by
 have c0 := h.1.cell 0
 simp only [List.getElem?_toArray, List.getElem?_cons_zero] at c0
 have HM := Lib.hid h
 have hbl : b < w.heap.size := h.2.1.lt
 obtain ⟨i0, hi0, hz0, hz1, hz2⟩ := info_parts infoDelta
 have Hi0 := Lib.hid hi0; have Hz0 := Lib.hid hz0; have Hz1 := Lib.hid hz1; have Hz2 := Lib.hid hz2
 clear h hi0 hz0 hz1 hz2
 go_enter Tryz.func116, Tryz.ntmps116
 go_wp2_with (at_range; refine wpList_range_own _ rfl _ 92 rfl 9 66 lawS uMS _ b N D rfl HM.out.2.1 ?_; intro w0 hrg0 hg0 hs0)
 have Hrg0 := Lib.hid hrg0
 have Hk0 : Hid (Keeps [] w w0) := (Keeps.refl _ _).grown hg0 (fun j hj => by cases hj)
 have hs0' : w.heap.size < w0.heap.size := by rw [hs0]; exact Nat.lt_succ_self _
 have Hs0 := Lib.hid hs0'
 clear hrg0 hg0 hs0 hs0' c0
 obtain ⟨r, Hr⟩ : ∃ r, Hid (r = w.heap.size) := ⟨_, rfl⟩
 rw [← Hr.out] at Hrg0 ⊢
 go_frame
 go_loopw [3] (fun out wr => ∃ (left : Lit → Bool) (cnt : Nat) (ss : List DeltaD), ss.length + cnt ≤ Maps.size D ∧ Hid (Coll D left ss) ∧ Hid (wr.ranges Tryz.prog 9 (plainElem Tryz.prog 66) b r N D left cnt) ∧ Hid (wr.ownsRow w0.heap.size 86 2 out ss.length (dCells ss)) ∧ Hid (Keeps [r] w0 wr)) (fun _ wr => wr.rangeLeft b r)
 case atStart => exact ⟨_, _, [], by simp, coll_start D, Hrg0.out, World.ownsRow_nil _ _ _ _, Keeps.refl _ _⟩
 case round =>
  obtain ⟨left, cnt, ss, hcnt, HC, Hrg, Hown, Hkr⟩ := hrel
  obtain ⟨Ao, co, rfl, hco⟩ : ∃ Ao co, u3 = .slice Ao ss.length co ∧ ss.length ≤ co := by
   obtain ⟨Ao, co, h1, h2, _⟩ := Rd.of_own Hown.out (M := []) (by simp)
   exact ⟨Ao, co, h1, h2⟩
  go_wp2_with (at_next; refine wpList_next_ranges _ rfl _ rfl 9 lawS (plainElem Tryz.prog 66) Value.string (Value.int .u64) invKS invVU b r N D left cnt rfl Hrg.out ?_ ?_)
  ·intro hc0 hl0
   have HA := Lib.hid (coll_end HC.out hl0)
   have HSF := Lib.hid (sortR_any _ (.slice Ao ss.length co) ss wr Hown.out (by omega))
   clear hl0
   go_wp2_with fail
   refine HSF.out.mono ?_
   rintro e w2 ⟨rfl, hds, hk2⟩
   have Hds := Lib.hid hds; have Hk2 := Lib.hid hk2
   clear hds hk2 HSF
   go_wp2_with fail
   refine (clipDelta Ao ss.length co w2 hco).mono ?_
   rintro e w3 ⟨rfl, rfl⟩
   have hP : Hid (AlP D w (.returned (.slice Ao ss.length ss.length)) w2) := by
    refine ⟨_, sortD ss, rfl, HA.out, by rw [sortD_len]; omega, fun M hM => ?_, ?_⟩
    ·obtain ⟨A1, c1, e1, h1, h2, h3⟩ := Hds.out M (fun g hg hm => by
      have h4 := (Hown.out.lt g hg).1
      have h5 := hM g hm
      have h6 := Hs0.out
      exact absurd (Nat.lt_of_lt_of_le (Nat.lt_trans h5 h6) h4) (Nat.lt_irrefl _))
     injection e1 with e1 e2 e3
     subst e1
     exact ⟨Ao, ss.length, by rw [sortD_len], by rw [sortD_len]; exact Nat.le_refl _, h2, h3⟩
    ·refine (Hk0.out.trans Hkr.out (fun x hx => .inr (by simp at hx; rw [hx, Hr.out]; exact Nat.le_refl _))).trans Hk2.out (fun x hx => .inr ?_)
     have h4 := (Hown.out.lt x (by simpa using hx)).1
     exact Nat.le_trans (Nat.le_of_lt Hs0.out) h4
   go_wp2
   go_ret
   exact hP.out
  ·intro x c kl yd yp w2 cnt2 hkey hlk hv hat hrg2 hlt2 hg2 hs2 hen
   have hks : kl = skey x := by
    simp [keyOf, uStr, mapKey] at hkey
    exact hkey.2.symm
   subst hks
   have hnum : numAt .u64 D (skey x) = c := by
    have h1 := hat (.lit (.int .u64 0))
    obtain ⟨c', e1, e2, _⟩ := plainElem_int_inv uU64 hv
    injection e1 with _ e1
    subst e1
    injection e2 with e2 _
    rw [e2] at h1
    exact numAt_of h1
   have HC2 := Lib.hid (coll_step HC.out hlk (Maps.has_true_of_atKey hat) hnum)
   have hm0 := Hrg.out.left_eq
   have hbr : r < w0.heap.size := by have := Hs0.out; rw [Hr.out]; exact this
   have Hbr := Lib.hid hbr
   have Hk2 : Hid (Keeps [r] w0 w2) := Hkr.out.grown hg2 (fun j hj => .inl (by cases hj; simp))
   have hk2w : Keeps [r] wr w2 := (Keeps.refl _ _).grown hg2 (fun j hj => .inl (by cases hj; simp))
   have Hown2 : Hid ((w2.alloc (.cells #[.string x, .int .u64 c] 86)).ownsRow w0.heap.size 86 2 (.slice Ao ss.length co) ss.length (dCells ss)) := (own_keep Hown.out hk2w (by intro g hg; simp at hg; subst hg; exact hbr)).alloc _
   have hkb : Hid (Keeps [] w2 (w2.alloc (.cells #[.string x, .int .u64 c] 86))) := (Keeps.refl _ _).alloc _
   have Hrg2 := Lib.hid hrg2
   have hle : w0.heap.size ≤ w2.heap.size := Hk2.out.size
   have hss : ss.length < 12 := by omega
   have hcn : (ss ++ [(⟨x, c⟩ : DeltaD)]).length + cnt2 ≤ Maps.size D := by simp; omega
   clear hs2 hg2 hrg2 hat hv hlk hkey hk2w hbr Hrg
   go_wp2_with (at_builtin; refine wpList_append_any _ rfl (.tmp 16) (.tmp 20) _ rfl w0.heap.size 86 i0 _ 2 24 Tryz.underlying24 Hi0.out Hz0.out Hz1.out Hz2.out rfl (by omega) (.slice Ao ss.length co) ss.length (dCells ss) rfl Hown2.out (w2.heap.size + 1) (some ⟨w2.heap.size, 0, none⟩) 1 1 (dCell ⟨x, c⟩) rfl (reads_new _ _ _ _ _ rfl) (by intro u hu; simp [dCell] at hu; rcases hu with rfl | rfl <;> rfl) (by unfold maxLen; omega) (by omega) (by simp; omega) ?_)
   intro v6 w6 hown6 hg6 hat6
   have Hown6 : Hid (w6.ownsRow w0.heap.size 86 2 v6 (ss ++ [(⟨x, c⟩ : DeltaD)]).length (dCells (ss ++ [(⟨x, c⟩ : DeltaD)]))) := by
    show World.ownsRow _ _ _ _ _ _ _
    unfold dCells at hown6 ⊢
    rw [List.flatMap_append]
    simpa using hown6
   have hlt0 := Hown.out.lt
   have hk6 : Keeps (Value.slice Ao ss.length co).ownBlock.toList w2 w6 := ((Keeps.refl _ _).alloc _).grown hg6 (fun k hk => .inl (by simp [hk]))
   have Hrg6 : Hid (w6.ranges Tryz.prog 9 (plainElem Tryz.prog 66) b r N D (fun z => left z && !z.sameKey (skey x)) cnt2) := rg_keep Hrg2.out hk6 (fun hm => by
    have h1 := (hlt0 b (by simpa using hm)).1
    have h2 := Hs0.out
    exact absurd (Nat.lt_trans hbl h2) (Nat.not_lt.2 h1)) (fun hm => by
    have h1 := (hlt0 r (by simpa using hm)).1
    exact absurd Hbr.out (Nat.not_lt.2 h1))
   have Hk6 : Hid (Keeps [r] w0 w6) := Hk2.out.trans hk6 (fun k hk => .inr (hlt0 k (by simpa using hk)).1)
   have hm6 := Hrg6.out.left_eq
   clear hown6 hg6 hat6 hk6 hlt0
   go_wp2
   go_roundw
   case rel => exact ⟨_, cnt2, ss ++ [⟨x, c⟩], hcn, HC2, Hrg6, Hown6, Hk6⟩
   case measure => rw [hm0, hm6]; exact hlt2
end Go.Proofs.YtinnifhnabncfaaGreatDoor.Vi
end
section
namespace Go.Proofs.YtinnifhnabncfaaGreatDoor.Win
/-- Has number n been seen? All up to f are; behind it those of the mask. -/
def seenW (f : Int) (m : Nat) (n : Int) : Bool := decide (n ≤ f) || (decide (n - f - 1 < 64) && m.testBit (n - f - 1).toNat)
def farW (f : Int) (n : Int) : Bool := decide (f < n) && decide (64 ≤ n - f - 1)
def normW : Nat → Int → Nat → Int × Nat
 | 0, f, m => (f, m)
 | k + 1, f, m => if m % 2 = 1 then normW k (f + 1) (m / 2) else (f, m)
theorem seenW_step {f : Int} {m : Nat} (hm : m < 2 ^ 64) (h : m % 2 = 1) (n : Int) : seenW (f + 1) (m / 2) n = seenW f m n := by
 unfold seenW
 rcases Int.lt_trichotomy n (f + 1) with hlt | rfl | hgt
 ·have h1 : n ≤ f := by omega
  have h2 : n ≤ f + 1 := by omega
  simp [h1, h2]
 ·have h1 : ¬ (f + 1 ≤ f) := by omega
  have e : (f + 1 - f - 1).toNat = 0 := by omega
  have h3 : f + 1 - f - 1 < 64 := by omega
  simp [h1, h3, e, h]
 ·have h1 : ¬ (n ≤ f) := by omega
  have h2 : ¬ (n ≤ f + 1) := by omega
  obtain ⟨k, rfl⟩ : ∃ k : Nat, n = f + 2 + k := ⟨(n - f - 2).toNat, by omega⟩
  have e1 : (f + 2 + (k : Int) - (f + 1) - 1).toNat = k := by omega
  have e2 : (f + 2 + (k : Int) - f - 1).toNat = k + 1 := by omega
  rw [e1, e2, Nat.testBit_div_two]
  simp only [h1, h2, decide_false, Bool.false_or]
  by_cases hk : k < 63
  ·have a1 : f + 2 + (k : Int) - (f + 1) - 1 < 64 := by omega
   have a2 : f + 2 + (k : Int) - f - 1 < 64 := by omega
   simp [a1, a2]
  ·have a2 : ¬ (f + 2 + (k : Int) - f - 1 < 64) := by omega
   have hb : m.testBit (k + 1) = false := Nat.testBit_lt_two_pow (Nat.lt_of_lt_of_le hm (Nat.pow_le_pow_right (by omega) (by omega)))
   simp [a2, hb]
theorem normW_seen : ∀ (k : Nat) (f : Int) (m : Nat), m < 2 ^ 64 → ∀ n, seenW (normW k f m).1 (normW k f m).2 n = seenW f m n
 | 0, _, _, _, _ => rfl
 | k + 1, f, m, hm, n => by
  rw [normW]
  split
  ·rename_i h
   rw [normW_seen k (f + 1) (m / 2) (by omega) n, seenW_step hm h]
  ·rfl
theorem normW_bd : ∀ (k : Nat) (f : Int) (m : Nat), m < 2 ^ 64 → f ≤ (normW k f m).1 ∧ (normW k f m).1 ≤ f + k ∧ (normW k f m).2 < 2 ^ 64
 | 0, f, m, hm => ⟨Int.le_refl _, by simp [normW], hm⟩
 | k + 1, f, m, hm => by
  rw [normW]
  split
  ·obtain ⟨h1, h2, h3⟩ := normW_bd k (f + 1) (m / 2) (by omega)
   exact ⟨by omega, by omega, h3⟩
  ·exact ⟨Int.le_refl _, by omega, hm⟩
/-- The window with a number more. -/
def addW (f : Int) (m : Nat) (n : Int) : Int × Nat := normW 64 f (m ||| 2 ^ (n - f - 1).toNat)
theorem or_lt {m j : Nat} (hm : m < 2 ^ 64) (hj : j < 64) : m ||| 2 ^ j < 2 ^ 64 := Nat.or_lt_two_pow hm (Nat.pow_lt_pow_right (by omega) hj)
theorem addW_seen {f : Int} {m : Nat} {n : Int} (hm : m < 2 ^ 64) (h1 : f < n) (h2 : n - f - 1 < 64) (k : Int) : seenW (addW f m n).1 (addW f m n).2 k = (seenW f m k || k == n) := by
 unfold addW
 rw [normW_seen 64 f _ (or_lt hm (by omega)) k]
 unfold seenW
 by_cases hk : k ≤ f
 ·simp [hk]
 ·have hkf : decide (k ≤ f) = false := decide_eq_false hk
  rw [hkf, Bool.false_or, Bool.false_or, Nat.testBit_or, Nat.testBit_two_pow]
  by_cases hkn : k = n
  ·subst hkn
   simp [h2]
  ·have hne : (n - f - 1).toNat ≠ (k - f - 1).toNat := by omega
   have hd : decide ((n - f - 1).toNat = (k - f - 1).toNat) = false := decide_eq_false hne
   have hb : (k == n) = false := by simpa using hkn
   rw [hd, hb, Bool.or_false, Bool.or_false]
end Go.Proofs.YtinnifhnabncfaaGreatDoor.Win
end
section
namespace Go.Proofs.YtinnifhnabncfaaGreatDoor.Vi
open Go.RowKit Base Mem Tape
/-- A shard: its floor, its mask, its refused batches. -/
structure ShD where
 f : Int
 m : Nat
 bad : List Int
structure McD where
 DS : DataW Unit
 DE : DataW Unit
 sh : Lit → Option ShD
def McD.get (st : McD) (kl : Lit) : ShD := (st.sh kl).getD ⟨0, 0, []⟩
open Classical in
noncomputable def McD.set (st : McD) (kl : Lit) (s : ShD) : McD := { st with sh := fun k => if k = kl then some s else st.sh k }
theorem McD.get_set (st : McD) (kl : Lit) (s : ShD) : (st.set kl s).get kl = s := by simp [McD.get, McD.set]
theorem McD.get_other (st : McD) {kl k : Lit} (s : ShD) (h : k ≠ kl) : (st.set kl s).get k = st.get k := by simp [McD.get, McD.set, h]
theorem McD.sh_set (st : McD) (kl : Lit) (s : ShD) : (st.set kl s).sh kl = some s := by simp [McD.set]
theorem McD.sh_other (st : McD) {kl k : Lit} (s : ShD) (h : k ≠ kl) : (st.set kl s).sh k = st.sh k := by simp [McD.set, h]
def ShD.seen (s : ShD) (n : Int) : Bool := Win.seenW s.f s.m n
def ShD.add (s : ShD) (n : Int) : ShD := { s with f := (Win.addW s.f s.m n).1, m := (Win.addW s.f s.m n).2 }
/-- A number put among others, in order. -/
def insI (l : List Int) (n : Int) : List Int := (l ++ [n]).mergeSort (fun a b => decide (a ≤ b))
/-- A batch is counted, or refused for good. -/
noncomputable def countM (st : McD) (kl : Lit) (e : EntryD) : Int × McD :=
 if mayS st.DS e.ds = 0 then (1, ({ st with DS := addL st.DS e.ds } : McD).set kl ((st.get kl).add e.seq))
 else if 8 ≤ (st.get kl).bad.length then (5, st)
 else (3, st.set kl ({ (st.get kl) with bad := insI (st.get kl).bad e.seq }.add e.seq))
def ekey (a : Int) : Lit := .int .i64 a
def stE (st : McD) (e : EntryD) : McD := { st with DE := st.DE.put (ekey e.ag) (.lit (.int .i64 e.ep)) }
/-- An entry's answer: code, number, and what the machine is then. -/
noncomputable def applyM (st : McD) (kl : Lit) (e : EntryD) : Int × Int × McD :=
 if rightE e = 0 then
  if e.kind = 2 then (8, numAt .u64 st.DS (skey e.ser), st)
  else if (st.get kl).seen e.seq = true then (if e.seq ∈ (st.get kl).bad then 3 else 2, 0, st)
  else if e.ep < numAt .i64 st.DE (ekey e.ag) then (4, 0, st)
  else if Win.farW (st.get kl).f e.seq = true then (5, 0, stE st e)
  else ((countM (stE st e) kl e).1, 0, (countM (stE st e) kl e).2)
 else (0, 0, st)
end Go.Proofs.YtinnifhnabncfaaGreatDoor.Vi
end
