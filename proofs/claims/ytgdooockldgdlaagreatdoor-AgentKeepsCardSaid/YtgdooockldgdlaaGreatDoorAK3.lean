/- Texts put together: Shelf, Lab5, Lab6, Ent1, Ent2, Ent3, Ent4, Ent5, Ent6, Ent7, Ent8, Ent9, EntA, EntD, AgP, Qu1. -/
import Derived.Shelf.Strings.Builder1
import Derived.Shelf.Strings.Builder2
import Derived.Shelf.Strings.OnBuilder
import Derived.Shelf.Small.Bits
import Derived.Shelf.Utf8.RuneCount
import Derived.Shelf.Strconv.Itoa0
import Derived.Shelf.Strings.Search1
import Derived.Shelf.Strings.Search2
import Derived.Shelf.Strings.Search3
import Derived.Shelf.Strings.Cut
import Derived.Shelf.Strings.Count
import Derived.Shelf.LaysM
import Derived.Shelf.Strings.Shaped
import Derived.Shelf.Strings.Split
import Derived.Shelf.Strings.SplitShaped
import Derived.Shelf.Unicode.Decode
import Derived.Shelf.Strings.RuneCount
import Derived.Shelf.Strings.Explode
import Derived.Shelf.Unicode.DecodeSlow
import Derived.Shelf.Unicode.DecodeAny
import Derived.Ground.SlgnProg
import Derived.Shelf.SlicesE.Clone
import Derived.Ground.SlgmProg
import Derived.Shelf.SortM.Plain
import Derived.Test.YtgdooockldgdlaaGreatDoorProg
import Derived.Laws.StructEq
import Derived.Shelf.SlicesQ.IndexFunc
import Derived.Deep.DeepCutAuto
import Derived.Shelf.SlicesQ.Equal
import Derived.Test.YtgdooockldgdlaaGreatDoorAK1
import Derived.Test.YtgdooockldgdlaaGreatDoorAK2
set_option linter.unusedVariables false
set_option linter.unusedSimpArgs false
section
namespace Go.Proofs
open Go.Shelf
def Tryz.lays156_ren : Go.Shelf.Ren := ⟨fun | 156 => 201 | 165 => 254 | 166 => 255 | 169 => 256 | 240 => 286 | 241 => 287 | 276 => 297 | 277 => 298 | n => n, fun | 31 => 80 | 9 => 9 | 3 => 3 | 4 => 4 | 0 => 0 | 20 => 20 | 72 => 303 | 76 => 307 | 70 => 301 | 37 => 84 | 75 => 306 | 127 => 325 | 164 => 334 | 5 => 5 | 80 => 52 | n => n, fun | n => n⟩
theorem Tryz.lays156 : Go.Proofs.Lays.n156 Tryz.prog Tryz.lays156_ren := {
 mixed := by kernel_rfl
 f156 := Tryz.func201.trans (congrArg some (by kernel_rfl))
 f165 := Tryz.func254.trans (congrArg some (by kernel_rfl))
 f166 := Tryz.func255.trans (congrArg some (by kernel_rfl))
 f169 := Tryz.func256.trans (congrArg some (by kernel_rfl))
 f240 := Tryz.func286.trans (congrArg some (by kernel_rfl))
 f241 := Tryz.func287.trans (congrArg some (by kernel_rfl))
 f276 := Tryz.func297.trans (congrArg some (by kernel_rfl))
 f277 := Tryz.func298.trans (congrArg some (by kernel_rfl))
 t0 := Tryz.underlying0
 a0 := Tryz.isAgg0
 z0 := Tryz.sizeOf0
 v0 := Tryz.zeroValue0
 t3 := Tryz.underlying3
 a3 := Tryz.isAgg3
 z3 := Tryz.sizeOf3
 v3 := Tryz.zeroValue3
 t4 := Tryz.underlying4
 a4 := Tryz.isAgg4
 z4 := Tryz.sizeOf4
 v4 := Tryz.zeroValue4
 t9 := Tryz.underlying9
 a9 := Tryz.isAgg9
 z9 := Tryz.sizeOf9
 v9 := Tryz.zeroValue9
 t20 := Tryz.underlying20
 a20 := Tryz.isAgg20
 z20 := Tryz.sizeOf20
 v20 := Tryz.zeroValue20
 t31 := Tryz.underlying80
 a31 := Tryz.isAgg80
 z31 := Tryz.sizeOf80
 v31 := Tryz.zeroValue80
 t37 := Tryz.underlying84
 a37 := Tryz.isAgg84
 z37 := Tryz.sizeOf84
 v37 := Tryz.zeroValue84
 t70 := Tryz.underlying301
 a70 := Tryz.isAgg301
 z70 := Tryz.sizeOf301
 v70 := Tryz.zeroValue301
 t72 := Tryz.underlying303
 a72 := Tryz.isAgg303
 z72 := Tryz.sizeOf303
 v72 := Tryz.zeroValue303
 t75 := Tryz.underlying306
 a75 := Tryz.isAgg306
 z75 := Tryz.sizeOf306
 v75 := Tryz.zeroValue306
 t76 := Tryz.underlying307
 a76 := Tryz.isAgg307
 z76 := Tryz.sizeOf307
 v76 := Tryz.zeroValue307
 t127 := Tryz.underlying325
 a127 := Tryz.isAgg325
 z127 := Tryz.sizeOf325
 v127 := Tryz.zeroValue325
 t164 := Tryz.underlying334
 a164 := Tryz.isAgg334
 z164 := Tryz.sizeOf334
 v164 := Tryz.zeroValue334 }
theorem Tryz.Builder_Extra_156 : Builder.Extra Tryz.prog Tryz.lays156_ren := {
 sizeBuilder := by kernel_rfl
 liesBuilder := by kernel_rfl
 t5 := Tryz.underlying5
 a5 := Tryz.isAgg5
 z5 := Tryz.sizeOf5
 v5 := Tryz.zeroValue5
 infoByte := by kernel_rfl
 cellsByte := by kernel_rfl
 sizeByte := by kernel_rfl
 neB5 := by decide }
open Go.RowKit in
/-- strings.Join: "Join concatenates the elements of its first argument to create a single string. The separator string sep is placed between elements in the resulting string.": HOWEVER MANY ELEMENTS. Below the heap's end the world is as it was. (LAID: no walk: one application.) -/
theorem Tryz.strings_Join (bk o c : Nat) (xs : List ByteArray) (sep : ByteArray) (w : World) (hcells : ∀ (j : Nat) x, xs[j]? = some x → w.cell? ⟨bk, o + j, none⟩ = some (.string x)) (hbk : bk < w.heap.size) (hN : xs.length ≤ 140737488355328) (hcap : xs.length ≤ c) (hlen : (Lib.join (xs.map (·.data.toList)) sep.data.toList).length ≤ 140737488355328) :
  Calls Tryz.prog 201 #[.slice (some ⟨bk, o, none⟩) xs.length c, .string sep] w fun e w' => e = .returned (.string ⟨(Lib.join (xs.map (·.data.toList)) sep.data.toList).toArray⟩) ∧ Below w.heap.size w w' := Any.strings_Join Tryz.lays156 Tryz.Builder_Extra_156 bk o c xs sep w hcells hbk hN hcap hlen
def Tryz.lays145_ren : Go.Shelf.Ren := ⟨fun | 145 => 147 | 220 => 198 | 219 => 249 | 217 => 281 | 225 => 282 | 224 => 283 | 267 => 284 | 266 => 293 | 314 => 294 | n => n, fun | 9 => 9 | 4 => 4 | 59 => 227 | 3 => 3 | 5 => 5 | 46 => 125 | 146 => 330 | 51 => 155 | n => n, fun | 1 => 0 | n => n⟩
theorem Tryz.lays145 : Go.Proofs.Lays.n145 Tryz.prog Tryz.lays145_ren := {
 mixed := by kernel_rfl
 f145 := Tryz.func147.trans (congrArg some (by kernel_rfl))
 f217 := Tryz.func281.trans (congrArg some (by kernel_rfl))
 f219 := Tryz.func249.trans (congrArg some (by kernel_rfl))
 f220 := Tryz.func198.trans (congrArg some (by kernel_rfl))
 f224 := Tryz.func283.trans (congrArg some (by kernel_rfl))
 f225 := Tryz.func282.trans (congrArg some (by kernel_rfl))
 f266 := Tryz.func293.trans (congrArg some (by kernel_rfl))
 f267 := Tryz.func284.trans (congrArg some (by kernel_rfl))
 f314 := Tryz.func294.trans (congrArg some (by kernel_rfl))
 t3 := Tryz.underlying3
 a3 := Tryz.isAgg3
 z3 := Tryz.sizeOf3
 v3 := Tryz.zeroValue3
 t4 := Tryz.underlying4
 a4 := Tryz.isAgg4
 z4 := Tryz.sizeOf4
 v4 := Tryz.zeroValue4
 t5 := Tryz.underlying5
 a5 := Tryz.isAgg5
 z5 := Tryz.sizeOf5
 v5 := Tryz.zeroValue5
 t9 := Tryz.underlying9
 a9 := Tryz.isAgg9
 z9 := Tryz.sizeOf9
 v9 := Tryz.zeroValue9
 t46 := Tryz.underlying125
 a46 := Tryz.isAgg125
 z46 := Tryz.sizeOf125
 v46 := Tryz.zeroValue125
 t51 := Tryz.underlying155
 a51 := Tryz.isAgg155
 z51 := Tryz.sizeOf155
 v51 := Tryz.zeroValue155
 t59 := Tryz.underlying227
 a59 := Tryz.isAgg227
 z59 := Tryz.sizeOf227
 v59 := Tryz.zeroValue227
 t146 := Tryz.underlying330
 a146 := Tryz.isAgg330
 z146 := Tryz.sizeOf330
 v146 := Tryz.zeroValue330
 g1 := by kernel_rfl }
open Go.RowKit Go.Lib in
/-- strings.Cut: "Cut slices s around the first instance of sep, returning the text before and after sep. The found result reports whether sep appears in s. If sep does not appear in s, cut returns s, "", false.": IT RETURNS 'Lib.cut s sep'; the world is as it was but for the count of draws. (LAID: no walk: one application.) -/
theorem Tryz.strings_Cut (s sep : ByteArray) (m : Int) (w : World) (hs : s.size < 4294967281) (hm : w.cell? ⟨0, 0, none⟩ = some (.int .i64 m)) :
  Calls Tryz.prog 147 #[.string s, .string sep] w fun e w' => e = .returned (.tuple #[.string ⟨(Lib.cut s.data.toList sep.data.toList).1.toArray⟩, .string ⟨(Lib.cut s.data.toList sep.data.toList).2.1.toArray⟩, .bool (Lib.cut s.data.toList sep.data.toList).2.2]) ∧ ∃ n, w' = w.drewN n := Any.strings_Cut Tryz.lays145 s sep m w hs hm
def Tryz.lays146_ren : Go.Shelf.Ren := ⟨fun | 146 => 146 | 221 => 197 | 268 => 246 | 138 => 247 | 143 => 248 | 195 => 278 | 197 => 279 | 218 => 280 | 219 => 249 | 260 => 292 | 217 => 281 | 225 => 282 | 224 => 283 | 267 => 284 | 266 => 293 | 314 => 294 | n => n, fun | 9 => 9 | 31 => 80 | 3 => 3 | 4 => 4 | 0 => 0 | 105 => 321 | 21 => 21 | 5 => 5 | 46 => 125 | 119 => 336 | 139 => 339 | 138 => 338 | 146 => 330 | 51 => 155 | n => n, fun | 1 => 0 | 3 => 1 | 4 => 2 | n => n⟩
theorem Tryz.lays146 : Go.Proofs.Lays.n146 Tryz.prog Tryz.lays146_ren := {
 mixed := by kernel_rfl
 f138 := Tryz.func247.trans (congrArg some (by kernel_rfl))
 f143 := Tryz.func248.trans (congrArg some (by kernel_rfl))
 f146 := Tryz.func146.trans (congrArg some (by kernel_rfl))
 f195 := Tryz.func278.trans (congrArg some (by kernel_rfl))
 f197 := Tryz.func279.trans (congrArg some (by kernel_rfl))
 f217 := Tryz.func281.trans (congrArg some (by kernel_rfl))
 f218 := Tryz.func280.trans (congrArg some (by kernel_rfl))
 f219 := Tryz.func249.trans (congrArg some (by kernel_rfl))
 f221 := Tryz.func197.trans (congrArg some (by kernel_rfl))
 f224 := Tryz.func283.trans (congrArg some (by kernel_rfl))
 f225 := Tryz.func282.trans (congrArg some (by kernel_rfl))
 f260 := Tryz.func292.trans (congrArg some (by kernel_rfl))
 f266 := Tryz.func293.trans (congrArg some (by kernel_rfl))
 f267 := Tryz.func284.trans (congrArg some (by kernel_rfl))
 f268 := Tryz.func246.trans (congrArg some (by kernel_rfl))
 f314 := Tryz.func294.trans (congrArg some (by kernel_rfl))
 t0 := Tryz.underlying0
 a0 := Tryz.isAgg0
 z0 := Tryz.sizeOf0
 v0 := Tryz.zeroValue0
 t3 := Tryz.underlying3
 a3 := Tryz.isAgg3
 z3 := Tryz.sizeOf3
 v3 := Tryz.zeroValue3
 t4 := Tryz.underlying4
 a4 := Tryz.isAgg4
 z4 := Tryz.sizeOf4
 v4 := Tryz.zeroValue4
 t5 := Tryz.underlying5
 a5 := Tryz.isAgg5
 z5 := Tryz.sizeOf5
 v5 := Tryz.zeroValue5
 t9 := Tryz.underlying9
 a9 := Tryz.isAgg9
 z9 := Tryz.sizeOf9
 v9 := Tryz.zeroValue9
 t21 := Tryz.underlying21
 a21 := Tryz.isAgg21
 z21 := Tryz.sizeOf21
 v21 := Tryz.zeroValue21
 t31 := Tryz.underlying80
 a31 := Tryz.isAgg80
 z31 := Tryz.sizeOf80
 v31 := Tryz.zeroValue80
 t46 := Tryz.underlying125
 a46 := Tryz.isAgg125
 z46 := Tryz.sizeOf125
 v46 := Tryz.zeroValue125
 t51 := Tryz.underlying155
 a51 := Tryz.isAgg155
 z51 := Tryz.sizeOf155
 v51 := Tryz.zeroValue155
 t105 := Tryz.underlying321
 a105 := Tryz.isAgg321
 z105 := Tryz.sizeOf321
 v105 := Tryz.zeroValue321
 t119 := Tryz.underlying336
 a119 := Tryz.isAgg336
 z119 := Tryz.sizeOf336
 t138 := Tryz.underlying338
 a138 := Tryz.isAgg338
 z138 := Tryz.sizeOf338
 v138 := Tryz.zeroValue338
 t139 := Tryz.underlying339
 a139 := Tryz.isAgg339
 z139 := Tryz.sizeOf339
 v139 := Tryz.zeroValue339
 t146 := Tryz.underlying330
 a146 := Tryz.isAgg330
 z146 := Tryz.sizeOf330
 v146 := Tryz.zeroValue330
 g1 := by kernel_rfl
 g3 := by kernel_rfl
 g4 := by kernel_rfl }
open Go.RowKit Go.Lib in
/-- strings.Split. (LAID: no walk: one application.) -/
theorem Tryz.strings_Split (s sep : ByteArray) (m : Int) (w : World) (hs : s.size < 4294967281) (hm : w.cell? ⟨0, 0, none⟩ = some (.int .i64 m)) (h1 : 1 ≤ sep.size) :
  Calls Tryz.prog 146 #[.string s, .string sep] w fun e w' =>
   e = .returned (.slice (some ⟨w.heap.size, 0, none⟩) (Lib.countB s sep + 1) (Lib.countB s sep + 1)) ∧ w' = w.alloc (.cells ((Lib.splitB sep 0 (Lib.countB s sep) s).map Value.string).toArray 9) := Any.strings_Split Tryz.lays146 (by kernel_rfl) s sep m w hs hm h1
end Go.Proofs
end
section
namespace Go.Proofs.YtgdooockldgdlaaGreatDoor.Vi
open Go.RowKit Base Mem Go.Sort Go.Shelf
def pairB (x : LabD) : ByteArray := x.name ++ ⟨#[61]⟩ ++ x.value
def joinB (l : List LabD) : ByteArray := ⟨(Lib.join ((l.map pairB).map (·.data.toList)) [44]).toArray⟩
/-- A series of labels; else why not. -/
def ltextS (l : List LabD) : ByteArray × Nat := if rightS l = 0 then (joinB (sortL l), 0) else (⟨#[]⟩, rightS l)
theorem pairB_len (x : LabD) : (pairB x).data.toList.length = x.name.size + 1 + x.value.size := by
 unfold pairB
 rw [ByteArray.data_append, ByteArray.data_append, Array.toList_append, Array.toList_append, List.length_append, List.length_append]
 rfl
theorem join_len (l : List LabD) (h : ∀ x ∈ l, x.name.size ≤ 32 ∧ x.value.size ≤ 32) : (Lib.join ((l.map pairB).map (·.data.toList)) [44]).length ≤ 66 * l.length := by
 induction l with
 | nil => simp [Lib.join_nil]
 | cons a r ih =>
  rw [List.map_cons, List.map_cons, Lib.join_cons]
  have ha := h a (by simp)
  have hp := pairB_len a
  have hr : ∀ (r : List LabD), (∀ x ∈ r, x.name.size ≤ 32 ∧ x.value.size ≤ 32) → (Lib.joinTail [44] ((r.map pairB).map (·.data.toList))).length ≤ 66 * r.length := by
   intro r hr
   induction r with
   | nil => simp [Lib.joinTail]
   | cons b q ihq =>
    have hb := hr b (by simp)
    have hpb := pairB_len b
    have := ihq (fun x hx => hr x (List.mem_cons_of_mem _ hx))
    simp only [Lib.joinTail, List.map_cons, List.flatten_cons, List.length_append, List.length_cons, List.length_nil] at this ⊢
    omega
  have := hr r (fun x hx => h x (List.mem_cons_of_mem _ hx))
  rw [List.length_append, List.length_cons]
  omega
theorem okRow_sizes {s : List LabD} (h : okRow s = true) : ∀ x ∈ s, x.name.size ≤ 32 ∧ x.value.size ≤ 32 := by
 intro x hx
 obtain ⟨i, hi, rfl⟩ := List.getElem_of_mem hx
 unfold okRow at h
 rw [List.all_eq_true] at h
 have h1 := h i (List.mem_range.2 hi)
 unfold itemOk at h1
 rw [getElem!_pos s i hi, Bool.and_eq_true, Bool.and_eq_true] at h1
 have h2 := h1.1.1
 have h3 := h1.1.2
 unfold nameOk at h2 h3
 simp at h2 h3
 omega
theorem infoStr : (Tryz.prog.info? 9).map (fun i => (i.zero, i.size, i.bytes)) = some (some (.string ByteArray.empty), 1, 16) := by kernel_rfl
def TextPost (l : List LabD) (w : World) (e : Ending) (w' : World) : Prop := e = .returned (.tuple #[.string (ltextS l).1, .int .i64 (ltextS l).2]) ∧ Below w.heap.size w w'
set_option maxRecDepth 100000 in
theorem ltext_any (v : Value) (l : List LabD) (w : World) (h : Labs w [] v l) (hl : l.length ≤ 4611686018427387904) :
  Calls Tryz.prog 148 #[v] w fun e w' => TextPost l w e w' := by
 have hri := Lib.hid (lright_any v l w h hl)
 have HT : Hid (ltextS l = if rightS l = 0 then (joinB (sortL l), 0) else (⟨#[]⟩, rightS l)) := rfl
 by_cases hr0 : rightS l = 0
 ·have hR : Hid (ltextS l = (joinB (sortL l), 0)) := by show _ = _; rw [HT.out, if_pos hr0]
  have hl8 : l.length ≤ 8 ∧ okRow (sortL l) = true := by
   unfold rightS at hr0
   by_cases h8 : 8 < l.length
   ·rw [if_pos h8] at hr0; cases hr0
   ·rw [if_neg h8] at hr0
    refine ⟨by omega, ?_⟩
    cases hk : okRow (sortL l) with
    | true => rfl
    | false => rw [hk] at hr0; simp at hr0
  obtain ⟨hl8, hok⟩ := hl8
  have hjl := Lib.hid (join_len (sortL l) (okRow_sizes hok))
  have hsz := Lib.hid (okRow_sizes hok)
  rw [hr0] at hri
  have hso := Lib.hid (fun W (hk : Keeps [] w W) => sorted_any v l W (h.keep hk (by simp)) (by omega))
  obtain ⟨A, c, rfl, hc⟩ := h.len
  have hs8 : (sortL l).length ≤ 8 := by rw [sortL_len]; omega
  have hs0 : 0 < (sortL l).length := by
   rw [sortL_len]
   unfold rightS at hr0
   rw [if_neg (by omega), hok] at hr0
   rcases Nat.eq_zero_or_pos l.length with hz | hz
   ·rw [hz] at hr0; simp at hr0
   ·exact hz
  clear h HT hr0 hok
  obtain ⟨i0, hi0, hz0, hz1, hz2⟩ := info_parts infoStr
  have Hi0 := Lib.hid hi0; have Hz0 := Lib.hid hz0; have Hz1 := Lib.hid hz1; have Hz2 := Lib.hid hz2
  clear hi0 hz0 hz1 hz2
  generalize sortL l = s at *
  go_enter Tryz.func148, Tryz.ntmps148
  go_wp2_with fail
  refine hri.out.mono ?_
  rintro e w1 ⟨rfl, hb1⟩
  have hso1 := Lib.hid (hso.out w1 (Keeps.of_below hb1))
  have Hb1 := Lib.hid hb1
  clear hb1 hri hso
  go_wp2_with fail
  refine hso1.out.mono ?_
  rintro e w2 ⟨A1, rfl, hA, hb2⟩
  have HA := Lib.hid (hA [] (by simp)); have Hb2 := Lib.hid (below_then Hb1.out hb2)
  clear hA hb2 hso1 Hb1
  go_wp2_with fail
  go_loopw [5, 16] (fun out i wr => ∃ x : Nat, i = .int .i64 x ∧ x ≤ s.length ∧ Hid (wr.ownsRow w2.heap.size 9 1 out x ((s.take x).map fun y => Value.string (pairB y))) ∧ Hid (Below w2.heap.size w2 wr)) (fun _ i _ => s.length - (intOf i).toNat)
  case atStart => exact ⟨0, rfl, by omega, World.ownsRow_nil _ _ _ _, Below.refl _ _⟩
  case round =>
   obtain ⟨x, rfl, hx, Hown, Hbr⟩ := hrel
   by_cases hlt : x < s.length
   ·have hx1 : (x : Int) < (s.length : Int) := by omega
    obtain ⟨g, off, _, e1, hg, c0, c1⟩ := (HA.out.keep (Keeps.of_below (M := []) Hbr.out) (by simp)).at_ hlt
    obtain rfl : A1 = some ⟨g, off, none⟩ := by injection e1
    clear e1
    have Htk : Hid (s.take (x + 1) = s.take x ++ [s[x]]) := List.take_succ_eq_append_getElem hlt
    have Hpb : Hid (pairB s[x] = s[x].name ++ ⟨#[61]⟩ ++ s[x].value) := rfl
    have hd32 := hsz.out s[x] (List.getElem_mem _)
    generalize s[x] = d at *
    have k1 : ¬ (9223372036854775807 < d.name.size + 1) := by omega
    have k2 : ¬ (9223372036854775807 < d.name.size + 1 + d.value.size) := by omega
    have k3 : ¬ (9223372036854775807 < (d.name ++ ⟨#[61]⟩).size + d.value.size) := by rw [ByteArray.size_append]; exact k2
    clear hd32
    have Hrd : Hid (Reads ((wr.alloc (.cells #[.string d.name, .string d.value] 230)).alloc (.cells #[.string (d.name ++ ⟨#[61]⟩ ++ d.value)] 9)) (wr.heap.size + 2) 1 (some ⟨wr.heap.size + 1, 0, none⟩) 1 [.string (d.name ++ ⟨#[61]⟩ ++ d.value)]) := by
     have := reads_new (wr.alloc (.cells #[.string d.name, .string d.value] 230)) 9 1 1 [.string (d.name ++ ⟨#[61]⟩ ++ d.value)] rfl
     show Reads _ _ _ _ _ _
     simpa using this
    have Hown3 := Lib.hid ((Hown.out.alloc (.cells #[.string d.name, .string d.value] 230)).alloc (.cells #[.string (d.name ++ ⟨#[61]⟩ ++ d.value)] 9))
    have hz2 : w2.heap.size ≤ wr.heap.size := Hbr.out.size
    have hb0 : w2.heap.size ≤ ((wr.alloc (.cells #[.string d.name, .string d.value] 230)).alloc (.cells #[.string (d.name ++ ⟨#[61]⟩ ++ d.value)] 9)).heap.size := by simp; omega
    have hm1 : x + 1 ≤ maxLen := by unfold maxLen; omega
    have hm2 : (x + 1) * 16 ≤ 140737488355328 := by omega
    have hone : ∀ u ∈ [Value.string (d.name ++ ⟨#[61]⟩ ++ d.value)], u.oneCell' = true := by intro u hu; simp at hu; subst hu; rfl
    have Hb0 := Lib.hid hb0; have Hm1 := Lib.hid hm1; have Hm2 := Lib.hid hm2; have Hone := Lib.hid hone
    clear hb0 hm1 hm2 hone
    go_wp2_with (at_builtin; refine wpList_append_any _ rfl (.tmp 20) (.tmp 27) _ rfl w2.heap.size 9 i0 _ 1 16 Tryz.underlying80 Hi0.out Hz0.out Hz1.out Hz2.out rfl (by omega) u5 x ((s.take x).map fun y => Value.string (pairB y)) rfl Hown3.out (wr.heap.size + 2) (some ⟨wr.heap.size + 1, 0, none⟩) 1 1 [.string (d.name ++ ⟨#[61]⟩ ++ d.value)] rfl Hrd.out Hone.out Hm1.out Hm2.out Hb0.out ?_)
    intro v4 w4 hown4 hg4 hat4
    have Hown4 : Hid (w4.ownsRow w2.heap.size 9 1 v4 (x + 1) ((s.take (x + 1)).map fun y => Value.string (pairB y))) := by
     show World.ownsRow _ _ _ _ _ _ _
     rw [Htk.out, List.map_append, List.map_cons, List.map_nil, Hpb.out, List.map_take]
     exact hown4
    have Hb4 : Hid (Below w2.heap.size w2 w4) := ((Hbr.out.alloc Hbr.out.size _).alloc (by simp; omega) _).grown hg4 (by simp; omega) (fun g hg => (Hown.out.lt g hg).1)
    clear hown4 hg4 hat4
    go_wp2
    go_roundw
    case rel => exact ⟨x + 1, by go_num, by omega, Hown4, Hb4⟩
    case measure => simp [intOf] <;> omega
   ·obtain rfl : x = s.length := by omega
    have hrow : ∃ g c, u5 = .slice (some ⟨g, 0, none⟩) s.length c ∧ s.length ≤ c ∧ g < wr.heap.size ∧ ∀ (j : Nat) x, (s.map pairB)[j]? = some x → wr.cell? ⟨g, 0 + j, none⟩ = some (.string x) := by
     have h1 := Hown.out
     rw [List.take_length] at h1
     obtain ⟨g, cap, hv, hge, hgl⟩ := h1.form hs0
     subst hv
     have hrd := Rd.of_own (M := []) h1 (by simp)
     obtain ⟨A', c', he, hc', _, hx⟩ := hrd
     injection he with e1 _ e3
     subst e1 e3
     obtain ⟨g', off', e, _, _, hcell⟩ := hx hs0
     injection e with e
     injection e with e1 e2 _
     subst e1 e2
     refine ⟨g, cap, rfl, hc', hgl, fun j x hjx => hcell j _ ?_⟩
     rw [List.getElem?_map] at hjx ⊢
     cases hsj : s[j]? with
     | none => rw [hsj] at hjx; cases hjx
     | some d => rw [hsj] at hjx; injection hjx with hjx; rw [← hjx]; rfl
    obtain ⟨g, cj, rfl, hcj, hgl, hcell⟩ := hrow
    have hjo := Tryz.strings_Join g 0 cj (s.map pairB) ⟨#[44]⟩ wr hcell hgl (by rw [List.length_map]; omega) (by rw [List.length_map]; exact hcj) (Nat.le_trans hjl.out (by omega))
    rw [List.length_map] at hjo
    have Hjo := Lib.hid (show Calls Tryz.prog 201 #[.slice (some ⟨g, 0, none⟩) s.length cj, .string ⟨#[44]⟩] wr fun e w' => e = .returned (.string (joinB s)) ∧ Below wr.heap.size wr w' from hjo)
    have Hall := Lib.hid (below_then Hb2.out Hbr.out)
    clear hjo hcell
    go_wp2_with fail
    refine Hjo.out.mono ?_
    rintro e w5 ⟨rfl, hb5⟩
    have hp : Hid (TextPost l w (.returned (.tuple #[.string (joinB s), .int .i64 0])) w5) := by
     exact ⟨by rw [hR.out]; rfl, below_then Hall.out hb5⟩
    clear hb5
    go_wp2
    go_ret2
    exact hp.out
 ·have hR : Hid (ltextS l = (⟨#[]⟩, rightS l)) := by show _ = _; rw [HT.out, if_neg hr0]
  obtain ⟨A, c, rfl, hc⟩ := h.len
  have hri2 : ((rightS l : Int) != 0) = true := by simpa using hr0
  clear h HT hr0
  have hp : Hid (∀ w1, Below w.heap.size w w1 → TextPost l w (.returned (.tuple #[.string ⟨#[]⟩, .int .i64 (rightS l)])) w1) := fun w1 hb => ⟨by rw [hR.out], hb⟩
  generalize rightS l = r at *
  go_enter Tryz.func148, Tryz.ntmps148
  go_wp2_with fail
  refine hri.out.mono ?_
  rintro e w1 ⟨rfl, hb1⟩
  have Hp := Lib.hid (hp.out _ hb1)
  clear hb1 hp
  go_wp2
  go_ret2
  exact Hp.out
def partsS (s : ByteArray) : List ByteArray := Lib.splitB ⟨#[44]⟩ 0 (Lib.countB s ⟨#[44]⟩) s
def cutD (p : ByteArray) : LabD := ⟨⟨(Lib.cut p.data.toList [61]).1.toArray⟩, ⟨(Lib.cut p.data.toList [61]).2.1.toArray⟩⟩
def labsS (s : ByteArray) : List LabD := (partsS s).map cutD
/-- Is a text a series? -/
def serOk (s : ByteArray) : Bool := decide ((ltextS (labsS s)).2 = 0) && (ltextS (labsS s)).1.toList == s.toList
theorem splitB_size (sep : ByteArray) : ∀ (k : Nat) (s : ByteArray), ∀ p ∈ Lib.splitB sep 0 k s, p.size ≤ s.size
 | 0, s, p, h => by rw [Lib.splitB_zero] at h; simp at h; subst h; exact Nat.le_refl _
 | k + 1, s, p, h => by
  unfold Lib.splitB at h
  split at h
  ·simp at h; subst h; exact Nat.le_refl _
  ·rcases List.mem_cons.1 h with h | h
   ·subst h; rw [ByteArray.size_extract]; omega
   ·have := splitB_size sep k _ p h
    rw [ByteArray.size_extract] at this
    omega
def ParsePost (s : ByteArray) (w : World) (e : Ending) (w' : World) : Prop := ∃ v, e = .returned (.tuple #[v, .int .i64 (if serOk s = true then 0 else 12)]) ∧ Below w.heap.size w w'
set_option maxRecDepth 100000 in
set_option maxHeartbeats 1000000 in
theorem parse_any (s : ByteArray) (m : Int) (w : World) (hs : s.size < 4294967281) (hm : w.cell? ⟨0, 0, none⟩ = some (.int .i64 m)) :
  Calls Tryz.prog 87 #[.string s] w fun e w' => ParsePost s w e w' := by
 have hsp := Lib.hid (Tryz.strings_Split s ⟨#[44]⟩ m w hs hm (by decide))
 have hsz := Lib.hid (splitB_size ⟨#[44]⟩ (Lib.countB s ⟨#[44]⟩) s)
 have hcl := Lib.countB_le ⟨#[44]⟩ (by decide) s.size s (Nat.le_refl _)
 have hln : (partsS s).length = Lib.countB s ⟨#[44]⟩ + 1 := Lib.splitB_all ⟨#[44]⟩ (by decide) 0 _ s rfl
 have hw0 : 0 < w.heap.size := by
  rcases Nat.eq_zero_or_pos w.heap.size with h | h
  ·exfalso
   have := World.block_lt_of_cell? w _ hm
   simp at this; omega
  ·exact h
 have Hm := Lib.hid hm
 have HO : Hid (serOk s = (decide ((ltextS (labsS s)).2 = 0) && (ltextS (labsS s)).1.toList == s.toList)) := rfl
 have HL : Hid (labsS s = (partsS s).map cutD) := rfl
 obtain ⟨i0, hi0, hz0, hz1, hz2⟩ := info_parts infoLabel
 have Hi0 := Lib.hid hi0; have Hz0 := Lib.hid hz0; have Hz1 := Lib.hid hz1; have Hz2 := Lib.hid hz2
 clear hi0 hz0 hz1 hz2 hm
 have hps : Hid (∀ p ∈ partsS s, p.size ≤ s.size) := hsz.out
 have hpd : Hid (partsS s = Lib.splitB ⟨#[44]⟩ 0 (Lib.countB s ⟨#[44]⟩) s) := rfl
 rw [← hpd.out] at hsp
 rw [← hln] at hsp
 have hlen : (partsS s).length ≤ 4294967295 := by omega
 clear hsz hpd hln hcl
 generalize partsS s = ps at *
 generalize labsS s = ls at *
 go_enter Tryz.func87, Tryz.ntmps87
 go_wp2_with fail
 refine hsp.out.mono ?_
 rintro e w1 ⟨rfl, hw1⟩
 have hb1 : Below w.heap.size w w1 := by rw [hw1]; exact (Below.refl _ _).alloc (Nat.le_refl _) _
 have hB1 : Blk w1 w.heap.size 9 (ps.map Value.string).toArray := by rw [hw1]; exact Blk.new w _ _
 have Hb1 := Lib.hid hb1; have HB1 := Lib.hid hB1
 have hw1s : w.heap.size < w1.heap.size := hB1.lt
 clear hw1 hb1 hB1 hsp
 go_wp2_with fail
 go_loopw [4, 15] (fun out i wr => ∃ x : Nat, i = .int .i64 x ∧ x ≤ ps.length ∧ Hid (wr.ownsRow w1.heap.size 230 2 out x (((ps.take x).map cutD).flatMap labEnc)) ∧ Hid (Below w1.heap.size w1 wr)) (fun _ i _ => ps.length - (intOf i).toNat)
 case atStart => exact ⟨0, rfl, by omega, World.ownsRow_nil _ _ _ _, Below.refl _ _⟩
 case round =>
  obtain ⟨x, rfl, hx, Hown, Hbr⟩ := hrel
  by_cases hlt : x < ps.length
  ·have hx1 : (x : Int) < (ps.length : Int) := by omega
   have c0 : wr.cell? ⟨w.heap.size, x, none⟩ = some (.string ps[x]) := by
    rw [(HB1.out.below Hbr.out hw1s).cell x, List.getElem?_toArray, List.getElem?_map, List.getElem?_eq_getElem hlt]; rfl
   have Htk : Hid (ps.take (x + 1) = ps.take x ++ [ps[x]]) := List.take_succ_eq_append_getElem hlt
   have hpx := hps.out ps[x] (List.getElem_mem _)
   have hmr : wr.cell? ⟨0, 0, none⟩ = some (.int .i64 m) := (Hbr.out.cell (p := ⟨0, 0, none⟩) (by simp; omega)).trans ((Hb1.out.cell (p := ⟨0, 0, none⟩) hw0).trans Hm.out)
   generalize ps[x] = p at *
   have hcu := Lib.hid (Tryz.strings_Cut p ⟨#[61]⟩ m wr (by omega) hmr)
   have Hcd : Hid (cutD p = ⟨⟨(Lib.cut p.data.toList [61]).1.toArray⟩, ⟨(Lib.cut p.data.toList [61]).2.1.toArray⟩⟩) := rfl
   have hcu2 := Lib.hid (show Calls Tryz.prog 147 #[.string p, .string ⟨#[61]⟩] wr fun e w' => e = .returned (.tuple #[.string (cutD p).name, .string (cutD p).value, .bool (Lib.cut p.data.toList [61]).2.2]) ∧ ∃ n, w' = wr.drewN n from hcu.out)
   clear hcu Hcd hmr hpx
   generalize hd : cutD p = d at *
   have Hd := Lib.hid hd
   generalize (Lib.cut p.data.toList [61]).2.2 = fnd at *
   clear hd
   have Htk2 : Hid ((ps.take (x + 1)).map cutD = (ps.take x).map cutD ++ [d]) := by show _ = _; rw [Htk.out, List.map_append, List.map_cons, List.map_nil, Hd.out]
   have hz2 : w1.heap.size ≤ wr.heap.size := Hbr.out.size
   have Hm1 : Hid (x + 1 ≤ maxLen) := by show _ ≤ _; unfold maxLen; omega
   have Hm2 : Hid ((x + 1) * 32 ≤ 140737488355328) := by show _ ≤ _; omega
   have Hone : Hid (∀ u ∈ labEnc d, u.oneCell' = true) := fun u hu => by simp [labEnc] at hu; rcases hu with rfl | rfl <;> rfl
   have Hown3 : Hid (∀ n, ((wr.drewN n).alloc (.cells #[.string d.name, .string d.value] 230)).ownsRow w1.heap.size 230 2 u4 x (((ps.take x).map cutD).flatMap labEnc)) := fun n =>
    own_keep Hown.out (((Keeps.refl [] wr).drewN n).alloc _) (by simp)
   have Hrd : Hid (∀ n, Reads ((wr.drewN n).alloc (.cells #[.string d.name, .string d.value] 230)) (wr.heap.size + 1) 2 (some ⟨wr.heap.size, 0, none⟩) 1 (labEnc d)) := fun n => reads_new (wr.drewN n) 230 2 1 (labEnc d) rfl
   clear Htk Hd
   go_wp2_with fail
   refine hcu2.out.mono ?_
   rintro e w3 ⟨rfl, n, rfl⟩
   go_wp2_with (at_builtin; refine wpList_append_any _ rfl (.tmp 25) (.tmp 29) _ rfl w1.heap.size 230 i0 _ 2 32 Tryz.underlying163 Hi0.out Hz0.out Hz1.out Hz2.out rfl (by omega) u4 x (((ps.take x).map cutD).flatMap labEnc) rfl (Hown3.out n) (wr.heap.size + 1) (some ⟨wr.heap.size, 0, none⟩) 1 1 (labEnc d) rfl (Hrd.out n) Hone.out Hm1.out Hm2.out (by simp; omega) ?_)
   intro v4 w4 hown4 hg4 hat4
   have Hown4 : Hid (w4.ownsRow w1.heap.size 230 2 v4 (x + 1) (((ps.take (x + 1)).map cutD).flatMap labEnc)) := by
    show World.ownsRow _ _ _ _ _ _ _
    rw [Htk2.out, List.flatMap_append]
    simpa using hown4
   have Hb4 : Hid (Below w1.heap.size w1 w4) := (((Keeps.of_below (M := []) Hbr.out).drewN n).alloc _).below.grown hg4 (by simp; omega) (fun g hg => (Hown.out.lt g hg).1)
   clear hown4 hg4 hat4
   go_wp2
   go_roundw
   case rel => exact ⟨x + 1, by go_num, by omega, Hown4, Hb4⟩
   case measure => simp [intOf] <;> omega
  ·obtain rfl : x = ps.length := by omega
   have hown := Hown.out
   rw [List.take_length, ← HL.out] at hown
   have hll : ps.length = ls.length := by rw [HL.out, List.length_map]
   rw [hll] at hown
   have hlab : Labs wr [] u4 ls := Rd.of_own hown (by simp)
   have htx := Lib.hid (show Calls Tryz.prog 148 #[u4] wr fun e w' => e = .returned (.tuple #[.string (ltextS ls).1, .int .i64 (ltextS ls).2]) ∧ Below wr.heap.size wr w' from ltext_any u4 ls wr hlab (by rw [← hll]; omega))
   obtain ⟨A4, c4, rfl, hc4⟩ := hlab.len
   have Hall := Lib.hid (below_then Hb1.out Hbr.out)
   have hp : Hid (∀ v w', Below wr.heap.size wr w' → ParsePost s w (.returned (.tuple #[v, .int .i64 (if serOk s = true then 0 else 12)])) w') := fun v w' hb => ⟨v, rfl, below_then Hall.out hb⟩
   clear hown hlab hll Hown
   generalize ltextS ls = t at *
   obtain ⟨t1, t2⟩ := t
   simp only at HO htx
   go_wp2_with fail
   refine htx.out.mono ?_
   rintro e w5 ⟨rfl, hb5⟩
   by_cases h2 : t2 = 0
   ·subst h2
    by_cases h3 : (t1.toList == s.toList) = true
    ·have hok : Hid (serOk s = true) := by show _ = _; rw [HO.out, h3]; rfl
     have Hp := Lib.hid (hp.out (.slice A4 ls.length ls.length) w5 hb5)
     rw [hok.out, if_pos rfl] at Hp
     clear hp htx hb5
     go_wp2_with fail
     refine (clipLabel A4 ls.length c4 _ hc4).mono ?_
     rintro e w' ⟨rfl, rfl⟩
     go_wp2
     go_ret2
     exact Hp.out
    ·have h3' : (t1.toList == s.toList) = false := by simpa using h3
     have hok : Hid (serOk s = false) := by show _ = _; rw [HO.out, h3']; rfl
     have Hp := Lib.hid (hp.out (.slice none 0 0) w5 hb5)
     rw [hok.out, if_neg (by simp)] at Hp
     clear hp htx hb5 h3
     go_wp2
     go_ret2
     exact Hp.out
   ·have hne : ((t2 : Int) != 0) = true := by simpa using h2
    have hok : Hid (serOk s = false) := by show _ = _; rw [HO.out, decide_eq_false h2]; rfl
    have Hp := Lib.hid (hp.out (.slice none 0 0) w5 hb5)
    rw [hok.out, if_neg (by simp)] at Hp
    clear hp htx hb5 h2
    go_wp2
    go_ret2
    exact Hp.out
end Go.Proofs.YtgdooockldgdlaaGreatDoor.Vi
end
section
namespace Go.Proofs.YtgdooockldgdlaaGreatDoor.Vi
open Go.RowKit Base Mem
def withinB (n e : Int) : Bool := decide (0 ≤ n) && decide (n < e)
theorem within2_any (n e : Int) (w : World) : Calls Tryz.prog 85 #[.int .i64 n, .int .i64 e] w fun r w' => r = .returned (.bool (withinB n e)) ∧ w' = w := by
 by_cases h0 : 0 ≤ n
 ·by_cases h1 : n < e
  ·have hR : Hid (withinB n e = true) := by show _ = _; simp [withinB, h0, h1]
   rw [hR.out]
   go_enter Tryz.func85, Tryz.ntmps85
   go_wp2
   go_ret
   exact ⟨rfl, rfl⟩
  ·have hR : Hid (withinB n e = false) := by show _ = _; simp [withinB, h1]
   rw [hR.out]
   have h1' : decide (n < e) = false := decide_eq_false h1
   go_enter Tryz.func85, Tryz.ntmps85
   go_wp2
   go_ret
   exact ⟨rfl, rfl⟩
 ·have hR : Hid (withinB n e = false) := by show _ = _; simp [withinB, h0]
  rw [hR.out]
  have h0' : decide (0 ≤ n) = false := decide_eq_false h0
  go_enter Tryz.func85, Tryz.ntmps85
  go_wp2
  go_ret
  exact ⟨rfl, rfl⟩
def eqI (a b c d e f : Int) : Bool := a == d && (b == e && c == f)
theorem eqI_run (a b c d e f : Int) (r : Bool) (h : eqI a b c d e f = r) (w : World) : (binOp .eql 30 (.agg #[.int .i64 a, .int .i64 b, .int .i64 c]) (.agg #[.int .i64 d, .int .i64 e, .int .i64 f])).run Tryz.prog w = .ok (.bool r) w := by
 subst h
 have u3 := Tryz.underlying3
 have a3 := Tryz.isAgg3
 have z3 := Tryz.sizeOf3
 have hS : Tryz.prog.underlying 30 = some (.struct (Tryz.prog.fieldsOf 30)) := by kernel_rfl
 have hp : Tryz.prog.stoodInHeld 30 = false := by kernel_rfl
 simp only [eqI]
 rw [run_eql_struct, show (10000 : Nat) = 9999 + 1 from rfl, run_equalIn_agg w 9999 30 _ _ hS hp]
 simp only [Program.fieldsOf, Tryz.underlying30]
 go_simp
 by_cases h1 : a = d <;> by_cases h2 : b = e <;> by_cases h3 : c = f <;> simp [h1, h2, h3]
def kindS (e : EntryD) : Bool := if e.kind = 1 then e.ser.toList.isEmpty else if e.kind = 2 then eqI e.ag e.sh e.seq 0 0 0 && e.ep == 0 && e.ds.length == 0 else false
def BoolPost (b : Bool) (w : World) (r : Ending) (w' : World) : Prop := r = .returned (.bool b) ∧ Below w.heap.size w w'
theorem kind_any (e : EntryD) (A : Option Addr) (c : Nat) (w : World) :
  Calls Tryz.prog 84 #[.agg (eCell (e, .slice A e.ds.length c)).toArray] w fun r w' => BoolPost (kindS e) w r w' := by
 obtain ⟨kind, ag, sh, seq, ep, ds, ser, fr, tag⟩ := e
 have HK : Hid (kindS ⟨kind, ag, sh, seq, ep, ds, ser, fr, tag⟩ = if kind = 1 then ser.toList.isEmpty else if kind = 2 then eqI ag sh seq 0 0 0 && ep == 0 && ds.length == 0 else false) := rfl
 have hb : Hid (∀ o, Below w.heap.size w (w.alloc o)) := fun o => (Below.refl _ _).alloc (Nat.le_refl _) o
 generalize hn : ds.length = n at *
 simp only [eCell]
 clear hn
 by_cases h1 : kind = 1
 ·have hR : Hid (kindS ⟨kind, ag, sh, seq, ep, ds, ser, fr, tag⟩ = ser.toList.isEmpty) := by show _ = _; rw [HK.out, if_pos h1]
  subst h1
  go_enter Tryz.func84, Tryz.ntmps84
  go_wp2
  all_goals go_ret
  all_goals exact ⟨by rw [hR.out]; simp, hb.out _⟩
 ·have h1' : (kind == 1) = false := by simpa using h1
  by_cases h2 : kind = 2
  ·have hR : Hid (kindS ⟨kind, ag, sh, seq, ep, ds, ser, fr, tag⟩ = (eqI ag sh seq 0 0 0 && ep == 0 && n == 0)) := by show _ = _; rw [HK.out, if_neg h1, if_pos h2]
   have h2' : (kind == 2) = true := by simpa using h2
   clear h1 h2
   cases h3 : eqI ag sh seq 0 0 0 with
   | false =>
    have he := fun W => eqI_run ag sh seq 0 0 0 false h3 W
    have hR2 : Hid (kindS ⟨kind, ag, sh, seq, ep, ds, ser, fr, tag⟩ = false) := by show _ = _; rw [hR.out, h3]; rfl
    rw [hR2.out]
    clear h3
    go_enter Tryz.func84, Tryz.ntmps84
    go_wp2
    go_ret
    exact ⟨rfl, hb.out _⟩
   | true =>
    have he := fun W => eqI_run ag sh seq 0 0 0 true h3 W
    have hR1 : Hid (kindS ⟨kind, ag, sh, seq, ep, ds, ser, fr, tag⟩ = (true && ep == 0 && n == 0)) := by show _ = _; rw [hR.out, h3]
    clear h3
    cases h4 : (ep == 0) with
    | false =>
     have hR2 : Hid (kindS ⟨kind, ag, sh, seq, ep, ds, ser, fr, tag⟩ = false) := by show _ = _; rw [hR1.out, h4]; simp
     rw [hR2.out]
     go_enter Tryz.func84, Tryz.ntmps84
     go_wp2
     go_ret
     exact ⟨rfl, hb.out _⟩
    | true =>
     have hR2 : Hid (kindS ⟨kind, ag, sh, seq, ep, ds, ser, fr, tag⟩ = ((n : Int) == 0)) := by
      show _ = _
      rw [hR1.out, h4]
      cases n with
      | zero => rfl
      | succ n =>
       rw [show ((n + 1 : Nat) == 0) = false from rfl]
       symm
       rw [Bool.and_false, beq_eq_false_iff_ne]
       omega
     rw [hR2.out]
     go_enter Tryz.func84, Tryz.ntmps84
     go_wp2
     go_ret
     exact ⟨rfl, hb.out _⟩
  ·have h2' : (kind == 2) = false := by simpa using h2
   have hR : Hid (kindS ⟨kind, ag, sh, seq, ep, ds, ser, fr, tag⟩ = false) := by show _ = _; rw [HK.out, if_neg h1, if_neg h2]
   rw [hR.out]
   clear h1 h2
   go_enter Tryz.func84, Tryz.ntmps84
   go_wp2
   go_ret
   exact ⟨rfl, hb.out _⟩
end Go.Proofs.YtgdooockldgdlaaGreatDoor.Vi
end
section
namespace Go.Proofs.YtgdooockldgdlaaGreatDoor.Vi
open Go.RowKit Base Mem Go.Shelf
instance : Inhabited DeltaD := ⟨⟨⟨#[]⟩, 0⟩⟩
def badId (e : EntryD) : Bool := !(withinB e.ag 8) || !(withinB e.sh 4) || decide (e.seq < 1) || decide (e.ep < 1)
def writtenS (e : EntryD) : Nat := if badId e = true then 1 else if 8 < e.ds.length then 3 else if (e.ds.length == 0 || e.ds.any fun d => d.n == 0) = true then 1 else if (e.ds.all fun d => serOk d.ser) = true then 0 else 12
theorem zero_any (d : DeltaD) (w : World) : Calls Tryz.prog 145 #[.agg #[.string d.ser, .int .u64 d.n]] w fun r w' => r = .returned (.bool (d.n == 0)) ∧ Below w.heap.size w w' := by
 have hb : Hid (∀ o, Below w.heap.size w (w.alloc o)) := fun o => (Below.refl _ _).alloc (Nat.le_refl _) o
 go_enter Tryz.func145, Tryz.ntmps145
 go_wp2
 go_ret
 exact ⟨rfl, hb.out _⟩
theorem ds_cells {w : World} {M : List Nat} {v : Value} {l : List DeltaD} (h : Ds w M v l) (h0 : 0 < l.length) : ∃ g off c, v = .slice (some ⟨g, off, none⟩) l.length c ∧ g < w.heap.size ∧ ∀ j, j < l.length → ∀ i u, (dCell l[j]!)[i]? = some u → w.cell? ⟨g, off + j * 2 + i, none⟩ = some u := by
 obtain ⟨g, off, c, e, _, hg, _, _⟩ := Rd.at_ dCell 2 (fun _ => rfl) h h0
 refine ⟨g, off, c, e, hg, fun j hj i u hu => ?_⟩
 obtain ⟨g2, off2, c2, e2, _, _, _, hx⟩ := Rd.at_ dCell 2 (fun _ => rfl) h hj
 rw [e] at e2
 injection e2 with e2 _ _
 injection e2 with e2
 injection e2 with e3 e4 _
 subst e3 e4
 exact hx i u (by rw [← getElem!_pos l j hj]; exact hu)
theorem anyzero_any (v : Value) (l : List DeltaD) (w : World) (h : Ds w [] v l) (h0 : 0 < l.length) (hl : l.length ≤ 8) :
  Calls Tryz.prog 144 #[v, .func (.func 145) #[] #[]] w fun r w' => r = .returned (.bool (l.any fun d => d.n == 0)) ∧ Below w.heap.size w w' := by
 obtain ⟨g, off, c, rfl, hg, hc⟩ := ds_cells h h0
 have heg : ∀ args w, (callFunc 145 args).run Tryz.prog w = .ok (.enter 145 args) w := enters_of Tryz.func145 (by kernel_rfl) rfl
 have hp : PredBelow Tryz.prog 145 #[] (fun x => .agg (dCell x).toArray) (fun d => d.n == 0) w := fun W x hb => by
  refine Calls.mono (zero_any x W) ?_
  rintro r w' ⟨rfl, hb2⟩
  exact ⟨rfl, hb.trans (hb2.mono hb.size)⟩
 have := AnyQ.slices_ContainsFunc Tryz.containsFuncDelta 2 Tryz.isAgg38 Tryz.sizeOf38 dCell (fun _ => rfl) (fun d => d.n == 0) 145 #[] heg g off l.length c l w hp (Nat.le_refl _) (by omega) hg hc
 rw [List.take_length] at this
 exact this
set_option maxRecDepth 100000 in
set_option maxHeartbeats 1000000 in
theorem written_any (e : EntryD) (dv : Value) (m : Int) (w : World) (h : Ds w [] dv e.ds) (hs : ∀ d ∈ e.ds, d.ser.size < 4294967281) (hl : e.ds.length ≤ 4611686018427387904) (hm : w.cell? ⟨0, 0, none⟩ = some (.int .i64 m)) :
  Calls Tryz.prog 86 #[.agg (eCell (e, dv)).toArray] w fun r w' => NumPost (writtenS e) w r w' := by
 have HW : Hid (writtenS e = if badId e = true then 1 else if 8 < e.ds.length then 3 else if (e.ds.length == 0 || e.ds.any fun d => d.n == 0) = true then 1 else if (e.ds.all fun d => serOk d.ser) = true then 0 else 12) := rfl
 have hw0 : 0 < w.heap.size := by
  have := World.block_lt_of_cell? w _ hm
  simpa using this
 obtain ⟨kind, ag, sh, seq, ep, ds, ser, fr, tag⟩ := e
 simp only [] at h hs hl HW
 have HB : Hid (badId ⟨kind, ag, sh, seq, ep, ds, ser, fr, tag⟩ = (!(withinB ag 8) || !(withinB sh 4) || decide (seq < 1) || decide (ep < 1))) := rfl
 generalize writtenS ⟨kind, ag, sh, seq, ep, ds, ser, fr, tag⟩ = wr0 at *
 generalize badId ⟨kind, ag, sh, seq, ep, ds, ser, fr, tag⟩ = bad at *
 have hwi := Lib.hid (fun a b W => within2_any a b W)
 obtain ⟨A, c, rfl, hc⟩ := h.len
 obtain ⟨w2, hw2⟩ : ∃ w2, w2 = w.alloc (.cells #[.int .i64 kind, .int .i64 ag, .int .i64 sh, .int .i64 seq, .int .i64 ep, .slice A ds.length c, .string ser, .int .i64 fr, .int .i64 tag] 33) := ⟨_, rfl⟩
 have hB : Blk w2 w.heap.size 33 #[.int .i64 kind, .int .i64 ag, .int .i64 sh, .int .i64 seq, .int .i64 ep, .slice A ds.length c, .string ser, .int .i64 fr, .int .i64 tag] := by rw [hw2]; exact Blk.new w _ _
 have hk2 : Keeps [] w w2 := by rw [hw2]; exact (Keeps.refl _ _).alloc _
 have c1 := hB.cell 1; have c2 := hB.cell 2; have c3 := hB.cell 3; have c4 := hB.cell 4; have c5 := hB.cell 5
 simp only [List.getElem?_toArray, List.getElem?_cons_succ, List.getElem?_cons_zero] at c1 c2 c3 c4 c5
 have Hm := Lib.hid hm; have Hs := Lib.hid hs; have Hk2 := Lib.hid hk2; have Hw2 := Lib.hid hw2; have HD := Lib.hid (h.keep hk2 (by simp))
 clear hm hs hk2 hw2 h hB
 show Calls Tryz.prog 86 #[.agg #[.int .i64 kind, .int .i64 ag, .int .i64 sh, .int .i64 seq, .int .i64 ep, .slice A ds.length c, .string ser, .int .i64 fr, .int .i64 tag]] w fun r w' => NumPost wr0 w r w'
 go_enter Tryz.func86, Tryz.ntmps86
 go_upto_region 1 with (fail)
 rw [← Hw2.out]
 go_cut [7] (fun s wx => s = .bool bad ∧ wx = w2)
 case first =>
  cases h1 : withinB ag 8 with
  | false =>
   have hb : Hid (bad = true) := by show _ = _; rw [HB.out, h1]; simp
   clear HB HW
   go_wp2_with (go_at_call 85; refine (hwi.out _ _ _).mono ?_; rintro r w' ⟨rfl, rfl⟩; rw [h1])
   go_meet
   exact ⟨by rw [hb.out], rfl⟩
  | true =>
   cases h2 : withinB sh 4 with
   | false =>
    have hb : Hid (bad = true) := by show _ = _; rw [HB.out, h1, h2]; simp
    clear HB HW
    go_wp2_with (go_at_call 85; refine (hwi.out _ _ _).mono ?_; rintro r w' ⟨rfl, rfl⟩; first | rw [h1] | rw [h2])
    go_meet
    exact ⟨by rw [hb.out], rfl⟩
   | true =>
    by_cases h3 : seq < 1
    ·have hb : Hid (bad = true) := by show _ = _; rw [HB.out, h1, h2, decide_eq_true h3]; simp
     clear HB HW
     go_wp2_with (go_at_call 85; refine (hwi.out _ _ _).mono ?_; rintro r w' ⟨rfl, rfl⟩; first | rw [h1] | rw [h2])
     go_meet
     exact ⟨by rw [hb.out], rfl⟩
    ·have h3' : decide (seq < 1) = false := decide_eq_false h3
     have hb : Hid (bad = decide (ep < 1)) := by show _ = _; rw [HB.out, h1, h2, h3']; simp
     clear HB HW
     by_cases h4 : ep < 1
     ·go_wp2_with (go_at_call 85; refine (hwi.out _ _ _).mono ?_; rintro r w' ⟨rfl, rfl⟩; first | rw [h1] | rw [h2])
      go_meet
      exact ⟨by rw [hb.out, decide_eq_true h4], rfl⟩
     ·have h4' : decide (ep < 1) = false := decide_eq_false h4
      go_wp2_with (go_at_call 85; refine (hwi.out _ _ _).mono ?_; rintro r w' ⟨rfl, rfl⟩; first | rw [h1] | rw [h2])
      go_meet
      exact ⟨by rw [hb.out, h4'], rfl⟩
 case rest =>
  obtain ⟨rfl, rfl⟩ := hcut
  have hbel : Hid (Below w.heap.size w wc) := Hk2.out.below
  have hwc : w.heap.size ≤ wc.heap.size := Hk2.out.size
  clear HB hwi
  cases bad with
  | true =>
   have hR : Hid (wr0 = 1) := by show _ = _; rw [HW.out, if_pos rfl]
   clear HW
   go_wp2
   go_ret
   exact ⟨by rw [hR.out]; rfl, hbel.out⟩
  | false =>
   by_cases h8 : 8 < ds.length
   ·have hR : Hid (wr0 = 3) := by show _ = _; rw [HW.out, if_neg (by simp), if_pos h8]
    have h8i : (8 : Int) < (ds.length : Int) := by omega
    clear HW
    go_wp2
    go_ret
    exact ⟨by rw [hR.out]; rfl, hbel.out⟩
   ·have h8i : decide ((8 : Int) < (ds.length : Int)) = false := decide_eq_false (by omega)
    by_cases hn : ds.length = 0
    ·have hR : Hid (wr0 = 1) := by show _ = _; rw [HW.out, if_neg (by simp), if_neg h8, hn]; rfl
     have hni : ((ds.length : Int) == 0) = true := by rw [beq_iff_eq]; omega
     clear HW
     go_wp2
     go_ret
     exact ⟨by rw [hR.out]; rfl, hbel.out⟩
    ·have hni : ((ds.length : Int) == 0) = false := by rw [beq_eq_false_iff_ne]; omega
     have HW2 : Hid (wr0 = if (ds.any fun d => d.n == 0) = true then 1 else if (ds.all fun d => serOk d.ser) = true then 0 else 12) := by
      show _ = _
      rw [HW.out, if_neg (by simp), if_neg h8, show (ds.length == 0) = false by rw [beq_eq_false_iff_ne]; omega, Bool.false_or]
     have haz := Lib.hid (anyzero_any _ ds wc HD.out (by omega) (by omega))
     clear HW
     generalize (ds.any fun d => d.n == 0) = az at *
     go_wp2_with fail
     refine haz.out.mono ?_
     rintro r w3 ⟨rfl, hb3⟩
     have Hb3 := Lib.hid (below_then hbel.out hb3)
     have HD3 := Lib.hid (HD.out.keep (Keeps.of_below (M := []) hb3) (by simp))
     have hm3 : w3.cell? ⟨0, 0, none⟩ = some (.int .i64 m) := (Hb3.out.cell (p := ⟨0, 0, none⟩) hw0).trans Hm.out
     have Hm3 := Lib.hid hm3
     have d5 : w3.cell? ⟨w.heap.size, 5, none⟩ = some (.slice A ds.length c) := (hb3.cell (p := ⟨w.heap.size, 5, none⟩) (World.block_lt_of_cell? wc _ c5)).trans c5
     clear haz hb3 hm3
     cases az with
     | true =>
      have hR : Hid (wr0 = 1) := by show _ = _; rw [HW2.out, if_pos rfl]
      clear HW2
      go_wp2
      go_ret
      exact ⟨by rw [hR.out]; rfl, Hb3.out⟩
     | false =>
      have HW3 : Hid (wr0 = if (ds.all fun d => serOk d.ser) = true then 0 else 12) := by show _ = _; rw [HW2.out, if_neg (by simp)]
      have hw30 : 0 < w3.heap.size := by have := Hb3.out.size; omega
      clear HW2
      go_wp2_with fail
      go_loopw [49] (fun i wr => ∃ x : Nat, i = .int .i64 x ∧ x ≤ ds.length ∧ Hid (((ds.take x).all fun d => serOk d.ser) = true) ∧ Hid (Below w3.heap.size w3 wr)) (fun i _ => ds.length - (intOf i).toNat)
      case atStart => exact ⟨0, rfl, by omega, rfl, Below.refl _ _⟩
      case round =>
       obtain ⟨x, rfl, hx, Hall, Hbr⟩ := hrel
       by_cases hlt : x < ds.length
       ·have hx1 : (x : Int) < (ds.length : Int) := by omega
        obtain ⟨g, off, _, e1, _, hg, _, hcell⟩ := Rd.at_ dCell 2 (fun _ => rfl) (HD3.out.keep (Keeps.of_below (M := []) Hbr.out) (by simp)) hlt
        obtain rfl : A = some ⟨g, off, none⟩ := by injection e1
        clear e1
        have p0 := hcell 0 _ rfl
        have p1 := hcell 1 _ rfl
        rw [Nat.add_zero] at p0
        have hsx := Hs.out ds[x] (List.getElem_mem _)
        have Hnx : Hid (((ds.take (x + 1)).all fun d => serOk d.ser) = serOk ds[x].ser) := by
         show _ = _
         rw [List.take_succ_eq_append_getElem hlt, List.all_append, Hall.out]; simp
        have Hbad : Hid (serOk ds[x].ser = false → wr0 = 12) := fun h => by
         rw [HW3.out, if_neg]
         intro hall
         rw [List.all_eq_true] at hall
         have := hall ds[x] (List.getElem_mem _)
         rw [h] at this; cases this
        have hcell2 : (wr.alloc (.cells #[.string ds[x].ser, .int .u64 ds[x].n] 38)).cell? ⟨0, 0, none⟩ = some (.int .i64 m) := by
         rw [World.cell?_alloc_lt _ _ _ (by have := Hbr.out.size; simp; omega)]
         exact (Hbr.out.cell (p := ⟨0, 0, none⟩) hw30).trans Hm3.out
        have hpa := Lib.hid (parse_any ds[x].ser m _ hsx hcell2)
        have Hbra : Hid (Below w3.heap.size w3 (wr.alloc (.cells #[.string ds[x].ser, .int .u64 ds[x].n] 38))) := Hbr.out.alloc Hbr.out.size _
        clear hcell hcell2 hsx
        generalize ds[x] = d at *
        obtain ⟨dser, dn⟩ := d
        simp only [] at *
        cases hok : serOk dser with
        | true =>
         have ho : Hid (((ds.take (x + 1)).all fun d => serOk d.ser) = true) := by show _ = _; rw [Hnx.out, hok]
         have hpa2 := Lib.hid (show Calls Tryz.prog 87 #[.string dser] (wr.alloc (.cells #[.string dser, .int .u64 dn] 38)) fun e w' => ∃ v, e = .returned (.tuple #[v, .int .i64 0]) ∧ Below (wr.alloc (.cells #[.string dser, .int .u64 dn] 38)).heap.size (wr.alloc (.cells #[.string dser, .int .u64 dn] 38)) w' by
          have := hpa.out; unfold ParsePost at this; rwa [hok, if_pos rfl] at this)
         clear hpa Hbad Hnx hok
         go_wp2_with fail
         refine hpa2.out.mono ?_
         rintro r w4 ⟨v4, rfl, hb4⟩
         have Hb4 := Lib.hid (below_then Hbra.out hb4)
         clear hb4
         go_wp2
         go_roundw
         case rel => exact ⟨x + 1, by go_num, by omega, ho.out, Hb4.out⟩
         case measure => simp [intOf] <;> omega
        | false =>
         have hR := Lib.hid (Hbad.out hok)
         have hpa2 := Lib.hid (show Calls Tryz.prog 87 #[.string dser] (wr.alloc (.cells #[.string dser, .int .u64 dn] 38)) fun e w' => ∃ v, e = .returned (.tuple #[v, .int .i64 12]) ∧ Below (wr.alloc (.cells #[.string dser, .int .u64 dn] 38)).heap.size (wr.alloc (.cells #[.string dser, .int .u64 dn] 38)) w' by
          have := hpa.out; unfold ParsePost at this; rwa [hok, if_neg (by simp)] at this)
         clear hpa Hbad Hnx hok
         go_wp2_with fail
         refine hpa2.out.mono ?_
         rintro r w4 ⟨v4, rfl, hb4⟩
         have Hb4 := Lib.hid (below_then Hb3.out (below_then Hbra.out hb4))
         clear hb4
         go_wp2
         go_ret
         exact ⟨by rw [hR.out]; rfl, Hb4.out⟩
       ·obtain rfl : x = ds.length := by omega
        have hR : Hid (wr0 = 0) := by
         show _ = _
         have := Hall.out
         rw [List.take_length] at this
         rw [HW3.out, if_pos this]
        go_wp2
        go_ret
        exact ⟨by rw [hR.out]; rfl, below_then Hb3.out Hbr.out⟩
def rightE (e : EntryD) : Nat := if kindS e = false then 12 else if (!(withinB e.fr 8) || decide (e.tag < 0)) = true then 1 else if e.kind = 1 then writtenS e else if serOk e.ser = true then 0 else 12
/-- No text of an entry is longer than the library's search takes. -/
def Short (e : EntryD) : Prop := e.ser.size < 4294967281 ∧ (∀ d ∈ e.ds, d.ser.size < 4294967281) ∧ e.ds.length ≤ 4611686018427387904
set_option maxRecDepth 100000 in
set_option maxHeartbeats 1000000 in
theorem eright_any (e : EntryD) (dv : Value) (m : Int) (w : World) (h : Ds w [] dv e.ds) (hs : Short e) (hm : w.cell? ⟨0, 0, none⟩ = some (.int .i64 m)) :
  Calls Tryz.prog 43 #[.agg (eCell (e, dv)).toArray] w fun r w' => NumPost (rightE e) w r w' := by
 have HR : Hid (rightE e = if kindS e = false then 12 else if (!(withinB e.fr 8) || decide (e.tag < 0)) = true then 1 else if e.kind = 1 then writtenS e else if serOk e.ser = true then 0 else 12) := rfl
 have hw0 : 0 < w.heap.size := by
  have := World.block_lt_of_cell? w _ hm
  simpa using this
 obtain ⟨hs1, hs2, hs3⟩ := hs
 have hkd := Lib.hid (fun A c W => kind_any e A c W)
 have hwr := Lib.hid (fun W (hk : Keeps [] w W) (hmW : W.cell? ⟨0, 0, none⟩ = some (.int .i64 m)) => written_any e dv m W (h.keep hk (by simp)) hs2 hs3 hmW)
 have hpa := Lib.hid (fun W (hmW : W.cell? ⟨0, 0, none⟩ = some (.int .i64 m)) => parse_any e.ser m W hs1 hmW)
 obtain ⟨A, c, rfl, hc⟩ := h.len
 generalize rightE e = rr at *
 generalize kindS e = ks at *
 generalize writtenS e = ws at *
 obtain ⟨kind, ag, sh, seq, ep, ds, ser, fr, tag⟩ := e
 simp only [] at h hs1 hs2 hs3 hkd hwr hpa HR hc
 have hwi := Lib.hid (fun a b W => within2_any a b W)
 obtain ⟨w2, hw2⟩ : ∃ w2, w2 = w.alloc (.cells #[.int .i64 kind, .int .i64 ag, .int .i64 sh, .int .i64 seq, .int .i64 ep, .slice A ds.length c, .string ser, .int .i64 fr, .int .i64 tag] 33) := ⟨_, rfl⟩
 have hB : Blk w2 w.heap.size 33 #[.int .i64 kind, .int .i64 ag, .int .i64 sh, .int .i64 seq, .int .i64 ep, .slice A ds.length c, .string ser, .int .i64 fr, .int .i64 tag] := by rw [hw2]; exact Blk.new w _ _
 have hk2 : Keeps [] w w2 := by rw [hw2]; exact (Keeps.refl _ _).alloc _
 have Hm := Lib.hid hm; have Hk2 := Lib.hid hk2; have Hw2 := Lib.hid hw2; have HB := Lib.hid hB
 clear hm hk2 hw2 h hs1 hs2 hs3
 have hkd2 : Hid (∀ W, Calls Tryz.prog 84 #[.agg #[.int .i64 kind, .int .i64 ag, .int .i64 sh, .int .i64 seq, .int .i64 ep, .slice A ds.length c, .string ser, .int .i64 fr, .int .i64 tag]] W fun r w' => r = .returned (.bool ks) ∧ Below W.heap.size W w') := fun W => hkd.out A c W
 have hwr2 : Hid (∀ W, Keeps [] w W → W.cell? ⟨0, 0, none⟩ = some (.int .i64 m) → Calls Tryz.prog 86 #[.agg #[.int .i64 kind, .int .i64 ag, .int .i64 sh, .int .i64 seq, .int .i64 ep, .slice A ds.length c, .string ser, .int .i64 fr, .int .i64 tag]] W fun r w' => r = .returned (.int .i64 ws) ∧ Below W.heap.size W w') := fun W hk hmW => hwr.out W hk hmW
 clear hkd hwr
 have c0 := hB.cell 0; have c1 := hB.cell 1; have c2 := hB.cell 2; have c3 := hB.cell 3; have c4 := hB.cell 4; have c5 := hB.cell 5; have c6 := hB.cell 6; have c7 := hB.cell 7; have c8 := hB.cell 8
 simp only [List.getElem?_toArray, List.getElem?_cons_succ, List.getElem?_cons_zero] at c0 c1 c2 c3 c4 c5 c6 c7 c8
 clear hB
 show Calls Tryz.prog 43 #[.agg #[.int .i64 kind, .int .i64 ag, .int .i64 sh, .int .i64 seq, .int .i64 ep, .slice A ds.length c, .string ser, .int .i64 fr, .int .i64 tag]] w fun r w' => NumPost rr w r w'
 go_enter Tryz.func43, Tryz.ntmps43
 go_upto_region 1 with (fail)
 rw [← Hw2.out]
 go_wp2_with fail
 refine (hkd2.out _).mono ?_
 rintro r w3 ⟨rfl, hb3⟩
 have hw2s : w.heap.size < w2.heap.size := HB.out.lt
 have HB3 := Lib.hid (HB.out.below hb3 hw2s)
 have Hk3 : Hid (Keeps [] w w3) := Hk2.out.trans (Keeps.of_below (M := []) hb3) (by simp)
 have c0 := HB3.out.cell 0; have c1 := HB3.out.cell 1; have c2 := HB3.out.cell 2; have c3 := HB3.out.cell 3; have c4 := HB3.out.cell 4; have c5 := HB3.out.cell 5; have c6 := HB3.out.cell 6; have c7 := HB3.out.cell 7; have c8 := HB3.out.cell 8
 simp only [List.getElem?_toArray, List.getElem?_cons_succ, List.getElem?_cons_zero] at c0 c1 c2 c3 c4 c5 c6 c7 c8
 have hm3 : Hid (w3.cell? ⟨0, 0, none⟩ = some (.int .i64 m)) := (Hk3.out.cell (p := ⟨0, 0, none⟩) hw0 (by simp)).trans Hm.out
 clear hb3 hkd2
 cases ks with
 | false =>
  have hR : Hid (rr = 12) := by show _ = _; rw [HR.out, if_pos rfl]
  clear HR
  go_wp2
  go_ret
  exact ⟨by rw [hR.out]; rfl, Hk3.out.below⟩
 | true =>
  have HR2 : Hid (rr = if (!(withinB fr 8) || decide (tag < 0)) = true then 1 else if kind = 1 then ws else if serOk ser = true then 0 else 12) := by show _ = _; rw [HR.out, if_neg (by simp)]
  clear HR
  cases h1 : withinB fr 8 with
  | false =>
   have hR : Hid (rr = 1) := by show _ = _; rw [HR2.out, h1]; rfl
   clear HR2
   go_wp2_with (go_at_call 85; refine (hwi.out _ _ _).mono ?_; rintro r w' ⟨rfl, rfl⟩; rw [h1])
   go_ret
   exact ⟨by rw [hR.out]; rfl, Hk3.out.below⟩
  | true =>
   by_cases h2 : tag < 0
   ·have hR : Hid (rr = 1) := by show _ = _; rw [HR2.out, h1, decide_eq_true h2]; rfl
    clear HR2
    go_wp2_with (go_at_call 85; refine (hwi.out _ _ _).mono ?_; rintro r w' ⟨rfl, rfl⟩; rw [h1])
    go_ret
    exact ⟨by rw [hR.out]; rfl, Hk3.out.below⟩
   ·have h2' : decide (tag < 0) = false := decide_eq_false h2
    have HR3 : Hid (rr = if kind = 1 then ws else if serOk ser = true then 0 else 12) := by show _ = _; rw [HR2.out, h1, h2', if_neg (by simp)]
    clear HR2
    by_cases h3 : kind = 1
    ·have hR : Hid (rr = ws) := by show _ = _; rw [HR3.out, if_pos h3]
     have h3' : (kind == 1) = true := by simpa using h3
     have hw := Lib.hid (hwr2.out w3 Hk3.out hm3.out)
     clear HR3 h3 hwr2
     go_wp2_with (go_at_call 85; refine (hwi.out _ _ _).mono ?_; rintro r w' ⟨rfl, rfl⟩; rw [h1])
     refine hw.out.mono ?_
     rintro r w4 ⟨rfl, hb4⟩
     have hb5 := Lib.hid (below_then Hk3.out.below hb4)
     clear hb4
     go_wp2
     go_ret
     exact ⟨by rw [hR.out]; rfl, hb5.out⟩
    ·have h3' : (kind == 1) = false := by simpa using h3
     have hR : Hid (rr = if serOk ser = true then 0 else 12) := by show _ = _; rw [HR3.out, if_neg h3]
     have hp := Lib.hid (hpa.out w3 hm3.out)
     clear HR3 h3 hwr2 hpa
     go_wp2_with (go_at_call 85; refine (hwi.out _ _ _).mono ?_; rintro r w' ⟨rfl, rfl⟩; rw [h1])
     refine hp.out.mono ?_
     rintro r w4 ⟨v4, rfl, hb4⟩
     have hb5 := Lib.hid (below_then Hk3.out.below hb4)
     clear hb4 hp
     cases hok : serOk ser with
     | true =>
      have hR2 : Hid (rr = 0) := by show _ = _; rw [hR.out, hok]; rfl
      simp only [if_true]
      clear hR
      go_wp2
      go_ret
      exact ⟨by rw [hR2.out]; rfl, hb5.out⟩
     | false =>
      have hR2 : Hid (rr = 12) := by show _ = _; rw [hR.out, hok]; rfl
      clear hR
      go_wp2
      go_ret
      exact ⟨by rw [hR2.out]; rfl, hb5.out⟩
def dBytes (d : DeltaD) : List UInt8 := Lib.uvarint d.ser.size ++ sB d.ser ++ Lib.uvarint d.n.toNat
def NOk (d : DeltaD) : Prop := 0 ≤ d.n ∧ d.n < 18446744073709551616
def EPutPost (M : List Nat) (l : List UInt8) (w : World) (e : Ending) (w' : World) : Prop := ∃ A, e = .returned (.slice A l.length l.length) ∧ Bs w' M (.slice A l.length l.length) l ∧ Below w.heap.size w w'
set_option maxRecDepth 100000 in
set_option maxHeartbeats 1000000 in
theorem eput_any (M : List Nat) (A : Option Addr) (l : List UInt8) (dv : Value) (ds : List DeltaD) (w : World) (hM : ∀ g ∈ M, g < w.heap.size) (hb : Bs w M (.slice A l.length l.length) l) (h : Ds w [] dv ds) (hn : ∀ d ∈ ds, NOk d)
    (hl : ds.length ≤ 4611686018427387904) (hsz : l.length + (ds.flatMap dBytes).length ≤ 140737488355000) :
    Calls Tryz.prog 108 #[.slice A l.length l.length, dv] w fun e w' => EPutPost M (l ++ ds.flatMap dBytes) w e w' := by
  obtain ⟨Ad, cd, rfl, hcd⟩ := h.len
  have Hh := Lib.hid h; have Hb := Lib.hid hb; have Hn := Lib.hid hn; have HM := Lib.hid hM; have Hsz := Lib.hid hsz
  clear h hb hn hM hsz
  go_enter Tryz.func108, Tryz.ntmps108
  go_wp2_with fail
  go_loopw [0, 9] (fun b i wr => ∃ (x : Nat) (A' : Option Addr) (L : List UInt8), i = .int .i64 x ∧ x ≤ ds.length ∧ b = .slice A' L.length L.length ∧ Hid (L = l ++ (ds.take x).flatMap dBytes) ∧ Hid (Bs wr M (.slice A' L.length L.length) L) ∧ Hid (Below w.heap.size w wr)) (fun _ i _ => ds.length - (intOf i).toNat)
  case atStart => exact ⟨0, A, l, rfl, by omega, rfl, (show l = l ++ (ds.take 0).flatMap dBytes by simp), Hb.out, Below.refl _ _⟩
  case round =>
    obtain ⟨x, A', L, rfl, hx, rfl, HL, HB, Hbr⟩ := hrel
    by_cases hlt : x < ds.length
    · have hx1 : (x : Int) < (ds.length : Int) := by omega
      obtain ⟨g, off, _, e1, _, hg, _, hcell⟩ := Rd.at_ dCell 2 (fun _ => rfl) (Hh.out.keep (Keeps.of_below (M := []) Hbr.out) (by simp)) hlt
      obtain rfl : Ad = some ⟨g, off, none⟩ := by injection e1
      clear e1
      have p0 := hcell 0 _ rfl
      have p1 := hcell 1 _ rfl
      rw [Nat.add_zero] at p0
      obtain ⟨hn0, hn1⟩ := Hn.out ds[x] (List.getElem_mem _)
      have htk : ds.take (x + 1) = ds.take x ++ [ds[x]] := List.take_succ_eq_append_getElem hlt
      have HL2 : Hid (L ++ dBytes ds[x] = l ++ (ds.take (x + 1)).flatMap dBytes) := by show _ = _; rw [htk, List.flatMap_append, HL.out]; simp
      have hlen : L.length + (dBytes ds[x]).length ≤ 140737488355000 := by
        have h1 := congrArg List.length HL2.out
        rw [List.length_append, List.length_append] at h1
        have h2 : ((ds.take (x + 1)).flatMap dBytes).length ≤ (ds.flatMap dBytes).length := by
          conv => rhs; rw [← List.take_append_drop (x + 1) ds, List.flatMap_append, List.length_append]
          omega
        have := Hsz.out
        omega
      have hsizes : (dBytes ds[x]).length = (Lib.uvarint ds[x].ser.size).length + ds[x].ser.size + (Lib.uvarint ds[x].n.toNat).length := by
        unfold dBytes; rw [List.length_append, List.length_append]; rfl
      have hdb : dBytes ds[x] = Lib.uvarint ds[x].ser.size ++ sB ds[x].ser ++ Lib.uvarint ds[x].n.toNat := rfl
      clear hcell htk
      generalize hdd : ds[x] = d at *
      obtain ⟨dser, dn⟩ := d
      simp only [] at p0 p1 hn0 hn1 hsizes hdb
      obtain ⟨n, rfl⟩ := Int.eq_ofNat_of_zero_le hn0
      rw [Int.toNat_natCast] at hsizes hdb
      have hbl := Blk.new wr 38 #[.string dser, .int .u64 n]
      have d0 := hbl.cell 0; have d1 := hbl.cell 1
      simp only [List.getElem?_toArray, List.getElem?_cons_succ, List.getElem?_cons_zero] at d0 d1
      have ka : Keeps [] wr (wr.alloc (.cells #[.string dser, .int .u64 n] 38)) := (Keeps.refl _ _).alloc _
      have hbn : wr.heap.size < (wr.alloc (.cells #[.string dser, .int .u64 n] 38)).heap.size := by simp
      have Htx : Hid (Calls Tryz.prog 165 #[.slice A' L.length L.length, .string dser] (wr.alloc (.cells #[.string dser, .int .u64 n] 38)).drew fun e w' => BsPost (L ++ Lib.uvarint dser.size ++ sB dser) (wr.alloc (.cells #[.string dser, .int .u64 n] 38)).drew e w') :=
        text_any _ L dser _ ((HB.out.avoid (M' := []) (by simp)).keep ka.drew (by simp)) (by omega)
      have Hpt : Hid (∀ W A2, Bs W [] (.slice A2 (L ++ Lib.uvarint dser.size ++ sB dser).length (L ++ Lib.uvarint dser.size ++ sB dser).length) (L ++ Lib.uvarint dser.size ++ sB dser) → Calls Tryz.prog 162 #[.slice A2 (L ++ Lib.uvarint dser.size ++ sB dser).length (L ++ Lib.uvarint dser.size ++ sB dser).length, .int .u64 n] W fun e w' => BsPost (L ++ dBytes ⟨dser, n⟩) W e w') := fun W A2 h2 => by
        have := put_any _ (L ++ Lib.uvarint dser.size ++ sB dser) n W h2 (by omega) (by rw [List.length_append, List.length_append]; have : (sB dser).length = dser.size := rfl; omega)
        rw [hdb]
        simpa only [List.append_assoc] using this
      generalize hL2 : L ++ Lib.uvarint dser.size ++ sB dser = L2 at *
      generalize hL3 : L ++ dBytes ⟨dser, n⟩ = L3 at *
      have HMr : Hid (∀ g ∈ M, g < wr.heap.size) := fun g hg => Nat.lt_of_lt_of_le (HM.out g hg) Hbr.out.size
      have Hka := Lib.hid (show Below wr.heap.size wr (wr.alloc (.cells #[.string dser, .int .u64 n] 38)).drew from ka.drew.below)
      clear hlen hsizes hdb hL2 hL3 hbl ka hdd
      go_wp2_with fail
      go_region_held3 (fun w' => w'.cell? ⟨wr.heap.size, 0, none⟩ = some (.string dser) ∧ w'.cell? ⟨wr.heap.size, 1, none⟩ = some (.int .u64 n)) (first | exact ⟨r0, r1⟩ | exact ⟨q0, q1⟩ | exact ⟨d0, d1⟩) (first
        | (go_at_call 165
           refine Htx.out.mono ?_
           rintro e w5 ⟨A5, rfl, hR5, hb5⟩
           have HR5 := Lib.hid (hR5 [] (by simp))
           have Hb5 := Lib.hid (below_then Hka.out hb5)
           have q0 : w5.cell? ⟨wr.heap.size, 0, none⟩ = some (.string dser) := (hb5.cell (p := ⟨wr.heap.size, 0, none⟩) hbn).trans d0
           have q1 : w5.cell? ⟨wr.heap.size, 1, none⟩ = some (.int .u64 n) := (hb5.cell (p := ⟨wr.heap.size, 1, none⟩) hbn).trans d1
           have Hbn5 := Lib.hid (show wr.heap.size < w5.heap.size from Nat.lt_of_lt_of_le hbn hb5.size)
           clear hR5 hb5)
        | (go_at_call 162
           refine (Hpt.out _ A5 HR5.out).mono ?_
           rintro e w6 ⟨A6, rfl, hR6, hb6⟩
           have HR6 := Lib.hid (hR6 M (fun g hg => Nat.lt_of_lt_of_le (HMr.out g hg) Hb5.out.size))
           have Hb6 := Lib.hid (below_then Hb5.out hb6)
           have r0 : w6.cell? ⟨wr.heap.size, 0, none⟩ = some (.string dser) := (hb6.cell (p := ⟨wr.heap.size, 0, none⟩) Hbn5.out).trans q0
           have r1 : w6.cell? ⟨wr.heap.size, 1, none⟩ = some (.int .u64 n) := (hb6.cell (p := ⟨wr.heap.size, 1, none⟩) Hbn5.out).trans q1
           clear hR6 hb6))
      all_goals
        go_wp2
        go_roundw
        case rel => exact ⟨x + 1, A6, L3, by go_num, by omega, rfl, HL2, HR6.out, below_then Hbr.out Hb6.out⟩
        case measure => simp [intOf] <;> omega
    · obtain rfl : x = ds.length := by omega
      have hfin : Hid (L = l ++ ds.flatMap dBytes) := by show _ = _; rw [HL.out, List.take_length]
      have hp : Hid (EPutPost M (l ++ ds.flatMap dBytes) w (.returned (.slice A' L.length L.length)) wr) := by
        show EPutPost _ _ _ _ _
        rw [← hfin.out]
        exact ⟨A', rfl, HB.out, Hbr.out⟩
      go_wp2
      go_ret
      exact hp.out

def addS (a b : Nat) : Nat := if 18446744073709551615 < a + b then 18446744073709551615 else a + b
theorem add_any (a b : Nat) (w : World) (ha : a < 18446744073709551616) (hb : b < 18446744073709551616) :
  Calls Tryz.prog 112 #[.int .u64 a, .int .u64 b] w fun e w' => e = .returned (.int .u64 (addS a b)) ∧ w = w' := by
 by_cases h : 18446744073709551615 < a + b
 ·have hR : Hid (addS a b = 18446744073709551615) := by show _ = _; unfold addS; rw [if_pos h]
  rw [hR.out]
  have hw : IntKind.u64.wrap (18446744073709551615 - (b : Int)) = 18446744073709551615 - (b : Int) := by rw [IntKind.wrap_u64]; omega
  have hi : (18446744073709551615 : Int) - (b : Int) < (a : Int) := by omega
  go_enter Tryz.func112, Tryz.ntmps112
  go_wp2
  go_ret
  exact ⟨rfl, rfl⟩
 ·have hR : Hid (addS a b = a + b) := by show _ = _; unfold addS; rw [if_neg h]
  rw [hR.out]
  have hw : IntKind.u64.wrap (18446744073709551615 - (b : Int)) = 18446744073709551615 - (b : Int) := by rw [IntKind.wrap_u64]; omega
  have hi : decide ((18446744073709551615 : Int) - (b : Int) < (a : Int)) = false := decide_eq_false (by omega)
  have hw2 : IntKind.u64.wrap ((a : Int) + (b : Int)) = (a : Int) + (b : Int) := by rw [IntKind.wrap_u64]; omega
  go_enter Tryz.func112, Tryz.ntmps112
  go_wp2
  go_ret
  exact ⟨ret_int (by simp), rfl⟩
theorem sameSer_any (x : DeltaD) (B : Nat) (s : ByteArray) (w : World) (hB : B < w.heap.size) (hc : w.cell? ⟨B, 0, none⟩ = some (.string s)) :
  Calls Tryz.prog 111 #[.agg #[.string x.ser, .int .u64 x.n], .pointer (some ⟨B, 0, none⟩)] w fun e w' => e = .returned (.bool (x.ser.toList == s.toList)) ∧ Below w.heap.size w w' := by
 have hb : Hid (∀ o, Below w.heap.size w (w.alloc o)) := fun o => (Below.refl _ _).alloc (Nat.le_refl _) o
 have hca : (w.alloc (.cells #[.string x.ser, .int .u64 x.n] 38)).cell? ⟨B, 0, none⟩ = some (.string s) := ((hb.out _).cell (p := ⟨B, 0, none⟩) hB).trans hc
 go_enter Tryz.func111, Tryz.ntmps111
 go_wp2
 go_ret
 exact ⟨rfl, hb.out _⟩
theorem index_any (v : Value) (l : List DeltaD) (B : Nat) (s : ByteArray) (w : World) (h : Ds w [] v l) (h0 : 0 < l.length) (hl : l.length ≤ 4611686018427387904) (hB : B < w.heap.size) (hc : w.cell? ⟨B, 0, none⟩ = some (.string s)) :
  Calls Tryz.prog 110 #[v, .func (.func 111) #[] #[.pointer (some ⟨B, 0, none⟩)]] w fun r w' => r = .returned (.int .i64 (Lib.idxBy (fun _ (y : DeltaD) => y.ser.toList == s.toList) l default)) ∧ Below w.heap.size w w' := by
 obtain ⟨g, off, c, rfl, hg, hx⟩ := ds_cells h h0
 have heg : ∀ args w, (callFunc 111 args).run Tryz.prog w = .ok (.enter 111 args) w := enters_of Tryz.func111 (by kernel_rfl) rfl
 have hp : PredBelow Tryz.prog 111 #[.pointer (some ⟨B, 0, none⟩)] (fun x => .agg (dCell x).toArray) (fun d => d.ser.toList == s.toList) w := fun W x hb => by
  refine Calls.mono (sameSer_any x B s W (Nat.lt_of_lt_of_le hB hb.size) ((hb.cell (p := ⟨B, 0, none⟩) hB).trans hc)) ?_
  rintro r w' ⟨rfl, hb2⟩
  exact ⟨rfl, hb.trans (hb2.mono hb.size)⟩
 have := AnyQ.slices_IndexFunc Tryz.indexFuncDelta 2 Tryz.isAgg38 Tryz.sizeOf38 dCell (fun _ => rfl) (fun d => d.ser.toList == s.toList) 111 #[.pointer (some ⟨B, 0, none⟩)] heg g off l.length c l w hp (Nat.le_refl _) (by omega) hg hx
 rw [List.take_length] at this
 exact this
/-- So many deltas from the front, and how the reader stands. -/
def getDs : Nat → List UInt8 → Bool → List DeltaD × List UInt8 × Bool
 | 0, l, b => ([], l, b)
 | k + 1, l, b =>
  let t := textS l b
  let u := numS t.2.1 t.2.2
  let r := getDs k u.2.1 u.2.2
  (⟨⟨t.1.toArray⟩, u.1⟩ :: r.1, r.2)
theorem infoDelta2 : (Tryz.prog.info? 38).map (fun i => (i.zero, i.size, i.bytes)) = some (some (.agg #[.string ByteArray.empty, .int .u64 0]), 2, 24) := by kernel_rfl
def GetPost (M : List Nat) (p n : Nat) (l : List UInt8) (b : Bool) (w : World) (e : Ending) (w' : World) : Prop := ∃ v, e = .returned v ∧ w'.ownsRow w.heap.size 38 2 v n (dCells (getDs n l b).1) ∧ RdAt w' M p (getDs n l b).2.1 (getDs n l b).2.2 ∧ Keeps [p] w w'
set_option maxRecDepth 100000 in
set_option maxHeartbeats 600000 in
theorem get_ds (M : List Nat) (p n : Nat) (l : List UInt8) (b : Bool) (w : World) (h : RdAt w M p l b) (hn : n ≤ 8) :
  Calls Tryz.prog 160 #[.pointer (some ⟨p, 0, none⟩), .int .i64 n] w fun e w' => GetPost M p n l b w e w' := by
 have hp0 := h.lt
 have H := Lib.hid h
 obtain ⟨i0, hi0, hz0, hz1, hz2⟩ := info_parts infoDelta2
 have Hi0 := Lib.hid hi0; have Hz0 := Lib.hid hz0; have Hz1 := Lib.hid hz1; have Hz2 := Lib.hid hz2
 clear h hi0 hz0 hz1 hz2
 go_enter Tryz.func160, Tryz.ntmps160
 go_wp2_with fail
 go_loopw [5, 8] (fun out i wr => ∃ (x : Nat) (acc : List DeltaD) (lx : List UInt8) (bx : Bool), i = .int .i64 x ∧ x ≤ n ∧ acc.length = x ∧ Hid ((getDs n l b) = (acc ++ (getDs (n - x) lx bx).1, (getDs (n - x) lx bx).2)) ∧ Hid (wr.ownsRow w.heap.size 38 2 out x (dCells acc)) ∧ Hid (RdAt wr (out.ownBlock.toList ++ M) p lx bx) ∧ Hid (Keeps [p] w wr)) (fun _ i _ => n - (intOf i).toNat)
 case atStart => exact ⟨0, [], l, b, rfl, by omega, rfl, (show getDs n l b = _ from rfl), World.ownsRow_nil _ _ _ _, (show RdAt w _ p l b from H.out), Keeps.refl _ _⟩
 case round =>
  obtain ⟨x, acc, lx, bx, rfl, hx, hal, Hg, Hown, HR, Hk⟩ := hrel
  by_cases hlt : x < n
  ·have hx1 : (x : Int) < (n : Int) := by omega
   have Hst : Hid (getDs (n - x) lx bx = (⟨⟨(textS lx bx).1.toArray⟩, (numS (textS lx bx).2.1 (textS lx bx).2.2).1⟩ :: (getDs (n - (x + 1)) (numS (textS lx bx).2.1 (textS lx bx).2.2).2.1 (numS (textS lx bx).2.1 (textS lx bx).2.2).2.2).1, (getDs (n - (x + 1)) (numS (textS lx bx).2.1 (textS lx bx).2.2).2.1 (numS (textS lx bx).2.1 (textS lx bx).2.2).2.2).2)) := by
    show _ = _
    rw [show n - x = (n - (x + 1)) + 1 by omega]
    rfl
   have ht := Lib.hid (rtext_any (u5.ownBlock.toList ++ M) p lx bx wr HR.out)
   generalize textS lx bx = t at *
   obtain ⟨t1, t2, t3⟩ := t
   simp only [] at ht Hst
   go_wp2_with fail
   refine ht.out.mono ?_
   rintro e w3 ⟨rfl, hA3, hk3⟩
   have hu := Lib.hid (number_any (u5.ownBlock.toList ++ M) p t2 t3 w3 hA3)
   have Hk3 := Lib.hid hk3
   generalize numS t2 t3 = u at *
   obtain ⟨u1, u2', u3'⟩ := u
   simp only [] at hu Hst
   clear hA3 hk3 ht
   go_wp2_with fail
   refine hu.out.mono ?_
   rintro e w4 ⟨rfl, hA4, hk4⟩
   have HA4 := Lib.hid hA4
   have Hk4 : Hid (Keeps [p] wr w4) := Hk3.out.trans hk4 (by simp)
   clear hA4 hk4 hu
   have hown4 := own_keep Hown.out Hk4.out (by simp; exact hp0)
   have Hown5 := Lib.hid (hown4.alloc (.cells #[.string ⟨t1.toArray⟩, .int .u64 u1] 38))
   have hlt0 := Lib.hid Hown.out.lt
   have hz4 : w.heap.size ≤ w4.heap.size := Nat.le_trans Hk.out.size Hk4.out.size
   clear hown4
   go_wp2_with (at_builtin; refine wpList_append_any _ rfl (.tmp 12) (.tmp 17) _ rfl w.heap.size 38 i0 _ 2 24 Tryz.underlying31 Hi0.out Hz0.out Hz1.out Hz2.out rfl (by omega) u5 x (dCells acc) rfl Hown5.out (w4.heap.size + 1) (some ⟨w4.heap.size, 0, none⟩) 1 1 (dCell ⟨⟨t1.toArray⟩, u1⟩) rfl (reads_new _ _ _ _ _ rfl) (by intro u hu; simp [dCell] at hu; rcases hu with rfl | rfl <;> rfl) (by unfold maxLen; omega) (by omega) (by simp; omega) ?_)
   intro v6 w6 hown6 hg6 hat6
   have hpo : p ∉ u5.ownBlock.toList := fun hm => by have := (hlt0.out p (by simpa using hm)).1; omega
   have kg : Keeps u5.ownBlock.toList (w4.alloc (.cells #[.string ⟨t1.toArray⟩, .int .u64 u1] 38)) w6 := (Keeps.refl _ _).grown hg6 (fun g hg => .inl (by simpa using hg))
   have h1 := HA4.out.keep (M' := []) ((Keeps.refl _ _).alloc (.cells #[.string ⟨t1.toArray⟩, .int .u64 u1] 38)) (by simp) (by simp)
   have h2 := h1.avoid (M' := v6.ownBlock.toList ++ (u5.ownBlock.toList ++ M)) (fun g hg => by
    rcases List.mem_append.1 hg with h | h
    ·rcases hat6 with h5 | h5
     ·exact .inl (List.mem_append_left _ (by rw [h5] at h; exact h))
     ·rw [h5] at h; simp at h; exact .inr (by simp; omega)
    ·exact .inl h)
   have H6 := Lib.hid ((h2.keep kg (fun g hg => .inl (List.mem_append_right _ (List.mem_append_left _ hg))) hpo).avoid (M' := v6.ownBlock.toList ++ M) (fun g hg => by
    rcases List.mem_append.1 hg with h | h
    ·exact .inl (List.mem_append_left _ h)
    ·exact .inl (List.mem_append_right _ (List.mem_append_right _ h))))
   have Hk6 : Hid (Keeps [p] w w6) := ((Hk.out.trans Hk4.out (by simp)).alloc _).grown hg6 (fun g hg => .inr (hlt0.out g hg).1)
   have Hown6 : Hid (w6.ownsRow w.heap.size 38 2 v6 (x + 1) (dCells (acc ++ [⟨⟨t1.toArray⟩, u1⟩]))) := by
    show World.ownsRow _ _ _ _ _ _ _
    unfold dCells at hown6 ⊢
    rw [List.flatMap_append]
    simpa using hown6
   have Hg6 : Hid (getDs n l b = ((acc ++ [⟨⟨t1.toArray⟩, u1⟩]) ++ (getDs (n - (x + 1)) u2' u3').1, (getDs (n - (x + 1)) u2' u3').2)) := by
    show _ = _
    rw [Hg.out, Hst.out]; simp
   clear hown6 hg6 hat6 kg h1 h2 hpo
   go_wp2
   go_roundw
   case rel => exact ⟨x + 1, acc ++ [⟨⟨t1.toArray⟩, u1⟩], u2', u3', by go_num, by omega, by simp; omega, Hg6, Hown6, H6, Hk6⟩
   case measure => simp [intOf] <;> omega
  ·obtain rfl : x = n := by omega
   have hg := Hg.out
   rw [Nat.sub_self] at hg
   have hp : Hid (GetPost M p x l b w (.returned u5) wr) := by
    refine ⟨u5, rfl, ?_, ?_, Hk.out⟩
    ·rw [hg]; simpa [getDs] using Hown.out
    ·rw [hg]; exact HR.out.avoid (fun g hg => .inl (List.mem_append_right _ hg))
   clear hg
   go_wp2
   go_ret
   exact hp.out
theorem indexf_nil (A : Option Addr) (c g : Nat) (lb : Array Value) (w : World) :
  Calls Tryz.prog 110 #[.slice A 0 c, .func (.func g) #[] lb] w fun e w' => e = .returned (.int .i64 (-1)) ∧ Below w.heap.size w w' := by
 go_enter Tryz.func110, Tryz.ntmps110
 go_wp2_with fail
 go_slots
 go_loopw [8] (fun i wr => i = .int .i64 0 ∧ Hid (Below w.heap.size w wr)) (fun i _ => 0)
 case atStart => exact ⟨rfl, Below.refl _ _⟩
 case round =>
  obtain ⟨rfl, Hb⟩ := hrel
  go_wp2
  go_ret
  exact ⟨rfl, Hb.out⟩
def dEq (x y : DeltaD) : Bool := x.ser.toList == y.ser.toList && (x.n == y.n)
def dsEq (a b : List DeltaD) : Bool := Lib.allEq dEq a b
theorem dEq_at : NeqAt Tryz.prog 38 (fun x => .agg (dCell x).toArray) dEq := by
 refine ⟨fun x y w => ?_, GuardAt.agg _ (by kernel_rfl)⟩
 have u1 := Tryz.underlying9
 have a1 := Tryz.isAgg9
 have z1 := Tryz.sizeOf9
 have u3 := Tryz.underlying34
 have a3 := Tryz.isAgg34
 have z3 := Tryz.sizeOf34
 have hS : Tryz.prog.underlying 38 = some (.struct (Tryz.prog.fieldsOf 38)) := by kernel_rfl
 have hp : Tryz.prog.stoodInHeld 38 = false := by kernel_rfl
 simp only [dCell, dEq]
 rw [run_neq_struct, show (10000 : Nat) = 9999 + 1 from rfl, run_equalIn_agg w 9999 38 _ _ hS hp]
 simp only [Program.fieldsOf, Tryz.underlying38]
 go_simp
 by_cases h1 : x.ser.toList = y.ser.toList <;> by_cases h2 : x.n = y.n <;> simp [h1, h2]
set_option maxRecDepth 100000 in
theorem equal_any (va vb : Value) (a b : List DeltaD) (w : World) (ha : Ds w [] va a) (hb : Ds w [] vb b) (h1 : a.length ≤ 4611686018427387904) (h2 : b.length ≤ 4611686018427387904) :
  Calls Tryz.prog 268 #[va, vb] w fun e w' => e = .returned (.bool (dsEq a b)) ∧ ∃ q, w' = w.drewN q := by
 by_cases h0 : 0 < a.length ∧ 0 < b.length
 ·obtain ⟨ga, oa, ca, rfl, hga, hca⟩ := ds_cells ha h0.1
  obtain ⟨gb, ob, cb, rfl, hgb, hcb⟩ := ds_cells hb h0.2
  have := AnyQ.slices_Equal Tryz.equalDelta 2 Tryz.isAgg38 Tryz.sizeOf38 dCell (fun _ => rfl) dEq dEq_at ga oa a.length ca gb ob b.length cb a b w (Nat.le_refl _) (Nat.le_refl _) (by omega) (by omega) hca hcb
  rw [List.take_length, List.take_length] at this
  exact this
 ·obtain ⟨Aa, ca, rfl, hca⟩ := ha.len
  obtain ⟨Ab, cb, rfl, hcb⟩ := hb.len
  clear ha hb
  by_cases hne : a.length = b.length
  ·have ha0 : a = [] := List.length_eq_zero_iff.1 (by omega)
   have hb0 : b = [] := List.length_eq_zero_iff.1 (by omega)
   subst ha0 hb0
   clear h0 h1 h2 hne hca hcb
   simp only [List.length_nil]
   go_enter Tryz.func268, Tryz.ntmps268
   go_wp2_with fail
   go_loopw [13] (fun i wr => i = .int .i64 0 ∧ Hid (wr = w)) (fun i _ => 0)
   case atStart => exact ⟨rfl, rfl⟩
   case round =>
    obtain ⟨rfl, hw⟩ := hrel
    obtain rfl := hw.out
    go_wp2
    go_ret
    exact ⟨rfl, 0, rfl⟩
  ·have hR : Hid (dsEq a b = false) := Lib.allEq_len dEq a b hne
   have hnm' : ¬ (a.length : Int) = (b.length : Int) := by omega
   rw [hR.out]
   clear h0 h1 h2 hne
   go_enter Tryz.func268, Tryz.ntmps268
   go_wp2
   go_ret
   exact ⟨rfl, 0, rfl⟩
/-- Are entries the same? -/
def sameE (a b : EntryD) : Bool := a.kind == b.kind && eqI a.ag a.sh a.seq b.ag b.sh b.seq && a.ep == b.ep && dsEq a.ds b.ds && a.ser.toList == b.ser.toList && a.fr == b.fr && a.tag == b.tag
def SamePost (r : Bool) (w : World) (e : Ending) (w' : World) : Prop := e = .returned (.bool r) ∧ Below w.heap.size w w'
set_option maxRecDepth 100000 in
set_option maxHeartbeats 1000000 in
theorem same_any (a b : EntryD) (va vb : Value) (w : World) (ha : Ds w [] va a.ds) (hb : Ds w [] vb b.ds) (h1 : a.ds.length ≤ 4611686018427387904) (h2 : b.ds.length ≤ 4611686018427387904) :
  Calls Tryz.prog 228 #[.agg (eCell (a, va)).toArray, .agg (eCell (b, vb)).toArray] w fun r w' => SamePost (sameE a b) w r w' := by
 have heq := Lib.hid (fun W (hk : Keeps [] w W) => equal_any va vb a.ds b.ds W (ha.keep hk (by simp)) (hb.keep hk (by simp)) h1 h2)
 obtain ⟨Aa, ca, rfl, hca⟩ := ha.len
 obtain ⟨Ab, cb, rfl, hcb⟩ := hb.len
 have HS : Hid (sameE a b = (a.kind == b.kind && eqI a.ag a.sh a.seq b.ag b.sh b.seq && a.ep == b.ep && dsEq a.ds b.ds && a.ser.toList == b.ser.toList && a.fr == b.fr && a.tag == b.tag)) := rfl
 generalize sameE a b = R at *
 generalize dsEq a.ds b.ds = dse at *
 obtain ⟨kind, ag, sh, seq, ep, ds, ser, fr, tag⟩ := a
 obtain ⟨kind', ag', sh', seq', ep', ds', ser', fr', tag'⟩ := b
 simp only [] at heq hca hcb HS
 clear ha hb
 simp only [eCell]
 generalize ds.length = n at *
 generalize ds'.length = n' at *
 have hk : Hid (Keeps [] w ((w.alloc (.cells #[.int .i64 kind, .int .i64 ag, .int .i64 sh, .int .i64 seq, .int .i64 ep, .slice Aa n ca, .string ser, .int .i64 fr, .int .i64 tag] 33)).alloc (.cells #[.int .i64 kind', .int .i64 ag', .int .i64 sh', .int .i64 seq', .int .i64 ep', .slice Ab n' cb, .string ser', .int .i64 fr', .int .i64 tag'] 33))) := ((Keeps.refl _ _).alloc _).alloc _
 have heq2 := Lib.hid (heq.out _ hk.out)
 clear heq
 cases h0 : (kind == kind') with
 | false =>
  obtain rfl : R = false := by rw [HS.out, h0]; simp
  clear HS
  go_enter Tryz.func228, Tryz.ntmps228
  go_wp2
  go_ret
  exact ⟨rfl, hk.out.below⟩
 | true =>
  cases h1 : (eqI ag sh seq ag' sh' seq') with
  | false =>
   obtain rfl : R = false := by rw [HS.out, h0, h1]; simp
   have he := fun W => eqI_run ag sh seq ag' sh' seq' false h1 W
   clear h1
   clear HS
   go_enter Tryz.func228, Tryz.ntmps228
   go_wp2
   go_ret
   exact ⟨rfl, hk.out.below⟩
  | true =>
   cases h2 : (ep == ep') with
   | false =>
    obtain rfl : R = false := by rw [HS.out, h0, h1, h2]; simp
    have he := fun W => eqI_run ag sh seq ag' sh' seq' true h1 W
    clear h1
    clear HS
    go_enter Tryz.func228, Tryz.ntmps228
    go_wp2
    go_ret
    exact ⟨rfl, hk.out.below⟩
   | true =>
    cases h3 : dse with
    | false =>
     subst h3
     obtain rfl : R = false := by rw [HS.out, h0, h1, h2]; simp
     have he := fun W => eqI_run ag sh seq ag' sh' seq' true h1 W
     clear h1
     clear HS
     go_enter Tryz.func228, Tryz.ntmps228
     go_wp2_with fail
     refine heq2.out.mono ?_
     rintro r w' ⟨rfl, q, rfl⟩
     have HB := Lib.hid (hk.out.drewN q).below
     clear hk heq2
     go_wp2
     go_ret
     exact ⟨rfl, HB.out⟩
    | true =>
     subst h3
     cases h4 : (ser.toList == ser'.toList) with
     | false =>
      obtain rfl : R = false := by rw [HS.out, h0, h1, h2, h4]; simp
      have he := fun W => eqI_run ag sh seq ag' sh' seq' true h1 W
      clear h1
      clear HS
      go_enter Tryz.func228, Tryz.ntmps228
      go_wp2_with fail
      refine heq2.out.mono ?_
      rintro r w' ⟨rfl, q, rfl⟩
      have HB := Lib.hid (hk.out.drewN q).below
      clear hk heq2
      go_wp2
      go_ret
      exact ⟨rfl, HB.out⟩
     | true =>
      cases h5 : (fr == fr') with
      | false =>
       obtain rfl : R = false := by rw [HS.out, h0, h1, h2, h4, h5]; simp
       have he := fun W => eqI_run ag sh seq ag' sh' seq' true h1 W
       clear h1
       clear HS
       go_enter Tryz.func228, Tryz.ntmps228
       go_wp2_with fail
       refine heq2.out.mono ?_
       rintro r w' ⟨rfl, q, rfl⟩
       have HB := Lib.hid (hk.out.drewN q).below
       clear hk heq2
       go_wp2
       go_ret
       exact ⟨rfl, HB.out⟩
      | true =>
       cases h6 : (tag == tag') with
       | false =>
        obtain rfl : R = false := by rw [HS.out, h0, h1, h2, h4, h5, h6]; simp
        have he := fun W => eqI_run ag sh seq ag' sh' seq' true h1 W
        clear h1
        clear HS
        go_enter Tryz.func228, Tryz.ntmps228
        go_wp2_with fail
        refine heq2.out.mono ?_
        rintro r w' ⟨rfl, q, rfl⟩
        have HB := Lib.hid (hk.out.drewN q).below
        clear hk heq2
        go_wp2
        go_ret
        exact ⟨rfl, HB.out⟩
       | true =>
        obtain rfl : R = true := by rw [HS.out, h0, h1, h2, h4, h5, h6]; simp
        have he := fun W => eqI_run ag sh seq ag' sh' seq' true h1 W
        clear h1
        clear HS
        go_enter Tryz.func228, Tryz.ntmps228
        go_wp2_with fail
        refine heq2.out.mono ?_
        rintro r w' ⟨rfl, q, rfl⟩
        have HB := Lib.hid (hk.out.drewN q).below
        clear hk heq2
        go_wp2
        go_ret
        exact ⟨rfl, HB.out⟩
def ixD (acc : List DeltaD) (s : ByteArray) : Int := Lib.idxBy (fun _ (y : DeltaD) => y.ser.toList == s.toList) acc default
def addD (acc : List DeltaD) (d : DeltaD) : List DeltaD :=
 if ixD acc d.ser < 0 then acc ++ [d] else acc.set (ixD acc d.ser).toNat ⟨acc[(ixD acc d.ser).toNat]!.ser, (addS acc[(ixD acc d.ser).toNat]!.n.toNat d.n.toNat : Nat)⟩
def joinD (l : List DeltaD) : List DeltaD := l.foldl addD []
theorem idx_cases {α : Type} [Inhabited α] (eq : α → α → Bool) (x : α) : ∀ (zs : List α) (i : Nat), (Lib.idxByFrom eq x zs i = -1 ∧ ∀ y ∈ zs, eq x y = false) ∨ ∃ k, k < zs.length ∧ Lib.idxByFrom eq x zs i = ((i + k : Nat) : Int) ∧ eq x zs[k]! = true
 | [], _ => .inl ⟨rfl, by simp⟩
 | y :: r, i => by
  unfold Lib.idxByFrom
  cases hy : eq x y with
  | true => exact .inr ⟨0, by simp, by simp, by simpa using hy⟩
  | false =>
   rw [if_neg (by simp)]
   rcases idx_cases eq x r (i + 1) with ⟨h1, h2⟩ | ⟨k, h1, h2, h3⟩
   ·exact .inl ⟨h1, fun z hz => by rcases List.mem_cons.1 hz with rfl | hz; exact hy; exact h2 z hz⟩
   ·exact .inr ⟨k + 1, by simpa using h1, by rw [h2]; congr 1; omega, by simpa using h3⟩
theorem ixD_cases (acc : List DeltaD) (s : ByteArray) : (ixD acc s = -1 ∧ ∀ y ∈ acc, (y.ser.toList == s.toList) = false) ∨ ∃ k, ∃ h : k < acc.length, ixD acc s = k ∧ (acc[k].ser.toList == s.toList) = true := by
 rcases idx_cases (fun _ (y : DeltaD) => y.ser.toList == s.toList) default acc 0 with h | ⟨k, h1, h2, h3⟩
 ·exact .inl h
 ·exact .inr ⟨k, h1, by unfold ixD Lib.idxBy; rw [h2]; simp, by rwa [getElem!_pos acc k h1] at h3⟩
theorem ix_any (v : Value) (l : List DeltaD) (B : Nat) (s : ByteArray) (w : World) (h : Ds w [] v l) (hl : l.length ≤ 4611686018427387904) (hB : B < w.heap.size) (hc : w.cell? ⟨B, 0, none⟩ = some (.string s)) :
  Calls Tryz.prog 110 #[v, .func (.func 111) #[] #[.pointer (some ⟨B, 0, none⟩)]] w fun r w' => r = .returned (.int .i64 (ixD l s)) ∧ Below w.heap.size w w' := by
 by_cases h0 : 0 < l.length
 ·exact index_any v l B s w h h0 hl hB hc
 ·obtain rfl : l = [] := List.length_eq_zero_iff.1 (by omega)
  obtain ⟨A, c, rfl, hc2⟩ := h.len
  exact indexf_nil A c _ _ w
theorem own_set {w : World} {base : Nat} {e : TypeId} {size n : Nat} {g cap : Nat} {xs : List Value} (h : w.ownsRow base e size (.slice (some ⟨g, 0, none⟩) n cap) n xs) (i : Nat) (u : Value) (hi : i < n * size) :
  (w.setCell ⟨g, i, none⟩ u).ownsRow base e size (.slice (some ⟨g, 0, none⟩) n cap) n (xs.set i u) := by
 obtain ⟨hl, h⟩ := h
 have _ := hi
 rcases h with ⟨h, _⟩ | ⟨g', cap', cur, hv, hb, hg, hnc, hcm, hs, ht⟩
 ·cases h
 ·injection hv with h1 h2 h3
  injection h1 with h1
  injection h1 with h1 _ _
  subst h1 h3
  refine ⟨by rw [List.length_set, hl], .inr ⟨g, cap, cur.setIfInBounds i u, rfl, hb, Base.Blk.set_ hg i u, hnc, hcm, by simpa using hs, ?_⟩⟩
  rw [Array.toList_setIfInBounds, List.take_set, ht]
theorem dCells_set (acc : List DeltaD) (k : Nat) (hk : k < acc.length) (m : Int) : (dCells acc).set (k * 2 + 1) (.int .u64 m) = dCells (acc.set k ⟨acc[k].ser, m⟩) := by
 induction acc generalizing k with
 | nil => simp at hk
 | cons d acc ih =>
  cases k with
  | zero => rfl
  | succ k =>
   have h := ih k (by simpa using hk)
   unfold dCells at h ⊢
   rw [List.flatMap_cons, List.set_cons_succ, List.flatMap_cons, List.set_append_right _ _ (by simp [dCell]; omega)]
   rw [show (k + 1) * 2 + 1 - (dCell d).length = k * 2 + 1 by simp [dCell]; omega, h]
   rfl
theorem addS_lt (a b : Nat) : addS a b < 18446744073709551616 := by
 unfold addS
 split <;> omega
def JoinPost (l : List DeltaD) (w : World) (e : Ending) (w' : World) : Prop := ∃ A, e = .returned (.slice A (joinD l).length (joinD l).length) ∧ (∀ M, (∀ g ∈ M, g < w.heap.size) → Ds w' M (.slice A (joinD l).length (joinD l).length) (joinD l)) ∧ Below w.heap.size w w'
theorem addD_len (acc : List DeltaD) (d : DeltaD) : (addD acc d).length ≤ acc.length + 1 := by
 unfold addD
 split <;> simp
theorem take_fold_len (l : List DeltaD) : ∀ (acc : List DeltaD), (l.foldl addD acc).length ≤ acc.length + l.length := by
 induction l with
 | nil => intro acc; simp
 | cons d l ih =>
  intro acc
  have h1 := ih (addD acc d)
  have h2 := addD_len acc d
  rw [List.foldl_cons, List.length_cons]
  omega
set_option maxRecDepth 100000 in
set_option maxHeartbeats 1000000 in
theorem deltas_join (v : Value) (l : List DeltaD) (w : World) (h : Ds w [] v l) (hn : ∀ d ∈ l, NOk d) (hl : l.length ≤ 1099511627776) :
  Calls Tryz.prog 63 #[v] w fun e w' => JoinPost l w e w' := by
 obtain ⟨i0, hi0, hz0, hz1, hz2⟩ := info_parts infoDelta2
 have Hi0 := Lib.hid hi0; have Hz0 := Lib.hid hz0; have Hz1 := Lib.hid hz1; have Hz2 := Lib.hid hz2
 obtain ⟨A, c, rfl, hc⟩ := h.len
 have Hh := Lib.hid h; have Hn := Lib.hid hn
 clear h hn hi0 hz0 hz1 hz2
 go_enter Tryz.func63, Tryz.ntmps63
 go_wp2_with fail
 go_loopw [3, 9] (fun out i wr => ∃ (x : Nat) (acc : List DeltaD), i = .int .i64 x ∧ x ≤ l.length ∧ Hid (∀ d ∈ acc, NOk d) ∧ Hid (acc = (l.take x).foldl addD []) ∧ Hid (wr.ownsRow w.heap.size 38 2 out acc.length (dCells acc)) ∧ Hid (Below w.heap.size w wr)) (fun _ i _ => l.length - (intOf i).toNat)
 case atStart => exact ⟨0, [], rfl, by omega, (show ∀ d ∈ ([] : List DeltaD), NOk d by simp), rfl, World.ownsRow_nil _ _ _ _, Below.refl _ _⟩
 case round =>
  obtain ⟨x, acc, rfl, hx, Hok, Hacc, Hown, Hbr⟩ := hrel
  have hal : acc.length ≤ x := by
   have := take_fold_len (l.take x) []
   rw [← Hacc.out, List.length_take] at this
   simp at this
   omega
  by_cases hlt : x < l.length
  ·have hx1 : (x : Int) < (l.length : Int) := by omega
   obtain ⟨g, off, _, e1, _, hg, _, hcell⟩ := Rd.at_ dCell 2 (fun _ => rfl) (Hh.out.keep (Keeps.of_below (M := []) Hbr.out) (by simp)) hlt
   obtain rfl : A = some ⟨g, off, none⟩ := by injection e1
   clear e1
   have p0 := hcell 0 _ rfl
   have p1 := hcell 1 _ rfl
   rw [Nat.add_zero] at p0
   obtain ⟨hn0, hn1⟩ := Hn.out l[x] (List.getElem_mem _)
   have htk : Hid (addD acc l[x] = (l.take (x + 1)).foldl addD []) := by
    show _ = _
    rw [List.take_succ_eq_append_getElem hlt, List.foldl_append, ← Hacc.out]; rfl
   clear hcell
   generalize l[x] = d at *
   obtain ⟨ser, nn⟩ := d
   simp only [] at p0 p1 hn0 hn1
   obtain ⟨n, rfl⟩ := Int.eq_ofNat_of_zero_le hn0
   obtain ⟨Ao, co, rfl, hco⟩ := (show Ds wr [] u3 acc from Rd.of_own Hown.out (by simp)).len
   go_wp2_with fail
   have hka : Below wr.heap.size wr (wr.alloc (.cells #[.string ser, .int .u64 n] 38)) := below_new' _ _
   have hBl := Blk.new wr 38 #[.string ser, .int .u64 n]
   have Hix := Lib.hid (ix_any (.slice Ao acc.length co) acc wr.heap.size ser _ ((show Ds wr [] (.slice Ao acc.length co) acc from Rd.of_own Hown.out (by simp)).keep (Keeps.of_below (M := []) hka) (by simp)) (by omega) hBl.lt (hBl.cell 0))
   have HBl := Lib.hid hBl; have Hka := Lib.hid hka
   clear hBl hka
   refine Hix.out.mono ?_
   rintro e w3 ⟨rfl, hb3⟩
   have hbs := HBl.out.lt
   have HB3 := Lib.hid (HBl.out.below hb3 hbs)
   have Hb3 := Lib.hid (below_then Hka.out hb3)
   have Hb3w := Lib.hid (Hbr.out.trans (Hb3.out.mono Hbr.out.size))
   have HA : Hid (addD acc ⟨ser, (n : Int)⟩ = if ixD acc ser < 0 then acc ++ [⟨ser, (n : Int)⟩] else acc.set (ixD acc ser).toNat ⟨acc[(ixD acc ser).toNat]!.ser, (addS acc[(ixD acc ser).toNat]!.n.toNat n : Nat)⟩) := rfl
   have d0 := HB3.out.cell 0; have d1 := HB3.out.cell 1
   simp only [List.getElem?_toArray, List.getElem?_cons_succ, List.getElem?_cons_zero] at d0 d1
   have hbg : w.heap.size ≤ wr.heap.size := Hbr.out.size
   have hw3 : wr.heap.size < w3.heap.size := HB3.out.lt
   clear hb3 Hix p0 p1
   rcases ixD_cases acc ser with ⟨hix, _⟩ | ⟨k, hk, hix, _⟩
   ·have HR : Hid (addD acc ⟨ser, (n : Int)⟩ = acc ++ [⟨ser, (n : Int)⟩]) := by show _ = _; rw [HA.out, hix]; rfl
    rw [hix]
    clear hix HA
    have Hown3 := Lib.hid ((own_below Hown.out Hb3.out).alloc (.cells #[.string ser, .int .u64 n] 38))
    go_wp2_with (at_builtin; refine wpList_append_any _ rfl (.tmp 18) (.tmp 20) _ rfl w.heap.size 38 i0 _ 2 24 Tryz.underlying31 Hi0.out Hz0.out Hz1.out Hz2.out rfl (by omega) (.slice Ao acc.length co) acc.length (dCells acc) rfl Hown3.out (w3.heap.size + 1) (some ⟨w3.heap.size, 0, none⟩) 1 1 (dCell ⟨ser, (n : Int)⟩) rfl (reads_new _ _ _ _ _ rfl) (by intro u hu; simp [dCell] at hu; rcases hu with rfl | rfl <;> rfl) (by unfold maxLen; omega) (by omega) (by simp; omega) ?_)
    intro v6 w6 hown6 hg6 hat6
    have Hown6 : Hid (w6.ownsRow w.heap.size 38 2 v6 (addD acc ⟨ser, (n : Int)⟩).length (dCells (addD acc ⟨ser, (n : Int)⟩))) := by
     show World.ownsRow _ _ _ _ _ _ _
     rw [HR.out]
     unfold dCells at hown6 ⊢
     rw [List.flatMap_append]
     simpa using hown6
    have Hb6 : Hid (Below w.heap.size w w6) := (Hb3w.out.alloc Hb3w.out.size _).grown hg6 (by have := Hb3w.out.size; simp; omega) (fun g hg => (Hown.out.lt g hg).1)
    have Hok6 : Hid (∀ d ∈ addD acc ⟨ser, (n : Int)⟩, NOk d) := by
     show ∀ _, _
     rw [HR.out]
     intro d hd
     rcases List.mem_append.1 hd with hd | hd
     ·exact Hok.out d hd
     ·simp at hd; subst hd; exact ⟨hn0, hn1⟩
    clear hown6 hg6 hat6
    go_wp2
    go_roundw
    case rel => exact ⟨x + 1, addD acc ⟨ser, (n : Int)⟩, by go_num, by omega, Hok6, htk, Hown6, Hb6⟩
    case measure => simp [intOf] <;> omega
   ·have hak : Hid (acc[(ixD acc ser).toNat]! = acc[k]) := by show _ = _; rw [hix, Int.toNat_natCast, getElem!_pos acc k hk]
    obtain ⟨hq0, hq1⟩ := Hok.out acc[k] (List.getElem_mem _)
    have HR : Hid (addD acc ⟨ser, (n : Int)⟩ = acc.set k ⟨acc[k].ser, (addS acc[k].n.toNat n : Nat)⟩) := by show _ = _; rw [HA.out, hak.out, hix, if_neg (by omega), Int.toNat_natCast]
    have hset := Lib.hid (dCells_set acc k hk (addS acc[k].n.toNat n : Nat))
    rw [hix]
    obtain ⟨g2, cap, hv, hge, hgl⟩ := Hown.out.form (by omega)
    injection hv with hv1 _ hv3
    subst hv1 hv3
    have hown3 := own_below Hown.out Hb3.out
    obtain ⟨g', off', _, e1, _, _, _, hcell⟩ := Rd.at_ dCell 2 (fun _ => rfl) (show Ds w3 [] _ acc from Rd.of_own hown3 (by simp)) hk
    injection e1 with e1 _ e9
    injection e1 with e1
    injection e1 with e1 e2 _
    subst e1 e2
    clear e9
    have c1 : w3.cell? ⟨g2, k * 2 + 1, none⟩ = some (.int .u64 acc[k].n) := by have := hcell 1 _ rfl; rwa [Nat.zero_add] at this
    have Hown3 := Lib.hid (own_set hown3 (k * 2 + 1) (.int .u64 (addS acc[k].n.toNat n : Nat)) (by omega))
    have Hok6 : Hid (∀ d ∈ addD acc ⟨ser, (n : Int)⟩, NOk d) := by
     show ∀ _, _
     rw [HR.out]
     intro d hd
     have := addS_lt acc[k].n.toNat n
     rcases List.mem_or_eq_of_mem_set hd with hd | rfl
     ·exact Hok.out d hd
     ·exact ⟨by simp only []; omega, by simp only []; omega⟩
    have Hown6 : Hid ((w3.setCell ⟨g2, k * 2 + 1, none⟩ (.int .u64 (addS acc[k].n.toNat n : Nat))).ownsRow w.heap.size 38 2 (.slice (some ⟨g2, 0, none⟩) acc.length co) (addD acc ⟨ser, (n : Int)⟩).length (dCells (addD acc ⟨ser, (n : Int)⟩))) := by
     show World.ownsRow _ _ _ _ _ _ _
     rw [HR.out, List.length_set, ← hset.out]
     exact Hown3.out
    have Hb6 : Hid (Below w.heap.size w (w3.setCell ⟨g2, k * 2 + 1, none⟩ (.int .u64 (addS acc[k].n.toNat n : Nat)))) := Hb3w.out.setCell hge _
    clear hown3 hcell Hown3 hak hset HR HA hix
    obtain ⟨nk, hnk⟩ := Int.eq_ofNat_of_zero_le hq0
    rw [show acc[k].n.toNat = nk by rw [hnk]; rfl] at Hown6 Hb6
    rw [hnk] at c1 hq0 hq1
    clear hnk
    have hki : (0 : Int) ≤ (k : Int) := by omega
    have hki2 : (k : Int) < (acc.length : Int) := by omega
    have hfz : w3.frozen? ⟨g2, k * 2 + 1, none⟩ = false := by
     have := (own_below Hown.out Hb3.out).2
     rcases this with ⟨h, _⟩ | ⟨g', cap', cur, hv, _, hg, _⟩
     ·cases h
     ·injection hv with h1 _ _
      injection h1 with h1
      injection h1 with h1 _ _
      subst h1
      exact Base.Blk.frozen hg _
    have hadd := Lib.hid (fun W => add_any nk n W (by omega) (by omega))
    generalize addS nk n = sm at *
    generalize addD acc ⟨ser, (n : Int)⟩ = acc2 at *
    clear hq0 hq1 hn0 hn1 hge hgl
    go_wp2_with fail
    go_region_with ((go_at_call 112; refine (hadd.out _).mono ?_; rintro e w' ⟨rfl, rfl⟩))
    all_goals
     go_wp2
     go_roundw
     case rel => exact ⟨x + 1, acc2, by go_num, by omega, Hok6, htk, Hown6.out, (show Below _ _ _ from ⟨Hb6.out.os, Hb6.out.tape, Hb6.out.output, Hb6.out.size, Hb6.out.block⟩)⟩
     case measure => simp [intOf] <;> omega
  ·obtain rfl : x = l.length := by omega
   have hfin : Hid (joinD l = acc) := by show _ = _; rw [Hacc.out, List.take_length]; rfl
   obtain ⟨Ao, co, rfl, hco⟩ := (show Ds wr [] u3 acc from Rd.of_own Hown.out (by simp)).len
   have hp : Hid (JoinPost l w (.returned (.slice Ao acc.length acc.length)) wr) := by
    show JoinPost _ _ _ _
    unfold JoinPost
    rw [hfin.out]
    exact ⟨Ao, rfl, fun M hM => Rd.clip (Rd.of_own Hown.out hM), Hbr.out⟩
   go_wp2_with fail
   refine (clipDelta Ao acc.length co _ hco).mono ?_
   rintro e w' ⟨rfl, rfl⟩
   go_wp2
   go_ret
   exact hp.out
end Go.Proofs.YtgdooockldgdlaaGreatDoor.Vi
end
section
namespace Go.Proofs.YtgdooockldgdlaaGreatDoor.Vi
open Go.RowKit Base Mem
/-- A batch. -/
structure BatD where
 seq : Int
 ds : List DeltaD
/-- A queue: its batches, the last number. -/
structure QuD where
 l : List BatD
 last : Int
def quArg (q : QuD) (b : BatD) : Bool := decide (b.seq < 1) || decide (b.seq ≤ q.last) || decide (b.ds.length = 0) || decide (8 < b.ds.length)
def quAdd (q : QuD) (b : BatD) : Int × QuD := if quArg q b = true then (1, q) else if 16 ≤ q.l.length then (24, q) else (0, ⟨q.l ++ [b], b.seq⟩)
/-- The first of that number taken out. -/
def outB (seq : Int) : List BatD → List BatD
 | [] => []
 | b :: r => if b.seq = seq then r else b :: outB seq r
def hasB (seq : Int) (l : List BatD) : Bool := l.any fun b => decide (b.seq = seq)
def quDone (q : QuD) (seq : Int) : QuD := ⟨outB seq q.l, q.last⟩
/-- What an agent's records come to. -/
structure BkD where
 ep : Int
 sa : List DeltaD
 sh : Int
 q : Nat → QuD
 cuts : List (Int × Int)
def bk0 : BkD := ⟨0, [], 1, fun _ => ⟨[], 0⟩, []⟩
def goodD (d : DeltaD) : Bool := serOk d.ser && decide (0 < d.n)
/-- Does a sum run over? -/
def overL (ser : ByteArray) : Int → List DeltaD → Bool
 | _, [] => false
 | sum, x :: r => if x.ser = ser then (if 18446744073709551615 - x.n < sum then true else overL ser (sum + x.n) r) else overL ser sum r
def mayB (s : BkD) (d : DeltaD) : Int := if goodD d = false then 1 else if 32 ≤ s.sa.length then 24 else if overL d.ser d.n s.sa = true then 25 else 0
def setQ (q : Nat → QuD) (k : Nat) (x : QuD) : Nat → QuD := fun j => if j = k then x else q j
def inDs (ds : List DeltaD) (d : DeltaD) : Bool := ds.any fun x => x.ser.toList == d.ser.toList
/-- A batch queued; samples of its series wait no more. -/
def addB (s : BkD) (k : Nat) (b : BatD) : BkD := if (quAdd (s.q k) b).1 = 0 then { s with q := setQ s.q k (quAdd (s.q k) b).2, sa := s.sa.filter fun d => !inDs b.ds d, cuts := s.cuts ++ [((k : Int), b.seq)] } else s
def doneR (l : List UInt8) (bad : Bool) : Bool := !bad && l.isEmpty
def batchB (s : BkD) (l : List UInt8) (bad over : Bool) : BkD :=
 let k := countS l bad 3
 let n := intS k.2.1 k.2.2
 if over = true then (if doneR n.2.1 n.2.2 = true then { s with q := setQ s.q k.1 (quDone (s.q k.1) n.1) } else s)
 else
  let c := countS n.2.1 n.2.2 8
  let g := getDs c.1 c.2.1 c.2.2
  if (doneR g.2.1 g.2.2 && g.1.all goodD) = true then addB s k.1 ⟨n.1, g.1⟩ else s
/-- One record. -/
def takeB (s : BkD) (b : List UInt8) : BkD :=
 let k := numS b false
 if k.1 = 1 then
  let n := intS k.2.1 k.2.2
  if (doneR n.2.1 n.2.2 && decide (1 ≤ n.1) && decide (n.1 ≤ 1073741824)) = true then { s with ep := n.1 } else s
 else if k.1 = 2 then
  let g := getDs 1 k.2.1 k.2.2
  if (doneR g.2.1 g.2.2 && decide (mayB s g.1.head! = 0)) = true then { s with sa := s.sa ++ [g.1.head!] } else s
 else if k.1 = 4 then
  let n := intS k.2.1 k.2.2
  if (doneR n.2.1 n.2.2 && decide (1 ≤ n.1) && decide (n.1 ≤ 4)) = true then { s with sh := n.1 } else s
 else if k.1 = 3 then batchB s k.2.1 k.2.2 false
 else if k.1 = 5 then batchB s k.2.1 k.2.2 true
 else s
def takesB (s : BkD) (l : List (List UInt8)) : BkD := l.foldl takeB s
def bCell (p : BatD × Value) : List Value := [.int .i64 p.1.seq, p.2]
/-- v reads as these batches. -/
def Bats (w : World) (M : List Nat) (v : Value) (l : List BatD) : Prop :=
 ∃ ps : List (BatD × Value), ps.map (·.1) = l ∧ Rd w M 2 v ps.length (ps.flatMap bCell) ∧ ∀ p ∈ ps, Ds w M p.2 p.1.ds
section
variable {w w' : World} {M M' : List Nat} {v : Value} {l : List BatD}
theorem Bats.keep (h : Bats w M v l) (k : Keeps M' w w') (hM : ∀ g ∈ M', g ∈ M ∨ w.heap.size ≤ g) : Bats w' M v l := by
 obtain ⟨ps, hl, hr, hd⟩ := h
 exact ⟨ps, hl, hr.keep k hM, fun p hp => (hd p hp).keep k hM⟩
theorem Bats.avoid (h : Bats w M v l) (hM : ∀ g ∈ M', g ∈ M ∨ w.heap.size ≤ g) : Bats w M' v l := by
 obtain ⟨ps, hl, hr, hd⟩ := h
 exact ⟨ps, hl, hr.avoid hM, fun p hp => (hd p hp).avoid hM⟩
theorem Bats.len (h : Bats w M v l) : ∃ A c, v = .slice A l.length c ∧ l.length ≤ c := by
 obtain ⟨ps, rfl, ⟨A, c, rfl, hc, _⟩, _⟩ := h
 exact ⟨A, c, by simp, by simpa using hc⟩
end
theorem bCells_len (ps : List (BatD × Value)) : (ps.flatMap bCell).length = ps.length * 2 := flat_len bCell 2 (fun _ => rfl) ps
theorem own_any (M : List Nat) (b : BatD) (dv : Value) (w : World) (h : Ds w M dv b.ds) (hb : b.ds.length * 24 ≤ 140737488355328) :
  Calls Tryz.prog 170 #[.agg (bCell (b, dv)).toArray] w fun r w' => ∃ dv', r = .returned (.agg (bCell (b, dv')).toArray) ∧ (∀ M', (∀ g ∈ M', g < w.heap.size) → Ds w' M' dv' b.ds) ∧ Below w.heap.size w w' := by
 unfold bCell
 go_enter Tryz.func170, Tryz.ntmps170
 go_wp2_with fail
 refine (cloneDelta M dv _ _ _ ((h.keep (Keeps.refl [] _) (by simp)).keep (((Keeps.refl [] w).alloc _).alloc _) (by simp)) (dCells_one _) hb).mono ?_
 rintro r w1 ⟨v', rfl, hown, hbel⟩
 obtain ⟨hc, hf⟩ := bcell hbel
 have hc5 : w1.cell? ⟨w.heap.size, 1, none⟩ = some dv := by rw [hc _ _ (by simp; omega)]; go_simp
 have hz : w.heap.size + 1 < w1.heap.size := by have := hbel.size; simp at this; omega
 have hrd : ∀ M', (∀ g ∈ M', g < w.heap.size + 2) → Rd w1 M' 2 v' b.ds.length (dCells b.ds) := fun M' hM => Rd.of_own hown (by intro g hg; have := hM g hg; simp; omega)
 have hb2 : Below w.heap.size w w1 := ((Below.refl _ _).alloc (Nat.le_refl _) _).alloc (by simp) _ |>.trans (hbel.mono (by simp; omega))
 clear hown hbel
 obtain ⟨A, c, rfl, hc2, _⟩ := hrd [] (by simp)
 have Hrd := Lib.hid hrd; have Hb2 := Lib.hid hb2; have Hh := Lib.hid h; have Hb := Lib.hid hb
 clear hrd hb2 h hb
 go_wp2_with (go_at_call 97; refine (clipDelta A _ c _ hc2).mono ?_; rintro e w' ⟨rfl, rfl⟩)
 have hd : ∀ o, o < 2 → ∃ u, w1.cell? ⟨w.heap.size + 1, o, none⟩ = some u := by
  intro o ho
  rw [hc _ _ (by simp)]
  rcases (show o = 0 ∨ o = 1 by omega) with rfl | rfl <;> exact ⟨_, by go_simp; rfl⟩
 obtain ⟨u0, d0⟩ := hd 0 (by omega); obtain ⟨u1, d1⟩ := hd 1 (by omega)
 refine bodyPost_ret (v := .agg #[.int .i64 b.seq, .slice A b.ds.length b.ds.length]) (by simp [results, Tryz.results170, go_sem, d0, d1]) rfl ⟨_, rfl, ?_, ?_⟩
 ·intro M' hM
  have h0 := (Hrd.out (w.heap.size :: (w.heap.size + 1) :: M') (by intro g hg; simp at hg; rcases hg with rfl | rfl | hg; omega; omega; have := hM g hg; omega)).clip
  refine (h0.keep (M' := [w.heap.size, w.heap.size + 1]) ?_ ?_).more.more
  ·repeat (first | (with_reducible refine Keeps.setCell ?_ (by simp) _) | (with_reducible exact Keeps.refl _ _))
  ·intro g hg; simp at hg; rcases hg with rfl | rfl <;> simp
 ·repeat (first | (with_reducible refine Below.setCell ?_ (by simp) _) | (with_reducible exact Hb2.out))
/-- The deltas of batches that a row of the call's own holds lie in blocks that are neither old nor the row's. -/
def BatOwn (w wr : World) (out : Value) (qs : List (BatD × Value)) : Prop := ∀ q ∈ qs, ∀ M', (∀ g ∈ M', g < w.heap.size ∨ out.ownBlock = some g) → Ds wr M' q.2 q.1.ds
theorem batOwn_step {w wr w1 w2 : World} {out v' dv' : Value} {o : Obj} {qs : List (BatD × Value)} {b : BatD} (hds : BatOwn w wr out qs) (hb1 : Below wr.heap.size wr w1) (hlt : ∀ g, out.ownBlock = some g → g < wr.heap.size) (hw : w.heap.size ≤ wr.heap.size)
  (hnew : ∀ M', (∀ g ∈ M', g < wr.heap.size) → Ds w1 M' dv' b.ds)
  (hg : (w1.alloc o).grownBy w2 out.ownBlock) (hat : v'.ownBlock = out.ownBlock ∨ v'.ownBlock = some (w1.heap.size + 1)) : BatOwn w w2 v' (qs ++ [(b, dv')]) := by
 intro q hq M' hM
 rcases List.mem_append.1 hq with h1 | h1
 ·exact dsOwn_one (fun M'' hM'' => (hds q h1 M'' hM'').keep (M' := []) (Keeps.of_below hb1) (by simp)) hg hat M' hM
 ·simp at h1
  subst h1
  exact dsOwn_one (fun M'' hM'' => hnew M'' (fun g hg => by rcases hM'' g hg with h | h; omega; exact hlt g h)) hg hat M' hM
/-- What a call answers that makes a row of batches. -/
def BatsPost (l : List BatD) (w : World) (e : Ending) (w' : World) : Prop := ∃ A, e = .returned (.slice A l.length l.length) ∧ (∀ M', (∀ g ∈ M', g < w.heap.size) → Bats w' M' (.slice A l.length l.length) l) ∧ Below w.heap.size w w'
theorem infoBatch2 : (Tryz.prog.info? 136).map (fun i => (i.zero, i.size, i.bytes)) = some (some (.agg #[.int .i64 0, .slice none 0 0]), 2, 32) := by kernel_rfl
set_option maxRecDepth 100000 in
set_option maxHeartbeats 400000 in
theorem some_any (M : List Nat) (v : Value) (l : List BatD) (w : World) (h : Bats w M v l) (hn : l.length ≤ 1048576) (hb : ∀ e ∈ l, e.ds.length ≤ 1048576) :
  Calls Tryz.prog 116 #[v] w fun r w' => BatsPost l w r w' := by
 obtain ⟨A, c, rfl, hc⟩ := h.len
 obtain ⟨i0, hi0, hz0, hz1, hz2⟩ := info_parts infoBatch2
 have Hh := Lib.hid h; have Hb := Lib.hid hb
 have Hi0 := Lib.hid hi0; have Hz0 := Lib.hid hz0; have Hz1 := Lib.hid hz1; have Hz2 := Lib.hid hz2
 clear h hb hi0 hz0 hz1 hz2
 go_enter Tryz.func116, Tryz.ntmps116
 go_wp2
 go_loopw [3, 8] (fun out i wr => ∃ (k : Nat) (qs : List (BatD × Value)), k ≤ l.length ∧ i = .int .i64 k ∧ Hid (qs.map (·.1) = l.take k) ∧ Hid (wr.ownsRow w.heap.size 136 2 out k (qs.flatMap bCell)) ∧ Hid (BatOwn w wr out qs) ∧ Below w.heap.size w wr)
  (fun _ i _ => l.length - (intOf i).toNat)
 case atStart => exact ⟨0, [], by omega, rfl, rfl, World.ownsRow_nil _ _ _ _, (show BatOwn _ _ _ _ from by intro q hq; cases hq), Below.refl _ _⟩
 case round =>
  obtain ⟨k, qs, hk, rfl, hq, hown, hds, hbel⟩ := hrel
  have Hbel := Lib.hid hbel; clear hbel
  by_cases hlt : k < l.length
  ·obtain ⟨ps, hps, hr, hd⟩ := Hh.out.keep (Keeps.of_below (M := []) Hbel.out) (by simp)
   have hpk : k < ps.length := by rw [← List.length_map (f := (·.1)), hps]; exact hlt
   obtain ⟨g, off, cap, he, hcap, hg, hgM, hcell⟩ := Rd.at_ bCell 2 (fun _ => rfl) hr hpk
   injection he with he1 he2 he3
   subst he1
   have hc0 : wr.cell? ⟨g, off + k * 2, none⟩ = _ := hcell 0 _ rfl; have hc1 := hcell 1 _ rfl
   clear hcell
   have hdk := hd ps[k] (List.getElem_mem hpk)
   have hek : ps[k].1 = l[k] := by subst hps; simp
   have hmk := List.getElem_mem hlt
   have Hps := Lib.hid hps; have Hr := Lib.hid hr; have Hd := Lib.hid hd
   clear hps hr hd he3 hcap he2
   generalize ps[k] = pk at *
   obtain ⟨ek, dvk⟩ := pk
   obtain ⟨Ad, cd, hdv, hcd⟩ := hdk.len
   simp only at hdv hek hcd
   subst hdv
   have Hdk := Lib.hid hdk; have Hek := Lib.hid hek; have Hmk := Lib.hid hmk
   clear hdk hek hmk
   go_wp2_with fail
   refine (own_any [] ek (.slice Ad ek.ds.length cd) _ ?_ ?_).mono ?_
   ·exact (Hdk.out.avoid (M' := []) (by simp)).keep (M' := []) ((Keeps.refl _ _).alloc _) (by simp)
   ·have := Hb.out _ Hmk.out; rw [← Hek.out] at this; omega
   rintro r w1 ⟨dv', rfl, hds', hbel'⟩
   obtain ⟨Ad', cd', hdv', hcd'⟩ := (hds' [] (by simp)).len
   subst hdv'
   simp only [bCell]
   have hb1 : Below wr.heap.size wr w1 := (below_new' wr _).trans (hbel'.mono (by simp))
   have hown1 := Lib.hid ((own_below hown.out hb1).alloc (.cells (bCell (ek, .slice Ad' ek.ds.length cd')).toArray 136))
   have Hds' := Lib.hid hds'; have Hbel' := Lib.hid hb1
   clear hds' hbel' hb1
   go_wp2_with (at_builtin; refine wpList_append_any _ rfl (.tmp 12) (.tmp 15) _ rfl w.heap.size 136 i0 _ 2 32 Tryz.underlying133 Hi0.out Hz0.out Hz1.out Hz2.out rfl (by omega) u3 k (qs.flatMap bCell) rfl hown1.out (w1.heap.size + 1) (some ⟨w1.heap.size, 0, none⟩) 1 1 (bCell (ek, .slice Ad' ek.ds.length cd')) rfl (reads_new _ _ _ _ _ rfl) ?_ ?_ ?_ ?_ ?_)
   ·intro u hu; simp [bCell] at hu; rcases hu with rfl | rfl <;> rfl
   ·unfold maxLen; omega
   ·omega
   ·have := Hbel.out.size; have := Hbel'.out.size; simp; omega
   ·intro v2 w2 hown2 hg2 hat2
    have hlt0 : ∀ g, u3.ownBlock = some g → w.heap.size ≤ g ∧ g < wr.heap.size := hown.out.lt
    have R1 := Lib.hid (batOwn_step (b := ek) hds.out Hbel'.out (fun g hg => (hlt0 g hg).2) Hbel.out.size (fun M' hM => Hds'.out M' (fun g hg => by have := hM g hg; simp; omega)) hg2 hat2)
    have R2 := Lib.hid (below_step Hbel.out Hbel'.out hg2 (fun g hg => (hlt0 g hg).1))
    have R3 := Lib.hid hown2
    clear hown2 hg2 hat2 hlt0
    go_wp2
    go_roundw
    case rel => exact ⟨k + 1, qs ++ [(ek, .slice Ad' ek.ds.length cd')], by omega, by go_num, (by show _ = _; rw [List.map_append, hq.out, List.take_succ_eq_append_getElem hlt, ← Hek.out]; rfl), (by show World.ownsRow _ _ _ _ _ _ _; rw [List.flatMap_append]; simpa using R3.out), R1, R2.out⟩
    case measure => simp [intOf]; omega
  ·have hk' : k = l.length := by omega
   subst hk'
   have hqs : qs.map (·.1) = l := by rw [hq.out, List.take_length]
   have hlen : qs.length = l.length := by rw [← hqs, List.length_map]
   have hens : ∀ M', (∀ g ∈ M', g < w.heap.size) → Bats wr M' u3 l := fun M' hM => ⟨qs, hqs, by rw [hlen]; exact Rd.of_own hown.out hM, fun p hp => hds.out p hp M' (fun g hg => .inl (hM g hg))⟩
   obtain ⟨Ao, co, rfl, hco⟩ := (hens [] (by simp)).len
   have HP : Hid (BatsPost l w (.returned (.slice Ao l.length l.length)) wr) := by
    refine ⟨Ao, rfl, fun M' hM => ?_, Hbel.out⟩
    obtain ⟨ps, h1, h2, h3⟩ := hens M' hM
    have hl : ps.length = l.length := by rw [← h1, List.length_map]
    exact ⟨ps, h1, by rw [hl] at h2 ⊢; exact h2.clip, h3⟩
   clear hens hqs hlen
   go_wp2_with (go_at_call 171; refine (clipBatch Ao _ co _ hco).mono ?_; rintro e w' ⟨rfl, rfl⟩)
   go_ret
   exact HP.out
end Go.Proofs.YtgdooockldgdlaaGreatDoor.Vi
end
