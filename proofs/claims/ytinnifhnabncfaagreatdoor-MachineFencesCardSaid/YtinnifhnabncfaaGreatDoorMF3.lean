/- Texts put together: Shelf, Lab5, Lab6, Ent1, Ent2, Ent3, Ent4, Ent5, EntB, PlN, Ent6, Ent7, Ent8, PlE, PlE2, EntC, Ent9, EntA, EntD, EntK, Tape, Tape2, Tape3, EntE, McP, WinA, WinB, WinC, WinD, CtA, McA. -/
import Derived.Shelf.Strings.Builder1
import Derived.Shelf.Strings.Builder2
import Derived.Shelf.Strings.OnBuilder
import Derived.Shelf.Small.Bits
import Derived.Shelf.Utf8.RuneCount
import Derived.Shelf.Strconv.Itoa0
import Derived.Shelf.Strings.Search1
import Derived.Shelf.Strings.Search2
import Derived.Shelf.Strings.Search3
import Derived.Shelf.Strings.Cut
import Derived.Shelf.Strings.Count
import Derived.Shelf.LaysM
import Derived.Shelf.Strings.Shaped
import Derived.Shelf.Strings.Split
import Derived.Shelf.Strings.SplitShaped
import Derived.Shelf.Unicode.Decode
import Derived.Shelf.Strings.RuneCount
import Derived.Shelf.Strings.Explode
import Derived.Shelf.Unicode.DecodeSlow
import Derived.Shelf.Unicode.DecodeAny
import Derived.Ground.SlgnProg
import Derived.Shelf.SlicesE.Clone
import Derived.Test.YtinnifhnabncfaaGreatDoorProg
import Derived.Laws.StructEq
import Derived.Shelf.SlicesQ.IndexFunc
import Derived.Deep.DeepCutAuto
import Derived.Lib.Strings
import Derived.Shelf.SlicesQ.Equal
import Derived.BigQuiet
import Derived.Deep.QuietTactic
import Derived.Deep.RegionHeld3
import Derived.Handy
import Derived.Test.YtinnifhnabncfaaGreatDoorMF1
import Derived.Test.YtinnifhnabncfaaGreatDoorMF2
set_option linter.unusedVariables false
set_option linter.unusedSimpArgs false
section
namespace Go.Proofs
open Go.Shelf
def Tryz.lays156_ren : Go.Shelf.Ren := ⟨fun | 156 => 199 | 165 => 232 | 166 => 233 | 169 => 234 | 240 => 252 | 241 => 253 | 276 => 261 | 277 => 262 | n => n, fun | 31 => 102 | 9 => 9 | 3 => 3 | 4 => 4 | 0 => 0 | 20 => 20 | 72 => 257 | 76 => 261 | 70 => 255 | 37 => 36 | 75 => 260 | 127 => 275 | 164 => 284 | 5 => 5 | 80 => 84 | n => n, fun | n => n⟩
theorem Tryz.lays156 : Go.Proofs.Lays.n156 Tryz.prog Tryz.lays156_ren := {
 mixed := by kernel_rfl
 f156 := Tryz.func199.trans (congrArg some (by kernel_rfl))
 f165 := Tryz.func232.trans (congrArg some (by kernel_rfl))
 f166 := Tryz.func233.trans (congrArg some (by kernel_rfl))
 f169 := Tryz.func234.trans (congrArg some (by kernel_rfl))
 f240 := Tryz.func252.trans (congrArg some (by kernel_rfl))
 f241 := Tryz.func253.trans (congrArg some (by kernel_rfl))
 f276 := Tryz.func261.trans (congrArg some (by kernel_rfl))
 f277 := Tryz.func262.trans (congrArg some (by kernel_rfl))
 t0 := Tryz.underlying0
 a0 := Tryz.isAgg0
 z0 := Tryz.sizeOf0
 v0 := Tryz.zeroValue0
 t3 := Tryz.underlying3
 a3 := Tryz.isAgg3
 z3 := Tryz.sizeOf3
 v3 := Tryz.zeroValue3
 t4 := Tryz.underlying4
 a4 := Tryz.isAgg4
 z4 := Tryz.sizeOf4
 v4 := Tryz.zeroValue4
 t9 := Tryz.underlying9
 a9 := Tryz.isAgg9
 z9 := Tryz.sizeOf9
 v9 := Tryz.zeroValue9
 t20 := Tryz.underlying20
 a20 := Tryz.isAgg20
 z20 := Tryz.sizeOf20
 v20 := Tryz.zeroValue20
 t31 := Tryz.underlying102
 a31 := Tryz.isAgg102
 z31 := Tryz.sizeOf102
 v31 := Tryz.zeroValue102
 t37 := Tryz.underlying36
 a37 := Tryz.isAgg36
 z37 := Tryz.sizeOf36
 v37 := Tryz.zeroValue36
 t70 := Tryz.underlying255
 a70 := Tryz.isAgg255
 z70 := Tryz.sizeOf255
 v70 := Tryz.zeroValue255
 t72 := Tryz.underlying257
 a72 := Tryz.isAgg257
 z72 := Tryz.sizeOf257
 v72 := Tryz.zeroValue257
 t75 := Tryz.underlying260
 a75 := Tryz.isAgg260
 z75 := Tryz.sizeOf260
 v75 := Tryz.zeroValue260
 t76 := Tryz.underlying261
 a76 := Tryz.isAgg261
 z76 := Tryz.sizeOf261
 v76 := Tryz.zeroValue261
 t127 := Tryz.underlying275
 a127 := Tryz.isAgg275
 z127 := Tryz.sizeOf275
 v127 := Tryz.zeroValue275
 t164 := Tryz.underlying284
 a164 := Tryz.isAgg284
 z164 := Tryz.sizeOf284
 v164 := Tryz.zeroValue284 }
theorem Tryz.Builder_Extra_156 : Builder.Extra Tryz.prog Tryz.lays156_ren := {
 sizeBuilder := by kernel_rfl
 liesBuilder := by kernel_rfl
 t5 := Tryz.underlying5
 a5 := Tryz.isAgg5
 z5 := Tryz.sizeOf5
 v5 := Tryz.zeroValue5
 infoByte := by kernel_rfl
 cellsByte := by kernel_rfl
 sizeByte := by kernel_rfl
 neB5 := by decide }
open Go.RowKit in
/-- strings.Join: "Join concatenates the elements of its first argument to create a single string. The separator string sep is placed between elements in the resulting string.": HOWEVER MANY ELEMENTS. Below the heap's end the world is as it was. (LAID: no walk: one application.) -/
theorem Tryz.strings_Join (bk o c : Nat) (xs : List ByteArray) (sep : ByteArray) (w : World) (hcells : ∀ (j : Nat) x, xs[j]? = some x → w.cell? ⟨bk, o + j, none⟩ = some (.string x)) (hbk : bk < w.heap.size) (hN : xs.length ≤ 140737488355328) (hcap : xs.length ≤ c) (hlen : (Lib.join (xs.map (·.data.toList)) sep.data.toList).length ≤ 140737488355328) :
  Calls Tryz.prog 199 #[.slice (some ⟨bk, o, none⟩) xs.length c, .string sep] w fun e w' => e = .returned (.string ⟨(Lib.join (xs.map (·.data.toList)) sep.data.toList).toArray⟩) ∧ Below w.heap.size w w' := Any.strings_Join Tryz.lays156 Tryz.Builder_Extra_156 bk o c xs sep w hcells hbk hN hcap hlen
def Tryz.lays145_ren : Go.Shelf.Ren := ⟨fun | 145 => 174 | 220 => 196 | 219 => 227 | 217 => 247 | 225 => 248 | 224 => 249 | 267 => 250 | 266 => 257 | 314 => 258 | n => n, fun | 9 => 9 | 4 => 4 | 59 => 220 | 3 => 3 | 5 => 5 | 46 => 39 | 146 => 280 | 51 => 136 | n => n, fun | 1 => 0 | n => n⟩
theorem Tryz.lays145 : Go.Proofs.Lays.n145 Tryz.prog Tryz.lays145_ren := {
 mixed := by kernel_rfl
 f145 := Tryz.func174.trans (congrArg some (by kernel_rfl))
 f217 := Tryz.func247.trans (congrArg some (by kernel_rfl))
 f219 := Tryz.func227.trans (congrArg some (by kernel_rfl))
 f220 := Tryz.func196.trans (congrArg some (by kernel_rfl))
 f224 := Tryz.func249.trans (congrArg some (by kernel_rfl))
 f225 := Tryz.func248.trans (congrArg some (by kernel_rfl))
 f266 := Tryz.func257.trans (congrArg some (by kernel_rfl))
 f267 := Tryz.func250.trans (congrArg some (by kernel_rfl))
 f314 := Tryz.func258.trans (congrArg some (by kernel_rfl))
 t3 := Tryz.underlying3
 a3 := Tryz.isAgg3
 z3 := Tryz.sizeOf3
 v3 := Tryz.zeroValue3
 t4 := Tryz.underlying4
 a4 := Tryz.isAgg4
 z4 := Tryz.sizeOf4
 v4 := Tryz.zeroValue4
 t5 := Tryz.underlying5
 a5 := Tryz.isAgg5
 z5 := Tryz.sizeOf5
 v5 := Tryz.zeroValue5
 t9 := Tryz.underlying9
 a9 := Tryz.isAgg9
 z9 := Tryz.sizeOf9
 v9 := Tryz.zeroValue9
 t46 := Tryz.underlying39
 a46 := Tryz.isAgg39
 z46 := Tryz.sizeOf39
 v46 := Tryz.zeroValue39
 t51 := Tryz.underlying136
 a51 := Tryz.isAgg136
 z51 := Tryz.sizeOf136
 v51 := Tryz.zeroValue136
 t59 := Tryz.underlying220
 a59 := Tryz.isAgg220
 z59 := Tryz.sizeOf220
 v59 := Tryz.zeroValue220
 t146 := Tryz.underlying280
 a146 := Tryz.isAgg280
 z146 := Tryz.sizeOf280
 v146 := Tryz.zeroValue280
 g1 := by kernel_rfl }
open Go.RowKit Go.Lib in
/-- strings.Cut: "Cut slices s around the first instance of sep, returning the text before and after sep. The found result reports whether sep appears in s. If sep does not appear in s, cut returns s, "", false.": IT RETURNS 'Lib.cut s sep'; the world is as it was but for the count of draws. (LAID: no walk: one application.) -/
theorem Tryz.strings_Cut (s sep : ByteArray) (m : Int) (w : World) (hs : s.size < 4294967281) (hm : w.cell? ⟨0, 0, none⟩ = some (.int .i64 m)) :
  Calls Tryz.prog 174 #[.string s, .string sep] w fun e w' => e = .returned (.tuple #[.string ⟨(Lib.cut s.data.toList sep.data.toList).1.toArray⟩, .string ⟨(Lib.cut s.data.toList sep.data.toList).2.1.toArray⟩, .bool (Lib.cut s.data.toList sep.data.toList).2.2]) ∧ ∃ n, w' = w.drewN n := Any.strings_Cut Tryz.lays145 s sep m w hs hm
def Tryz.lays146_ren : Go.Shelf.Ren := ⟨fun | 146 => 173 | 221 => 195 | 268 => 224 | 138 => 225 | 143 => 226 | 195 => 244 | 197 => 245 | 218 => 246 | 219 => 227 | 260 => 256 | 217 => 247 | 225 => 248 | 224 => 249 | 267 => 250 | 266 => 257 | 314 => 258 | n => n, fun | 9 => 9 | 31 => 102 | 3 => 3 | 4 => 4 | 0 => 0 | 105 => 271 | 21 => 21 | 5 => 5 | 46 => 39 | 119 => 287 | 139 => 290 | 138 => 289 | 146 => 280 | 51 => 136 | n => n, fun | 1 => 0 | 3 => 1 | 4 => 2 | n => n⟩
theorem Tryz.lays146 : Go.Proofs.Lays.n146 Tryz.prog Tryz.lays146_ren := {
 mixed := by kernel_rfl
 f138 := Tryz.func225.trans (congrArg some (by kernel_rfl))
 f143 := Tryz.func226.trans (congrArg some (by kernel_rfl))
 f146 := Tryz.func173.trans (congrArg some (by kernel_rfl))
 f195 := Tryz.func244.trans (congrArg some (by kernel_rfl))
 f197 := Tryz.func245.trans (congrArg some (by kernel_rfl))
 f217 := Tryz.func247.trans (congrArg some (by kernel_rfl))
 f218 := Tryz.func246.trans (congrArg some (by kernel_rfl))
 f219 := Tryz.func227.trans (congrArg some (by kernel_rfl))
 f221 := Tryz.func195.trans (congrArg some (by kernel_rfl))
 f224 := Tryz.func249.trans (congrArg some (by kernel_rfl))
 f225 := Tryz.func248.trans (congrArg some (by kernel_rfl))
 f260 := Tryz.func256.trans (congrArg some (by kernel_rfl))
 f266 := Tryz.func257.trans (congrArg some (by kernel_rfl))
 f267 := Tryz.func250.trans (congrArg some (by kernel_rfl))
 f268 := Tryz.func224.trans (congrArg some (by kernel_rfl))
 f314 := Tryz.func258.trans (congrArg some (by kernel_rfl))
 t0 := Tryz.underlying0
 a0 := Tryz.isAgg0
 z0 := Tryz.sizeOf0
 v0 := Tryz.zeroValue0
 t3 := Tryz.underlying3
 a3 := Tryz.isAgg3
 z3 := Tryz.sizeOf3
 v3 := Tryz.zeroValue3
 t4 := Tryz.underlying4
 a4 := Tryz.isAgg4
 z4 := Tryz.sizeOf4
 v4 := Tryz.zeroValue4
 t5 := Tryz.underlying5
 a5 := Tryz.isAgg5
 z5 := Tryz.sizeOf5
 v5 := Tryz.zeroValue5
 t9 := Tryz.underlying9
 a9 := Tryz.isAgg9
 z9 := Tryz.sizeOf9
 v9 := Tryz.zeroValue9
 t21 := Tryz.underlying21
 a21 := Tryz.isAgg21
 z21 := Tryz.sizeOf21
 v21 := Tryz.zeroValue21
 t31 := Tryz.underlying102
 a31 := Tryz.isAgg102
 z31 := Tryz.sizeOf102
 v31 := Tryz.zeroValue102
 t46 := Tryz.underlying39
 a46 := Tryz.isAgg39
 z46 := Tryz.sizeOf39
 v46 := Tryz.zeroValue39
 t51 := Tryz.underlying136
 a51 := Tryz.isAgg136
 z51 := Tryz.sizeOf136
 v51 := Tryz.zeroValue136
 t105 := Tryz.underlying271
 a105 := Tryz.isAgg271
 z105 := Tryz.sizeOf271
 v105 := Tryz.zeroValue271
 t119 := Tryz.underlying287
 a119 := Tryz.isAgg287
 z119 := Tryz.sizeOf287
 t138 := Tryz.underlying289
 a138 := Tryz.isAgg289
 z138 := Tryz.sizeOf289
 v138 := Tryz.zeroValue289
 t139 := Tryz.underlying290
 a139 := Tryz.isAgg290
 z139 := Tryz.sizeOf290
 v139 := Tryz.zeroValue290
 t146 := Tryz.underlying280
 a146 := Tryz.isAgg280
 z146 := Tryz.sizeOf280
 v146 := Tryz.zeroValue280
 g1 := by kernel_rfl
 g3 := by kernel_rfl
 g4 := by kernel_rfl }
open Go.RowKit Go.Lib in
/-- strings.Split. (LAID: no walk: one application.) -/
theorem Tryz.strings_Split (s sep : ByteArray) (m : Int) (w : World) (hs : s.size < 4294967281) (hm : w.cell? ⟨0, 0, none⟩ = some (.int .i64 m)) (h1 : 1 ≤ sep.size) :
  Calls Tryz.prog 173 #[.string s, .string sep] w fun e w' =>
   e = .returned (.slice (some ⟨w.heap.size, 0, none⟩) (Lib.countB s sep + 1) (Lib.countB s sep + 1)) ∧ w' = w.alloc (.cells ((Lib.splitB sep 0 (Lib.countB s sep) s).map Value.string).toArray 9) := Any.strings_Split Tryz.lays146 (by kernel_rfl) s sep m w hs hm h1
end Go.Proofs
end
section
namespace Go.Proofs.YtinnifhnabncfaaGreatDoor.Vi
open Go.RowKit Base Mem Go.Sort Go.Shelf
def pairB (x : LabD) : ByteArray := x.name ++ ⟨#[61]⟩ ++ x.value
def joinB (l : List LabD) : ByteArray := ⟨(Lib.join ((l.map pairB).map (·.data.toList)) [44]).toArray⟩
/-- A series of labels; else why not. -/
def ltextS (l : List LabD) : ByteArray × Nat := if rightS l = 0 then (joinB (sortL l), 0) else (⟨#[]⟩, rightS l)
theorem pairB_len (x : LabD) : (pairB x).data.toList.length = x.name.size + 1 + x.value.size := by
 unfold pairB
 rw [ByteArray.data_append, ByteArray.data_append, Array.toList_append, Array.toList_append, List.length_append, List.length_append]
 rfl
theorem join_len (l : List LabD) (h : ∀ x ∈ l, x.name.size ≤ 32 ∧ x.value.size ≤ 32) : (Lib.join ((l.map pairB).map (·.data.toList)) [44]).length ≤ 66 * l.length := by
 induction l with
 | nil => simp [Lib.join_nil]
 | cons a r ih =>
  rw [List.map_cons, List.map_cons, Lib.join_cons]
  have ha := h a (by simp)
  have hp := pairB_len a
  have hr : ∀ (r : List LabD), (∀ x ∈ r, x.name.size ≤ 32 ∧ x.value.size ≤ 32) → (Lib.joinTail [44] ((r.map pairB).map (·.data.toList))).length ≤ 66 * r.length := by
   intro r hr
   induction r with
   | nil => simp [Lib.joinTail]
   | cons b q ihq =>
    have hb := hr b (by simp)
    have hpb := pairB_len b
    have := ihq (fun x hx => hr x (List.mem_cons_of_mem _ hx))
    simp only [Lib.joinTail, List.map_cons, List.flatten_cons, List.length_append, List.length_cons, List.length_nil] at this ⊢
    omega
  have := hr r (fun x hx => h x (List.mem_cons_of_mem _ hx))
  rw [List.length_append, List.length_cons]
  omega
theorem okRow_sizes {s : List LabD} (h : okRow s = true) : ∀ x ∈ s, x.name.size ≤ 32 ∧ x.value.size ≤ 32 := by
 intro x hx
 obtain ⟨i, hi, rfl⟩ := List.getElem_of_mem hx
 unfold okRow at h
 rw [List.all_eq_true] at h
 have h1 := h i (List.mem_range.2 hi)
 unfold itemOk at h1
 rw [getElem!_pos s i hi, Bool.and_eq_true, Bool.and_eq_true] at h1
 have h2 := h1.1.1
 have h3 := h1.1.2
 unfold nameOk at h2 h3
 simp at h2 h3
 omega
theorem infoStr : (Tryz.prog.info? 9).map (fun i => (i.zero, i.size, i.bytes)) = some (some (.string ByteArray.empty), 1, 16) := by kernel_rfl
def TextPost (l : List LabD) (w : World) (e : Ending) (w' : World) : Prop := e = .returned (.tuple #[.string (ltextS l).1, .int .i64 (ltextS l).2]) ∧ Below w.heap.size w w'
set_option maxRecDepth 100000 in
theorem ltext_any (v : Value) (l : List LabD) (w : World) (h : Labs w [] v l) (hl : l.length ≤ 4611686018427387904) :
  Calls Tryz.prog 175 #[v] w fun e w' => TextPost l w e w' := by
 have hri := Lib.hid (lright_any v l w h hl)
 have HT : Hid (ltextS l = if rightS l = 0 then (joinB (sortL l), 0) else (⟨#[]⟩, rightS l)) := rfl
 by_cases hr0 : rightS l = 0
 ·have hR : Hid (ltextS l = (joinB (sortL l), 0)) := by show _ = _; rw [HT.out, if_pos hr0]
  have hl8 : l.length ≤ 8 ∧ okRow (sortL l) = true := by
   unfold rightS at hr0
   by_cases h8 : 8 < l.length
   ·rw [if_pos h8] at hr0; cases hr0
   ·rw [if_neg h8] at hr0
    refine ⟨by omega, ?_⟩
    cases hk : okRow (sortL l) with
    | true => rfl
    | false => rw [hk] at hr0; simp at hr0
  obtain ⟨hl8, hok⟩ := hl8
  have hjl := Lib.hid (join_len (sortL l) (okRow_sizes hok))
  have hsz := Lib.hid (okRow_sizes hok)
  rw [hr0] at hri
  have hso := Lib.hid (fun W (hk : Keeps [] w W) => sorted_any v l W (h.keep hk (by simp)) (by omega))
  obtain ⟨A, c, rfl, hc⟩ := h.len
  have hs8 : (sortL l).length ≤ 8 := by rw [sortL_len]; omega
  have hs0 : 0 < (sortL l).length := by
   rw [sortL_len]
   unfold rightS at hr0
   rw [if_neg (by omega), hok] at hr0
   rcases Nat.eq_zero_or_pos l.length with hz | hz
   ·rw [hz] at hr0; simp at hr0
   ·exact hz
  clear h HT hr0 hok
  obtain ⟨i0, hi0, hz0, hz1, hz2⟩ := info_parts infoStr
  have Hi0 := Lib.hid hi0; have Hz0 := Lib.hid hz0; have Hz1 := Lib.hid hz1; have Hz2 := Lib.hid hz2
  clear hi0 hz0 hz1 hz2
  generalize sortL l = s at *
  go_enter Tryz.func175, Tryz.ntmps175
  go_wp2_with fail
  refine hri.out.mono ?_
  rintro e w1 ⟨rfl, hb1⟩
  have hso1 := Lib.hid (hso.out w1 (Keeps.of_below hb1))
  have Hb1 := Lib.hid hb1
  clear hb1 hri hso
  go_wp2_with fail
  refine hso1.out.mono ?_
  rintro e w2 ⟨A1, rfl, hA, hb2⟩
  have HA := Lib.hid (hA [] (by simp)); have Hb2 := Lib.hid (below_then Hb1.out hb2)
  clear hA hb2 hso1 Hb1
  go_wp2_with fail
  go_loopw [5, 16] (fun out i wr => ∃ x : Nat, i = .int .i64 x ∧ x ≤ s.length ∧ Hid (wr.ownsRow w2.heap.size 9 1 out x ((s.take x).map fun y => Value.string (pairB y))) ∧ Hid (Below w2.heap.size w2 wr)) (fun _ i _ => s.length - (intOf i).toNat)
  case atStart => exact ⟨0, rfl, by omega, World.ownsRow_nil _ _ _ _, Below.refl _ _⟩
  case round =>
   obtain ⟨x, rfl, hx, Hown, Hbr⟩ := hrel
   by_cases hlt : x < s.length
   ·have hx1 : (x : Int) < (s.length : Int) := by omega
    obtain ⟨g, off, _, e1, hg, c0, c1⟩ := (HA.out.keep (Keeps.of_below (M := []) Hbr.out) (by simp)).at_ hlt
    obtain rfl : A1 = some ⟨g, off, none⟩ := by injection e1
    clear e1
    have Htk : Hid (s.take (x + 1) = s.take x ++ [s[x]]) := List.take_succ_eq_append_getElem hlt
    have Hpb : Hid (pairB s[x] = s[x].name ++ ⟨#[61]⟩ ++ s[x].value) := rfl
    have hd32 := hsz.out s[x] (List.getElem_mem _)
    generalize s[x] = d at *
    have k1 : ¬ (9223372036854775807 < d.name.size + 1) := by omega
    have k2 : ¬ (9223372036854775807 < d.name.size + 1 + d.value.size) := by omega
    have k3 : ¬ (9223372036854775807 < (d.name ++ ⟨#[61]⟩).size + d.value.size) := by rw [ByteArray.size_append]; exact k2
    clear hd32
    have Hrd : Hid (Reads ((wr.alloc (.cells #[.string d.name, .string d.value] 215)).alloc (.cells #[.string (d.name ++ ⟨#[61]⟩ ++ d.value)] 9)) (wr.heap.size + 2) 1 (some ⟨wr.heap.size + 1, 0, none⟩) 1 [.string (d.name ++ ⟨#[61]⟩ ++ d.value)]) := by
     have := reads_new (wr.alloc (.cells #[.string d.name, .string d.value] 215)) 9 1 1 [.string (d.name ++ ⟨#[61]⟩ ++ d.value)] rfl
     show Reads _ _ _ _ _ _
     simpa using this
    have Hown3 := Lib.hid ((Hown.out.alloc (.cells #[.string d.name, .string d.value] 215)).alloc (.cells #[.string (d.name ++ ⟨#[61]⟩ ++ d.value)] 9))
    have hz2 : w2.heap.size ≤ wr.heap.size := Hbr.out.size
    have hb0 : w2.heap.size ≤ ((wr.alloc (.cells #[.string d.name, .string d.value] 215)).alloc (.cells #[.string (d.name ++ ⟨#[61]⟩ ++ d.value)] 9)).heap.size := by simp; omega
    have hm1 : x + 1 ≤ maxLen := by unfold maxLen; omega
    have hm2 : (x + 1) * 16 ≤ 140737488355328 := by omega
    have hone : ∀ u ∈ [Value.string (d.name ++ ⟨#[61]⟩ ++ d.value)], u.oneCell' = true := by intro u hu; simp at hu; subst hu; rfl
    have Hb0 := Lib.hid hb0; have Hm1 := Lib.hid hm1; have Hm2 := Lib.hid hm2; have Hone := Lib.hid hone
    clear hb0 hm1 hm2 hone
    go_wp2_with (at_builtin; refine wpList_append_any _ rfl (.tmp 20) (.tmp 27) _ rfl w2.heap.size 9 i0 _ 1 16 Tryz.underlying102 Hi0.out Hz0.out Hz1.out Hz2.out rfl (by omega) u5 x ((s.take x).map fun y => Value.string (pairB y)) rfl Hown3.out (wr.heap.size + 2) (some ⟨wr.heap.size + 1, 0, none⟩) 1 1 [.string (d.name ++ ⟨#[61]⟩ ++ d.value)] rfl Hrd.out Hone.out Hm1.out Hm2.out Hb0.out ?_)
    intro v4 w4 hown4 hg4 hat4
    have Hown4 : Hid (w4.ownsRow w2.heap.size 9 1 v4 (x + 1) ((s.take (x + 1)).map fun y => Value.string (pairB y))) := by
     show World.ownsRow _ _ _ _ _ _ _
     rw [Htk.out, List.map_append, List.map_cons, List.map_nil, Hpb.out, List.map_take]
     exact hown4
    have Hb4 : Hid (Below w2.heap.size w2 w4) := ((Hbr.out.alloc Hbr.out.size _).alloc (by simp; omega) _).grown hg4 (by simp; omega) (fun g hg => (Hown.out.lt g hg).1)
    clear hown4 hg4 hat4
    go_wp2
    go_roundw
    case rel => exact ⟨x + 1, by go_num, by omega, Hown4, Hb4⟩
    case measure => simp [intOf] <;> omega
   ·obtain rfl : x = s.length := by omega
    have hrow : ∃ g c, u5 = .slice (some ⟨g, 0, none⟩) s.length c ∧ s.length ≤ c ∧ g < wr.heap.size ∧ ∀ (j : Nat) x, (s.map pairB)[j]? = some x → wr.cell? ⟨g, 0 + j, none⟩ = some (.string x) := by
     have h1 := Hown.out
     rw [List.take_length] at h1
     obtain ⟨g, cap, hv, hge, hgl⟩ := h1.form hs0
     subst hv
     have hrd := Rd.of_own (M := []) h1 (by simp)
     obtain ⟨A', c', he, hc', _, hx⟩ := hrd
     injection he with e1 _ e3
     subst e1 e3
     obtain ⟨g', off', e, _, _, hcell⟩ := hx hs0
     injection e with e
     injection e with e1 e2 _
     subst e1 e2
     refine ⟨g, cap, rfl, hc', hgl, fun j x hjx => hcell j _ ?_⟩
     rw [List.getElem?_map] at hjx ⊢
     cases hsj : s[j]? with
     | none => rw [hsj] at hjx; cases hjx
     | some d => rw [hsj] at hjx; injection hjx with hjx; rw [← hjx]; rfl
    obtain ⟨g, cj, rfl, hcj, hgl, hcell⟩ := hrow
    have hjo := Tryz.strings_Join g 0 cj (s.map pairB) ⟨#[44]⟩ wr hcell hgl (by rw [List.length_map]; omega) (by rw [List.length_map]; exact hcj) (Nat.le_trans hjl.out (by omega))
    rw [List.length_map] at hjo
    have Hjo := Lib.hid (show Calls Tryz.prog 199 #[.slice (some ⟨g, 0, none⟩) s.length cj, .string ⟨#[44]⟩] wr fun e w' => e = .returned (.string (joinB s)) ∧ Below wr.heap.size wr w' from hjo)
    have Hall := Lib.hid (below_then Hb2.out Hbr.out)
    clear hjo hcell
    go_wp2_with fail
    refine Hjo.out.mono ?_
    rintro e w5 ⟨rfl, hb5⟩
    have hp : Hid (TextPost l w (.returned (.tuple #[.string (joinB s), .int .i64 0])) w5) := by
     exact ⟨by rw [hR.out]; rfl, below_then Hall.out hb5⟩
    clear hb5
    go_wp2
    go_ret2
    exact hp.out
 ·have hR : Hid (ltextS l = (⟨#[]⟩, rightS l)) := by show _ = _; rw [HT.out, if_neg hr0]
  obtain ⟨A, c, rfl, hc⟩ := h.len
  have hri2 : ((rightS l : Int) != 0) = true := by simpa using hr0
  clear h HT hr0
  have hp : Hid (∀ w1, Below w.heap.size w w1 → TextPost l w (.returned (.tuple #[.string ⟨#[]⟩, .int .i64 (rightS l)])) w1) := fun w1 hb => ⟨by rw [hR.out], hb⟩
  generalize rightS l = r at *
  go_enter Tryz.func175, Tryz.ntmps175
  go_wp2_with fail
  refine hri.out.mono ?_
  rintro e w1 ⟨rfl, hb1⟩
  have Hp := Lib.hid (hp.out _ hb1)
  clear hb1 hp
  go_wp2
  go_ret2
  exact Hp.out
def partsS (s : ByteArray) : List ByteArray := Lib.splitB ⟨#[44]⟩ 0 (Lib.countB s ⟨#[44]⟩) s
def cutD (p : ByteArray) : LabD := ⟨⟨(Lib.cut p.data.toList [61]).1.toArray⟩, ⟨(Lib.cut p.data.toList [61]).2.1.toArray⟩⟩
def labsS (s : ByteArray) : List LabD := (partsS s).map cutD
/-- Is a text a series? -/
def serOk (s : ByteArray) : Bool := decide ((ltextS (labsS s)).2 = 0) && (ltextS (labsS s)).1.toList == s.toList
theorem splitB_size (sep : ByteArray) : ∀ (k : Nat) (s : ByteArray), ∀ p ∈ Lib.splitB sep 0 k s, p.size ≤ s.size
 | 0, s, p, h => by rw [Lib.splitB_zero] at h; simp at h; subst h; exact Nat.le_refl _
 | k + 1, s, p, h => by
  unfold Lib.splitB at h
  split at h
  ·simp at h; subst h; exact Nat.le_refl _
  ·rcases List.mem_cons.1 h with h | h
   ·subst h; rw [ByteArray.size_extract]; omega
   ·have := splitB_size sep k _ p h
    rw [ByteArray.size_extract] at this
    omega
def ParsePost (s : ByteArray) (w : World) (e : Ending) (w' : World) : Prop := ∃ v, e = .returned (.tuple #[v, .int .i64 (if serOk s = true then 0 else 12)]) ∧ Below w.heap.size w w'
set_option maxRecDepth 100000 in
set_option maxHeartbeats 1000000 in
theorem parse_any (s : ByteArray) (m : Int) (w : World) (hs : s.size < 4294967281) (hm : w.cell? ⟨0, 0, none⟩ = some (.int .i64 m)) :
  Calls Tryz.prog 126 #[.string s] w fun e w' => ParsePost s w e w' := by
 have hsp := Lib.hid (Tryz.strings_Split s ⟨#[44]⟩ m w hs hm (by decide))
 have hsz := Lib.hid (splitB_size ⟨#[44]⟩ (Lib.countB s ⟨#[44]⟩) s)
 have hcl := Lib.countB_le ⟨#[44]⟩ (by decide) s.size s (Nat.le_refl _)
 have hln : (partsS s).length = Lib.countB s ⟨#[44]⟩ + 1 := Lib.splitB_all ⟨#[44]⟩ (by decide) 0 _ s rfl
 have hw0 : 0 < w.heap.size := by
  rcases Nat.eq_zero_or_pos w.heap.size with h | h
  ·exfalso
   have := World.block_lt_of_cell? w _ hm
   simp at this; omega
  ·exact h
 have Hm := Lib.hid hm
 have HO : Hid (serOk s = (decide ((ltextS (labsS s)).2 = 0) && (ltextS (labsS s)).1.toList == s.toList)) := rfl
 have HL : Hid (labsS s = (partsS s).map cutD) := rfl
 obtain ⟨i0, hi0, hz0, hz1, hz2⟩ := info_parts infoLabel
 have Hi0 := Lib.hid hi0; have Hz0 := Lib.hid hz0; have Hz1 := Lib.hid hz1; have Hz2 := Lib.hid hz2
 clear hi0 hz0 hz1 hz2 hm
 have hps : Hid (∀ p ∈ partsS s, p.size ≤ s.size) := hsz.out
 have hpd : Hid (partsS s = Lib.splitB ⟨#[44]⟩ 0 (Lib.countB s ⟨#[44]⟩) s) := rfl
 rw [← hpd.out] at hsp
 rw [← hln] at hsp
 have hlen : (partsS s).length ≤ 4294967295 := by omega
 clear hsz hpd hln hcl
 generalize partsS s = ps at *
 generalize labsS s = ls at *
 go_enter Tryz.func126, Tryz.ntmps126
 go_wp2_with fail
 refine hsp.out.mono ?_
 rintro e w1 ⟨rfl, hw1⟩
 have hb1 : Below w.heap.size w w1 := by rw [hw1]; exact (Below.refl _ _).alloc (Nat.le_refl _) _
 have hB1 : Blk w1 w.heap.size 9 (ps.map Value.string).toArray := by rw [hw1]; exact Blk.new w _ _
 have Hb1 := Lib.hid hb1; have HB1 := Lib.hid hB1
 have hw1s : w.heap.size < w1.heap.size := hB1.lt
 clear hw1 hb1 hB1 hsp
 go_wp2_with fail
 go_loopw [4, 15] (fun out i wr => ∃ x : Nat, i = .int .i64 x ∧ x ≤ ps.length ∧ Hid (wr.ownsRow w1.heap.size 215 2 out x (((ps.take x).map cutD).flatMap labEnc)) ∧ Hid (Below w1.heap.size w1 wr)) (fun _ i _ => ps.length - (intOf i).toNat)
 case atStart => exact ⟨0, rfl, by omega, World.ownsRow_nil _ _ _ _, Below.refl _ _⟩
 case round =>
  obtain ⟨x, rfl, hx, Hown, Hbr⟩ := hrel
  by_cases hlt : x < ps.length
  ·have hx1 : (x : Int) < (ps.length : Int) := by omega
   have c0 : wr.cell? ⟨w.heap.size, x, none⟩ = some (.string ps[x]) := by
    rw [(HB1.out.below Hbr.out hw1s).cell x, List.getElem?_toArray, List.getElem?_map, List.getElem?_eq_getElem hlt]; rfl
   have Htk : Hid (ps.take (x + 1) = ps.take x ++ [ps[x]]) := List.take_succ_eq_append_getElem hlt
   have hpx := hps.out ps[x] (List.getElem_mem _)
   have hmr : wr.cell? ⟨0, 0, none⟩ = some (.int .i64 m) := (Hbr.out.cell (p := ⟨0, 0, none⟩) (by simp; omega)).trans ((Hb1.out.cell (p := ⟨0, 0, none⟩) hw0).trans Hm.out)
   generalize ps[x] = p at *
   have hcu := Lib.hid (Tryz.strings_Cut p ⟨#[61]⟩ m wr (by omega) hmr)
   have Hcd : Hid (cutD p = ⟨⟨(Lib.cut p.data.toList [61]).1.toArray⟩, ⟨(Lib.cut p.data.toList [61]).2.1.toArray⟩⟩) := rfl
   have hcu2 := Lib.hid (show Calls Tryz.prog 174 #[.string p, .string ⟨#[61]⟩] wr fun e w' => e = .returned (.tuple #[.string (cutD p).name, .string (cutD p).value, .bool (Lib.cut p.data.toList [61]).2.2]) ∧ ∃ n, w' = wr.drewN n from hcu.out)
   clear hcu Hcd hmr hpx
   generalize hd : cutD p = d at *
   have Hd := Lib.hid hd
   generalize (Lib.cut p.data.toList [61]).2.2 = fnd at *
   clear hd
   have Htk2 : Hid ((ps.take (x + 1)).map cutD = (ps.take x).map cutD ++ [d]) := by show _ = _; rw [Htk.out, List.map_append, List.map_cons, List.map_nil, Hd.out]
   have hz2 : w1.heap.size ≤ wr.heap.size := Hbr.out.size
   have Hm1 : Hid (x + 1 ≤ maxLen) := by show _ ≤ _; unfold maxLen; omega
   have Hm2 : Hid ((x + 1) * 32 ≤ 140737488355328) := by show _ ≤ _; omega
   have Hone : Hid (∀ u ∈ labEnc d, u.oneCell' = true) := fun u hu => by simp [labEnc] at hu; rcases hu with rfl | rfl <;> rfl
   have Hown3 : Hid (∀ n, ((wr.drewN n).alloc (.cells #[.string d.name, .string d.value] 215)).ownsRow w1.heap.size 215 2 u4 x (((ps.take x).map cutD).flatMap labEnc)) := fun n =>
    own_keep Hown.out (((Keeps.refl [] wr).drewN n).alloc _) (by simp)
   have Hrd : Hid (∀ n, Reads ((wr.drewN n).alloc (.cells #[.string d.name, .string d.value] 215)) (wr.heap.size + 1) 2 (some ⟨wr.heap.size, 0, none⟩) 1 (labEnc d)) := fun n => reads_new (wr.drewN n) 215 2 1 (labEnc d) rfl
   clear Htk Hd
   go_wp2_with fail
   refine hcu2.out.mono ?_
   rintro e w3 ⟨rfl, n, rfl⟩
   go_wp2_with (at_builtin; refine wpList_append_any _ rfl (.tmp 25) (.tmp 29) _ rfl w1.heap.size 215 i0 _ 2 32 Tryz.underlying168 Hi0.out Hz0.out Hz1.out Hz2.out rfl (by omega) u4 x (((ps.take x).map cutD).flatMap labEnc) rfl (Hown3.out n) (wr.heap.size + 1) (some ⟨wr.heap.size, 0, none⟩) 1 1 (labEnc d) rfl (Hrd.out n) Hone.out Hm1.out Hm2.out (by simp; omega) ?_)
   intro v4 w4 hown4 hg4 hat4
   have Hown4 : Hid (w4.ownsRow w1.heap.size 215 2 v4 (x + 1) (((ps.take (x + 1)).map cutD).flatMap labEnc)) := by
    show World.ownsRow _ _ _ _ _ _ _
    rw [Htk2.out, List.flatMap_append]
    simpa using hown4
   have Hb4 : Hid (Below w1.heap.size w1 w4) := (((Keeps.of_below (M := []) Hbr.out).drewN n).alloc _).below.grown hg4 (by simp; omega) (fun g hg => (Hown.out.lt g hg).1)
   clear hown4 hg4 hat4
   go_wp2
   go_roundw
   case rel => exact ⟨x + 1, by go_num, by omega, Hown4, Hb4⟩
   case measure => simp [intOf] <;> omega
  ·obtain rfl : x = ps.length := by omega
   have hown := Hown.out
   rw [List.take_length, ← HL.out] at hown
   have hll : ps.length = ls.length := by rw [HL.out, List.length_map]
   rw [hll] at hown
   have hlab : Labs wr [] u4 ls := Rd.of_own hown (by simp)
   have htx := Lib.hid (show Calls Tryz.prog 175 #[u4] wr fun e w' => e = .returned (.tuple #[.string (ltextS ls).1, .int .i64 (ltextS ls).2]) ∧ Below wr.heap.size wr w' from ltext_any u4 ls wr hlab (by rw [← hll]; omega))
   obtain ⟨A4, c4, rfl, hc4⟩ := hlab.len
   have Hall := Lib.hid (below_then Hb1.out Hbr.out)
   have hp : Hid (∀ v w', Below wr.heap.size wr w' → ParsePost s w (.returned (.tuple #[v, .int .i64 (if serOk s = true then 0 else 12)])) w') := fun v w' hb => ⟨v, rfl, below_then Hall.out hb⟩
   clear hown hlab hll Hown
   generalize ltextS ls = t at *
   obtain ⟨t1, t2⟩ := t
   simp only at HO htx
   go_wp2_with fail
   refine htx.out.mono ?_
   rintro e w5 ⟨rfl, hb5⟩
   by_cases h2 : t2 = 0
   ·subst h2
    by_cases h3 : (t1.toList == s.toList) = true
    ·have hok : Hid (serOk s = true) := by show _ = _; rw [HO.out, h3]; rfl
     have Hp := Lib.hid (hp.out (.slice A4 ls.length ls.length) w5 hb5)
     rw [hok.out, if_pos rfl] at Hp
     clear hp htx hb5
     go_wp2_with fail
     refine (clipLabel A4 ls.length c4 _ hc4).mono ?_
     rintro e w' ⟨rfl, rfl⟩
     go_wp2
     go_ret2
     exact Hp.out
    ·have h3' : (t1.toList == s.toList) = false := by simpa using h3
     have hok : Hid (serOk s = false) := by show _ = _; rw [HO.out, h3']; rfl
     have Hp := Lib.hid (hp.out (.slice none 0 0) w5 hb5)
     rw [hok.out, if_neg (by simp)] at Hp
     clear hp htx hb5 h3
     go_wp2
     go_ret2
     exact Hp.out
   ·have hne : ((t2 : Int) != 0) = true := by simpa using h2
    have hok : Hid (serOk s = false) := by show _ = _; rw [HO.out, decide_eq_false h2]; rfl
    have Hp := Lib.hid (hp.out (.slice none 0 0) w5 hb5)
    rw [hok.out, if_neg (by simp)] at Hp
    clear hp htx hb5 h2
    go_wp2
    go_ret2
    exact Hp.out
end Go.Proofs.YtinnifhnabncfaaGreatDoor.Vi
end
section
namespace Go.Proofs.YtinnifhnabncfaaGreatDoor.Vi
open Go.RowKit Base Mem
def withinB (n e : Int) : Bool := decide (0 ≤ n) && decide (n < e)
theorem within2_any (n e : Int) (w : World) : Calls Tryz.prog 124 #[.int .i64 n, .int .i64 e] w fun r w' => r = .returned (.bool (withinB n e)) ∧ w' = w := by
 by_cases h0 : 0 ≤ n
 ·by_cases h1 : n < e
  ·have hR : Hid (withinB n e = true) := by show _ = _; simp [withinB, h0, h1]
   rw [hR.out]
   go_enter Tryz.func124, Tryz.ntmps124
   go_wp2
   go_ret
   exact ⟨rfl, rfl⟩
  ·have hR : Hid (withinB n e = false) := by show _ = _; simp [withinB, h1]
   rw [hR.out]
   have h1' : decide (n < e) = false := decide_eq_false h1
   go_enter Tryz.func124, Tryz.ntmps124
   go_wp2
   go_ret
   exact ⟨rfl, rfl⟩
 ·have hR : Hid (withinB n e = false) := by show _ = _; simp [withinB, h0]
  rw [hR.out]
  have h0' : decide (0 ≤ n) = false := decide_eq_false h0
  go_enter Tryz.func124, Tryz.ntmps124
  go_wp2
  go_ret
  exact ⟨rfl, rfl⟩
def eqI (a b c d e f : Int) : Bool := a == d && (b == e && c == f)
theorem eqI_run (a b c d e f : Int) (r : Bool) (h : eqI a b c d e f = r) (w : World) : (binOp .eql 23 (.agg #[.int .i64 a, .int .i64 b, .int .i64 c]) (.agg #[.int .i64 d, .int .i64 e, .int .i64 f])).run Tryz.prog w = .ok (.bool r) w := by
 subst h
 have u3 := Tryz.underlying3
 have a3 := Tryz.isAgg3
 have z3 := Tryz.sizeOf3
 have hS : Tryz.prog.underlying 23 = some (.struct (Tryz.prog.fieldsOf 23)) := by kernel_rfl
 have hp : Tryz.prog.stoodInHeld 23 = false := by kernel_rfl
 simp only [eqI]
 rw [run_eql_struct, show (10000 : Nat) = 9999 + 1 from rfl, run_equalIn_agg w 9999 23 _ _ hS hp]
 simp only [Program.fieldsOf, Tryz.underlying23]
 go_simp
 by_cases h1 : a = d <;> by_cases h2 : b = e <;> by_cases h3 : c = f <;> simp [h1, h2, h3]
def kindS (e : EntryD) : Bool := if e.kind = 1 then e.ser.toList.isEmpty else if e.kind = 2 then eqI e.ag e.sh e.seq 0 0 0 && e.ep == 0 && e.ds.length == 0 else false
def BoolPost (b : Bool) (w : World) (r : Ending) (w' : World) : Prop := r = .returned (.bool b) ∧ Below w.heap.size w w'
theorem kind_any (e : EntryD) (A : Option Addr) (c : Nat) (w : World) :
  Calls Tryz.prog 123 #[.agg (eCell (e, .slice A e.ds.length c)).toArray] w fun r w' => BoolPost (kindS e) w r w' := by
 obtain ⟨kind, ag, sh, seq, ep, ds, ser, fr, tag⟩ := e
 have HK : Hid (kindS ⟨kind, ag, sh, seq, ep, ds, ser, fr, tag⟩ = if kind = 1 then ser.toList.isEmpty else if kind = 2 then eqI ag sh seq 0 0 0 && ep == 0 && ds.length == 0 else false) := rfl
 have hb : Hid (∀ o, Below w.heap.size w (w.alloc o)) := fun o => (Below.refl _ _).alloc (Nat.le_refl _) o
 generalize hn : ds.length = n at *
 simp only [eCell]
 clear hn
 by_cases h1 : kind = 1
 ·have hR : Hid (kindS ⟨kind, ag, sh, seq, ep, ds, ser, fr, tag⟩ = ser.toList.isEmpty) := by show _ = _; rw [HK.out, if_pos h1]
  subst h1
  go_enter Tryz.func123, Tryz.ntmps123
  go_wp2
  all_goals go_ret
  all_goals exact ⟨by rw [hR.out]; simp, hb.out _⟩
 ·have h1' : (kind == 1) = false := by simpa using h1
  by_cases h2 : kind = 2
  ·have hR : Hid (kindS ⟨kind, ag, sh, seq, ep, ds, ser, fr, tag⟩ = (eqI ag sh seq 0 0 0 && ep == 0 && n == 0)) := by show _ = _; rw [HK.out, if_neg h1, if_pos h2]
   have h2' : (kind == 2) = true := by simpa using h2
   clear h1 h2
   cases h3 : eqI ag sh seq 0 0 0 with
   | false =>
    have he := fun W => eqI_run ag sh seq 0 0 0 false h3 W
    have hR2 : Hid (kindS ⟨kind, ag, sh, seq, ep, ds, ser, fr, tag⟩ = false) := by show _ = _; rw [hR.out, h3]; rfl
    rw [hR2.out]
    clear h3
    go_enter Tryz.func123, Tryz.ntmps123
    go_wp2
    go_ret
    exact ⟨rfl, hb.out _⟩
   | true =>
    have he := fun W => eqI_run ag sh seq 0 0 0 true h3 W
    have hR1 : Hid (kindS ⟨kind, ag, sh, seq, ep, ds, ser, fr, tag⟩ = (true && ep == 0 && n == 0)) := by show _ = _; rw [hR.out, h3]
    clear h3
    cases h4 : (ep == 0) with
    | false =>
     have hR2 : Hid (kindS ⟨kind, ag, sh, seq, ep, ds, ser, fr, tag⟩ = false) := by show _ = _; rw [hR1.out, h4]; simp
     rw [hR2.out]
     go_enter Tryz.func123, Tryz.ntmps123
     go_wp2
     go_ret
     exact ⟨rfl, hb.out _⟩
    | true =>
     have hR2 : Hid (kindS ⟨kind, ag, sh, seq, ep, ds, ser, fr, tag⟩ = ((n : Int) == 0)) := by
      show _ = _
      rw [hR1.out, h4]
      cases n with
      | zero => rfl
      | succ n =>
       rw [show ((n + 1 : Nat) == 0) = false from rfl]
       symm
       rw [Bool.and_false, beq_eq_false_iff_ne]
       omega
     rw [hR2.out]
     go_enter Tryz.func123, Tryz.ntmps123
     go_wp2
     go_ret
     exact ⟨rfl, hb.out _⟩
  ·have h2' : (kind == 2) = false := by simpa using h2
   have hR : Hid (kindS ⟨kind, ag, sh, seq, ep, ds, ser, fr, tag⟩ = false) := by show _ = _; rw [HK.out, if_neg h1, if_neg h2]
   rw [hR.out]
   clear h1 h2
   go_enter Tryz.func123, Tryz.ntmps123
   go_wp2
   go_ret
   exact ⟨rfl, hb.out _⟩
end Go.Proofs.YtinnifhnabncfaaGreatDoor.Vi
end
section
namespace Go.Proofs.YtinnifhnabncfaaGreatDoor.Vi
open Go.RowKit Base Mem Go.Shelf
instance : Inhabited DeltaD := ⟨⟨⟨#[]⟩, 0⟩⟩
def badId (e : EntryD) : Bool := !(withinB e.ag 8) || !(withinB e.sh 4) || decide (e.seq < 1) || decide (e.ep < 1)
def writtenS (e : EntryD) : Nat := if badId e = true then 1 else if 8 < e.ds.length then 3 else if (e.ds.length == 0 || e.ds.any fun d => d.n == 0) = true then 1 else if (e.ds.all fun d => serOk d.ser) = true then 0 else 12
theorem zero_any (d : DeltaD) (w : World) : Calls Tryz.prog 172 #[.agg #[.string d.ser, .int .u64 d.n]] w fun r w' => r = .returned (.bool (d.n == 0)) ∧ Below w.heap.size w w' := by
 have hb : Hid (∀ o, Below w.heap.size w (w.alloc o)) := fun o => (Below.refl _ _).alloc (Nat.le_refl _) o
 go_enter Tryz.func172, Tryz.ntmps172
 go_wp2
 go_ret
 exact ⟨rfl, hb.out _⟩
theorem ds_cells {w : World} {M : List Nat} {v : Value} {l : List DeltaD} (h : Ds w M v l) (h0 : 0 < l.length) : ∃ g off c, v = .slice (some ⟨g, off, none⟩) l.length c ∧ g < w.heap.size ∧ ∀ j, j < l.length → ∀ i u, (dCell l[j]!)[i]? = some u → w.cell? ⟨g, off + j * 2 + i, none⟩ = some u := by
 obtain ⟨g, off, c, e, _, hg, _, _⟩ := Rd.at_ dCell 2 (fun _ => rfl) h h0
 refine ⟨g, off, c, e, hg, fun j hj i u hu => ?_⟩
 obtain ⟨g2, off2, c2, e2, _, _, _, hx⟩ := Rd.at_ dCell 2 (fun _ => rfl) h hj
 rw [e] at e2
 injection e2 with e2 _ _
 injection e2 with e2
 injection e2 with e3 e4 _
 subst e3 e4
 exact hx i u (by rw [← getElem!_pos l j hj]; exact hu)
theorem anyzero_any (v : Value) (l : List DeltaD) (w : World) (h : Ds w [] v l) (h0 : 0 < l.length) (hl : l.length ≤ 8) :
  Calls Tryz.prog 171 #[v, .func (.func 172) #[] #[]] w fun r w' => r = .returned (.bool (l.any fun d => d.n == 0)) ∧ Below w.heap.size w w' := by
 obtain ⟨g, off, c, rfl, hg, hc⟩ := ds_cells h h0
 have heg : ∀ args w, (callFunc 172 args).run Tryz.prog w = .ok (.enter 172 args) w := enters_of Tryz.func172 (by kernel_rfl) rfl
 have hp : PredBelow Tryz.prog 172 #[] (fun x => .agg (dCell x).toArray) (fun d => d.n == 0) w := fun W x hb => by
  refine Calls.mono (zero_any x W) ?_
  rintro r w' ⟨rfl, hb2⟩
  exact ⟨rfl, hb.trans (hb2.mono hb.size)⟩
 have := AnyQ.slices_ContainsFunc Tryz.containsFuncDelta 2 Tryz.isAgg86 Tryz.sizeOf86 dCell (fun _ => rfl) (fun d => d.n == 0) 172 #[] heg g off l.length c l w hp (Nat.le_refl _) (by omega) hg hc
 rw [List.take_length] at this
 exact this
set_option maxRecDepth 100000 in
set_option maxHeartbeats 1000000 in
theorem written_any (e : EntryD) (dv : Value) (m : Int) (w : World) (h : Ds w [] dv e.ds) (hs : ∀ d ∈ e.ds, d.ser.size < 4294967281) (hl : e.ds.length ≤ 4611686018427387904) (hm : w.cell? ⟨0, 0, none⟩ = some (.int .i64 m)) :
  Calls Tryz.prog 125 #[.agg (eCell (e, dv)).toArray] w fun r w' => NumPost (writtenS e) w r w' := by
 have HW : Hid (writtenS e = if badId e = true then 1 else if 8 < e.ds.length then 3 else if (e.ds.length == 0 || e.ds.any fun d => d.n == 0) = true then 1 else if (e.ds.all fun d => serOk d.ser) = true then 0 else 12) := rfl
 have hw0 : 0 < w.heap.size := by
  have := World.block_lt_of_cell? w _ hm
  simpa using this
 obtain ⟨kind, ag, sh, seq, ep, ds, ser, fr, tag⟩ := e
 simp only [] at h hs hl HW
 have HB : Hid (badId ⟨kind, ag, sh, seq, ep, ds, ser, fr, tag⟩ = (!(withinB ag 8) || !(withinB sh 4) || decide (seq < 1) || decide (ep < 1))) := rfl
 generalize writtenS ⟨kind, ag, sh, seq, ep, ds, ser, fr, tag⟩ = wr0 at *
 generalize badId ⟨kind, ag, sh, seq, ep, ds, ser, fr, tag⟩ = bad at *
 have hwi := Lib.hid (fun a b W => within2_any a b W)
 obtain ⟨A, c, rfl, hc⟩ := h.len
 obtain ⟨w2, hw2⟩ : ∃ w2, w2 = w.alloc (.cells #[.int .i64 kind, .int .i64 ag, .int .i64 sh, .int .i64 seq, .int .i64 ep, .slice A ds.length c, .string ser, .int .i64 fr, .int .i64 tag] 26) := ⟨_, rfl⟩
 have hB : Blk w2 w.heap.size 26 #[.int .i64 kind, .int .i64 ag, .int .i64 sh, .int .i64 seq, .int .i64 ep, .slice A ds.length c, .string ser, .int .i64 fr, .int .i64 tag] := by rw [hw2]; exact Blk.new w _ _
 have hk2 : Keeps [] w w2 := by rw [hw2]; exact (Keeps.refl _ _).alloc _
 have c1 := hB.cell 1; have c2 := hB.cell 2; have c3 := hB.cell 3; have c4 := hB.cell 4; have c5 := hB.cell 5
 simp only [List.getElem?_toArray, List.getElem?_cons_succ, List.getElem?_cons_zero] at c1 c2 c3 c4 c5
 have Hm := Lib.hid hm; have Hs := Lib.hid hs; have Hk2 := Lib.hid hk2; have Hw2 := Lib.hid hw2; have HD := Lib.hid (h.keep hk2 (by simp))
 clear hm hs hk2 hw2 h hB
 show Calls Tryz.prog 125 #[.agg #[.int .i64 kind, .int .i64 ag, .int .i64 sh, .int .i64 seq, .int .i64 ep, .slice A ds.length c, .string ser, .int .i64 fr, .int .i64 tag]] w fun r w' => NumPost wr0 w r w'
 go_enter Tryz.func125, Tryz.ntmps125
 go_upto_region 1 with (fail)
 rw [← Hw2.out]
 go_cut [7] (fun s wx => s = .bool bad ∧ wx = w2)
 case first =>
  cases h1 : withinB ag 8 with
  | false =>
   have hb : Hid (bad = true) := by show _ = _; rw [HB.out, h1]; simp
   clear HB HW
   go_wp2_with (go_at_call 124; refine (hwi.out _ _ _).mono ?_; rintro r w' ⟨rfl, rfl⟩; rw [h1])
   go_meet
   exact ⟨by rw [hb.out], rfl⟩
  | true =>
   cases h2 : withinB sh 4 with
   | false =>
    have hb : Hid (bad = true) := by show _ = _; rw [HB.out, h1, h2]; simp
    clear HB HW
    go_wp2_with (go_at_call 124; refine (hwi.out _ _ _).mono ?_; rintro r w' ⟨rfl, rfl⟩; first | rw [h1] | rw [h2])
    go_meet
    exact ⟨by rw [hb.out], rfl⟩
   | true =>
    by_cases h3 : seq < 1
    ·have hb : Hid (bad = true) := by show _ = _; rw [HB.out, h1, h2, decide_eq_true h3]; simp
     clear HB HW
     go_wp2_with (go_at_call 124; refine (hwi.out _ _ _).mono ?_; rintro r w' ⟨rfl, rfl⟩; first | rw [h1] | rw [h2])
     go_meet
     exact ⟨by rw [hb.out], rfl⟩
    ·have h3' : decide (seq < 1) = false := decide_eq_false h3
     have hb : Hid (bad = decide (ep < 1)) := by show _ = _; rw [HB.out, h1, h2, h3']; simp
     clear HB HW
     by_cases h4 : ep < 1
     ·go_wp2_with (go_at_call 124; refine (hwi.out _ _ _).mono ?_; rintro r w' ⟨rfl, rfl⟩; first | rw [h1] | rw [h2])
      go_meet
      exact ⟨by rw [hb.out, decide_eq_true h4], rfl⟩
     ·have h4' : decide (ep < 1) = false := decide_eq_false h4
      go_wp2_with (go_at_call 124; refine (hwi.out _ _ _).mono ?_; rintro r w' ⟨rfl, rfl⟩; first | rw [h1] | rw [h2])
      go_meet
      exact ⟨by rw [hb.out, h4'], rfl⟩
 case rest =>
  obtain ⟨rfl, rfl⟩ := hcut
  have hbel : Hid (Below w.heap.size w wc) := Hk2.out.below
  have hwc : w.heap.size ≤ wc.heap.size := Hk2.out.size
  clear HB hwi
  cases bad with
  | true =>
   have hR : Hid (wr0 = 1) := by show _ = _; rw [HW.out, if_pos rfl]
   clear HW
   go_wp2
   go_ret
   exact ⟨by rw [hR.out]; rfl, hbel.out⟩
  | false =>
   by_cases h8 : 8 < ds.length
   ·have hR : Hid (wr0 = 3) := by show _ = _; rw [HW.out, if_neg (by simp), if_pos h8]
    have h8i : (8 : Int) < (ds.length : Int) := by omega
    clear HW
    go_wp2
    go_ret
    exact ⟨by rw [hR.out]; rfl, hbel.out⟩
   ·have h8i : decide ((8 : Int) < (ds.length : Int)) = false := decide_eq_false (by omega)
    by_cases hn : ds.length = 0
    ·have hR : Hid (wr0 = 1) := by show _ = _; rw [HW.out, if_neg (by simp), if_neg h8, hn]; rfl
     have hni : ((ds.length : Int) == 0) = true := by rw [beq_iff_eq]; omega
     clear HW
     go_wp2
     go_ret
     exact ⟨by rw [hR.out]; rfl, hbel.out⟩
    ·have hni : ((ds.length : Int) == 0) = false := by rw [beq_eq_false_iff_ne]; omega
     have HW2 : Hid (wr0 = if (ds.any fun d => d.n == 0) = true then 1 else if (ds.all fun d => serOk d.ser) = true then 0 else 12) := by
      show _ = _
      rw [HW.out, if_neg (by simp), if_neg h8, show (ds.length == 0) = false by rw [beq_eq_false_iff_ne]; omega, Bool.false_or]
     have haz := Lib.hid (anyzero_any _ ds wc HD.out (by omega) (by omega))
     clear HW
     generalize (ds.any fun d => d.n == 0) = az at *
     go_wp2_with fail
     refine haz.out.mono ?_
     rintro r w3 ⟨rfl, hb3⟩
     have Hb3 := Lib.hid (below_then hbel.out hb3)
     have HD3 := Lib.hid (HD.out.keep (Keeps.of_below (M := []) hb3) (by simp))
     have hm3 : w3.cell? ⟨0, 0, none⟩ = some (.int .i64 m) := (Hb3.out.cell (p := ⟨0, 0, none⟩) hw0).trans Hm.out
     have Hm3 := Lib.hid hm3
     have d5 : w3.cell? ⟨w.heap.size, 5, none⟩ = some (.slice A ds.length c) := (hb3.cell (p := ⟨w.heap.size, 5, none⟩) (World.block_lt_of_cell? wc _ c5)).trans c5
     clear haz hb3 hm3
     cases az with
     | true =>
      have hR : Hid (wr0 = 1) := by show _ = _; rw [HW2.out, if_pos rfl]
      clear HW2
      go_wp2
      go_ret
      exact ⟨by rw [hR.out]; rfl, Hb3.out⟩
     | false =>
      have HW3 : Hid (wr0 = if (ds.all fun d => serOk d.ser) = true then 0 else 12) := by show _ = _; rw [HW2.out, if_neg (by simp)]
      have hw30 : 0 < w3.heap.size := by have := Hb3.out.size; omega
      clear HW2
      go_wp2_with fail
      go_loopw [49] (fun i wr => ∃ x : Nat, i = .int .i64 x ∧ x ≤ ds.length ∧ Hid (((ds.take x).all fun d => serOk d.ser) = true) ∧ Hid (Below w3.heap.size w3 wr)) (fun i _ => ds.length - (intOf i).toNat)
      case atStart => exact ⟨0, rfl, by omega, rfl, Below.refl _ _⟩
      case round =>
       obtain ⟨x, rfl, hx, Hall, Hbr⟩ := hrel
       by_cases hlt : x < ds.length
       ·have hx1 : (x : Int) < (ds.length : Int) := by omega
        obtain ⟨g, off, _, e1, _, hg, _, hcell⟩ := Rd.at_ dCell 2 (fun _ => rfl) (HD3.out.keep (Keeps.of_below (M := []) Hbr.out) (by simp)) hlt
        obtain rfl : A = some ⟨g, off, none⟩ := by injection e1
        clear e1
        have p0 := hcell 0 _ rfl
        have p1 := hcell 1 _ rfl
        rw [Nat.add_zero] at p0
        have hsx := Hs.out ds[x] (List.getElem_mem _)
        have Hnx : Hid (((ds.take (x + 1)).all fun d => serOk d.ser) = serOk ds[x].ser) := by
         show _ = _
         rw [List.take_succ_eq_append_getElem hlt, List.all_append, Hall.out]; simp
        have Hbad : Hid (serOk ds[x].ser = false → wr0 = 12) := fun h => by
         rw [HW3.out, if_neg]
         intro hall
         rw [List.all_eq_true] at hall
         have := hall ds[x] (List.getElem_mem _)
         rw [h] at this; cases this
        have hcell2 : (wr.alloc (.cells #[.string ds[x].ser, .int .u64 ds[x].n] 86)).cell? ⟨0, 0, none⟩ = some (.int .i64 m) := by
         rw [World.cell?_alloc_lt _ _ _ (by have := Hbr.out.size; simp; omega)]
         exact (Hbr.out.cell (p := ⟨0, 0, none⟩) hw30).trans Hm3.out
        have hpa := Lib.hid (parse_any ds[x].ser m _ hsx hcell2)
        have Hbra : Hid (Below w3.heap.size w3 (wr.alloc (.cells #[.string ds[x].ser, .int .u64 ds[x].n] 86))) := Hbr.out.alloc Hbr.out.size _
        clear hcell hcell2 hsx
        generalize ds[x] = d at *
        obtain ⟨dser, dn⟩ := d
        simp only [] at *
        cases hok : serOk dser with
        | true =>
         have ho : Hid (((ds.take (x + 1)).all fun d => serOk d.ser) = true) := by show _ = _; rw [Hnx.out, hok]
         have hpa2 := Lib.hid (show Calls Tryz.prog 126 #[.string dser] (wr.alloc (.cells #[.string dser, .int .u64 dn] 86)) fun e w' => ∃ v, e = .returned (.tuple #[v, .int .i64 0]) ∧ Below (wr.alloc (.cells #[.string dser, .int .u64 dn] 86)).heap.size (wr.alloc (.cells #[.string dser, .int .u64 dn] 86)) w' by
          have := hpa.out; unfold ParsePost at this; rwa [hok, if_pos rfl] at this)
         clear hpa Hbad Hnx hok
         go_wp2_with fail
         refine hpa2.out.mono ?_
         rintro r w4 ⟨v4, rfl, hb4⟩
         have Hb4 := Lib.hid (below_then Hbra.out hb4)
         clear hb4
         go_wp2
         go_roundw
         case rel => exact ⟨x + 1, by go_num, by omega, ho.out, Hb4.out⟩
         case measure => simp [intOf] <;> omega
        | false =>
         have hR := Lib.hid (Hbad.out hok)
         have hpa2 := Lib.hid (show Calls Tryz.prog 126 #[.string dser] (wr.alloc (.cells #[.string dser, .int .u64 dn] 86)) fun e w' => ∃ v, e = .returned (.tuple #[v, .int .i64 12]) ∧ Below (wr.alloc (.cells #[.string dser, .int .u64 dn] 86)).heap.size (wr.alloc (.cells #[.string dser, .int .u64 dn] 86)) w' by
          have := hpa.out; unfold ParsePost at this; rwa [hok, if_neg (by simp)] at this)
         clear hpa Hbad Hnx hok
         go_wp2_with fail
         refine hpa2.out.mono ?_
         rintro r w4 ⟨v4, rfl, hb4⟩
         have Hb4 := Lib.hid (below_then Hb3.out (below_then Hbra.out hb4))
         clear hb4
         go_wp2
         go_ret
         exact ⟨by rw [hR.out]; rfl, Hb4.out⟩
       ·obtain rfl : x = ds.length := by omega
        have hR : Hid (wr0 = 0) := by
         show _ = _
         have := Hall.out
         rw [List.take_length] at this
         rw [HW3.out, if_pos this]
        go_wp2
        go_ret
        exact ⟨by rw [hR.out]; rfl, below_then Hb3.out Hbr.out⟩
def rightE (e : EntryD) : Nat := if kindS e = false then 12 else if (!(withinB e.fr 8) || decide (e.tag < 0)) = true then 1 else if e.kind = 1 then writtenS e else if serOk e.ser = true then 0 else 12
/-- No text of an entry is longer than the library's search takes. -/
def Short (e : EntryD) : Prop := e.ser.size < 4294967281 ∧ (∀ d ∈ e.ds, d.ser.size < 4294967281) ∧ e.ds.length ≤ 4611686018427387904
set_option maxRecDepth 100000 in
set_option maxHeartbeats 1000000 in
theorem eright_any (e : EntryD) (dv : Value) (m : Int) (w : World) (h : Ds w [] dv e.ds) (hs : Short e) (hm : w.cell? ⟨0, 0, none⟩ = some (.int .i64 m)) :
  Calls Tryz.prog 66 #[.agg (eCell (e, dv)).toArray] w fun r w' => NumPost (rightE e) w r w' := by
 have HR : Hid (rightE e = if kindS e = false then 12 else if (!(withinB e.fr 8) || decide (e.tag < 0)) = true then 1 else if e.kind = 1 then writtenS e else if serOk e.ser = true then 0 else 12) := rfl
 have hw0 : 0 < w.heap.size := by
  have := World.block_lt_of_cell? w _ hm
  simpa using this
 obtain ⟨hs1, hs2, hs3⟩ := hs
 have hkd := Lib.hid (fun A c W => kind_any e A c W)
 have hwr := Lib.hid (fun W (hk : Keeps [] w W) (hmW : W.cell? ⟨0, 0, none⟩ = some (.int .i64 m)) => written_any e dv m W (h.keep hk (by simp)) hs2 hs3 hmW)
 have hpa := Lib.hid (fun W (hmW : W.cell? ⟨0, 0, none⟩ = some (.int .i64 m)) => parse_any e.ser m W hs1 hmW)
 obtain ⟨A, c, rfl, hc⟩ := h.len
 generalize rightE e = rr at *
 generalize kindS e = ks at *
 generalize writtenS e = ws at *
 obtain ⟨kind, ag, sh, seq, ep, ds, ser, fr, tag⟩ := e
 simp only [] at h hs1 hs2 hs3 hkd hwr hpa HR hc
 have hwi := Lib.hid (fun a b W => within2_any a b W)
 obtain ⟨w2, hw2⟩ : ∃ w2, w2 = w.alloc (.cells #[.int .i64 kind, .int .i64 ag, .int .i64 sh, .int .i64 seq, .int .i64 ep, .slice A ds.length c, .string ser, .int .i64 fr, .int .i64 tag] 26) := ⟨_, rfl⟩
 have hB : Blk w2 w.heap.size 26 #[.int .i64 kind, .int .i64 ag, .int .i64 sh, .int .i64 seq, .int .i64 ep, .slice A ds.length c, .string ser, .int .i64 fr, .int .i64 tag] := by rw [hw2]; exact Blk.new w _ _
 have hk2 : Keeps [] w w2 := by rw [hw2]; exact (Keeps.refl _ _).alloc _
 have Hm := Lib.hid hm; have Hk2 := Lib.hid hk2; have Hw2 := Lib.hid hw2; have HB := Lib.hid hB
 clear hm hk2 hw2 h hs1 hs2 hs3
 have hkd2 : Hid (∀ W, Calls Tryz.prog 123 #[.agg #[.int .i64 kind, .int .i64 ag, .int .i64 sh, .int .i64 seq, .int .i64 ep, .slice A ds.length c, .string ser, .int .i64 fr, .int .i64 tag]] W fun r w' => r = .returned (.bool ks) ∧ Below W.heap.size W w') := fun W => hkd.out A c W
 have hwr2 : Hid (∀ W, Keeps [] w W → W.cell? ⟨0, 0, none⟩ = some (.int .i64 m) → Calls Tryz.prog 125 #[.agg #[.int .i64 kind, .int .i64 ag, .int .i64 sh, .int .i64 seq, .int .i64 ep, .slice A ds.length c, .string ser, .int .i64 fr, .int .i64 tag]] W fun r w' => r = .returned (.int .i64 ws) ∧ Below W.heap.size W w') := fun W hk hmW => hwr.out W hk hmW
 clear hkd hwr
 have c0 := hB.cell 0; have c1 := hB.cell 1; have c2 := hB.cell 2; have c3 := hB.cell 3; have c4 := hB.cell 4; have c5 := hB.cell 5; have c6 := hB.cell 6; have c7 := hB.cell 7; have c8 := hB.cell 8
 simp only [List.getElem?_toArray, List.getElem?_cons_succ, List.getElem?_cons_zero] at c0 c1 c2 c3 c4 c5 c6 c7 c8
 clear hB
 show Calls Tryz.prog 66 #[.agg #[.int .i64 kind, .int .i64 ag, .int .i64 sh, .int .i64 seq, .int .i64 ep, .slice A ds.length c, .string ser, .int .i64 fr, .int .i64 tag]] w fun r w' => NumPost rr w r w'
 go_enter Tryz.func66, Tryz.ntmps66
 go_upto_region 1 with (fail)
 rw [← Hw2.out]
 go_wp2_with fail
 refine (hkd2.out _).mono ?_
 rintro r w3 ⟨rfl, hb3⟩
 have hw2s : w.heap.size < w2.heap.size := HB.out.lt
 have HB3 := Lib.hid (HB.out.below hb3 hw2s)
 have Hk3 : Hid (Keeps [] w w3) := Hk2.out.trans (Keeps.of_below (M := []) hb3) (by simp)
 have c0 := HB3.out.cell 0; have c1 := HB3.out.cell 1; have c2 := HB3.out.cell 2; have c3 := HB3.out.cell 3; have c4 := HB3.out.cell 4; have c5 := HB3.out.cell 5; have c6 := HB3.out.cell 6; have c7 := HB3.out.cell 7; have c8 := HB3.out.cell 8
 simp only [List.getElem?_toArray, List.getElem?_cons_succ, List.getElem?_cons_zero] at c0 c1 c2 c3 c4 c5 c6 c7 c8
 have hm3 : Hid (w3.cell? ⟨0, 0, none⟩ = some (.int .i64 m)) := (Hk3.out.cell (p := ⟨0, 0, none⟩) hw0 (by simp)).trans Hm.out
 clear hb3 hkd2
 cases ks with
 | false =>
  have hR : Hid (rr = 12) := by show _ = _; rw [HR.out, if_pos rfl]
  clear HR
  go_wp2
  go_ret
  exact ⟨by rw [hR.out]; rfl, Hk3.out.below⟩
 | true =>
  have HR2 : Hid (rr = if (!(withinB fr 8) || decide (tag < 0)) = true then 1 else if kind = 1 then ws else if serOk ser = true then 0 else 12) := by show _ = _; rw [HR.out, if_neg (by simp)]
  clear HR
  cases h1 : withinB fr 8 with
  | false =>
   have hR : Hid (rr = 1) := by show _ = _; rw [HR2.out, h1]; rfl
   clear HR2
   go_wp2_with (go_at_call 124; refine (hwi.out _ _ _).mono ?_; rintro r w' ⟨rfl, rfl⟩; rw [h1])
   go_ret
   exact ⟨by rw [hR.out]; rfl, Hk3.out.below⟩
  | true =>
   by_cases h2 : tag < 0
   ·have hR : Hid (rr = 1) := by show _ = _; rw [HR2.out, h1, decide_eq_true h2]; rfl
    clear HR2
    go_wp2_with (go_at_call 124; refine (hwi.out _ _ _).mono ?_; rintro r w' ⟨rfl, rfl⟩; rw [h1])
    go_ret
    exact ⟨by rw [hR.out]; rfl, Hk3.out.below⟩
   ·have h2' : decide (tag < 0) = false := decide_eq_false h2
    have HR3 : Hid (rr = if kind = 1 then ws else if serOk ser = true then 0 else 12) := by show _ = _; rw [HR2.out, h1, h2', if_neg (by simp)]
    clear HR2
    by_cases h3 : kind = 1
    ·have hR : Hid (rr = ws) := by show _ = _; rw [HR3.out, if_pos h3]
     have h3' : (kind == 1) = true := by simpa using h3
     have hw := Lib.hid (hwr2.out w3 Hk3.out hm3.out)
     clear HR3 h3 hwr2
     go_wp2_with (go_at_call 124; refine (hwi.out _ _ _).mono ?_; rintro r w' ⟨rfl, rfl⟩; rw [h1])
     refine hw.out.mono ?_
     rintro r w4 ⟨rfl, hb4⟩
     have hb5 := Lib.hid (below_then Hk3.out.below hb4)
     clear hb4
     go_wp2
     go_ret
     exact ⟨by rw [hR.out]; rfl, hb5.out⟩
    ·have h3' : (kind == 1) = false := by simpa using h3
     have hR : Hid (rr = if serOk ser = true then 0 else 12) := by show _ = _; rw [HR3.out, if_neg h3]
     have hp := Lib.hid (hpa.out w3 hm3.out)
     clear HR3 h3 hwr2 hpa
     go_wp2_with (go_at_call 124; refine (hwi.out _ _ _).mono ?_; rintro r w' ⟨rfl, rfl⟩; rw [h1])
     refine hp.out.mono ?_
     rintro r w4 ⟨v4, rfl, hb4⟩
     have hb5 := Lib.hid (below_then Hk3.out.below hb4)
     clear hb4 hp
     cases hok : serOk ser with
     | true =>
      have hR2 : Hid (rr = 0) := by show _ = _; rw [hR.out, hok]; rfl
      simp only [if_true]
      clear hR
      go_wp2
      go_ret
      exact ⟨by rw [hR2.out]; rfl, hb5.out⟩
     | false =>
      have hR2 : Hid (rr = 12) := by show _ = _; rw [hR.out, hok]; rfl
      clear hR
      go_wp2
      go_ret
      exact ⟨by rw [hR2.out]; rfl, hb5.out⟩
def NOk (d : DeltaD) : Prop := 0 ≤ d.n ∧ d.n < 18446744073709551616
/-- The numbers of an entry go into their types. -/
def Wf (e : EntryD) : Prop := e.tag ≤ 9223372036854775807 ∧ e.seq ≤ 9223372036854775807 ∧ e.ep ≤ 9223372036854775807 ∧ ∀ d ∈ e.ds, NOk d

end Go.Proofs.YtinnifhnabncfaaGreatDoor.Vi
end
section
namespace Go.Proofs.YtinnifhnabncfaaGreatDoor.Vi
open Go.RowKit Base Mem

end Go.Proofs.YtinnifhnabncfaaGreatDoor.Vi
end
section
namespace Go.Proofs.YtinnifhnabncfaaGreatDoor.Vi
open Go.RowKit Base Mem Go.Shelf
def addS (a b : Nat) : Nat := if 18446744073709551615 < a + b then 18446744073709551615 else a + b
theorem add_any (a b : Nat) (w : World) (ha : a < 18446744073709551616) (hb : b < 18446744073709551616) :
  Calls Tryz.prog 75 #[.int .u64 a, .int .u64 b] w fun e w' => e = .returned (.int .u64 (addS a b)) ∧ w = w' := by
 by_cases h : 18446744073709551615 < a + b
 ·have hR : Hid (addS a b = 18446744073709551615) := by show _ = _; unfold addS; rw [if_pos h]
  rw [hR.out]
  have hw : IntKind.u64.wrap (18446744073709551615 - (b : Int)) = 18446744073709551615 - (b : Int) := by rw [IntKind.wrap_u64]; omega
  have hi : (18446744073709551615 : Int) - (b : Int) < (a : Int) := by omega
  go_enter Tryz.func75, Tryz.ntmps75
  go_wp2
  go_ret
  exact ⟨rfl, rfl⟩
 ·have hR : Hid (addS a b = a + b) := by show _ = _; unfold addS; rw [if_neg h]
  rw [hR.out]
  have hw : IntKind.u64.wrap (18446744073709551615 - (b : Int)) = 18446744073709551615 - (b : Int) := by rw [IntKind.wrap_u64]; omega
  have hi : decide ((18446744073709551615 : Int) - (b : Int) < (a : Int)) = false := decide_eq_false (by omega)
  have hw2 : IntKind.u64.wrap ((a : Int) + (b : Int)) = (a : Int) + (b : Int) := by rw [IntKind.wrap_u64]; omega
  go_enter Tryz.func75, Tryz.ntmps75
  go_wp2
  go_ret
  exact ⟨ret_int (by simp), rfl⟩


end Go.Proofs.YtinnifhnabncfaaGreatDoor.Vi
end
section
namespace Go.Proofs.YtinnifhnabncfaaGreatDoor.Vi
open Go.RowKit Base Mem


end Go.Proofs.YtinnifhnabncfaaGreatDoor.Vi
end
section
namespace Go.Proofs.YtinnifhnabncfaaGreatDoor.Vi
open Go.RowKit Base Mem Go.Shelf
def zeroA : Array Value := #[.int .i64 0, .int .i64 0, .int .i64 0, .int .i64 0, .int .i64 0, .slice none 0 0, .string ⟨#[]⟩, .int .i64 0, .int .i64 0]
/-- What stands between two calls: the reader, the result's block, the entry's block. -/
structure Re (w0 w : World) (p g0 g5 : Nat) (l : List UInt8) (bad : Bool) (c : Array Value) : Prop where
 rd : RdAt w [g5] p l bad
 keeps : Below w0.heap.size w0 w
 b0 : Blk w g0 26 zeroA
 b5 : Blk w g5 26 c
 o0 : w0.heap.size ≤ g0
 o1 : g0 < p
 o2 : p < g5
theorem Re.set {w0 w : World} {p g0 g5 : Nat} {l : List UInt8} {bad : Bool} {c : Array Value} (h : Re w0 w p g0 g5 l bad c) (i : Nat) (v : Value) : Re w0 (w.setCell ⟨g5, i, none⟩ v) p g0 g5 l bad (c.setIfInBounds i v) := by
 have h0 := h.o0; have h1 := h.o1; have h2 := h.o2
 have hk : Keeps [g5] w (w.setCell ⟨g5, i, none⟩ v) := (Keeps.refl _ _).setCell (by simp) v
 exact ⟨h.rd.keep hk (by simp) (by simp; omega), ((Keeps.of_below (M := []) h.keeps).trans hk (by intro g hg; simp at hg; right; omega)).below, hk.blk h.b0 (by simp; omega), h.b5.set_ i v, h0, h1, h2⟩

def SamePost (r : Bool) (w : World) (e : Ending) (w' : World) : Prop := e = .returned (.bool r) ∧ Below w.heap.size w w'

def kl : List DeltaD := [⟨⟨#[97]⟩, 1⟩, ⟨⟨#[98]⟩, 2⟩, ⟨⟨#[97]⟩, 3⟩]
end Go.Proofs.YtinnifhnabncfaaGreatDoor.Vi
end
section
namespace Go.Proofs.YtinnifhnabncfaaGreatDoor.Tape
open Go.RowKit Base Mem
def withinS (n lo hi : Int) : Int := if lo ≤ n ∧ n ≤ hi then n else lo + n % (hi - lo + 1)
theorem tmod_fix (n m : Int) (hm : 0 < m) : (n.tmod m < 0 → n.tmod m + m = n % m) ∧ (¬ n.tmod m < 0 → n.tmod m = n % m) := by
 have h := Int.tmod_eq_emod (a := n) (b := m)
 have h1 := Int.emod_nonneg n (show m ≠ 0 by omega)
 have h2 := Int.emod_lt_of_pos n hm
 split at h
 ·omega
 ·rename_i hc
  have h3 : n % m ≠ 0 := fun h0 => hc (.inr (Int.dvd_of_emod_eq_zero h0))
  omega
theorem within_bd (n lo hi : Int) (h : lo ≤ hi) : lo ≤ withinS n lo hi ∧ withinS n lo hi ≤ hi := by
 unfold withinS
 have h1 := Int.emod_nonneg n (show hi - lo + 1 ≠ 0 by omega)
 have h2 := Int.emod_lt_of_pos n (show 0 < hi - lo + 1 by omega)
 split <;> omega
theorem within_any (n lo hi : Int) (w : World) (h0 : 0 ≤ lo) (h1 : lo ≤ hi) (h2 : hi ≤ 1073741824) :
  Calls Tryz.prog 22 #[.int .i64 n, .int .i64 lo, .int .i64 hi] w fun e w' => e = .returned (.int .i64 (withinS n lo hi)) ∧ w = w' := by
 by_cases hin : lo ≤ n ∧ n ≤ hi
 ·have Hw : Hid (withinS n lo hi = n) := if_pos hin
  obtain ⟨hi1, hi2⟩ := hin
  go_enter Tryz.func22, Tryz.ntmps22
  go_wp2
  go_ret
  exact ⟨ret_int Hw.out.symm, rfl⟩
 ·have Hw : Hid (withinS n lo hi = lo + n % (hi - lo + 1)) := if_neg hin
  obtain ⟨t1, t2⟩ := tmod_fix n (hi - lo + 1) (by omega)
  have h3 := Int.emod_nonneg n (show hi - lo + 1 ≠ 0 by omega)
  have h4 := Int.emod_lt_of_pos n (show 0 < hi - lo + 1 by omega)
  have hc : n < lo ∨ (lo ≤ n ∧ hi < n) := by omega
  have T1 := Lib.hid t1; have T2 := Lib.hid t2
  clear hin t1 t2
  have hb : n.tmod (hi - lo + 1) < hi - lo + 1 ∧ -(hi - lo + 1) ≤ n.tmod (hi - lo + 1) := by
   have a := T1.out; have b := T2.out
   by_cases hh : n.tmod (hi - lo + 1) < 0
   ·have := a hh; omega
   ·have := b hh; omega
  obtain ⟨hb1, hb2⟩ := hb
  generalize hg : n.tmod (hi - lo + 1) = t at *
  generalize n % (hi - lo + 1) = r at *
  by_cases ht : t < 0
  ·have Hr : Hid (t + hi - lo + 1 = r) := by have := T1.out ht; show _ = _; omega
   rcases hc with hc | ⟨hc, hc2⟩
   all_goals
    go_enter Tryz.func22, Tryz.ntmps22
    go_wp2
    go_ret
    exact ⟨ret_int (by rw [Hw.out, ← Hr.out]), rfl⟩
  ·have Hr : Hid (t = r) := T2.out ht
   rcases hc with hc | ⟨hc, hc2⟩
   all_goals
    go_enter Tryz.func22, Tryz.ntmps22
    go_wp2
    go_ret
    exact ⟨ret_int (by rw [Hw.out, ← Hr.out]), rfl⟩
/-- A tape's numbers, and below which block they lie. -/
structure TapeL where
 l : List Int
 B : Nat
/-- A tape lies in block b: its numbers, how many are read. -/
structure TapeAt (w : World) (b : Nat) (L : TapeL) (k : Nat) : Prop where
 le : k ≤ L.l.length
 max : L.l.length ≤ 9223372036854775807
 low : L.B ≤ b
 mem : ∃ A c, Blk w b 31 #[.slice A L.l.length c, .int .i64 k] ∧ L.l.length ≤ c ∧ (0 < L.l.length → ∃ g off, A = some ⟨g, off, none⟩ ∧ g < L.B ∧ ∀ (j : Nat) (x : Int), L.l[j]? = some x → w.cell? ⟨g, off + j, none⟩ = some (.int .i64 x))
section
variable {w w' : World} {M' : List Nat} {b k : Nat} {L : TapeL}
theorem TapeAt.lt (h : TapeAt w b L k) : b < w.heap.size := by obtain ⟨_, _, _, _, _, hv, _⟩ := h; exact hv.lt
theorem TapeAt.keep2 (h : TapeAt w b L k) (hk : Keeps M' w w') (hM : ∀ g ∈ M', L.B ≤ g ∧ g ≠ b) : TapeAt w' b L k := by
 obtain ⟨h1, h2, h3, A, c, hv, hc, hr⟩ := h
 refine ⟨h1, h2, h3, A, c, hk.blk hv (fun hm => (hM b hm).2 rfl), hc, fun hn => ?_⟩
 obtain ⟨g, off, e, hg, hx⟩ := hr hn
 exact ⟨g, off, e, hg, fun j x hj => (hk.cell (p := ⟨g, off + j, none⟩) (by have := hv.lt; simp; omega) (fun hm => by have := hM g hm; omega)).trans (hx j x hj)⟩
theorem TapeAt.keep (h : TapeAt w b L k) (hk : Keeps M' w w') (hM : ∀ g ∈ M', b < g) : TapeAt w' b L k :=
 h.keep2 hk (fun g hg => by have := hM g hg; have := h.low; omega)
theorem TapeAt.set_at (h : TapeAt w b L k) {j : Nat} (hj : j ≤ L.l.length) : TapeAt (w.setCell ⟨b, 1, none⟩ (.int .i64 j)) b L j := by
 obtain ⟨h1, h2, h3, A, c, hv, hc, hr⟩ := h
 refine ⟨hj, h2, h3, A, c, hv.set_ 1 (.int .i64 j), hc, fun hn => ?_⟩
 obtain ⟨g, off, e, hg, hx⟩ := hr hn
 exact ⟨g, off, e, hg, fun j' x hj' => (World.cell?_setCell_other _ _ _ _ (by intro e; injection e with e1; omega)).trans (hx j' x hj')⟩
theorem TapeAt.drewN (h : TapeAt w b L k) (n : Nat) : TapeAt (w.drewN n) b L k := h.keep (M' := []) ((Keeps.refl _ _).drewN n) (by simp)
theorem TapeAt.cells (h : TapeAt w b L k) : ∃ A c, w.cell? ⟨b, 0, none⟩ = some (.slice A L.l.length c) ∧ L.l.length ≤ c ∧ w.cell? ⟨b, 1, none⟩ = some (.int .i64 k) ∧ w.frozen? ⟨b, 1, none⟩ = false ∧ b < w.heap.size ∧
  (k < L.l.length → ∃ g off x, A = some ⟨g, off, none⟩ ∧ g < w.heap.size ∧ g ≠ b ∧ w.cell? ⟨g, off + k, none⟩ = some (.int .i64 x)) := by
 obtain ⟨h1, h2, h3, A, c, hv, hc, hr⟩ := h
 refine ⟨A, c, hv.cell 0, hc, hv.cell 1, hv.frozen 1, hv.lt, fun hk => ?_⟩
 obtain ⟨g, off, e, hg, hx⟩ := hr (by omega)
 exact ⟨g, off, L.l[k], e, by have := hv.lt; omega, by omega, hx k _ (List.getElem?_eq_getElem hk)⟩
end
theorem next_any (b : Nat) (L : TapeL) (k : Nat) (n : Int) (w : World) (h : TapeAt w b L k) :
  Calls Tryz.prog 62 #[.pointer (some ⟨b, 0, none⟩), .int .i64 n] w fun e w' => ∃ (v : Int) (k' : Nat), e = .returned (.int .i64 v) ∧ 0 ≤ v ∧ (1 ≤ n → v < n) ∧ TapeAt w' b L k' ∧ Keeps [b] w w' := by
 obtain ⟨A, c, c0, hc, c1, f1, hlt, hx⟩ := h.cells
 have hle := h.le
 have hmx := h.max
 have H := Lib.hid h
 by_cases hk : k < L.l.length
 ·by_cases hn : 1 ≤ n
  ·obtain ⟨g, off, x, rfl, hg, hne, hcell⟩ := hx hk
   have hwi := Lib.hid (fun W => within_any x 0 1073741824 W (by omega) (by omega) (by omega))
   have hwb := within_bd x 0 1073741824 (by omega)
   have hcell2 : (w.setCell ⟨b, 1, none⟩ (.int .i64 ((k : Int) + 1))).cell? ⟨g, off + k, none⟩ = some (.int .i64 x) := by
    rw [World.cell?_setCell_other _ _ _ _ (by intro e; injection e with e1; exact hne e1.symm)]; exact hcell
   have hj : ((k : Int) + 1 - 1) = k := by omega
   clear h hx hcell
   generalize withinS x 0 1073741824 = y at *
   have hr1 := Int.emod_nonneg y (show n ≠ 0 by omega)
   have hr2 := Int.emod_lt_of_pos y (show 0 < n by omega)
   have d0 : decide (L.l.length ≤ k) = false := by simp; omega
   have d1 : decide (n < 1) = false := by simp; omega
   go_enter Tryz.func62, Tryz.ntmps62
   go_wp2
   go_quiet (fail)
   go_wp2
   have hT : TapeAt ((w.drewN nq).setCell ⟨b, 1, none⟩ (.int .i64 ((k : Int) + 1))) b L (k + 1) := by
    have := (H.out.drewN nq).set_at (j := k + 1) (by omega)
    rwa [show (((k + 1 : Nat)) : Int) = (k : Int) + 1 by omega] at this
   have hK : Keeps [b] w ((w.drewN nq).setCell ⟨b, 1, none⟩ (.int .i64 ((k : Int) + 1))) := ((Keeps.refl _ _).drewN nq).setCell (by simp) _
   have e0 : ((w.drewN nq).setCell ⟨b, 1, none⟩ (.int .i64 ((k : Int) + 1))).cell? ⟨b, 0, none⟩ = some (.slice (some ⟨g, off, none⟩) L.l.length c) := by
    rw [World.cell?_setCell_other _ _ _ _ (by intro e; injection e with e1 e2; omega)]; exact c0
   have e1 : ((w.drewN nq).setCell ⟨b, 1, none⟩ (.int .i64 ((k : Int) + 1))).cell? ⟨b, 1, none⟩ = some (.int .i64 ((k : Int) + 1)) := by
    obtain ⟨_, _, _, _, _, hv, _⟩ := hT
    have := hv.cell 1
    simpa using this
   have e2 : ((w.drewN nq).setCell ⟨b, 1, none⟩ (.int .i64 ((k : Int) + 1))).cell? ⟨g, off + k, none⟩ = some (.int .i64 x) := hcell2
   clear hcell2 c0 c1 f1
   generalize ((w.drewN nq).setCell ⟨b, 1, none⟩ (.int .i64 ((k : Int) + 1))) = W at *
   have hk0 : (0 : Int) ≤ (k : Int) := by omega
   have hk1 : (k : Int) < (L.l.length : Int) := by omega
   go_quiet ((go_at_call 22; exact quiet_left (hwi.out _)))
   go_wp2
   go_ret
   exact ⟨_, _, rfl, hr1, fun _ => hr2, hT.drewN _, hK.drewN _⟩
  ·have d0 : decide (L.l.length ≤ k) = false := by simp; omega
   have d1 : decide (n < 1) = true := by simp; omega
   clear h hx
   go_enter Tryz.func62, Tryz.ntmps62
   go_wp2
   go_quiet (fail)
   go_wp2
   go_ret
   exact ⟨0, k, rfl, by omega, fun h => by omega, H.out.drewN _, (Keeps.refl _ _).drewN _⟩
 ·have d0 : decide (L.l.length ≤ k) = true := by simp; omega
  clear h hx
  go_enter Tryz.func62, Tryz.ntmps62
  go_wp2
  go_quiet (fail)
  go_wp2
  go_ret
  exact ⟨0, k, rfl, by omega, fun h => by omega, H.out.drewN _, (Keeps.refl _ _).drewN _⟩
def nameL : List (List UInt8) := [[97, 61, 49], [97, 61, 50], [97, 61, 49, 44, 98, 61, 120], [106, 111, 98, 61, 97, 112, 105, 44, 122, 111, 110, 101, 61, 101, 117], [106, 111, 98, 61, 119, 101, 98], [107, 61, 118], [110, 61, 48], [97, 61, 51, 44, 99, 61, 57]]
/-- A series that there is. -/
def NameOk (s : ByteArray) : Prop := ∃ l ∈ nameL, s = ⟨l.toArray⟩
def DeltaOk (d : DeltaD) : Prop := NameOk d.ser ∧ 1 ≤ d.n ∧ d.n ≤ 18446744073709551615
theorem names_any (w : World) : Calls Tryz.prog 107 #[] w fun e w' => e = .returned (.slice (some ⟨w.heap.size, 0, none⟩) 8 8) ∧ Blk w' w.heap.size 9 (nameL.map fun l => Value.string ⟨l.toArray⟩).toArray ∧ Below w.heap.size w w' := by
 go_enter Tryz.func107, Tryz.ntmps107
 go_wp2
 go_ret
 exact ⟨rfl, Blk.new w _ _, below_new' _ _⟩
theorem name_at {w : World} {g j : Nat} (h : Blk w g 9 (nameL.map fun l => Value.string ⟨l.toArray⟩).toArray) (hj : j < 8) : ∃ s, w.cell? ⟨g, j, none⟩ = some (.string s) ∧ NameOk s := by
 have hl : j < nameL.length := hj
 refine ⟨⟨nameL[j].toArray⟩, ?_, nameL[j], List.getElem_mem hl, rfl⟩
 rw [h.cell, List.getElem?_toArray, List.getElem?_map, List.getElem?_eq_getElem hl]
 rfl
theorem series_any (b : Nat) (L : TapeL) (k : Nat) (w : World) (h : TapeAt w b L k) :
  Calls Tryz.prog 55 #[.pointer (some ⟨b, 0, none⟩)] w fun e w' => ∃ (s : ByteArray) (k' : Nat), e = .returned (.string s) ∧ NameOk s ∧ TapeAt w' b L k' ∧ Keeps [b] w w' := by
 have H := Lib.hid h
 obtain ⟨_, _, _, _, _, _, hlt, _⟩ := h.cells
 clear h
 go_enter Tryz.func55, Tryz.ntmps55
 go_wp2_with fail
 refine (names_any w).mono ?_
 rintro e w1 ⟨rfl, hb1, hbel⟩
 have hT := H.out.keep (Keeps.of_below (M := []) hbel) (by simp)
 have Hb1 := Lib.hid hb1; have Hbel := Lib.hid hbel; have HT := Lib.hid hT
 clear hb1 hbel hT
 go_wp2_with fail
 refine (next_any b L k 8 w1 HT.out).mono ?_
 rintro e w2 ⟨v, k', rfl, hv0, hv8, hT2, hK2⟩
 obtain ⟨j, rfl⟩ := Int.eq_ofNat_of_zero_le hv0
 have hj8 : (j : Int) < 8 := hv8 (by omega)
 obtain ⟨s, hs, hok⟩ := name_at (hK2.blk Hb1.out (by simp; omega)) (show j < 8 by omega)
 have HT2 := Lib.hid hT2; have HK := Lib.hid ((Keeps.of_below (M := [b]) Hbel.out).trans hK2 (by simp))
 have Hok := Lib.hid hok
 clear hv8 hT2 hK2 hok
 go_wp2
 go_ret
 exact ⟨s, k', rfl, Hok.out, HT2.out, HK.out⟩
def EntryOk (e : EntryD) : Prop := 0 ≤ e.fr ∧ e.fr < 8 ∧ 0 ≤ e.tag ∧ e.tag < 40 ∧
  ((e.kind = 2 ∧ NameOk e.ser ∧ e.ag = 0 ∧ e.sh = 0 ∧ e.seq = 0 ∧ e.ep = 0 ∧ e.ds = []) ∨
   (e.kind = 1 ∧ e.ser = ByteArray.empty ∧ 0 ≤ e.ag ∧ e.ag < 3 ∧ 0 ≤ e.sh ∧ e.sh < 2 ∧ 1 ≤ e.seq ∧ e.seq ≤ 90 ∧ 1 ≤ e.ep ∧ e.ep ≤ 4 ∧ 1 ≤ e.ds.length ∧ e.ds.length ≤ 4 ∧ ∀ d ∈ e.ds, DeltaOk d))
def zeroE : Array Value := #[.int .i64 0, .int .i64 0, .int .i64 0, .int .i64 0, .int .i64 0, .slice none 0 0, .string ⟨#[]⟩, .int .i64 0, .int .i64 0]
/-- The cells of a block that is known whole. -/
theorem blk_cells {w : World} {g : Nat} {t : TypeId} {c0 c1 c2 c3 c4 c5 c6 c7 c8 : Value} (h : Blk w g t #[c0, c1, c2, c3, c4, c5, c6, c7, c8]) :
  w.cell? ⟨g, 0, none⟩ = some c0 ∧ w.cell? ⟨g, 1, none⟩ = some c1 ∧ w.cell? ⟨g, 2, none⟩ = some c2 ∧ w.cell? ⟨g, 3, none⟩ = some c3 ∧ w.cell? ⟨g, 4, none⟩ = some c4 ∧ w.cell? ⟨g, 5, none⟩ = some c5 ∧ w.cell? ⟨g, 6, none⟩ = some c6 ∧ w.cell? ⟨g, 7, none⟩ = some c7 ∧ w.cell? ⟨g, 8, none⟩ = some c8 ∧ (∀ i, w.frozen? ⟨g, i, none⟩ = false) :=
 ⟨h.cell 0, h.cell 1, h.cell 2, h.cell 3, h.cell 4, h.cell 5, h.cell 6, h.cell 7, h.cell 8, h.frozen⟩
/-- What is known between two calls: the tape, the result's block g0, the entry's block g1. -/
structure St (w0 w : World) (b : Nat) (L : TapeL) (k g0 g1 : Nat) (c1 : Array Value) : Prop where
 tape : TapeAt w b L k
 keeps : Keeps [b] w0 w
 b0 : Blk w g0 26 zeroE
 b1 : Blk w g1 26 c1
 lt0 : b < g0
 lt1 : g0 < g1
 old : w0.heap.size ≤ g0
theorem St.set {w0 w : World} {b : Nat} {L : TapeL} {k g0 g1 : Nat} {c1 : Array Value} (h : St w0 w b L k g0 g1 c1) (i : Nat) (v : Value) : St w0 (w.setCell ⟨g1, i, none⟩ v) b L k g0 g1 (c1.setIfInBounds i v) := by
 have hk : Keeps [g1] w (w.setCell ⟨g1, i, none⟩ v) := (Keeps.refl _ _).setCell (by simp) v
 have := h.lt0; have := h.lt1; have := h.old
 exact ⟨h.tape.keep hk (by intro g hg; simp at hg; omega), h.keeps.trans hk (by intro g hg; simp at hg; right; omega), hk.blk h.b0 (by simp; omega), h.b1.set_ i v, h.lt0, h.lt1, h.old⟩
theorem St.keep {w0 w w' : World} {b : Nat} {L : TapeL} {k k' g0 g1 : Nat} {c1 : Array Value} (h : St w0 w b L k g0 g1 c1) (hT : TapeAt w' b L k') (hk : Keeps [b] w w') : St w0 w' b L k' g0 g1 c1 := by
 have := h.lt0; have := h.lt1; have := h.old
 exact ⟨hT, h.keeps.trans hk (by simp), hk.blk h.b0 (by simp; omega), hk.blk h.b1 (by simp; omega), h.lt0, h.lt1, h.old⟩
end Go.Proofs.YtinnifhnabncfaaGreatDoor.Tape
end
section
namespace Go.Proofs.YtinnifhnabncfaaGreatDoor.Vi
open Go.RowKit Base Mem Tape
set_option maxRecDepth 100000 in
theorem names_ok : (nameL.all fun l => serOk ⟨l.toArray⟩) = true := by decide +kernel
theorem names_len : (nameL.all fun l => decide (l.length ≤ 100)) = true := by decide
theorem name_ser {s : ByteArray} (h : NameOk s) : serOk s = true ∧ s.size ≤ 100 := by
 obtain ⟨l, hl, rfl⟩ := h
 refine ⟨List.all_eq_true.1 names_ok l hl, ?_⟩
 have := List.all_eq_true.1 names_len l hl
 show l.toArray.size ≤ 100
 simpa using this
theorem entry_right {e : EntryD} (h : EntryOk e) : rightE e = 0 ∧ Short e ∧ Wf e := by
 obtain ⟨h1, h2, h3, h4, h5⟩ := h
 have hw : withinB e.fr 8 = true := by simp [withinB]; omega
 have ht : decide (e.tag < 0) = false := decide_eq_false (by omega)
 rcases h5 with ⟨hk, hn, ha, hs, hq, hp, hd⟩ | ⟨hk, hse, a0, a1, s0, s1, q0, q1, p0, p1, d0, d1, hd⟩
 ·obtain ⟨hser, hsz⟩ := (name_ser hn)
  refine ⟨?_, ⟨by omega, by simp [hd], by simp [hd]⟩, by omega, by omega, by omega, by simp [hd]⟩
  unfold rightE kindS
  rw [hw, ht, hk, ha, hs, hq, hp, hd, hser]
  rfl
 ·refine ⟨?_, ⟨by rw [hse]; decide, fun d hx => by have := (name_ser (hd d hx).1).2; omega, by omega⟩, by omega, by omega, by omega, fun d hx => ⟨by have := (hd d hx).2; omega, by have := (hd d hx).2; omega⟩⟩
  have hb : badId e = false := by
   unfold badId withinB
   simp; omega
  have h0 : (e.ds.length == 0 || e.ds.any fun d => d.n == 0) = false := by
   rw [Bool.or_eq_false_iff]
   refine ⟨by simp; intro h; rw [h] at d0; simp at d0, ?_⟩
   rw [List.any_eq_false]
   intro d hx
   have := (hd d hx).2
   simp; omega
  have hall : (e.ds.all fun d => serOk d.ser) = true := by
   rw [List.all_eq_true]
   exact fun d hx => (name_ser (hd d hx).1).1
  have hse2 : e.ser.toList.isEmpty = true := by rw [hse]; decide +kernel
  unfold rightE kindS writtenS
  rw [hw, ht, hb, h0, hall, hk, hse2, if_neg (by simp), if_neg (by simp), if_pos rfl, if_neg (by simp), if_neg (by omega), if_neg (by simp), if_pos rfl]
/-- A shard: its floor, its mask, its refused batches. -/
structure ShD where
 f : Int
 m : Nat
 bad : List Int
structure McD where
 DS : DataW Unit
 DE : DataW Unit
 sh : Lit → Option ShD
def McD.get (st : McD) (kl : Lit) : ShD := (st.sh kl).getD ⟨0, 0, []⟩
open Classical in
noncomputable def McD.set (st : McD) (kl : Lit) (s : ShD) : McD := { st with sh := fun k => if k = kl then some s else st.sh k }
theorem McD.get_set (st : McD) (kl : Lit) (s : ShD) : (st.set kl s).get kl = s := by simp [McD.get, McD.set]
theorem McD.get_other (st : McD) {kl k : Lit} (s : ShD) (h : k ≠ kl) : (st.set kl s).get k = st.get k := by simp [McD.get, McD.set, h]
theorem McD.sh_set (st : McD) (kl : Lit) (s : ShD) : (st.set kl s).sh kl = some s := by simp [McD.set]
theorem McD.sh_other (st : McD) {kl k : Lit} (s : ShD) (h : k ≠ kl) : (st.set kl s).sh k = st.sh k := by simp [McD.set, h]
def ShD.seen (s : ShD) (n : Int) : Bool := Win.seenW s.f s.m n
def ShD.add (s : ShD) (n : Int) : ShD := { s with f := (Win.addW s.f s.m n).1, m := (Win.addW s.f s.m n).2 }
/-- A number put among others, in order. -/
def insI (l : List Int) (n : Int) : List Int := (l ++ [n]).mergeSort (fun a b => decide (a ≤ b))
/-- A batch is counted, or refused for good. -/
noncomputable def countM (st : McD) (kl : Lit) (e : EntryD) : Int × McD :=
 if mayS st.DS e.ds = 0 then (1, ({ st with DS := addL st.DS e.ds } : McD).set kl ((st.get kl).add e.seq))
 else if 8 ≤ (st.get kl).bad.length then (5, st)
 else (3, st.set kl ({ (st.get kl) with bad := insI (st.get kl).bad e.seq }.add e.seq))
def ekey (a : Int) : Lit := .int .i64 a
def stE (st : McD) (e : EntryD) : McD := { st with DE := st.DE.put (ekey e.ag) (.lit (.int .i64 e.ep)) }
/-- An entry's answer: code, number, and what the machine is then. -/
noncomputable def applyM (st : McD) (kl : Lit) (e : EntryD) : Int × Int × McD :=
 if rightE e = 0 then
  if e.kind = 2 then (8, numAt .u64 st.DS (skey e.ser), st)
  else if (st.get kl).seen e.seq = true then (if e.seq ∈ (st.get kl).bad then 3 else 2, 0, st)
  else if e.ep < numAt .i64 st.DE (ekey e.ag) then (4, 0, st)
  else if Win.farW (st.get kl).f e.seq = true then (5, 0, stE st e)
  else ((countM (stE st e) kl e).1, 0, (countM (stE st e) kl e).2)
 else (0, 0, st)
/-- A window lies in block g: its floor, its mask. -/
def WnAt (w : World) (g : Nat) (f : Int) (m : Nat) : Prop := Blk w g 204 #[.int .i64 f, .int .u64 m] ∧ 0 ≤ f ∧ f ≤ 4611686018427387904 ∧ m < 18446744073709551616
theorem WnAt.keep {w w' : World} {M : List Nat} {g : Nat} {f : Int} {m : Nat} (h : WnAt w g f m) (hk : Keeps M w w') (hg : g ∉ M) : WnAt w' g f m := ⟨hk.blk h.1 hg, h.2⟩
theorem wnnew_any (w : World) :
  Calls Tryz.prog 158 #[] w fun e w' => e = .returned (.pointer (some ⟨w.heap.size, 0, none⟩)) ∧ WnAt w' w.heap.size 0 0 ∧ Below w.heap.size w w' := by
 have hR : Hid (WnAt (w.alloc (.cells #[.int .i64 0, .int .u64 0] 204)) w.heap.size 0 0) := ⟨Blk.new w _ _, by omega, by omega, by omega⟩
 go_enter Tryz.func158, Tryz.ntmps158
 go_wp2
 go_ret
 exact ⟨rfl, hR.out, below_new' w _⟩
theorem wnat_any (g : Nat) (f : Int) (m : Nat) (n : Int) (w : World) (h : WnAt w g f m) (hn : n ≤ 9223372036854775807) (hf : f < n) :
  Calls Tryz.prog 159 #[.pointer (some ⟨g, 0, none⟩), .int .i64 n] w fun e w' => e = .returned (.int .u64 (n - f - 1)) ∧ w = w' := by
 obtain ⟨hb, h0, h1, h2⟩ := h
 have c0 := hb.cell 0; have c1 := hb.cell 1
 simp only [List.getElem?_toArray, List.getElem?_cons_succ, List.getElem?_cons_zero] at c0 c1
 clear hb
 have e1 : IntKind.u64.wrap n = n := by rw [IntKind.wrap_u64]; omega
 have e2 : IntKind.u64.wrap f = f := by rw [IntKind.wrap_u64]; omega
 have e3 : IntKind.u64.wrap (n - f) = n - f := by rw [IntKind.wrap_u64]; omega
 have e4 : IntKind.u64.wrap (n - f - 1) = n - f - 1 := by rw [IntKind.wrap_u64]; omega
 go_enter Tryz.func159, Tryz.ntmps159
 go_wp2
 go_ret
 exact ⟨rfl, rfl⟩
theorem wnfar_any (g : Nat) (f : Int) (m : Nat) (n : Int) (w : World) (h : WnAt w g f m) (hn : n ≤ 9223372036854775807) :
  Calls Tryz.prog 112 #[.pointer (some ⟨g, 0, none⟩), .int .i64 n] w fun e w' => e = .returned (.bool (Win.farW f n)) ∧ w = w' := by
 have hat := Lib.hid (fun hf => wnat_any g f m n w h hn hf)
 obtain ⟨hb, h0, h1, h2⟩ := h
 have c0 := hb.cell 0; have c1 := hb.cell 1
 simp only [List.getElem?_toArray, List.getElem?_cons_succ, List.getElem?_cons_zero] at c0 c1
 clear hb
 by_cases hf : f < n
 ·have hp : Hid (∀ b, b = Win.farW f n → Ending.returned (.bool b) = .returned (.bool (Win.farW f n))) := fun b h => by rw [h]
  have hfi : decide (f < n) = true := decide_eq_true hf
  have hq : Hid (decide (64 ≤ n - f - 1) = Win.farW f n) := by show _ = _; unfold Win.farW; rw [decide_eq_true hf, Bool.true_and]
  have Hat := Lib.hid (hat.out hf)
  clear hat
  generalize Win.farW f n = r at *
  go_enter Tryz.func112, Tryz.ntmps112
  go_wp2_with fail
  refine Hat.out.mono ?_
  rintro e w1 ⟨rfl, rfl⟩
  have hq' := hq.out
  go_wp2
  go_ret
  exact ⟨rfl, rfl⟩
 ·have hfi : decide (f < n) = false := decide_eq_false hf
  have hq : Hid (Win.farW f n = false) := by show _ = _; unfold Win.farW; rw [decide_eq_false hf, Bool.false_and]
  rw [hq.out]
  clear hat
  go_enter Tryz.func112, Tryz.ntmps112
  go_wp2
  go_ret
  exact ⟨rfl, rfl⟩
set_option maxRecDepth 100000 in
theorem wnseen_any (g : Nat) (f : Int) (m : Nat) (n : Int) (w : World) (h : WnAt w g f m) (hn : n ≤ 9223372036854775807) :
  Calls Tryz.prog 110 #[.pointer (some ⟨g, 0, none⟩), .int .i64 n] w fun e w' => e = .returned (.bool (Win.seenW f m n)) ∧ ∃ q, w' = w.drewN q := by
 have HW : Hid (∀ q, WnAt (w.drewN q) g f m) := fun q => h.keep (M := []) ((Keeps.refl _ _).drewN q) (by simp)
 have HF : Hid (∀ q, Calls Tryz.prog 112 #[.pointer (some ⟨g, 0, none⟩), .int .i64 n] (w.drewN q) fun e w' => e = .returned (.bool (Win.farW f n)) ∧ w.drewN q = w') := fun q => wnfar_any g f m n _ (HW.out q) hn
 have HA : Hid (f < n → ∀ q, Calls Tryz.prog 159 #[.pointer (some ⟨g, 0, none⟩), .int .i64 n] (w.drewN q) fun e w' => e = .returned (.int .u64 (n - f - 1)) ∧ w.drewN q = w') := fun hf q => wnat_any g f m n _ (HW.out q) hn hf
 obtain ⟨hb, h0, h1, h2⟩ := h
 have c0 := hb.cell 0; have c1 := hb.cell 1
 simp only [List.getElem?_toArray, List.getElem?_cons_succ, List.getElem?_cons_zero] at c0 c1
 clear hb HW
 by_cases hf : n ≤ f
 ·have hfi : decide (n ≤ f) = true := decide_eq_true hf
  have hq : Hid (Win.seenW f m n = true) := by show _ = _; unfold Win.seenW; rw [decide_eq_true hf, Bool.true_or]
  rw [hq.out]
  clear HF HA
  go_enter Tryz.func110, Tryz.ntmps110
  go_wp2_with fail
  go_quiet (fail)
  go_wp2
  go_ret
  exact ⟨rfl, nq, rfl⟩
 ·have hfi : decide (n ≤ f) = false := decide_eq_false hf
  have HA2 := Lib.hid (HA.out (by omega))
  clear HA
  cases hfar : Win.farW f n with
  | true =>
   rw [hfar] at HF
   have hq : Hid (Win.seenW f m n = false) := by
    show _ = _
    unfold Win.farW at hfar
    unfold Win.seenW
    rw [Bool.and_eq_true, decide_eq_true_eq, decide_eq_true_eq] at hfar
    rw [hfi, Bool.false_or, decide_eq_false (by omega), Bool.false_and]
   rw [hq.out]
   clear HA2
   go_enter Tryz.func110, Tryz.ntmps110
   go_wp2_with fail
   go_quiet ((go_at_call 112; exact quiet_left (HF.out _)))
   go_wp2
   go_ret
   exact ⟨rfl, nq, rfl⟩
  | false =>
   rw [hfar] at HF
   have hj : Hid (0 ≤ n - f - 1 ∧ n - f - 1 < 64) := by
    show _ ∧ _
    unfold Win.farW at hfar
    rw [Bool.and_eq_false_iff, decide_eq_false_iff_not, decide_eq_false_iff_not] at hfar
    omega
   obtain ⟨j, Hj⟩ : ∃ j : Nat, Hid (n - f - 1 = (j : Int)) := ⟨(n - f - 1).toNat, by show _ = _; have := hj.out; omega⟩
   have hj64 : j < 64 := by have := hj.out; have := Hj.out; omega
   rw [Hj.out] at HA2
   clear hj
   go_enter Tryz.func110, Tryz.ntmps110
   go_wp2_with fail
   go_quiet (first | (go_at_call 112; exact quiet_left (HF.out _)) | (go_at_call 159; exact quiet_left (HA2.out _)))
   go_wp2
   go_ret
   have e1 : ((m : Int) / 2 ^ j) = ((m / 2 ^ j : Nat) : Int) := by rw [Int.natCast_ediv, Int.natCast_pow]; rfl
   have hlt : m / 2 ^ j < 18446744073709551616 := Nat.lt_of_le_of_lt (Nat.div_le_self _ _) h2
   have e2 : bits .and .u64 ((m : Int) / 2 ^ j) 1 = ((m / 2 ^ j % 2 : Nat) : Int) := by
    rw [e1, show (1 : Int) = ((1 : Nat) : Int) from rfl, u64_and_nat _ _ hlt (by omega), Nat.and_one_is_mod]
   have hq : Win.seenW f m n = (bits .and .u64 ((m : Int) / 2 ^ j) 1 == 1) := by
    unfold Win.seenW
    rw [hfi, Bool.false_or, Hj.out, decide_eq_true (show (j : Int) < 64 by omega), Bool.true_and, Int.toNat_natCast, e2, Nat.testBit_eq_decide_div_mod_eq, Bool.eq_iff_iff, decide_eq_true_eq, beq_iff_eq]
    omega
   rw [hq]
   exact ⟨rfl, nq, rfl⟩
theorem wnfloor_any (g : Nat) (f : Int) (m : Nat) (w : World) (h : WnAt w g f m) :
  Calls Tryz.prog 164 #[.pointer (some ⟨g, 0, none⟩)] w fun e w' => e = .returned (.int .i64 f) ∧ w = w' := by
 obtain ⟨hb, h0, h1, h2⟩ := h
 have c0 := hb.cell 0
 simp only [List.getElem?_toArray, List.getElem?_cons_succ, List.getElem?_cons_zero] at c0
 clear hb
 go_enter Tryz.func164, Tryz.ntmps164
 go_wp2
 go_ret
 exact ⟨rfl, rfl⟩
theorem bdrewW {B : Nat} {a w : World} (h : Below B a w) : Below B a w.drew := ⟨h.os, h.tape, h.output, h.size, h.block⟩
theorem wnat_cells {w : World} {g : Nat} {f : Int} {m : Nat} (h : WnAt w g f m) : w.cell? ⟨g, 0, none⟩ = some (.int .i64 f) ∧ w.cell? ⟨g, 1, none⟩ = some (.int .u64 m) ∧ w.frozen? ⟨g, 0, none⟩ = false ∧ w.frozen? ⟨g, 1, none⟩ = false :=
 ⟨h.1.cell 0, h.1.cell 1, h.1.frozen 0, h.1.frozen 1⟩
theorem normW_even_stop {k : Nat} {f : Int} {m : Nat} (h : m % 2 = 0) : Win.normW k f m = (f, m) := by
 cases k with
 | zero => rfl
 | succ k => rw [Win.normW, if_neg (by omega)]
def wnLeft (g : Nat) (w : World) : Nat := match w.cell? ⟨g, 1, none⟩ with | some (.int _ c) => c.toNat | _ => 0
theorem wnLeft_of {w : World} {g : Nat} {f : Int} {m : Nat} (h : WnAt w g f m) : wnLeft g w = m := by
 unfold wnLeft
 rw [(wnat_cells h).2.1]
 exact Int.toNat_natCast _
def WdPost (g : Nat) (r : Int × Nat) (w : World) (e : Ending) (w' : World) : Prop := e = .returned (.bool true) ∧ WnAt w' g r.1 r.2 ∧ Keeps [g] w w'
set_option maxRecDepth 100000 in
set_option maxHeartbeats 2000000 in
theorem wnadd_any (g : Nat) (f : Int) (m : Nat) (n : Int) (w : World) (h : WnAt w g f m) (hn : n ≤ 9223372036854775807) (hs : Win.seenW f m n = false) (hfar : Win.farW f n = false) (hf : f ≤ 4611686018427387000) :
  Calls Tryz.prog 163 #[.pointer (some ⟨g, 0, none⟩), .int .i64 n] w fun e w' => WdPost g (Win.addW f m n) w e w' := by
 have hlt : f < n := by
  unfold Win.seenW at hs
  rw [Bool.or_eq_false_iff, decide_eq_false_iff_not] at hs
  omega
 have hj64 : n - f - 1 < 64 := by
  unfold Win.farW at hfar
  rw [Bool.and_eq_false_iff, decide_eq_false_iff_not, decide_eq_false_iff_not] at hfar
  omega
 obtain ⟨j, Hj⟩ : ∃ j : Nat, Hid (n - f - 1 = (j : Int)) := ⟨(n - f - 1).toNat, by show _ = _; omega⟩
 have hj : j < 64 := by have := Hj.out; omega
 have HF := Lib.hid (wnfar_any g f m n w h hn)
 have HS := Lib.hid (wnseen_any g f m n w h hn)
 rw [hfar] at HF
 rw [hs] at HS
 obtain ⟨hb, h0, h1, h2⟩ := id h
 have HA0 : Hid (Win.addW f m n = Win.normW 64 f (m ||| 2 ^ j)) := by show _ = _; unfold Win.addW; rw [Hj.out, Int.toNat_natCast]
 have HW := Lib.hid h
 clear h hs hfar hb hj64
 go_enter Tryz.func163, Tryz.ntmps163
 go_wp2_with fail
 refine HF.out.mono ?_
 rintro e w1 ⟨rfl, rfl⟩
 clear HF
 go_wp2_with fail
 refine HS.out.mono ?_
 rintro e w1 ⟨rfl, nq, rfl⟩
 clear HS
 have HW1 : Hid (WnAt (w.drewN nq) g f m) := HW.out.keep (M := []) ((Keeps.refl _ _).drewN nq) (by simp)
 have Hk1 : Hid (Keeps [] w (w.drewN nq)) := (Keeps.refl _ _).drewN nq
 go_upto_region 3 with (fail)
 generalize w.drewN nq = wa at *
 have HSB : Hid (∀ W, Below wa.heap.size wa W → WnAt W g f m) := fun W hb => HW1.out.keep (M := []) (Keeps.of_below hb) (by simp)
 have HAT : Hid (∀ W, Below wa.heap.size wa W → Calls Tryz.prog 159 #[.pointer (some ⟨g, 0, none⟩), .int .i64 n] W fun e w' => e = .returned (.int .u64 j) ∧ W = w') := fun W hb => by
  have := wnat_any g f m n W (HSB.out W hb) hn hlt
  rw [Hj.out] at this
  exact this
 obtain ⟨m2, Hm2⟩ : ∃ m2 : Nat, Hid (m2 = m ||| 2 ^ j) := ⟨_, rfl⟩
 have hm2 : m2 < 18446744073709551616 := by rw [Hm2.out]; exact Win.or_lt h2 hj
 have hwj : IntKind.u64.wrap (2 ^ j) = (2 : Int) ^ j := by
  have hp64 : (2 : Nat) ^ j < 2 ^ 64 := Nat.pow_lt_pow_right (by omega) hj
  rw [show (2 : Int) ^ j = ((2 ^ j : Nat) : Int) by rw [Int.natCast_pow]; rfl, IntKind.wrap_u64]
  generalize (2 : Nat) ^ j = p at *
  omega
 have hor : bits .or .u64 (m : Int) (2 ^ j) = (m2 : Int) := by
  have hp64 : (2 : Nat) ^ j < 2 ^ 64 := Nat.pow_lt_pow_right (by omega) hj
  rw [show (2 : Int) ^ j = ((2 ^ j : Nat) : Int) by rw [Int.natCast_pow]; rfl, Hm2.out]
  exact u64_or_nat m (2 ^ j) h2 hp64
 obtain ⟨w0, w1, x0, x1⟩ := wnat_cells HW1.out
 go_cut [] (fun wx => Hid (WnAt wx g f m2) ∧ Hid (Keeps [g] w wx))
 case first =>
  go_region_with (go_at_call 159; refine (HAT.out _ (bdrewW (Below.refl _ wa))).mono ?_; rintro e w7 ⟨rfl, rfl⟩)
  all_goals
   have hF : Hid (WnAt ((wa.setCell ⟨g, 1, none⟩ (.int .u64 m2)).drew) g f m2) := by
    have hb := HW1.out.1.set_ 1 (.int .u64 m2)
    refine ⟨?_, h0, h1, hm2⟩
    show Blk (wa.setCell ⟨g, 1, none⟩ (.int .u64 m2)) g _ _
    simpa using hb
   have hK : Hid (Keeps [g] w ((wa.setCell ⟨g, 1, none⟩ (.int .u64 m2)).drew)) := ((Hk1.out.mono (M' := [g]) (by simp)).setCell (by simp) _).drew
   go_wp2_with fail
   go_meet
   exact ⟨hF, hK⟩
 case rest =>
  clear w0 w1 x0 x1 hor hwj HSB HAT HW1 Hk1
  rw [← Hm2.out] at HA0
  go_wp2_with fail
  go_loopw [] (fun wr => ∃ (k : Nat) (f' : Int) (m' : Nat), m' < 2 ^ k ∧ f' + k ≤ f + 64 ∧ Hid (WnAt wr g f' m') ∧ Hid (Win.addW f m n = Win.normW k f' m') ∧ Hid (Keeps [g] w wr)) (fun wr => wnLeft g wr)
  case atStart => exact ⟨64, f, m2, hm2, by omega, hcut.1, HA0, hcut.2⟩
  case round =>
   obtain ⟨k, f', m', hmk, hfk, HWr, HAr, HKr⟩ := hrel
   obtain ⟨_, hf0, hf1, hm64⟩ := HWr.out
   obtain ⟨c0, c1, z0, z1⟩ := wnat_cells HWr.out
   have hand : bits .and .u64 (m' : Int) 1 = ((m' % 2 : Nat) : Int) := by
    rw [show (1 : Int) = ((1 : Nat) : Int) from rfl, u64_and_nat _ _ hm64 (by omega), Nat.and_one_is_mod]
   by_cases hodd : m' % 2 = 1
   ·rw [hodd] at hand
    have hand1 : bits .and .u64 (m' : Int) 1 = 1 := hand
    clear hand
    obtain ⟨k, rfl⟩ : ∃ k', k = k' + 1 := by
     rcases k with _ | k
     ·rw [Nat.pow_zero] at hmk; omega
     ·exact ⟨k, rfl⟩
    have hfb : f' < 4611686018427387904 := by omega
    have hWn : Hid (WnAt ((wr.setCell ⟨g, 0, none⟩ (.int .i64 (f' + 1))).setCell ⟨g, 1, none⟩ (.int .u64 ((m' / 2 : Nat) : Int))) g (f' + 1) (m' / 2)) := by
     have hb := (HWr.out.1.set_ 0 (.int .i64 (f' + 1))).set_ 1 (.int .u64 ((m' / 2 : Nat) : Int))
     refine ⟨?_, by omega, by omega, by omega⟩
     simpa using hb
    have hKn : Hid (Keeps [g] w ((wr.setCell ⟨g, 0, none⟩ (.int .i64 (f' + 1))).setCell ⟨g, 1, none⟩ (.int .u64 ((m' / 2 : Nat) : Int)))) := (HKr.out.setCell (by simp) _).setCell (by simp) _
    have hAn : Hid (Win.addW f m n = Win.normW k (f' + 1) (m' / 2)) := by
     show _ = _
     rw [HAr.out, Win.normW, if_pos hodd]
    have hl1 := wnLeft_of HWr.out
    have hl2 := wnLeft_of hWn.out
    go_wp2_with fail
    go_roundw
    case rel => exact ⟨k, f' + 1, m' / 2, by rw [Nat.pow_succ] at hmk; omega, by omega, hWn, hAn, hKn⟩
    case measure => rw [hl1]; exact Nat.lt_of_le_of_lt (Nat.le_of_eq hl2) (by omega)
   ·have heven : m' % 2 = 0 := by omega
    rw [heven] at hand
    have hand0 : bits .and .u64 (m' : Int) 1 = 0 := hand
    clear hand
    have hP : Hid (WdPost g (Win.addW f m n) w (.returned (.bool true)) wr) := by
     refine ⟨rfl, ?_, HKr.out⟩
     rw [HAr.out, normW_even_stop heven]
     exact HWr.out
    go_wp2
    go_ret
    exact hP.out
end Go.Proofs.YtinnifhnabncfaaGreatDoor.Vi
end
section
namespace Go.Proofs.YtinnifhnabncfaaGreatDoor.Vi
open Go.RowKit Base Mem
open Go.Maps (Keyed)
theorem uStr : Tryz.prog.underlying 9 = some .string := by kernel_rfl
theorem uInt : Tryz.prog.underlying 3 = some (.int .i64) := by kernel_rfl
theorem uI64 : Tryz.prog.underlying 2 = some (.int .i64) := by kernel_rfl
theorem uU64 : Tryz.prog.underlying 66 = some (.int .u64) := by kernel_rfl
theorem uMS : Tryz.prog.underlying 92 = some (.map 9 66) := by kernel_rfl
theorem uME : Tryz.prog.underlying 151 = some (.map 3 2) := by kernel_rfl
theorem zU64 (w : World) : (zeroValue 66).run Tryz.prog w = .ok (.int .u64 0) w := by kernel_rfl
theorem zI64 (w : World) : (zeroValue 2).run Tryz.prog w = .ok (.int .i64 0) w := by kernel_rfl
theorem lawS : Keyed Tryz.prog 9 := Maps.string_keyed uStr
theorem lawI : Keyed Tryz.prog 3 := Maps.int_keyed uInt
def I64 (n : Int) : Prop := -9223372036854775808 ≤ n ∧ n ≤ 9223372036854775807
theorem skey_of {s : ByteArray} (h : s.size ≤ 9223372036854775807) : keyOf Tryz.prog 9 (.string s) = some (skey s) := Go.WideMaps.keyOf_string_mk uStr h
/-- Sums lie in block g, their map in block b. -/
def SmAt (w : World) (g b N : Nat) (D : DataW Unit) : Prop := Blk w g 198 #[.map (some b)] ∧ w.ownsMap Tryz.prog 9 (plainElem Tryz.prog 66) b N D ∧ g ≠ b
theorem SmAt.keep {w w' : World} {g b N : Nat} {D : DataW Unit} {M : List Nat} (h : SmAt w g b N D) (hk : Keeps M w w') (hg : g ∉ M) (hb : b ∉ M) : SmAt w' g b N D := ⟨hk.blk h.1 hg, om_keep h.2.1 hk hb, h.2.2⟩
def SmNew (w : World) (e : Ending) (w' : World) : Prop := ∃ g b, e = .returned (.pointer (some ⟨g, 0, none⟩)) ∧ SmAt w' g b 0 (.map []) ∧ w.heap.size ≤ g ∧ w.heap.size ≤ b ∧ Below w.heap.size w w'
theorem smnew_any (w : World) : Calls Tryz.prog 106 #[] w fun e w' => SmNew w e w' := by
 have hmm := @run_makeMap Tryz.prog
 have hR : Hid (SmNew w (.returned (.pointer (some ⟨w.heap.size + 1, 0, none⟩))) ((w.alloc (.map #[] 0)).alloc (.cells #[.map (some w.heap.size)] 198))) := by
  refine ⟨w.heap.size + 1, w.heap.size, rfl, ⟨?_, World.ownsMap.alloc (World.ownsMap_made _ _ _ _) _, by omega⟩, by omega, by omega, (below_new' w _).alloc (by simp) _⟩
  have := Blk.new (w.alloc (.map #[] 0)) 198 #[.map (some w.heap.size)]
  simpa using this
 go_enter Tryz.func106, Tryz.ntmps106
 go_wp2
 go_ret
 exact hR.out
theorem smget_any (g b N : Nat) (D : DataW Unit) (s : ByteArray) (w : World) (h : SmAt w g b N D) (hs : s.size ≤ 9223372036854775807) :
  Calls Tryz.prog 108 #[.pointer (some ⟨g, 0, none⟩), .string s] w fun e w' => e = .returned (.int .u64 (numAt .u64 D (skey s))) ∧ w = w' := by
 have c0 := h.1.cell 0
 simp only [List.getElem?_toArray, List.getElem?_cons_succ, List.getElem?_cons_zero] at c0
 have hown := Lib.hid h.2.1
 clear h
 go_enter Tryz.func108, Tryz.ntmps108
 go_wp2_with (at_lookup; refine wpl_look_num _ rfl _ _ 92 rfl 9 66 .u64 lawS uMS uU64 (zU64 _) b N D rfl hown.out _ _ rfl (skey_of hs) ?_)
 go_wp2
 go_ret
 exact ⟨rfl, rfl⟩
end Go.Proofs.YtinnifhnabncfaaGreatDoor.Vi
end
section
namespace Go.Proofs.YtinnifhnabncfaaGreatDoor.Vi
open Go.RowKit Base Mem Tape
open Go.Maps (Keyed)
theorem uMH : Tryz.prog.underlying 152 = some (.map 201 157) := by kernel_rfl
theorem zPS (w : World) : (zeroValue 157).run Tryz.prog w = .ok (.pointer none) w := by kernel_rfl
theorem laidOutP : laidOutB Tryz.prog = true := by kernel_rfl
theorem rowP : (201 : TypeId) < Tryz.prog.types.size := of_decide_eq_true (by kernel_rfl)
theorem wideP : (match Tryz.prog.underlying 201 with | some (.array _ _) | some (.struct _) => true | _ => false) = true := by kernel_rfl
set_option maxRecDepth 100000 in
theorem lawP : Keyed Tryz.prog 201 := Keyed.of_law (deep_law_laid laidOutP (m := 3) (by omega) rowP (by kernel_rfl) wideP)
/-- A shard's key. -/
noncomputable def pk (a s : Int) : Lit := (keyOf Tryz.prog 201 (.agg #[.int .i64 a, .int .i64 s])).getD (.bool false)
theorem ekey_of {a : Int} (h : I64 a) : keyOf Tryz.prog 3 (.int .i64 a) = some (ekey a) := Maps.keyOf_int_mk uInt (WalkArith.wf_i64 h)
theorem posP : 0 < Tryz.prog.types.size := of_decide_eq_true (by kernel_rfl)
theorem pk_of {a s : Int} (ha : I64 a) (hs : I64 s) : keyOf Tryz.prog 201 (.agg #[.int .i64 a, .int .i64 s]) = some (pk a s) := by
 have hwa := WalkArith.wf_i64 ha
 have hws := WalkArith.wf_i64 hs
 have hu := Tryz.underlying201
 have hui := uInt
 have hk : Tryz.prog.keyType 201 = true := by kernel_rfl
 have hc : Tryz.prog.cellsOf 201 = 2 := by kernel_rfl
 have hci : Tryz.prog.cellsOf 3 = 1 := by kernel_rfl
 have hf : (Value.agg #[.int .i64 a, .int .i64 s]).formed Tryz.prog 201 = true := by simp [Value.formed, hu, hc]
 obtain ⟨m, hm⟩ := Nat.exists_eq_succ_of_ne_zero (Nat.ne_of_gt posP)
 have hl : Tryz.prog.keyLits (Tryz.prog.types.size + 1) 201 [.int .i64 a, .int .i64 s] = some [.int .i64 a, .int .i64 s] := by
  rw [hm]
  unfold Program.keyLits
  rw [hu]
  simp [hc, hci, Program.keyLits, hui, hwa, hws]
 unfold pk
 have hall : ∃ l, keyOf Tryz.prog 201 (.agg #[.int .i64 a, .int .i64 s]) = some l := by
  unfold keyOf
  rw [hu]
  simp only [hk, hf, Bool.and_self, if_true]
  exact ⟨_, by rw [show (Value.agg #[.int .i64 a, .int .i64 s]).cells.toList = [.int .i64 a, .int .i64 s] from rfl, hl]; rfl⟩
 obtain ⟨l, hl2⟩ := hall
 rw [hl2]
 rfl
/-- A shard lies in block p; F are its blocks. -/
def ShAt (w : World) (p : Nat) (F : List Nat) (s : ShD) : Prop :=
 ∃ pw v, Blk w p 161 #[.pointer (some ⟨pw, 0, none⟩), v] ∧ WnAt w pw s.f s.m ∧ w.ownsRow 0 2 1 v s.bad.length (s.bad.map (Value.int .i64)) ∧ p ∈ F ∧ pw ∈ F ∧ p ≠ pw ∧
  (∀ g, v.ownBlock = some g → g ∈ F ∧ g ≠ p ∧ g ≠ pw) ∧ s.bad.length ≤ 8 ∧ ∀ n ∈ s.bad, I64 n
theorem own_other2 {M : List Nat} {w w1 : World} {base : Nat} {e : TypeId} {size n : Nat} {v : Value} {xs : List Value} (h : w.ownsRow base e size v n xs) (hk : Keeps M w w1) (hM : ∀ g, v.ownBlock = some g → g ∉ M) : w1.ownsRow base e size v n xs := by
 obtain ⟨hl, h⟩ := h
 refine ⟨hl, ?_⟩
 rcases h with h | ⟨g, cap, cur, hv, hb, hg, rest⟩
 ·exact .inl h
 ·exact .inr ⟨g, cap, cur, hv, hb, (hk.block g (Array.getElem?_eq_some_iff.1 hg).1 (hM g (by rw [hv]; rfl))).trans hg, rest⟩
theorem ShAt.keep {w w' : World} {p : Nat} {F M : List Nat} {s : ShD} (h : ShAt w p F s) (hk : Keeps M w w') (hM : ∀ g ∈ F, g ∉ M) : ShAt w' p F s := by
 obtain ⟨pw, v, h1, h2, h3, h4, h5, h6, h7, h8⟩ := h
 exact ⟨pw, v, hk.blk h1 (hM p h4), h2.keep hk (hM pw h5), own_other2 h3 hk (fun g hg => hM g (h7 g hg).1), h4, h5, h6, h7, h8⟩
structure McC where
 gs : Nat
 bm : Nat
 be : Nat
 bs : Nat
 pt : Lit → Nat
 fp : Lit → List Nat
def McC.core (c : McC) (g : Nat) : List Nat := [g, c.gs, c.bm, c.be, c.bs]
structure McIn (w : World) (g : Nat) (c : McC) (X : List Nat) (st : McD) (N : Nat) (DH : DataW Value) : Prop where
 b0 : Blk w g 154 #[.pointer (some ⟨c.gs, 0, none⟩), .map (some c.be), .map (some c.bs)]
 sm : SmAt w c.gs c.bm N st.DS
 m2 : w.ownsMap Tryz.prog 3 (plainElem Tryz.prog 2) c.be N st.DE
 m3 : w.ownsMap Tryz.prog 201 heldElem c.bs N DH
 nd : (c.core g).Nodup
 sh : ∀ kl s, st.sh kl = some s → Maps.has DH kl = true ∧ DH.atKey kl (.held (.pointer none)) = .held (.pointer (some ⟨c.pt kl, 0, none⟩)) ∧ ShAt w (c.pt kl) (c.fp kl) s ∧ ∀ x ∈ c.fp kl, x ∉ c.core g
 no : ∀ kl, st.sh kl = none → Maps.has DH kl = false
 dj : ∀ kl kl', kl ≠ kl' → st.sh kl ≠ none → st.sh kl' ≠ none → ∀ x ∈ c.fp kl, x ∉ c.fp kl'
 inX : ∀ x ∈ c.core g, x ∈ X
 fpX : ∀ kl, st.sh kl ≠ none → ∀ x ∈ c.fp kl, x ∈ X
/-- A machine lies in block g; X are its blocks. -/
def McAt (w : World) (g : Nat) (X : List Nat) (st : McD) (N : Nat) : Prop := ∃ c DH, McIn w g c X st N DH
theorem McIn.keep {w w' : World} {g : Nat} {c : McC} {X M : List Nat} {st : McD} {N : Nat} {DH : DataW Value} (h : McIn w g c X st N DH) (hk : Keeps M w w') (hM : ∀ x ∈ X, x ∉ M) : McIn w' g c X st N DH where
 b0 := hk.blk h.b0 (hM _ (h.inX _ (by simp [McC.core])))
 sm := h.sm.keep hk (hM _ (h.inX _ (by simp [McC.core]))) (hM _ (h.inX _ (by simp [McC.core])))
 m2 := om_keep h.m2 hk (hM _ (h.inX _ (by simp [McC.core])))
 m3 := om_keep h.m3 hk (hM _ (h.inX _ (by simp [McC.core])))
 nd := h.nd
 sh := fun kl s hs => by
  obtain ⟨h1, h2, h3, h4⟩ := h.sh kl s hs
  exact ⟨h1, h2, h3.keep hk (fun x hx => hM x (h.fpX kl (by rw [hs]; simp) x hx)), h4⟩
 no := h.no
 dj := h.dj
 inX := h.inX
 fpX := h.fpX
theorem McAt.keep {w w' : World} {g : Nat} {X M : List Nat} {st : McD} {N : Nat} (h : McAt w g X st N) (hk : Keeps M w w') (hM : ∀ x ∈ X, x ∉ M) : McAt w' g X st N := by
 obtain ⟨c, DH, h⟩ := h
 exact ⟨c, DH, h.keep hk hM⟩
theorem McIn.more {w : World} {g : Nat} {c : McC} {X : List Nat} {st : McD} {N N' : Nat} {DH : DataW Value} (h : McIn w g c X st N DH) (hN : N ≤ N') : McIn w g c X st N' DH :=
 ⟨h.b0, ⟨h.sm.1, h.sm.2.1.mono hN, h.sm.2.2⟩, h.m2.mono hN, h.m3.mono hN, h.nd, h.sh, h.no, h.dj, h.inX, h.fpX⟩
theorem ShAt.lt {w : World} {p : Nat} {F : List Nat} {s : ShD} (h : ShAt w p F s) : p < w.heap.size := by
 obtain ⟨pw, v, h1, _⟩ := h
 exact h1.lt
end Go.Proofs.YtinnifhnabncfaaGreatDoor.Vi
end
