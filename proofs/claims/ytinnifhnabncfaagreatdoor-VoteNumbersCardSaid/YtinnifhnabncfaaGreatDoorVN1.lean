/- Texts put together: Tq, VnT. -/
import Derived.Test.YtinnifhnabncfaaGreatDoorVNx
import Derived.Test.YtinnifhnabncfaaGreatDoorVP1
import Derived.Test.YtinnifhnabncfaaGreatDoorVP11
import Derived.Test.YtinnifhnabncfaaGreatDoorVP12
import Derived.Test.YtinnifhnabncfaaGreatDoorVP2
import Derived.Test.YtinnifhnabncfaaGreatDoorVP6
set_option linter.unusedVariables false
set_option linter.unusedSimpArgs false
section
namespace Go.Proofs.YtinnifhnabncfaaGreatDoor.Vi
open Go.RowKit Base Mem Tape Go.Shelf
theorem infoInt4 : (Tryz.prog.info? 3).map (fun i => (i.zero, i.size, i.bytes)) = some (some (.int .i64 0), 1, 8) := by kernel_rfl
def Tape400E (w : World) (e : Ending) (w' : World) : Prop := ∃ (v : Value) (l : List Int), e = .returned v ∧ l.length = 400 ∧ w'.ownsRow w.heap.size 3 1 v 400 (l.map (Value.int .i64)) ∧ Below w.heap.size w w'
set_option maxRecDepth 100000 in
theorem tape14_any (k : Nat) (w : World) (hk : k ≤ 60) : Calls Tryz.prog 40 #[.int .i64 k] w fun e w' => Tape400E w e w' := by
 obtain ⟨i0, hi0, hz0, hz1, hz2⟩ := info_parts infoInt4
 have Hi0 := Lib.hid hi0; have Hz0 := Lib.hid hz0; have Hz1 := Lib.hid hz1; have Hz2 := Lib.hid hz2
 clear hi0 hz0 hz1 hz2
 go_enter Tryz.func40, Tryz.ntmps40
 go_wp2
 go_loopw [3, 4] (fun out i wr => ∃ (x : Nat) (l : List Int), i = .int .i64 x ∧ x ≤ 400 ∧ Hid (l.length = x) ∧ Hid (wr.ownsRow w.heap.size 3 1 out x (l.map (Value.int .i64))) ∧ Hid (Below w.heap.size w wr)) (fun _ i _ => 400 - (intOf i).toNat)
 case atStart => exact ⟨0, [], rfl, by omega, rfl, World.ownsRow_nil _ _ _ _, Below.refl _ _⟩
 case round =>
  obtain ⟨x, l, rfl, hx, Hl, Hown, Hb⟩ := hrel
  by_cases hx4 : x < 400
  ·have hm1 : 0 ≤ (x : Int) * x ∧ (x : Int) * x ≤ 400 * 400 := ⟨Int.mul_nonneg (by omega) (by omega), Int.mul_le_mul (by omega) (by omega) (by omega) (by omega)⟩
   have hm2 : 0 ≤ (x : Int) * k ∧ (x : Int) * k ≤ 400 * 60 := ⟨Int.mul_nonneg (by omega) (by omega), Int.mul_le_mul (by omega) (by omega) (by omega) (by omega)⟩
   have Hown2 := Lib.hid (Hown.out.alloc (.cells #[.int .i64 (((x : Int) * x * 7 + k * 41 + x * k) % 211)] 3))
   go_wp2_with (at_builtin; refine wpList_append_any _ rfl (.tmp 9) (.tmp 22) _ rfl w.heap.size 3 i0 _ 1 8 Tryz.underlying28 Hi0.out Hz0.out Hz1.out Hz2.out rfl (by omega) u3 x (l.map (Value.int .i64)) rfl Hown2.out (wr.heap.size + 1) (some ⟨wr.heap.size, 0, none⟩) 1 1 [.int .i64 (((x : Int) * x * 7 + k * 41 + x * k) % 211)] rfl (reads_new _ _ _ _ _ rfl) (by intro u hu; simp at hu; subst hu; rfl) (by unfold maxLen; omega) (by omega) (by have := Hb.out.size; simp; omega) ?_)
   intro v' w4 hown4 hg4 hat4
   have Hb4 : Hid (Below w.heap.size w w4) := (Hb.out.alloc Hb.out.size _).grown hg4 (by have := Hb.out.size; simp; omega) (fun g hg => (Hown.out.lt g hg).1)
   have Hl4 : Hid ((l ++ [((x : Int) * x * 7 + k * 41 + x * k) % 211]).length = x + 1) := by show _ = _; rw [List.length_append, Hl.out]; rfl
   have Hown4 : Hid (w4.ownsRow w.heap.size 3 1 v' (x + 1) ((l ++ [((x : Int) * x * 7 + k * 41 + x * k) % 211]).map (Value.int .i64))) := by show World.ownsRow _ _ _ _ _ _ _; rw [List.map_append]; exact hown4
   clear hown4 hg4 hat4
   go_wp2
   go_roundw
   case rel => exact ⟨x + 1, _, by go_num, by omega, Hl4, Hown4, Hb4⟩
   case measure => simp [intOf] <;> omega
  ·obtain rfl : x = 400 := by omega
   have hp : Hid (Tape400E w (.returned u3) wr) := ⟨u3, l, rfl, Hl.out, Hown.out, Hb.out⟩
   go_wp2
   go_ret
   exact hp.out
theorem nums_own {w : World} {base : Nat} {t : TypeId} {v : Value} {l : List Int} (h : w.ownsRow base t 1 v l.length (l.map (Value.int .i64))) : ∃ A c, v = .slice A l.length c ∧ Nums w A c l := by
 obtain ⟨A, c, rfl, hc, _, hx⟩ := Rd.of_own (M := []) h (by simp)
 refine ⟨A, c, rfl, hc, ?_, fun h0 => ?_⟩
 ·rcases h.2 with ⟨hv, _⟩ | ⟨g, cap, cur, hv, _, _, _, hm, _⟩
  ·injection hv with _ _ h3; omega
  ·injection hv with _ _ h3
   have : maxLen ≤ 9223372036854775807 := by unfold maxLen; omega
   omega
 ·obtain ⟨g, off, e, hg, _, hc2⟩ := hx h0
  exact ⟨g, off, e, hg, fun j x hj => hc2 j _ (by rw [List.getElem?_map, hj]; rfl)⟩
end Go.Proofs.YtinnifhnabncfaaGreatDoor.Vi
end
section
namespace Go.Proofs.YtinnifhnabncfaaGreatDoor.Vi
open Go.RowKit Base Mem Tape Go.Shelf
def longE (i : Nat) : EntryD := ⟨2, 0, 0, 0, 0, [], ⟨#[97, 61, 49]⟩, 0, i⟩
def noneE : EntryD := ⟨0, 0, 0, 0, 0, [], ByteArray.empty, 0, 0⟩
/-- The row, its first i entries made. -/
def rowL (i : Nat) : List (EntryD × Value) := (List.range 129).map fun k => (if k < i then longE k else noneE, .slice none 0 0)
theorem rowL_len (i : Nat) : (rowL i).length = 129 := by simp [rowL]
theorem rowL_at (i k : Nat) (hk : k < (rowL i).length) : (rowL i)[k] = (if k < i then longE k else noneE, .slice none 0 0) := by simp [rowL]
theorem rowL_one (i : Nat) : ∀ u ∈ (rowL i).flatMap eCell, u.oneCell' = true := by
 intro u hu
 obtain ⟨p, hp, hu⟩ := List.mem_flatMap.1 hu
 obtain ⟨k, _, rfl⟩ := List.mem_map.1 hp
 simp [eCell] at hu
 rcases hu with rfl | rfl | rfl | rfl | rfl | rfl | rfl | rfl | rfl <;> rfl
def LongAt (w : World) (g i : Nat) : Prop := ∃ cur : Array Value, Blk w g 26 cur ∧ 1161 ≤ cur.size ∧ ∀ (j : Nat) (u : Value), ((rowL i).flatMap eCell)[j]? = some u → cur[j]? = some u
theorem LongAt.below {w w' : World} {g i : Nat} (h : LongAt w g i) (hb : Below w.heap.size w w') : LongAt w' g i := by
 obtain ⟨cur, h1, h2, h3⟩ := h
 exact ⟨cur, h1.below hb h1.lt, h2, h3⟩
theorem rowL_lenC (i : Nat) : ((rowL i).flatMap eCell).length = 1161 := by rw [flat_len eCell 9 (fun _ => rfl), rowL_len]
/-- Behind the store of the entry at i. -/
theorem LongAt.next {w : World} {g i : Nat} {c0 c1 : Array Value} (hi : i < 129) (h0 : 1161 ≤ c0.size) (h : ∀ (j : Nat) (u : Value), ((rowL i).flatMap eCell)[j]? = some u → c0[j]? = some u) (hB : Blk w g 26 c1)
  (hc : c1.toList = c0.toList.take (i * 9) ++ (eCell (longE i, .slice none 0 0) ++ c0.toList.drop (i * 9 + 9))) : LongAt w g (i + 1) := by
 have hl9 : (eCell (longE i, .slice none 0 0)).length = 9 := rfl
 have hlt : (c0.toList.take (i * 9)).length = i * 9 := by rw [List.length_take, Array.length_toList]; omega
 have hs : c1.size = c0.size := by
  have := congrArg List.length hc
  rw [Array.length_toList, List.length_append, List.length_append, hlt, hl9, List.length_drop, Array.length_toList] at this
  omega
 refine ⟨c1, hB, by omega, fun j u hu => ?_⟩
 have hj : j < 1161 := by have := (List.getElem?_eq_some_iff.1 hu).1; rwa [rowL_lenC] at this
 have hk : j / 9 < (rowL (i + 1)).length := by rw [rowL_len]; omega
 have hk' : j / 9 < (rowL i).length := by rw [rowL_len]; omega
 have e1 := flat_at eCell 9 (fun _ => rfl) (rowL (i + 1)) (j / 9) (j % 9) hk (by omega)
 have e2 := flat_at eCell 9 (fun _ => rfl) (rowL i) (j / 9) (j % 9) hk' (by omega)
 rw [show j / 9 * 9 + j % 9 = j by omega] at e1 e2
 rw [e1, rowL_at] at hu
 rw [rowL_at] at e2
 rw [← Array.getElem?_toList, hc]
 by_cases hji : j / 9 = i
 ·rw [if_pos (by omega)] at hu
  rw [List.getElem?_append_right (by omega), hlt, List.getElem?_append_left (by omega), show j - i * 9 = j % 9 by omega, ← hji]
  exact hu
 ·have hu2 : ((rowL i).flatMap eCell)[j]? = some u := by
   rw [e2]
   rw [← hu]
   by_cases h3 : j / 9 < i
   ·rw [if_pos h3, if_pos (by omega)]
   ·rw [if_neg h3, if_neg (by omega)]
  have := h j u hu2
  rw [← Array.getElem?_toList] at this
  by_cases h3 : j < i * 9
  ·rw [List.getElem?_append_left (by omega), List.getElem?_take, if_pos h3]; exact this
  ·rw [List.getElem?_append_right (by omega), hlt, List.getElem?_append_right (by omega), hl9, List.getElem?_drop, show i * 9 + 9 + (j - i * 9 - 9) = j by omega]
   exact this
/-- A stretch of the row reads as its entries. -/
theorem LongAt.ens {w : World} {g a m c : Nat} (h : LongAt w g 129) (hm : a + m ≤ 129) (hc : m ≤ c) : Ens w [] (.slice (some ⟨g, a * 9, none⟩) m c) (((List.range 129).map longE).drop a |>.take m) := by
 obtain ⟨cur, hB, hs, hx⟩ := h
 have hl : (((rowL 129).drop a).take m).length = m := by rw [List.length_take, List.length_drop, rowL_len]; omega
 refine ⟨((rowL 129).drop a).take m, ?_, ?_, fun p hp => ?_⟩
 ·have hmap : (rowL 129).map (·.1) = (List.range 129).map longE := by
   unfold rowL
   rw [List.map_map]
   refine List.map_congr_left fun k hk => ?_
   have := List.mem_range.1 hk
   simp [this]
  rw [List.map_take, List.map_drop, hmap]
 ·rw [hl]
  refine ⟨_, c, rfl, hc, by rw [flat_len eCell 9 (fun _ => rfl), hl], fun hn => ⟨g, a * 9, rfl, hB.lt, by simp, fun j u hu => ?_⟩⟩
  have hj : j < m * 9 := by have := (List.getElem?_eq_some_iff.1 hu).1; rwa [flat_len eCell 9 (fun _ => rfl), hl] at this
  rw [hB.cell]
  refine hx _ u ?_
  have e1 := flat_at eCell 9 (fun _ => rfl) (((rowL 129).drop a).take m) (j / 9) (j % 9) (by rw [hl]; omega) (by omega)
  have e2 := flat_at eCell 9 (fun _ => rfl) (rowL 129) (a + j / 9) (j % 9) (by rw [rowL_len]; omega) (by omega)
  rw [show j / 9 * 9 + j % 9 = j by omega] at e1
  rw [show (a + j / 9) * 9 + j % 9 = a * 9 + j by omega] at e2
  rw [e2]
  rw [e1] at hu
  rw [← hu]
  simp
 ·have hp2 := List.mem_of_mem_drop (List.mem_of_mem_take hp)
  obtain ⟨k, _, rfl⟩ := List.mem_map.1 hp2
  split <;> exact Ds.nil _ _
def zC : Array Value := #[.int .i64 0, .int .i64 0, .int .i64 0, .int .i64 0, .int .i64 0, .slice none 0 0, .string ByteArray.empty, .int .i64 0, .int .i64 0]
theorem made0 (j : Nat) (u : Value) (h : ((rowL 0).flatMap eCell)[j]? = some u) : (madeCells zC (129 * 9)).toList[j]? = some u := by
 have hj : j < 1161 := by have := (List.getElem?_eq_some_iff.1 h).1; rwa [rowL_lenC] at this
 have e1 := flat_at eCell 9 (fun _ => rfl) (rowL 0) (j / 9) (j % 9) (by rw [rowL_len]; omega) (by omega)
 rw [show j / 9 * 9 + j % 9 = j by omega] at e1
 rw [e1, rowL_at, if_neg (by omega)] at h
 have hz : (madeCells zC (129 * 9)).toList[j]? = some (zC[j % 9]!) := by
  rw [Array.getElem?_toList]
  unfold madeCells
  rw [Array.getElem?_map, Array.getElem?_range, if_pos hj]
  rfl
 rw [hz]
 have hr : j % 9 < 9 := Nat.mod_lt _ (by omega)
 generalize j % 9 = r at h hr
 rcases (show r = 0 ∨ r = 1 ∨ r = 2 ∨ r = 3 ∨ r = 4 ∨ r = 5 ∨ r = 6 ∨ r = 7 ∨ r = 8 by omega) with rfl | rfl | rfl | rfl | rfl | rfl | rfl | rfl | rfl <;> simpa [eCell, noneE, zC] using h
theorem longE_ok (i : Nat) (h : i < 129) : Short (longE i) ∧ Wf (longE i) :=
 ⟨⟨(show (3 : Nat) < _ by omega), by simp [longE], by simp [longE]⟩, (show ((i : Nat) : Int) ≤ _ by omega), by simp [longE], by simp [longE], by simp [longE]⟩
theorem bs_newB (w : World) (l : List UInt8) : Bs (w.alloc (.cells (l.map bV).toArray 5)) [] (.slice (some ⟨w.heap.size, 0, none⟩) l.length l.length) l :=
 ⟨_, l.length, rfl, Nat.le_refl _, by simp, fun _ => ⟨w.heap.size, 0, rfl, by simp, by simp, fun j u hu => by rw [(Blk.new w 5 _).cell, Nat.zero_add, List.getElem?_toArray]; exact hu⟩⟩
theorem asks_new (w : World) (qs : List (AskD × Value)) (h : ∀ q ∈ qs, Ens w [] q.2 q.1.log) : AskAt (w.alloc (.cells (qs.flatMap aCell).toArray 54)) [] (.slice (some ⟨w.heap.size, 0, none⟩) qs.length qs.length) (qs.map (·.1)) :=
 ⟨qs, rfl, ⟨_, qs.length, rfl, Nat.le_refl _, flat_len aCell 3 (fun _ => rfl) qs, fun _ => ⟨w.heap.size, 0, rfl, by simp, by simp, fun j u hu => by rw [(Blk.new w 54 _).cell, Nat.zero_add, List.getElem?_toArray]; exact hu⟩⟩,
  fun q hq => (h q hq).keep (M' := []) ((Keeps.refl _ _).alloc _) (by simp)⟩
theorem noneE_ok : Short noneE ∧ Wf noneE := ⟨⟨(show (0 : Nat) < _ by omega), by simp [noneE], by simp [noneE]⟩, by simp [noneE], by simp [noneE], by simp [noneE], by simp [noneE]⟩
theorem ens_none (w : World) : Ens (w.alloc (.cells zC 26)) [] (.slice (some ⟨w.heap.size, 0, none⟩) 1 1) [noneE] :=
 ⟨[(noneE, .slice none 0 0)], rfl, ⟨_, 1, rfl, Nat.le_refl _, rfl, fun _ => ⟨w.heap.size, 0, rfl, by simp, by simp, fun j u hu => by rw [(Blk.new w 26 _).cell, Nat.zero_add, show zC = ([(noneE, Value.slice none 0 0)].flatMap eCell).toArray from rfl, List.getElem?_toArray]; exact hu⟩⟩, fun p hp => by simp at hp; subst hp; exact Ds.nil _ _⟩
def longL : List EntryD := (List.range 129).map longE
theorem longL_ok (a m : Nat) : ∀ e ∈ (longL.drop a).take m, Short e ∧ Wf e := fun e he => by
 obtain ⟨k, hk, rfl⟩ := List.mem_map.1 (List.mem_of_mem_drop (List.mem_of_mem_take he))
 exact longE_ok k (List.mem_range.1 hk)
def asks1 : List AskD := [⟨0, 2, []⟩, ⟨0, 3, []⟩, ⟨4, 0, []⟩]
def asks2 : List AskD := [⟨2, 1, (longL.drop 0).take 129⟩, ⟨2, 1, (longL.drop 1).take 128⟩, ⟨2, 1, (longL.drop 0).take 3⟩, ⟨2, 2, (longL.drop 0).take 3⟩, ⟨2, 2, [noneE]⟩, ⟨2, -1, []⟩, ⟨0, 9223372036854775807, []⟩, ⟨4, 0, []⟩]
theorem asks1_ok : ∀ a ∈ asks1, a.t ≤ 9223372036854775807 ∧ ∀ e ∈ a.log, Short e ∧ Wf e := by
 intro a ha
 unfold asks1 at ha
 simp only [List.mem_cons, List.not_mem_nil, or_false] at ha
 rcases ha with rfl | rfl | rfl <;> exact ⟨by decide, fun e he => by cases he⟩
theorem asks2_ok : ∀ a ∈ asks2, a.t ≤ 9223372036854775807 ∧ ∀ e ∈ a.log, Short e ∧ Wf e := by
 intro a ha
 unfold asks2 at ha
 simp only [List.mem_cons, List.not_mem_nil, or_false] at ha
 rcases ha with rfl | rfl | rfl | rfl | rfl | rfl | rfl | rfl
 ·exact ⟨(by decide : (1 : Int) ≤ 9223372036854775807), longL_ok 0 129⟩
 ·exact ⟨(by decide : (1 : Int) ≤ 9223372036854775807), longL_ok 1 128⟩
 ·exact ⟨(by decide : (1 : Int) ≤ 9223372036854775807), longL_ok 0 3⟩
 ·exact ⟨(by decide : (2 : Int) ≤ 9223372036854775807), longL_ok 0 3⟩
 ·exact ⟨(by decide : (2 : Int) ≤ 9223372036854775807), fun e he => by
   obtain rfl := List.mem_singleton.1 he
   exact noneE_ok⟩
 ·exact ⟨(by decide : (-1 : Int) ≤ 9223372036854775807), fun e he => by cases he⟩
 ·exact ⟨(by decide : (9223372036854775807 : Int) ≤ 9223372036854775807), fun e he => by cases he⟩
 ·exact ⟨(by decide : (0 : Int) ≤ 9223372036854775807), fun e he => by cases he⟩
theorem asks1_new (w : World) : AskAt (w.alloc (.cells #[.int .i64 0, .int .i64 2, .slice none 0 0, .int .i64 0, .int .i64 3, .slice none 0 0, .int .i64 4, .int .i64 0, .slice none 0 0] 54)) [] (.slice (some ⟨w.heap.size, 0, none⟩) 3 3) asks1 :=
 asks_new w [(⟨0, 2, []⟩, .slice none 0 0), (⟨0, 3, []⟩, .slice none 0 0), (⟨4, 0, []⟩, .slice none 0 0)] (fun q hq => by
  simp only [List.mem_cons, List.not_mem_nil, or_false] at hq
  rcases hq with rfl | rfl | rfl <;> exact Ens.nil _ _)
theorem asks2_new (w : World) (gl gn : Nat) (hl : LongAt w gl 129) (hn : Ens w [] (.slice (some ⟨gn, 0, none⟩) 1 1) [noneE]) :
  AskAt (w.alloc (.cells #[.int .i64 2, .int .i64 1, .slice (some ⟨gl, 0, none⟩) 129 129, .int .i64 2, .int .i64 1, .slice (some ⟨gl, 9, none⟩) 128 128, .int .i64 2, .int .i64 1, .slice (some ⟨gl, 0, none⟩) 3 129, .int .i64 2, .int .i64 2, .slice (some ⟨gl, 0, none⟩) 3 129, .int .i64 2, .int .i64 2, .slice (some ⟨gn, 0, none⟩) 1 1, .int .i64 2, .int .i64 (-1), .slice none 0 0, .int .i64 0, .int .i64 9223372036854775807, .slice none 0 0, .int .i64 4, .int .i64 0, .slice none 0 0] 54)) [] (.slice (some ⟨w.heap.size, 0, none⟩) 8 8) asks2 :=
 asks_new w [(⟨2, 1, (longL.drop 0).take 129⟩, .slice (some ⟨gl, 0, none⟩) 129 129), (⟨2, 1, (longL.drop 1).take 128⟩, .slice (some ⟨gl, 9, none⟩) 128 128), (⟨2, 1, (longL.drop 0).take 3⟩, .slice (some ⟨gl, 0, none⟩) 3 129), (⟨2, 2, (longL.drop 0).take 3⟩, .slice (some ⟨gl, 0, none⟩) 3 129), (⟨2, 2, [noneE]⟩, .slice (some ⟨gn, 0, none⟩) 1 1), (⟨2, -1, []⟩, .slice none 0 0), (⟨0, 9223372036854775807, []⟩, .slice none 0 0), (⟨4, 0, []⟩, .slice none 0 0)] (fun q hq => by
  simp only [List.mem_cons, List.not_mem_nil, or_false] at hq
  rcases hq with rfl | rfl | rfl | rfl | rfl | rfl | rfl | rfl
  ·exact hl.ens (a := 0) (m := 129) (c := 129) (by omega) (by omega)
  ·exact hl.ens (a := 1) (m := 128) (c := 128) (by omega) (by omega)
  ·exact hl.ens (a := 0) (m := 3) (c := 129) (by omega) (by omega)
  ·exact hl.ens (a := 0) (m := 3) (c := 129) (by omega) (by omega)
  ·exact hn
  ·exact Ens.nil _ _
  ·exact Ens.nil _ _
  ·exact Ens.nil _ _)
set_option maxRecDepth 100000 in
set_option maxHeartbeats 8000000 in
theorem vnumbers_walk (mx : Int) (w : World) (hm : w.cell? ⟨0, 0, none⟩ = some (.int .i64 mx)) :
  Calls Tryz.prog 7 #[] w fun e w' => SamePost true w e w' := by
 have hw0 : 0 < w.heap.size := by
  have := World.block_lt_of_cell? w _ hm
  simpa using this
 have Hm : Hid (∀ W, Below w.heap.size w W → W.cell? ⟨0, 0, none⟩ = some (.int .i64 mx)) := fun W hb => (hb.cell (p := ⟨0, 0, none⟩) hw0).trans hm
 obtain ⟨i0, hi0, hz0, hz1, hz2⟩ := info_parts infoU8
 have Hi0 := Lib.hid hi0; have Hz0 := Lib.hid hz0; have Hz1 := Lib.hid hz1; have Hz2 := Lib.hid hz2
 obtain ⟨j0, hj0, hy0, hy1, hy2⟩ := info_parts infoEntry2
 have Hj0 := Lib.hid hj0; have Hy0 := Lib.hid hy0; have Hy1 := Lib.hid hy1; have Hy2 := Lib.hid hy2
 clear hm hi0 hz0 hz1 hz2 hj0 hy0 hy1 hy2
 go_enter Tryz.func7, Tryz.ntmps7
 go_wp2_with fail
 go_loopw [1] (fun i wr => ∃ x : Nat, i = .int .i64 x ∧ x ≤ 40 ∧ Hid (Below w.heap.size w wr)) (fun i _ => 40 - (intOf i).toNat)
 case atStart => exact ⟨0, rfl, by omega, Below.refl _ _⟩
 case round =>
  obtain ⟨x, rfl, hx, Hb⟩ := hrel
  by_cases hlt : x < 40
  ·have hlti : (x : Int) < 40 := by omega
   go_wp2_with fail
   refine (tape14_any x wr (by omega)).mono ?_
   rintro e w1 ⟨v, l, rfl, hl, hown, hb1⟩
   rw [← hl] at hown
   obtain ⟨At, ct, rfl, hnums⟩ := nums_own hown
   have Hb1 := Lib.hid (below_then Hb.out hb1)
   have Has := Lib.hid (asks_any At ct l 40 (by omega) w1 hnums)
   clear hown hnums hb1
   rw [hl] at Has
   go_wp2_with fail
   refine Has.out.mono ?_
   rintro e w2 ⟨v, q, rfl, _, hok1, hat, hk1⟩
   have HA2 := Lib.hid (hat [] (by simp)); have Hb2 := Lib.hid (below_then Hb1.out hk1.below)
   obtain ⟨Aq, cq, rfl, _⟩ := HA2.out.len
   have Hpl := Lib.hid (play_any none 0 [] Aq cq q mx w2 (Bs.nil _ _) (by simp) HA2.out (asks_in hok1) (Hm.out w2 Hb2.out))
   clear hat hk1 hok1 Has Hb1 HA2 hl
   go_wp2_with fail
   refine Hpl.out.mono ?_
   rintro r w3 ⟨rfl, hb3⟩
   have Hb3 := Lib.hid (below_then Hb2.out hb3)
   clear hb3 Hpl Hb2
   go_wp2
   go_roundw
   case rel => exact ⟨x + 1, by go_num, by omega, Hb3⟩
   case measure => simp [intOf] <;> omega
  ·obtain rfl : x = 40 := by omega
   go_wp2_with (refine wpList_make_full _ rfl (.const (.int .i64 129)) (.const (.int .i64 129)) 52 rfl wr.heap.size 26 j0 _ 9 Tryz.underlying52 Hj0.out Hy0.out Hy1.out .i64 .i64 129 129 129 rfl rfl rfl rfl (by rw [Hy2.out]; omega) (by unfold maxLen; omega) (Nat.le_refl _) ?_; intro w2 hown2 hg2)
   have hL2 : LongAt w2 wr.heap.size 0 := by
    obtain ⟨hl, h⟩ := hown2
    rcases h with ⟨h, _⟩ | ⟨g, cap, cur, hv, _, hB, hcap, hm, hs, ht⟩
    ·cases h
    ·injection hv with h1 _ h3
     injection h1 with h1
     injection h1 with h1 _ _
     subst h1
     replace ht : cur.toList.take (129 * 9) = (madeCells zC (129 * 9)).toList := ht
     have hlen : ((madeCells zC (129 * 9)).toList).length = 1161 := by rw [Array.length_toList, size_madeCells]
     have hcs : 1161 ≤ cur.size := by
      have := congrArg List.length ht
      rw [hlen, List.length_take, Array.length_toList] at this
      omega
     refine ⟨cur, hB, hcs, fun j u hu => ?_⟩
     have h2 := made0 j u hu
     have hj : j < 1161 := by have := (List.getElem?_eq_some_iff.1 h2).1; rwa [hlen] at this
     have h4 : (cur.toList.take (129 * 9))[j]? = some u := by rw [ht]; exact h2
     rw [List.getElem?_take, if_pos (by omega)] at h4
     simpa using h4
   have hb2 : Below wr.heap.size wr w2 := (Keeps.refl [] wr).grown hg2 (by simp) |>.below
   have HL2 := Lib.hid hL2; have Hb2 := Lib.hid (below_then Hb.out hb2)
   have hz2 : wr.heap.size < w2.heap.size := by obtain ⟨_, h, _⟩ := hL2; exact h.lt
   clear hown2 hg2 hb2 hL2
   have hgl : w.heap.size ≤ wr.heap.size := Hb.out.size
   generalize wr.heap.size = gl at *
   go_wp2_with fail
   go_loopw [17] (fun i wq => ∃ y : Nat, i = .int .i64 y ∧ y ≤ 129 ∧ Hid (LongAt wq gl y) ∧ Hid (Below w.heap.size w wq)) (fun i _ => 129 - (intOf i).toNat)
   case atStart => exact ⟨0, rfl, by omega, HL2.out, Hb2.out⟩
   case round =>
    obtain ⟨y, rfl, hy, HL, Hbq⟩ := hrel
    by_cases hyl : y < 129
    ·have hyi : (y : Int) < 129 := by omega
     obtain ⟨c0, hB0, hs0, hx0⟩ := HL.out
     go_wp2_with (refine wpList_store_blk rfl 26 (.tmp 24) (.tmp 23) rfl gl (y * 9) 26 c0 ((c0.toList.take (y * 9) ++ (eCell (longE y, .slice none 0 0) ++ c0.toList.drop (y * 9 + 9))).toArray) (eCell (longE y, .slice none 0 0)).toArray rfl rfl hB0 (by show y * 9 + 9 ≤ c0.size; omega) (by simp [eCell]) (by kernel_rfl) rfl ?_; intro wz hkz hBz)
     have HL9 : Hid (LongAt wz gl (y + 1)) := LongAt.next hyl hs0 hx0 hBz (by simp)
     have Hb9 : Hid (Below w.heap.size w wz) := Hbq.out.trans (hkz.belowB Hbq.out.size (fun g hg => by simp at hg; omega))
     clear hkz hBz hB0 hs0 hx0
     go_wp2
     go_roundw
     case rel => exact ⟨y + 1, by go_num, by omega, HL9, Hb9⟩
     case measure => simp [intOf] <;> omega
    ·obtain rfl : y = 129 := by omega
     have Hf1 : Hid ((frameL [1]).length = 6) := (by decide +kernel : (frameL [1]).length = 6)
     have Hf2 : Hid ((frameL [2, 1, 0]).length = 8) := (by decide +kernel : (frameL [2, 1, 0]).length = 8)
     have Hf3 : Hid ((frameL [9, 9, 1, 1, 7]).length = 10) := (by decide +kernel : (frameL [9, 9, 1, 1, 7]).length = 10)
     have HF1 := Lib.hid (rframe_any _ [1] _ (bs_newB wr [1]) (by simp))
     have HF2 := Lib.hid (fun W => rframe_any _ [2, 1, 0] _ (bs_newB W [2, 1, 0]) (by simp))
     have HF3 := Lib.hid (fun W => rframe_any _ [9, 9, 1, 1, 7] _ (bs_newB W [9, 9, 1, 1, 7]) (by simp))
     generalize frameL [1] = f1 at *
     generalize frameL [2, 1, 0] = f2 at *
     generalize frameL [9, 9, 1, 1, 7] = f3 at *
     go_wp2_with fail
     refine HF1.out.mono ?_
     rintro e wa ⟨va, rfl, hoa, hba⟩
     have HOa := Lib.hid hoa
     have HWa : Hid (Below wr.heap.size wr wa) := below_then ((Below.refl _ wr).alloc (Nat.le_refl _) _) hba
     obtain ⟨B1, hB1⟩ : ∃ B1, B1 = (wr.alloc (.cells (([1] : List UInt8).map bV).toArray 5)).heap.size := ⟨_, rfl⟩
     rw [← hB1] at HOa
     have hB1a : B1 ≤ wa.heap.size := by rw [hB1]; exact hba.size
     have hB1w : wr.heap.size ≤ B1 := by rw [hB1]; simp
     clear hoa hba HF1 hB1
     go_wp2_with fail
     refine (HF2.out wa).mono ?_
     rintro e wb ⟨vb, rfl, hob, hbb⟩
     have HOb := Lib.hid (own_bs hob)
     have HOa2 := Lib.hid (own_below (HOa.out.alloc (.cells (([2, 1, 0] : List UInt8).map bV).toArray 5)) hbb)
     have HWb : Hid (Below wr.heap.size wr wb) := below_then (below_then HWa.out ((Below.refl _ wa).alloc (Nat.le_refl _) _)) hbb
     have hB1b : B1 ≤ wb.heap.size := by have := hbb.size; simp at this; omega
     obtain ⟨Ab, cb, rfl, _⟩ := HOb.out.len
     have HRb := Lib.hid (bs_reads HOb.out)
     clear hob hbb HF2 HOa HWa hB1a
     go_wp2_with (at_builtin; go_must (refine wpList_append_any _ rfl (.tmp 27) (.tmp 29) _ rfl B1 5 i0 _ 1 1 Tryz.underlying36 Hi0.out Hz0.out Hz1.out Hz2.out rfl (by omega) va f1.length (f1.map bV) rfl HOa2.out wb.heap.size Ab f2.length cb (f2.map bV) rfl HRb.out (bV_one _) (by have q1 := Hf1.out; have q2 := Hf2.out; unfold maxLen; omega) (by have q1 := Hf1.out; have q2 := Hf2.out; omega) (by omega) ?_))
     intro vc wc ho hg hat
     have HOc : Hid (wc.ownsRow B1 5 1 vc (f1 ++ f2).length ((f1 ++ f2).map bV)) := by
      show World.ownsRow _ _ _ _ _ _ _
      rw [List.length_append, List.map_append]; exact ho
     have HWc : Hid (Below wr.heap.size wr wc) := HWb.out.grown hg HWb.out.size (fun g h => by have := (HOa2.out.lt g h).1; omega)
     have hB1c : B1 ≤ wc.heap.size := Nat.le_trans hB1b hg.size
     have Hl12 : Hid ((f1 ++ f2).length = 14) := by show _ = _; rw [List.length_append, Hf1.out, Hf2.out]
     clear ho hg hat HOa2 HOb HRb HWb hB1b
     generalize f1 ++ f2 = f12 at *
     go_wp2_with fail
     refine (HF3.out wc).mono ?_
     rintro e wd ⟨vd, rfl, hod, hbd⟩
     have HOd := Lib.hid (own_bs hod)
     have HOc2 := Lib.hid (own_below (HOc.out.alloc (.cells (([9, 9, 1, 1, 7] : List UInt8).map bV).toArray 5)) hbd)
     have HWd : Hid (Below wr.heap.size wr wd) := below_then (below_then HWc.out ((Below.refl _ wc).alloc (Nat.le_refl _) _)) hbd
     have hB1d : B1 ≤ wd.heap.size := by have := hbd.size; simp at this; omega
     obtain ⟨Ad, cd, rfl, _⟩ := HOd.out.len
     have HRd := Lib.hid (bs_reads HOd.out)
     clear hod hbd HF3 HOc HWc hB1c
     go_wp2_with (at_builtin; go_must (refine wpList_append_any _ rfl (.tmp 31) (.tmp 33) _ rfl B1 5 i0 _ 1 1 Tryz.underlying36 Hi0.out Hz0.out Hz1.out Hz2.out rfl (by omega) vc f12.length (f12.map bV) rfl HOc2.out wd.heap.size Ad f3.length cd (f3.map bV) rfl HRd.out (bV_one _) (by have q1 := Hl12.out; have q2 := Hf3.out; unfold maxLen; omega) (by have q1 := Hl12.out; have q2 := Hf3.out; omega) (by omega) ?_))
     intro ve we ho hg hat
     have HOe : Hid (we.ownsRow B1 5 1 ve (f12 ++ f3).length ((f12 ++ f3).map bV)) := by
      show World.ownsRow _ _ _ _ _ _ _
      rw [List.length_append, List.map_append]; exact ho
     have HWe : Hid (Below wr.heap.size wr we) := HWd.out.grown hg HWd.out.size (fun g h => by have := (HOc2.out.lt g h).1; omega)
     have hB1e : B1 ≤ we.heap.size := Nat.le_trans hB1d hg.size
     have Hl3 : Hid ((f12 ++ f3).length = 24) := by show _ = _; rw [List.length_append, Hl12.out, Hf3.out]
     clear ho hg hat HOc2 HOd HRd HWd hB1d
     generalize f12 ++ f3 = f4 at *
     have HOe2 := Lib.hid (HOe.out.alloc (.cells #[.int .u8 5, .int .u8 5, .int .u8 5] 5))
     have HWe2 := Lib.hid (HWe.out.alloc HWe.out.size (.cells #[.int .u8 5, .int .u8 5, .int .u8 5] 5))
     go_wp2_with (at_builtin; go_must (refine wpList_append_any _ rfl (.tmp 34) (.tmp 35) _ rfl B1 5 i0 _ 1 1 Tryz.underlying36 Hi0.out Hz0.out Hz1.out Hz2.out rfl (by omega) ve f4.length (f4.map bV) rfl HOe2.out (we.heap.size + 1) (some ⟨we.heap.size, 0, none⟩) 3 3 [.int .u8 5, .int .u8 5, .int .u8 5] rfl (reads_new we _ _ _ _ rfl) (by intro u hu; simp at hu; subst hu; rfl) (by have q1 := Hl3.out; unfold maxLen; omega) (by have q1 := Hl3.out; omega) (by simp; omega) ?_))
     intro vf wf ho hg hat
     have HOf : Hid (Bs wf [] vf (f4 ++ [5, 5, 5])) := by
      refine own_bs (base := B1) ?_
      rw [List.length_append, List.map_append]; exact ho
     have HWf : Hid (Below wr.heap.size wr wf) := HWe2.out.grown hg HWe2.out.size (fun g h => by have := (HOe.out.lt g h).1; omega)
     have Hl5 : Hid ((f4 ++ [5, 5, 5]).length = 27) := by show _ = _; rw [List.length_append, Hl3.out]; rfl
     clear ho hg hat HOe HOe2 HWe HWe2 hB1e
     generalize f4 ++ [5, 5, 5] = ob at *
     obtain ⟨Af, cf, rfl, _⟩ := HOf.out.len
     have HLf := Lib.hid (HL.out.below HWf.out)
     have Hbf := Lib.hid (below_then Hbq.out HWf.out)
     clear HL Hbq HWf
     have HP1 : Hid (∀ W g, Below wf.heap.size wf W → AskAt W [] (.slice (some ⟨g, 0, none⟩) 3 3) asks1 → Calls Tryz.prog 39 #[.slice Af ob.length cf, .slice (some ⟨g, 0, none⟩) 3 3] W fun e w' => SamePost true W e w') := fun W g hb ha =>
      play_any Af cf ob _ 3 asks1 mx W (HOf.out.keep (M' := []) (Keeps.of_below hb) (by simp)) (by have := Hl5.out; omega) ha asks1_ok (Hm.out W (below_then Hbf.out hb))
     have HP2 : Hid (∀ W g, Below wf.heap.size wf W → AskAt W [] (.slice (some ⟨g, 0, none⟩) 8 8) asks2 → Calls Tryz.prog 39 #[.slice none 0 0, .slice (some ⟨g, 0, none⟩) 8 8] W fun e w' => SamePost true W e w') := fun W g hb ha =>
      play_any none 0 [] _ 8 asks2 mx W (Bs.nil _ _) (by simp) ha asks2_ok (Hm.out W (below_then Hbf.out hb))
     have HLW : Hid (∀ W, Below wf.heap.size wf W → LongAt W gl 129) := fun W hb => HLf.out.below hb
     have HFin : Hid (∀ W, Below wf.heap.size wf W → SamePost true w (.returned (.bool true)) W) := fun W hb => ⟨rfl, below_then Hbf.out hb⟩
     have HKn : Hid (∀ W, Below wf.heap.size wf W → Calls Tryz.prog 37 #[] W fun e w' => SamePost true W e w') := fun W hb => vknown_any mx W (Hm.out W (below_then Hbf.out hb))
     clear HLf HOf Hbf Hl5 Hl3 Hl12 Hf1 Hf2 Hf3
     have Hq0 : Hid (Below wf.heap.size wf wf.drew) := bdrewG (Below.refl _ wf)
     go_upto_region 14 with (fail)
     refine wp_region_held_drew (S := (fun _ => True)) (by kernel_rfl) trivial (fun hHeld => ?_)
     refine wpAnyH_take (i := 0) (oi := _) (v := ?v0n) rfl (by kernel_rfl) (by kernel_rfl) (by kernel_rfl) (fun _ _ _ h => h) (Or.inl ⟨by rfl, ?y0n⟩) (by assumption) ?r0n
     case y0n => (intro w hSw; (try dsimp only at hSw); go_simp <;> with_reducible rfl)
     try simp only [List.getElem_toArray, List.getElem_cons_succ, List.getElem_cons_zero, Act.put, List.setIfInBounds_toArray, List.set_cons_zero, List.set_cons_succ]
     refine wpAnyH_take (i := 1) (oi := _) (v := ?v1n) rfl (by kernel_rfl) (by kernel_rfl) (by kernel_rfl) (fun _ _ _ h => h) (Or.inl ⟨by rfl, ?y1n⟩) (by assumption) ?r1n
     case y1n => (intro w hSw; (try dsimp only at hSw); go_simp <;> with_reducible rfl)
     try simp only [List.getElem_toArray, List.getElem_cons_succ, List.getElem_cons_zero, Act.put, List.setIfInBounds_toArray, List.set_cons_zero, List.set_cons_succ]
     refine wpAnyH_take (i := 2) (oi := _) (v := ?v2n) rfl (by kernel_rfl) (by kernel_rfl) (by kernel_rfl) (fun _ _ _ h => h) (Or.inl ⟨by rfl, ?y2n⟩) (by assumption) ?r2n
     case y2n => (intro w hSw; (try dsimp only at hSw); go_simp <;> with_reducible rfl)
     try simp only [List.getElem_toArray, List.getElem_cons_succ, List.getElem_cons_zero, Act.put, List.setIfInBounds_toArray, List.set_cons_zero, List.set_cons_succ]
     refine wpAnyH_take (i := 3) (oi := _) (v := ?v3n) rfl (by kernel_rfl) (by kernel_rfl) (by kernel_rfl) (fun _ _ _ h => h) (Or.inl ⟨by rfl, ?y3n⟩) (by assumption) ?r3n
     case y3n => (intro w hSw; (try dsimp only at hSw); go_simp <;> with_reducible rfl)
     try simp only [List.getElem_toArray, List.getElem_cons_succ, List.getElem_cons_zero, Act.put, List.setIfInBounds_toArray, List.set_cons_zero, List.set_cons_succ]
     refine wpAnyH_ready (rs := [4]) (by kernel_rfl) (by simp) ?_
     refine AllReadyH.cons (o := _) rfl (fun K hK => ?_) AllReadyH.nil
     go_simp
     have HA1 := Lib.hid ((asks1_new wf).keep (M' := []) ((Keeps.refl _ _).drew) (by simp))
     have Hq1 : Hid (Below wf.heap.size wf (wf.alloc (.cells #[.int .i64 0, .int .i64 2, .slice none 0 0, .int .i64 0, .int .i64 3, .slice none 0 0, .int .i64 4, .int .i64 0, .slice none 0 0] 54)).drew) := bdrewG ((Below.refl _ wf).alloc (Nat.le_refl _) _)
     generalize (wf.alloc (.cells #[.int .i64 0, .int .i64 2, .slice none 0 0, .int .i64 0, .int .i64 3, .slice none 0 0, .int .i64 4, .int .i64 0, .slice none 0 0] 54)).drew = W1 at *
     refine hK.out _ _ trivial (fun hHeld2 => ?_)
     clear hK K hHeld
     have hHeld := hHeld2
     clear hHeld2
     try simp only [List.getElem_toArray, List.getElem_cons_succ, List.getElem_cons_zero, Act.put, List.setIfInBounds_toArray, List.set_cons_zero, List.set_cons_succ]
     refine wpAnyH_ready (rs := [5]) (by kernel_rfl) (by simp) ?_
     refine AllReadyH.cons (o := _) rfl (fun K hK => ?_) AllReadyH.nil
     go_simp
     refine (HP1.out W1 _ Hq1.out HA1.out).mono ?_
     rintro r W2 ⟨rfl, hb2⟩
     have Hq2 := Lib.hid (below_then Hq1.out hb2)
     clear hb2 HA1
     refine hK.out _ _ trivial (fun hHeld2 => ?_)
     clear hK K hHeld
     have hHeld := hHeld2
     clear hHeld2
     try simp only [List.getElem_toArray, List.getElem_cons_succ, List.getElem_cons_zero, Act.put, List.setIfInBounds_toArray, List.set_cons_zero, List.set_cons_succ]
     refine wpAnyH_take (i := 6) (oi := _) (v := ?v6n) rfl (by kernel_rfl) (by kernel_rfl) (by kernel_rfl) (fun _ _ _ h => h) (Or.inl ⟨by rfl, ?y6n⟩) (by assumption) ?r6n
     case y6n => (intro w hSw; (try dsimp only at hSw); go_simp <;> with_reducible rfl)
     try simp only [List.getElem_toArray, List.getElem_cons_succ, List.getElem_cons_zero, Act.put, List.setIfInBounds_toArray, List.set_cons_zero, List.set_cons_succ]
     refine wpAnyH_take (i := 7) (oi := _) (v := ?v7n) rfl (by kernel_rfl) (by kernel_rfl) (by kernel_rfl) (fun _ _ _ h => h) (Or.inl ⟨by rfl, ?y7n⟩) (by assumption) ?r7n
     case y7n => (intro w hSw; (try dsimp only at hSw); go_simp <;> with_reducible rfl)
     try simp only [List.getElem_toArray, List.getElem_cons_succ, List.getElem_cons_zero, Act.put, List.setIfInBounds_toArray, List.set_cons_zero, List.set_cons_succ]
     refine wpAnyH_take (i := 8) (oi := _) (v := ?v8n) rfl (by kernel_rfl) (by kernel_rfl) (by kernel_rfl) (fun _ _ _ h => h) (Or.inl ⟨by rfl, ?y8n⟩) (by assumption) ?r8n
     case y8n => (intro w hSw; (try dsimp only at hSw); go_simp <;> with_reducible rfl)
     try simp only [List.getElem_toArray, List.getElem_cons_succ, List.getElem_cons_zero, Act.put, List.setIfInBounds_toArray, List.set_cons_zero, List.set_cons_succ]
     refine wpAnyH_take (i := 9) (oi := _) (v := ?v9n) rfl (by kernel_rfl) (by kernel_rfl) (by kernel_rfl) (fun _ _ _ h => h) (Or.inl ⟨by rfl, ?y9n⟩) (by assumption) ?r9n
     case y9n => (intro w hSw; (try dsimp only at hSw); go_simp <;> with_reducible rfl)
     try simp only [List.getElem_toArray, List.getElem_cons_succ, List.getElem_cons_zero, Act.put, List.setIfInBounds_toArray, List.set_cons_zero, List.set_cons_succ]
     refine wpAnyH_take (i := 10) (oi := _) (v := ?v10n) rfl (by kernel_rfl) (by kernel_rfl) (by kernel_rfl) (fun _ _ _ h => h) (Or.inl ⟨by rfl, ?y10n⟩) (by assumption) ?r10n
     case y10n => (intro w hSw; (try dsimp only at hSw); go_simp <;> with_reducible rfl)
     try simp only [List.getElem_toArray, List.getElem_cons_succ, List.getElem_cons_zero, Act.put, List.setIfInBounds_toArray, List.set_cons_zero, List.set_cons_succ]
     refine wpAnyH_take (i := 11) (oi := _) (v := ?v11n) rfl (by kernel_rfl) (by kernel_rfl) (by kernel_rfl) (fun _ _ _ h => h) (Or.inl ⟨by rfl, ?y11n⟩) (by assumption) ?r11n
     case y11n => (intro w hSw; (try dsimp only at hSw); go_simp <;> with_reducible rfl)
     try simp only [List.getElem_toArray, List.getElem_cons_succ, List.getElem_cons_zero, Act.put, List.setIfInBounds_toArray, List.set_cons_zero, List.set_cons_succ]
     refine wpAnyH_take (i := 12) (oi := _) (v := ?v12n) rfl (by kernel_rfl) (by kernel_rfl) (by kernel_rfl) (fun _ _ _ h => h) (Or.inl ⟨by rfl, ?y12n⟩) (by assumption) ?r12n
     case y12n => (intro w hSw; (try dsimp only at hSw); go_simp <;> with_reducible rfl)
     try simp only [List.getElem_toArray, List.getElem_cons_succ, List.getElem_cons_zero, Act.put, List.setIfInBounds_toArray, List.set_cons_zero, List.set_cons_succ]
     refine wpAnyH_take (i := 13) (oi := _) (v := ?v13n) rfl (by kernel_rfl) (by kernel_rfl) (by kernel_rfl) (fun _ _ _ h => h) (Or.inl ⟨by rfl, ?y13n⟩) (by assumption) ?r13n
     case y13n => (intro w hSw; (try dsimp only at hSw); go_simp <;> with_reducible rfl)
     try simp only [List.getElem_toArray, List.getElem_cons_succ, List.getElem_cons_zero, Act.put, List.setIfInBounds_toArray, List.set_cons_zero, List.set_cons_succ]
     refine wpAnyH_take (i := 14) (oi := _) (v := ?v14n) rfl (by kernel_rfl) (by kernel_rfl) (by kernel_rfl) (fun _ _ _ h => h) (Or.inl ⟨by rfl, ?y14n⟩) (by assumption) ?r14n
     case y14n => (intro w hSw; (try dsimp only at hSw); go_simp <;> with_reducible rfl)
     try simp only [List.getElem_toArray, List.getElem_cons_succ, List.getElem_cons_zero, Act.put, List.setIfInBounds_toArray, List.set_cons_zero, List.set_cons_succ]
     refine wpAnyH_take (i := 15) (oi := _) (v := ?v15n) rfl (by kernel_rfl) (by kernel_rfl) (by kernel_rfl) (fun _ _ _ h => h) (Or.inl ⟨by rfl, ?y15n⟩) (by assumption) ?r15n
     case y15n => (intro w hSw; (try dsimp only at hSw); go_simp <;> with_reducible rfl)
     try simp only [List.getElem_toArray, List.getElem_cons_succ, List.getElem_cons_zero, Act.put, List.setIfInBounds_toArray, List.set_cons_zero, List.set_cons_succ]
     refine wpAnyH_take (i := 16) (oi := _) (v := ?v16n) rfl (by kernel_rfl) (by kernel_rfl) (by kernel_rfl) (fun _ _ _ h => h) (Or.inl ⟨by rfl, ?y16n⟩) (by assumption) ?r16n
     case y16n => (intro w hSw; (try dsimp only at hSw); go_simp <;> with_reducible rfl)
     try simp only [List.getElem_toArray, List.getElem_cons_succ, List.getElem_cons_zero, Act.put, List.setIfInBounds_toArray, List.set_cons_zero, List.set_cons_succ]
     refine wpAnyH_take (i := 17) (oi := _) (v := ?v17n) rfl (by kernel_rfl) (by kernel_rfl) (by kernel_rfl) (fun _ _ _ h => h) (Or.inl ⟨by rfl, ?y17n⟩) (by assumption) ?r17n
     case y17n => (intro w hSw; (try dsimp only at hSw); go_simp <;> with_reducible rfl)
     try simp only [List.getElem_toArray, List.getElem_cons_succ, List.getElem_cons_zero, Act.put, List.setIfInBounds_toArray, List.set_cons_zero, List.set_cons_succ]
     refine wpAnyH_take (i := 18) (oi := _) (v := ?v18n) rfl (by kernel_rfl) (by kernel_rfl) (by kernel_rfl) (fun _ _ _ h => h) (Or.inl ⟨by rfl, ?y18n⟩) (by assumption) ?r18n
     case y18n => (intro w hSw; (try dsimp only at hSw); go_simp <;> with_reducible rfl)
     try simp only [List.getElem_toArray, List.getElem_cons_succ, List.getElem_cons_zero, Act.put, List.setIfInBounds_toArray, List.set_cons_zero, List.set_cons_succ]
     refine wpAnyH_take (i := 21) (oi := _) (v := ?v21n) rfl (by kernel_rfl) (by kernel_rfl) (by kernel_rfl) (fun _ _ _ h => h) (Or.inl ⟨by rfl, ?y21n⟩) (by assumption) ?r21n
     case y21n => (intro w hSw; (try dsimp only at hSw); go_simp <;> with_reducible rfl)
     try simp only [List.getElem_toArray, List.getElem_cons_succ, List.getElem_cons_zero, Act.put, List.setIfInBounds_toArray, List.set_cons_zero, List.set_cons_succ]
     refine wpAnyH_take (i := 22) (oi := _) (v := ?v22n) rfl (by kernel_rfl) (by kernel_rfl) (by kernel_rfl) (fun _ _ _ h => h) (Or.inl ⟨by rfl, ?y22n⟩) (by assumption) ?r22n
     case y22n => (intro w hSw; (try dsimp only at hSw); go_simp <;> with_reducible rfl)
     try simp only [List.getElem_toArray, List.getElem_cons_succ, List.getElem_cons_zero, Act.put, List.setIfInBounds_toArray, List.set_cons_zero, List.set_cons_succ]
     refine wpAnyH_take (i := 23) (oi := _) (v := ?v23n) rfl (by kernel_rfl) (by kernel_rfl) (by kernel_rfl) (fun _ _ _ h => h) (Or.inl ⟨by rfl, ?y23n⟩) (by assumption) ?r23n
     case y23n => (intro w hSw; (try dsimp only at hSw); go_simp <;> with_reducible rfl)
     try simp only [List.getElem_toArray, List.getElem_cons_succ, List.getElem_cons_zero, Act.put, List.setIfInBounds_toArray, List.set_cons_zero, List.set_cons_succ]
     refine wpAnyH_ready (rs := [19]) (by kernel_rfl) (by simp) ?_
     refine AllReadyH.cons (o := _) rfl (fun K hK => ?_) AllReadyH.nil
     go_simp
     have HN3 : Hid (Ens (W2.alloc (.cells #[.int .i64 0, .int .i64 0, .int .i64 0, .int .i64 0, .int .i64 0, .slice none 0 0, .string ⟨#[]⟩, .int .i64 0, .int .i64 0] 26)) [] (.slice (some ⟨W2.heap.size, 0, none⟩) 1 1) [noneE]) := ens_none W2
     have Hq3 : Hid (Below wf.heap.size wf (W2.alloc (.cells #[.int .i64 0, .int .i64 0, .int .i64 0, .int .i64 0, .int .i64 0, .slice none 0 0, .string ⟨#[]⟩, .int .i64 0, .int .i64 0] 26))) := Hq2.out.alloc Hq2.out.size _
     generalize W2.alloc (.cells #[.int .i64 0, .int .i64 0, .int .i64 0, .int .i64 0, .int .i64 0, .slice none 0 0, .string ⟨#[]⟩, .int .i64 0, .int .i64 0] 26) = W3 at *
     generalize W2.heap.size = gn at *
     refine hK.out _ _ trivial (fun hHeld2 => ?_)
     clear hK K hHeld
     have hHeld := hHeld2
     clear hHeld2
     try simp only [List.getElem_toArray, List.getElem_cons_succ, List.getElem_cons_zero, Act.put, List.setIfInBounds_toArray, List.set_cons_zero, List.set_cons_succ]
     refine wpAnyH_take (i := 20) (oi := _) (v := ?v20n) rfl (by kernel_rfl) (by kernel_rfl) (by kernel_rfl) (fun _ _ _ h => h) (Or.inl ⟨by rfl, ?y20n⟩) (by assumption) ?r20n
     case y20n => (intro w hSw; (try dsimp only at hSw); go_simp <;> with_reducible rfl)
     try simp only [List.getElem_toArray, List.getElem_cons_succ, List.getElem_cons_zero, Act.put, List.setIfInBounds_toArray, List.set_cons_zero, List.set_cons_succ]
     refine wpAnyH_ready (rs := [24]) (by kernel_rfl) (by simp) ?_
     refine AllReadyH.cons (o := _) rfl (fun K hK => ?_) AllReadyH.nil
     go_simp
     have HA4 := Lib.hid (asks2_new W3 gl gn (HLW.out W3 Hq3.out) HN3.out)
     have Hq4 : Hid (Below wf.heap.size wf (W3.alloc (.cells #[.int .i64 2, .int .i64 1, .slice (some ⟨gl, 0, none⟩) 129 129, .int .i64 2, .int .i64 1, .slice (some ⟨gl, 9, none⟩) 128 128, .int .i64 2, .int .i64 1, .slice (some ⟨gl, 0, none⟩) 3 129, .int .i64 2, .int .i64 2, .slice (some ⟨gl, 0, none⟩) 3 129, .int .i64 2, .int .i64 2, .slice (some ⟨gn, 0, none⟩) 1 1, .int .i64 2, .int .i64 (-1), .slice none 0 0, .int .i64 0, .int .i64 9223372036854775807, .slice none 0 0, .int .i64 4, .int .i64 0, .slice none 0 0] 54))) := Hq3.out.alloc Hq3.out.size _
     generalize W3.alloc (.cells #[.int .i64 2, .int .i64 1, .slice (some ⟨gl, 0, none⟩) 129 129, .int .i64 2, .int .i64 1, .slice (some ⟨gl, 9, none⟩) 128 128, .int .i64 2, .int .i64 1, .slice (some ⟨gl, 0, none⟩) 3 129, .int .i64 2, .int .i64 2, .slice (some ⟨gl, 0, none⟩) 3 129, .int .i64 2, .int .i64 2, .slice (some ⟨gn, 0, none⟩) 1 1, .int .i64 2, .int .i64 (-1), .slice none 0 0, .int .i64 0, .int .i64 9223372036854775807, .slice none 0 0, .int .i64 4, .int .i64 0, .slice none 0 0] 54) = W4 at *
     refine hK.out _ _ trivial (fun hHeld2 => ?_)
     clear hK K hHeld
     have hHeld := hHeld2
     clear hHeld2
     try simp only [List.getElem_toArray, List.getElem_cons_succ, List.getElem_cons_zero, Act.put, List.setIfInBounds_toArray, List.set_cons_zero, List.set_cons_succ]
     refine wpAnyH_ready (rs := [25]) (by kernel_rfl) (by simp) ?_
     refine AllReadyH.cons (o := _) rfl (fun K hK => ?_) AllReadyH.nil
     go_simp
     refine (HP2.out W4 _ Hq4.out HA4.out).mono ?_
     rintro r W5 ⟨rfl, hb5⟩
     have Hq5 := Lib.hid (below_then Hq4.out hb5)
     clear hb5 HA4
     refine hK.out _ _ trivial (fun hHeld2 => ?_)
     clear hK K hHeld
     have hHeld := hHeld2
     clear hHeld2
     try simp only [List.getElem_toArray, List.getElem_cons_succ, List.getElem_cons_zero, Act.put, List.setIfInBounds_toArray, List.set_cons_zero, List.set_cons_succ]
     refine wpAnyH_take (i := 26) (oi := _) (v := ?v26n) rfl (by kernel_rfl) (by kernel_rfl) (by kernel_rfl) (fun _ _ _ h => h) (Or.inl ⟨by rfl, ?y26n⟩) (by assumption) ?r26n
     case y26n => (intro w hSw; (try dsimp only at hSw); go_simp <;> with_reducible rfl)
     try simp only [List.getElem_toArray, List.getElem_cons_succ, List.getElem_cons_zero, Act.put, List.setIfInBounds_toArray, List.set_cons_zero, List.set_cons_succ]
     refine wpAnyH_take (i := 27) (oi := _) (v := ?v27n) rfl (by kernel_rfl) (by kernel_rfl) (by kernel_rfl) (fun _ _ _ h => h) (Or.inl ⟨by rfl, ?y27n⟩) (by assumption) ?r27n
     case y27n => (intro w hSw; (try dsimp only at hSw); go_simp <;> with_reducible rfl)
     try simp only [List.getElem_toArray, List.getElem_cons_succ, List.getElem_cons_zero, Act.put, List.setIfInBounds_toArray, List.set_cons_zero, List.set_cons_succ]
     refine wpAnyH_ready (rs := [28]) (by kernel_rfl) (by simp) ?_
     refine AllReadyH.cons (o := _) rfl (fun K hK => ?_) AllReadyH.nil
     go_simp
     refine (HKn.out W5 Hq5.out).mono ?_
     rintro r W6 ⟨rfl, hb6⟩
     have Hq6 := Lib.hid (below_then Hq5.out hb6)
     clear hb6
     refine hK.out _ _ trivial (fun hHeld2 => ?_)
     clear hK K hHeld
     have hHeld := hHeld2
     clear hHeld2
     try simp only [List.getElem_toArray, List.getElem_cons_succ, List.getElem_cons_zero, Act.put, List.setIfInBounds_toArray, List.set_cons_zero, List.set_cons_succ]
     refine wpAnyH_take (i := 29) (oi := _) (v := ?v29n) rfl (by kernel_rfl) (by kernel_rfl) (by kernel_rfl) (fun _ _ _ h => h) (Or.inl ⟨by rfl, ?y29n⟩) (by assumption) ?r29n
     case y29n => (intro w hSw; (try dsimp only at hSw); go_simp <;> with_reducible rfl)
     try simp only [List.getElem_toArray, List.getElem_cons_succ, List.getElem_cons_zero, Act.put, List.setIfInBounds_toArray, List.set_cons_zero, List.set_cons_succ]
     refine wpAnyH_take (i := 30) (oi := _) (v := ?v30n) rfl (by kernel_rfl) (by kernel_rfl) (by kernel_rfl) (fun _ _ _ h => h) (Or.inl ⟨by rfl, ?y30n⟩) (by assumption) ?r30n
     case y30n => (intro w hSw; (try dsimp only at hSw); go_simp <;> with_reducible rfl)
     try simp only [List.getElem_toArray, List.getElem_cons_succ, List.getElem_cons_zero, Act.put, List.setIfInBounds_toArray, List.set_cons_zero, List.set_cons_succ]
     refine wpAnyH_done (by kernel_rfl) ?_ _
     have HF := Lib.hid (HFin.out _ Hq6.out)
     clear hHeld
     go_wp2
     go_ret
     exact HF.out
end Go.Proofs.YtinnifhnabncfaaGreatDoor.Vi
end
