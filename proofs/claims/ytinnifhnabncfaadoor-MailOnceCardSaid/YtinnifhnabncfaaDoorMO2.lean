/- Texts put together: Lab2, RowK, Lab3, Lab4, Shelf, Lab5. -/
import Derived.Deep.RegionHeld3
import Derived.Laws.Cover1
import Derived.Shelf.SlSortCmp.InsertionK
import Derived.Shelf.GgSortFunc.InsertionK
import Derived.Shelf.Strings.Builder1
import Derived.Shelf.Strings.Builder2
import Derived.Shelf.Strings.OnBuilder
import Derived.Shelf.Utf8.RuneCount
import Derived.Shelf.Strings.Search1
import Derived.Shelf.Strings.Search2
import Derived.Shelf.Strings.Search3
import Derived.Shelf.Strings.Cut
import Derived.Shelf.Strings.Count
import Derived.Shelf.LaysM
import Derived.Shelf.Strings.Shaped
import Derived.Shelf.Strings.Split
import Derived.Shelf.Strings.SplitShaped
import Derived.Shelf.Unicode.Decode
import Derived.Shelf.Strings.RuneCount
import Derived.Shelf.Strings.Explode
import Derived.Shelf.Unicode.DecodeSlow
import Derived.Shelf.Unicode.DecodeAny
import Derived.Test.YtinnifhnabncfaaDoorProg
import Derived.Test.YtinnifhnabncfaaDoorMO1
/- cmp.Compare at string; label.sorted$1; the sort of labels by insertion. -/
section
namespace Go.Proofs.YtinnifhnabncfaaDoor.Vi
open Go.RowKit Base Mem Go.Sort Go.Shelf
structure LabD where
  name : ByteArray
  value : ByteArray
instance : Inhabited LabD := ⟨⟨⟨#[]⟩, ⟨#[]⟩⟩⟩
def labEnc (d : LabD) : List Value := [.string d.name, .string d.value]
def sLt (x y : ByteArray) : Bool := Op.bytesLess x.toList y.toList
def cmpS (x y : ByteArray) : Int := if sLt x y = true then -1 else if (!(sLt x y || x.toList == y.toList)) = true then 1 else 0
def cmpL (a b : LabD) : Int := cmpS a.name b.name
theorem nanStr (x : ByteArray) (w : World) : Calls Tryd.prog 99 #[.string x] w fun e w' => e = .returned (.bool false) ∧ w' = w := by
  go_enter Tryd.func99, Tryd.ntmps99
  go_wp2
  go_ret
  exact ⟨ret_bool (by simp), rfl⟩
theorem compStr (x y : ByteArray) (w : World) : Calls Tryd.prog 85 #[.string x, .string y] w fun e w' => e = .returned (.int .i64 (cmpS x y)) ∧ w' = w := by
  have hc := Lib.hid (fun x W => nanStr x W)
  have Hs : Hid (cmpS x y = if Op.bytesLess x.toList y.toList = true then -1 else if (!(Op.bytesLess x.toList y.toList || x.toList == y.toList)) = true then 1 else 0) := rfl
  by_cases h1 : Op.bytesLess x.toList y.toList = true
  · have hr : Hid (cmpS x y = -1) := by show _ = _; rw [Hs.out, if_pos h1]
    rw [hr.out]
    go_enter Tryd.func85, Tryd.ntmps85
    go_wp2_with (go_at_call 99; refine (hc.out _ _).mono ?_; rintro e w' ⟨rfl, rfl⟩)
    go_ret
    exact ⟨rfl, rfl⟩
  · have h1' : Op.bytesLess x.toList y.toList = false := by simpa using h1
    by_cases h2 : (x.toList == y.toList) = true
    · have hr : Hid (cmpS x y = 0) := by show _ = _; rw [Hs.out, if_neg h1, h1', h2]; rfl
      rw [hr.out]
      clear h1
      go_enter Tryd.func85, Tryd.ntmps85
      go_wp2_with (go_at_call 99; refine (hc.out _ _).mono ?_; rintro e w' ⟨rfl, rfl⟩)
      go_ret
      exact ⟨rfl, rfl⟩
    · have h2' : (x.toList == y.toList) = false := by simpa using h2
      have h2'' : ¬ x.toList = y.toList := by simpa using h2
      have hr : Hid (cmpS x y = 1) := by show _ = _; rw [Hs.out, if_neg h1, h1', h2']; rfl
      rw [hr.out]
      go_enter Tryd.func85, Tryd.ntmps85
      go_wp2_with (go_at_call 99; refine (hc.out _ _).mono ?_; rintro e w' ⟨rfl, rfl⟩)
      go_ret
      exact ⟨rfl, rfl⟩
theorem byName_any (a b : LabD) (w : World) : Calls Tryd.prog 84 #[.agg #[.string a.name, .string a.value], .agg #[.string b.name, .string b.value]] w fun e w' => e = .returned (.int .i64 (cmpL a b)) ∧ ∃ q os', w' = Sort.grow (w.drewN q) os' := by
  have hc := Lib.hid (fun x y W => compStr x y W)
  have hr : Hid (cmpL a b = cmpS a.name b.name) := rfl
  go_enter Tryd.func84, Tryd.ntmps84
  go_wp2_with fail
  refine (hc.out _ _ _).mono ?_
  rintro e w' ⟨rfl, rfl⟩
  go_wp2
  go_ret
  refine ⟨by rw [hr.out]; rfl, 0, #[.cells #[.string a.name, .string a.value] 97, .cells #[.string b.name, .string b.value] 97], ?_⟩
  simp only [Sort.alloc_eq_grow, Sort.grow_grow]
  rfl
theorem byName_lays (blk off size : Nat) (w : World) : CmpLays Tryd.prog 84 #[] labEnc 2 cmpL blk off size w := fun _ _ _ _ x y => byName_any x y _
/-- Labels by name, in the order of the sort. -/
def sortL (l : List LabD) : List LabD := (insertionSort (ltOf cmpL) l.toArray 0 l.length).toList
theorem ins_any (blk off cap : Nat) (l : List LabD) (w : World) (hH : HoldsK labEnc 2 w blk off l.toArray) (hblk : blk < w.heap.size) (hsz : l.length < 4611686018427387904) :
    Calls Tryd.prog 105 #[.slice (some ⟨blk, off, none⟩) l.length cap, .int .i64 0, .int .i64 l.length, .func (.func 84) #[] #[]] w fun e w' =>
      e = .returned (.tuple #[]) ∧ ∃ n os, w' = sortWorldK labEnc 2 w blk off n (sortL l).toArray os := by
  have eg : ∀ args w, (callFunc 84 args).run Tryd.prog w = .ok (.enter 84 args) w := enters_of Tryd.func84 (by kernel_rfl) rfl
  have h := AnyQ.insertionSortCmpFunc Tryd.insLabel 2 Tryd.isAgg97 Tryd.sizeOf97 labEnc (fun _ => rfl) (fun x v hv => by simp [labEnc] at hv; rcases hv with rfl | rfl <;> rfl) cmpL 84 #[] blk off cap 0 l.length l.toArray w eg (byName_lays blk off _ w) hH hblk (Nat.zero_le _) (by simp) (by simpa using hsz)
  simp only [List.size_toArray] at h
  exact h
end Go.Proofs.YtinnifhnabncfaaDoor.Vi
end
/- Words for whole rows of things of k cells: a sorted row as a block (any element). -/
section
namespace Go.Proofs.YtinnifhnabncfaaDoor.RowsK
open Go.RowKit Base Mem Go.Sort
variable {α : Type} [Inhabited α] (enc : α → List Value) (k : Nat) (hk : ∀ x, (enc x).length = k)
include hk
theorem flatK_list (h0 : 0 < k) (l : List α) : flatK enc k l.toArray = (l.flatMap enc).toArray := by
  refine ext_get! (by rw [size_flatK, List.size_toArray, List.size_toArray, flat_len enc k hk]) fun t ht => ?_
  have ht' : t < l.length * k := by simpa using ht
  have hdiv : t / k < l.length := Nat.div_lt_of_lt_mul (by rw [Nat.mul_comm]; exact ht')
  have hmod : t % k < k := Nat.mod_lt _ h0
  have hf := flat_at enc k hk l (t / k) (t % k) hdiv hmod
  rw [Nat.div_add_mod' t k] at hf
  have ht2 : t < (l.flatMap enc).length := by rw [flat_len enc k hk]; exact ht'
  have hm : t % k < (enc l[t / k]).length := by rw [hk]; exact hmod
  rw [List.getElem?_eq_getElem ht2, List.getElem?_eq_getElem hm] at hf
  injection hf with hf
  rw [get_flatK _ _ _ _ (by simpa using ht'), List.getElem!_toArray, List.getElem!_toArray, getElem!_pos (l.flatMap enc) t ht2, hf, getElem!_pos l (t / k) hdiv, getElem!_pos (enc l[t / k]) (t % k) hm]
theorem blk_holds (h0 : 0 < k) {w : World} {g : Nat} {t : TypeId} {l : List α} {rest : List Value} (h : Blk w g t (l.flatMap enc ++ rest).toArray) : HoldsK enc k w g 0 l.toArray := by
  intro j hj
  rw [flatK_list enc k hk h0] at hj ⊢
  have hj' : j < (l.flatMap enc).length := by simpa using hj
  rw [Nat.zero_add, h.cell, h.frozen]
  refine ⟨?_, rfl⟩
  rw [List.getElem?_toArray, List.getElem?_append_left hj', List.getElem!_toArray, getElem!_pos (l.flatMap enc) j hj', List.getElem?_eq_getElem hj']
  rfl
theorem blk_sorted (h0 : 0 < k) {w : World} {g : Nat} {t : TypeId} {l l' : List α} {rest : List Value} (h : Blk w g t (l.flatMap enc ++ rest).toArray) (hl : l'.length = l.length) (n : Nat) (os : Array Obj) :
    Blk (sortWorldK enc k w g 0 n l'.toArray os) g t (l'.flatMap enc ++ rest).toArray := by
  have hlt := h.lt
  unfold Blk at h ⊢
  have hp : (putRowK enc k (Sort.ahead w n) g 0 l'.toArray).heap[g]? = some (.cells (putCells id 0 (flatK enc k l'.toArray) (l.flatMap enc ++ rest).toArray) t (0, 0)) := by
    simp only [putRowK, putRow, mapBlock, Sort.ahead, Array.getElem?_modify, if_true, h, Option.map_some, onCells]
  have hs : g < (putRowK enc k (Sort.ahead w n) g 0 l'.toArray).heap.size := by simpa [putRowK, Sort.ahead] using hlt
  show ((putRowK enc k (Sort.ahead w n) g 0 l'.toArray).heap ++ os)[g]? = _
  rw [Array.getElem?_append_left hs, hp]
  congr 2
  rw [flatK_list enc k hk h0]
  have hz : l'.length * k = l.length * k := by rw [hl]
  have e1 := flat_len enc k hk l
  have e2 := flat_len enc k hk l'
  refine Array.ext_getElem? fun j => ?_
  simp only [putCells, Array.getElem?_mapIdx, List.getElem?_toArray, List.size_toArray, e2, Nat.zero_le, Nat.zero_add, Nat.sub_zero, true_and]
  by_cases hj : j < l'.length * k
  · have h1 : j < (l.flatMap enc).length := by rw [e1]; omega
    have h2 : j < (l'.flatMap enc).length := by rw [e2]; omega
    rw [List.getElem?_append_left h1, List.getElem?_append_left h2, List.getElem?_eq_getElem h1, List.getElem?_eq_getElem h2, Option.map_some, if_pos hj, List.getElem!_toArray, getElem!_pos (l'.flatMap enc) j h2]
    rfl
  · have h1 : (l.flatMap enc).length ≤ j := by rw [e1]; omega
    have h2 : (l'.flatMap enc).length ≤ j := by rw [e2]; omega
    rw [List.getElem?_append_right h1, List.getElem?_append_right h2, e1, e2, hz]
    simp only [if_neg (show ¬ j < l.length * k by omega)]
    exact Option.map_id'
omit hk in
theorem keeps_sorted (w : World) (g n : Nat) (d : Array α) (os : Array Obj) : Keeps [g] w (sortWorldK enc k w g 0 n d os) := by
  have hs : (putRowK enc k (Sort.ahead w n) g 0 d).heap.size = w.heap.size := by simp [putRowK, Sort.ahead]
  refine ⟨rfl, rfl, rfl, ?_, fun j hj hn => ?_⟩
  · show _ ≤ ((putRowK enc k (Sort.ahead w n) g 0 d).heap ++ os).size
    rw [Array.size_append, hs]; omega
  · show ((putRowK enc k (Sort.ahead w n) g 0 d).heap ++ os)[j]? = _
    rw [Array.getElem?_append_left (by omega)]
    have hne : g ≠ j := fun e => hn (by simp [e])
    simp [putRowK, putRow, mapBlock, Sort.ahead, Array.getElem?_modify, hne]
theorem own_blk {w : World} {base : Nat} {t : TypeId} {v : Value} {l : List α} (h : w.ownsRow base t k v l.length (l.flatMap enc)) (h0 : 0 < l.length) :
    ∃ g cap rest, v = .slice (some ⟨g, 0, none⟩) l.length cap ∧ base ≤ g ∧ l.length ≤ cap ∧ cap ≤ maxLen ∧ Blk w g t (l.flatMap enc ++ rest).toArray := by
  have _ := hk
  have _ : Inhabited α := inferInstance
  obtain ⟨_, h⟩ := h
  rcases h with ⟨_, hn⟩ | ⟨g, cap, cur, rfl, hb, hg, hnc, hcm, _, htk⟩
  · omega
  · refine ⟨g, cap, cur.toList.drop (l.length * k), rfl, hb, hnc, hcm, ?_⟩
    rw [← htk, List.take_append_drop]
    exact hg
omit [Inhabited α] in
theorem rd_of_blk {w : World} {t : TypeId} {g : Nat} {l : List α} {rest : List Value} {M : List Nat} (h : Blk w g t (l.flatMap enc ++ rest).toArray) (hg : g ∉ M) : Rd w M k (.slice (some ⟨g, 0, none⟩) l.length l.length) l.length (l.flatMap enc) :=
  ⟨_, _, rfl, Nat.le_refl _, flat_len enc k hk l, fun _ => ⟨g, 0, rfl, h.lt, hg, fun j u hu => by
    rw [Nat.zero_add, h.cell, List.getElem?_toArray, List.getElem?_append_left (List.getElem?_eq_some_iff.1 hu).1]; exact hu⟩⟩
end Go.Proofs.YtinnifhnabncfaaDoor.RowsK
end
/- slices.SortStableFunc at labels (fewer than twenty); label.sorted. -/
section
namespace Go.Proofs.YtinnifhnabncfaaDoor.Vi
open Go.RowKit Base Mem Go.Sort Go.Shelf
/-- v reads as these labels. -/
def Labs (w : World) (M : List Nat) (v : Value) (l : List LabD) : Prop := Rd w M 2 v l.length (l.flatMap labEnc)
theorem Labs.keep {w w' : World} {M M' : List Nat} {v : Value} {l : List LabD} (h : Labs w M v l) (k : Keeps M' w w') (hM : ∀ g ∈ M', g ∈ M ∨ w.heap.size ≤ g) : Labs w' M v l := Rd.keep h k hM
theorem Labs.len {w : World} {M : List Nat} {v : Value} {l : List LabD} (h : Labs w M v l) : ∃ A c, v = .slice A l.length c ∧ l.length ≤ c := by
  obtain ⟨A, c, rfl, hc, _⟩ := h
  exact ⟨A, c, rfl, hc⟩
theorem size_insInner (lt : LabD → LabD → Bool) (a : Nat) : ∀ (j : Nat) (d : Array LabD), (insInner lt a j d).size = d.size
  | 0, _ => rfl
  | j + 1, d => by
    unfold insInner
    split
    · rw [size_insInner lt a j]; simp [swp]
    · rfl
theorem size_insOuter (lt : LabD → LabD → Bool) (a b : Nat) : ∀ (n i : Nat) (d : Array LabD), b - i = n → (insOuter lt a b i d).size = d.size
  | 0, i, d, h => by unfold insOuter; rw [if_neg (by omega)]
  | n + 1, i, d, h => by
    unfold insOuter
    rw [if_pos (by omega), size_insOuter lt a b n (i + 1) _ (by omega), size_insInner]
theorem sortL_len (l : List LabD) : (sortL l).length = l.length := by
  unfold sortL insertionSort
  rw [Array.length_toList, size_insOuter _ _ _ _ _ _ rfl]
  simp
/-- What a sort of a row leaves. -/
def SoPost (g : Nat) (l : List LabD) (rest : List Value) (w : World) (e : Ending) (w' : World) : Prop :=
  e = .returned (.tuple #[]) ∧ Blk w' g 97 ((sortL l).flatMap labEnc ++ rest).toArray ∧ Keeps [g] w w'
theorem ins_blk (g cap : Nat) (l : List LabD) (rest : List Value) (w : World) (h : Blk w g 97 (l.flatMap labEnc ++ rest).toArray) (hsz : l.length < 4611686018427387904) :
    Calls Tryd.prog 105 #[.slice (some ⟨g, 0, none⟩) l.length cap, .int .i64 0, .int .i64 l.length, .func (.func 84) #[] #[]] w fun e w' => SoPost g l rest w e w' := by
  refine (ins_any g 0 cap l w (RowsK.blk_holds labEnc 2 (fun _ => rfl) (by omega) h) h.lt hsz).mono ?_
  rintro e w' ⟨rfl, n, os, rfl⟩
  exact ⟨rfl, RowsK.blk_sorted labEnc 2 (fun _ => rfl) (by omega) h (sortL_len l) n os, RowsK.keeps_sorted labEnc 2 w g n _ os⟩
set_option maxRecDepth 100000 in
theorem stable_any (g cap : Nat) (l : List LabD) (rest : List Value) (w : World) (h : Blk w g 97 (l.flatMap labEnc ++ rest).toArray) (hsz : l.length < 20) :
    Calls Tryd.prog 83 #[.slice (some ⟨g, 0, none⟩) l.length cap, .func (.func 84) #[] #[]] w fun e w' => SoPost g l rest w e w' := by
  have hi := Lib.hid (ins_blk g cap l rest w h (by omega))
  have hst : Hid (Calls Tryd.prog 98 #[.slice (some ⟨g, 0, none⟩) l.length cap, .int .i64 l.length, .func (.func 84) #[] #[]] w fun e w' => SoPost g l rest w e w') := by
    show Calls _ _ _ _ _
    have h1 : decide ((20 : Int) ≤ (l.length : Int)) = false := decide_eq_false (by omega)
    have h2 : decide ((20 : Int) < (l.length : Int)) = false := decide_eq_false (by omega)
    have h1' : ¬ (20 : Int) ≤ (l.length : Int) := by omega
    have h2' : ¬ (20 : Int) < (l.length : Int) := by omega
    clear h
    go_enter Tryd.func98, Tryd.ntmps98
    go_wp2_with fail
    go_loopw [7, 8] (fun a i wr => a = .int .i64 0 ∧ i = .int .i64 20 ∧ Hid (wr = w)) (fun _ i _ => 0)
    case atStart => exact ⟨rfl, rfl, rfl⟩
    case round =>
      obtain ⟨rfl, rfl, hww⟩ := hrel
      obtain rfl := hww.out
      go_wp2_with fail
      refine hi.out.mono ?_
      rintro e w' hp
      obtain ⟨rfl, hb, hk⟩ := id hp
      have Hp := Lib.hid hp
      clear hp hb hk
      go_wp2_with fail
      go_loopw [6] (fun i wr => i = .int .i64 20 ∧ Hid (wr = w')) (fun i _ => 0)
      case atStart => exact ⟨rfl, rfl⟩
      case round =>
        obtain ⟨rfl, hww⟩ := hrel
        obtain rfl := hww.out
        go_wp2
        go_end0
        exact Hp.out
  clear hi h
  go_enter Tryd.func83, Tryd.ntmps83
  go_wp2_with fail
  refine hst.out.mono ?_
  rintro e w' hp
  obtain ⟨rfl, hb, hk⟩ := id hp
  have Hp := Lib.hid hp
  clear hp hb hk
  go_wp2
  go_end0
  exact Hp.out
theorem ins_none (A : Option Addr) (cap : Nat) (w : World) :
    Calls Tryd.prog 83 #[.slice A 0 cap, .func (.func 84) #[] #[]] w fun e w' => e = .returned (.tuple #[]) ∧ w = w' := by
  have hi : Hid (∀ W, Calls Tryd.prog 105 #[.slice A 0 cap, .int .i64 0, .int .i64 0, .func (.func 84) #[] #[]] W fun e w' => e = .returned (.tuple #[]) ∧ W = w') := by
    show ∀ _, _
    intro W
    go_enter Tryd.func105, Tryd.ntmps105
    go_wp2_with fail
    go_loopw [8] (fun i wr => i = .int .i64 1 ∧ Hid (W = wr)) (fun i _ => 0)
    case atStart => exact ⟨rfl, rfl⟩
    case round =>
      obtain ⟨rfl, hww⟩ := hrel
      have Hw := hww
      go_wp2
      go_end0
      exact ⟨rfl, Hw.out⟩
  have hst : Hid (Calls Tryd.prog 98 #[.slice A 0 cap, .int .i64 0, .func (.func 84) #[] #[]] w fun e w' => e = .returned (.tuple #[]) ∧ w = w') := by
    show Calls _ _ _ _ _
    go_enter Tryd.func98, Tryd.ntmps98
    go_wp2_with fail
    go_loopw [7, 8] (fun a i wr => a = .int .i64 0 ∧ i = .int .i64 20 ∧ Hid (w = wr)) (fun _ i _ => 0)
    case atStart => exact ⟨rfl, rfl, rfl⟩
    case round =>
      obtain ⟨rfl, rfl, hww⟩ := hrel
      go_wp2_with fail
      refine (hi.out _).mono ?_
      rintro e w' ⟨rfl, rfl⟩
      go_wp2_with fail
      go_loopw [6] (fun i w2 => i = .int .i64 20 ∧ Hid (w = w2)) (fun i _ => 0)
      case atStart => exact ⟨rfl, hww.out⟩
      case round =>
        obtain ⟨rfl, hw2⟩ := hrel
        go_wp2
        go_end0
        exact ⟨rfl, hw2.out⟩
  clear hi
  go_enter Tryd.func83, Tryd.ntmps83
  go_wp2_with fail
  refine hst.out.mono ?_
  rintro e w' ⟨rfl, rfl⟩
  go_wp2
  go_end0
  exact ⟨rfl, rfl⟩
/-- What a call answers that makes labels. -/
def LabPost (l : List LabD) (w : World) (e : Ending) (w' : World) : Prop := ∃ A, e = .returned (.slice A l.length l.length) ∧ (∀ M, (∀ g ∈ M, g < w.heap.size) → Labs w' M (.slice A l.length l.length) l) ∧ Below w.heap.size w w'
theorem labEnc_one (l : List LabD) : ∀ u ∈ l.flatMap labEnc, u.oneCell' = true := by
  intro u hu
  obtain ⟨d, _, hd⟩ := List.mem_flatMap.1 hu
  simp [labEnc] at hd
  rcases hd with rfl | rfl <;> rfl
theorem sorted_any (v : Value) (l : List LabD) (w : World) (h : Labs w [] v l) (hl : l.length < 20) :
    Calls Tryd.prog 72 #[v] w fun e w' => LabPost (sortL l) w e w' := by
  have hc := Lib.hid (cloneLabel [] v l.length (l.flatMap labEnc) w h (labEnc_one l) (by omega))
  obtain ⟨A, c, rfl, hc2⟩ := h.len
  have Hnone := Lib.hid (fun A cap W => ins_none A cap W)
  clear h
  go_enter Tryd.func72, Tryd.ntmps72
  go_wp2_with fail
  refine hc.out.mono ?_
  rintro e w1 ⟨v1, rfl, hown, hb⟩
  have Hown := Lib.hid hown; have Hb := Lib.hid hb
  clear hown hb hc
  rcases Nat.eq_zero_or_pos l.length with h0 | h0
  · obtain rfl : l = [] := List.length_eq_zero_iff.1 h0
    obtain ⟨A1, c1, rfl⟩ : ∃ A c, v1 = .slice A 0 c := by
      obtain ⟨_, h⟩ := Hown.out
      rcases h with ⟨rfl, _⟩ | ⟨g, cap, cur, rfl, _⟩
      · exact ⟨_, _, rfl⟩
      · exact ⟨_, _, rfl⟩
    go_wp2_with fail
    refine (Hnone.out A1 c1 _).mono ?_
    rintro e w' ⟨rfl, rfl⟩
    go_wp2_with fail
    refine (clipLabel A1 0 c1 _ (by omega)).mono ?_
    rintro e w' ⟨rfl, rfl⟩
    have hs0 : sortL [] = [] := List.length_eq_zero_iff.1 (sortL_len [])
    have hp : Hid (LabPost (sortL []) w (.returned (.slice A1 0 0)) w1) := by
      show LabPost _ _ _ _
      rw [hs0]
      exact ⟨A1, rfl, fun M _ => ⟨A1, 0, rfl, Nat.le_refl _, rfl, fun h => absurd h (by simp)⟩, Hb.out⟩
    clear hs0
    go_wp2
    go_ret
    exact hp.out
  · obtain ⟨g, cap, rest, rfl, hg, hcap, hcm, hB⟩ := RowsK.own_blk labEnc 2 (fun _ => rfl) Hown.out h0
    have Hg := Lib.hid hg
    have hso := Lib.hid (stable_any g cap l rest w1 hB hl)
    clear hB hg
    go_wp2_with fail
    refine hso.out.mono ?_
    rintro e w2 ⟨rfl, hB2, hk2⟩
    have hp : Hid (LabPost (sortL l) w (.returned (.slice (some ⟨g, 0, none⟩) l.length l.length)) w2) := by
      refine ⟨some ⟨g, 0, none⟩, by rw [sortL_len], fun M hM => ?_, Hb.out.trans (hk2.belowB Hb.out.size (by intro x hx; simp at hx; subst hx; exact Hg.out))⟩
      exact RowsK.rd_of_blk labEnc 2 (fun _ => rfl) hB2 (fun hm => by have := hM _ hm; have := Hg.out; omega)
    clear hB2 hk2 hso
    go_wp2_with fail
    refine (clipLabel _ l.length cap _ hcap).mono ?_
    rintro e w' ⟨rfl, rfl⟩
    go_wp2
    go_ret
    exact hp.out
end Go.Proofs.YtinnifhnabncfaaDoor.Vi
end
/- Contract of label.Right. -/
section
namespace Go.Proofs.YtinnifhnabncfaaDoor.Vi
open Go.RowKit Base Mem Go.Sort Go.Shelf
def itemOk (s : List LabD) (i : Nat) : Bool := nameOk s[i]!.name && nameOk s[i]!.value && (i == 0 || !(s[i - 1]!.name.toList == s[i]!.name.toList))
def okRow (s : List LabD) : Bool := (List.range s.length).all (itemOk s)
/-- Why labels may not be: 0, or a number. -/
def rightS (l : List LabD) : Nat := if 8 < l.length then 3 else if okRow (sortL l) = false then 1 else if l.length = 0 then 1 else 0
theorem Labs.at_ {w : World} {M : List Nat} {v : Value} {l : List LabD} (h : Labs w M v l) {k : Nat} (hk : k < l.length) :
    ∃ g off cap, v = .slice (some ⟨g, off, none⟩) l.length cap ∧ g < w.heap.size ∧ w.cell? ⟨g, off + k * 2, none⟩ = some (.string l[k].name) ∧ w.cell? ⟨g, off + k * 2 + 1, none⟩ = some (.string l[k].value) := by
  obtain ⟨g, off, c, e, _, hg, _, hx⟩ := Rd.at_ labEnc 2 (fun _ => rfl) h hk
  exact ⟨g, off, c, e, hg, by have := hx 0 _ rfl; rwa [Nat.add_zero] at this, hx 1 _ rfl⟩
def NumPost (n : Nat) (w : World) (e : Ending) (w' : World) : Prop := e = .returned (.int .i64 n) ∧ Below w.heap.size w w'
set_option maxRecDepth 100000 in
set_option maxHeartbeats 1000000 in
theorem lright_any (v : Value) (l : List LabD) (w : World) (h : Labs w [] v l) (hl : l.length ≤ 4611686018427387904) :
    Calls Tryd.prog 71 #[v] w fun e w' => NumPost (rightS l) w e w' := by
  have HR : Hid (rightS l = if 8 < l.length then 3 else if okRow (sortL l) = false then 1 else if l.length = 0 then 1 else 0) := rfl
  by_cases h8 : 8 < l.length
  · have hR : Hid (rightS l = 3) := by show _ = _; rw [HR.out, if_pos h8]
    obtain ⟨A, c, rfl, hc⟩ := h.len
    have h8i : (8 : Int) < (l.length : Int) := by omega
    clear h HR
    rw [hR.out]
    go_enter Tryd.func71, Tryd.ntmps71
    go_wp2
    go_ret
    exact ⟨rfl, Below.refl _ _⟩
  · have hso := Lib.hid (sorted_any v l w h (by omega))
    obtain ⟨A, c, rfl, hc⟩ := h.len
    have h8i : decide ((8 : Int) < (l.length : Int)) = false := decide_eq_false (by omega)
    have hn := Lib.hid (fun x W => name_any x W)
    have HR2 : Hid (rightS l = if okRow (sortL l) = false then 1 else if (sortL l).length = 0 then 1 else 0) := by show _ = _; rw [HR.out, if_neg h8, sortL_len]
    have hs8 : (sortL l).length ≤ 8 := by rw [sortL_len]; omega
    clear h HR
    generalize hs : sortL l = s at *
    go_enter Tryd.func71, Tryd.ntmps71
    go_wp2_with fail
    refine hso.out.mono ?_
    rintro e w1 ⟨A1, rfl, hA, hb⟩
    have HA := Lib.hid (hA [] (by simp)); have Hb := Lib.hid hb
    clear hA hb hso hs
    go_wp2_with fail
    go_loopw [13] (fun i wr => ∃ x : Nat, i = .int .i64 x ∧ x ≤ s.length ∧ Hid ((List.range x).all (itemOk s) = true) ∧ Hid (Below w1.heap.size w1 wr)) (fun i _ => s.length - (intOf i).toNat)
    case atStart => exact ⟨0, rfl, by omega, rfl, Below.refl _ _⟩
    case round =>
      obtain ⟨x, rfl, hx, Hok, Hbr⟩ := hrel
      by_cases hlt : x < s.length
      · have hx1 : (x : Int) < (s.length : Int) := by omega
        obtain ⟨g, off, _, e1, hg, c0, c1⟩ := (HA.out.keep (Keeps.of_below (M := []) Hbr.out) (by simp)).at_ hlt
        obtain rfl : A1 = some ⟨g, off, none⟩ := by injection e1
        clear e1
        have Hitem : Hid (itemOk s x = (nameOk s[x].name && nameOk s[x].value && (x == 0 || !(s[x - 1]!.name.toList == s[x].name.toList)))) := by
          show _ = _; unfold itemOk; rw [getElem!_pos s x hlt]
        have Hbad : Hid (itemOk s x = false → rightS l = 1) := fun h => by
          rw [HR2.out, if_pos]
          unfold okRow
          rw [List.all_eq_false]
          exact ⟨x, List.mem_range.2 hlt, by simp [h]⟩
        have Hgood : Hid (itemOk s x = true → (List.range (x + 1)).all (itemOk s) = true) := fun h => by
          rw [List.range_succ, List.all_append, Hok.out]; simp [h]
        have hbl := Blk.new wr 97 #[.string s[x].name, .string s[x].value]
        have ka := (Keeps.refl [] wr).alloc (.cells #[.string s[x].name, .string s[x].value] 97)
        have Hb2 : Hid (Below w1.heap.size w1 (wr.alloc (.cells #[.string s[x].name, .string s[x].value] 97))) := Hbr.out.alloc Hbr.out.size _
        have d0 := hbl.cell 0; have d1 := hbl.cell 1
        simp only [List.getElem?_toArray, List.getElem?_cons_succ, List.getElem?_cons_zero] at d0 d1
        generalize hna : s[x].name = na at *
        generalize hva : s[x].value = va at *
        clear hbl
        have HNa : Hid (∀ W, Calls Tryd.prog 81 #[.string na] W fun e w' => e = .returned (.bool (nameOk na)) ∧ W = w') := fun W => hn.out na W
        have HVa : Hid (∀ W, Calls Tryd.prog 81 #[.string va] W fun e w' => e = .returned (.bool (nameOk va)) ∧ W = w') := fun W => hn.out va W
        have Hb3 : Hid (∀ q, Below w1.heap.size w1 ((wr.alloc (.cells #[.string na, .string va] 97)).drewN q)) := fun q => ((Keeps.of_below (M := []) Hb2.out).drewN q).below
        clear hn
        by_cases h1 : nameOk na = true
        · rw [h1] at HNa
          by_cases h2 : nameOk va = true
          · rw [h2] at HVa
            by_cases h0 : x = 0
            · have ho := Lib.hid (Hgood.out (by rw [Hitem.out, h1, h2, h0]; simp))
              have hxd : decide ((0 : Int) < (x : Int)) = false := decide_eq_false (by omega)
              have hxn : ¬ 0 < x := by omega
              clear Hbad Hgood Hitem h0 h1 h2
              go_wp2_with fail
              go_quiet (first | (go_at_call_of 81 (Value.string na); exact quiet_left (HNa.out _)) | (go_at_call_of 81 (Value.string va); exact quiet_left (HVa.out _)))
              go_wp2
              go_roundw
              case rel => exact ⟨x + 1, by go_num, by omega, ho.out, Hb3.out _⟩
              case measure => simp [intOf] <;> omega
            · obtain ⟨y, rfl⟩ : ∃ y, x = y + 1 := ⟨x - 1, by omega⟩
              obtain ⟨g2, off2, _, e2, hg2, p0, _⟩ := (HA.out.keep (Keeps.of_below (M := []) Hb2.out) (by simp)).at_ (k := y) (by omega)
              obtain ⟨rfl, rfl⟩ : g = g2 ∧ off = off2 := by injection e2 with e2 _ _; injection e2 with e2; injection e2 with h1 h2; exact ⟨h1, h2⟩
              have hpy : s[y + 1 - 1]! = s[y] := getElem!_pos s y (by omega)
              rw [hpy] at Hitem
              clear e2 hpy
              generalize s[y].name = pn at *
              have hw1 : IntKind.i64.wrap (y : Int) = (y : Int) := by rw [IntKind.wrap_i64]; omega
              have hw2 : IntKind.i64.wrap ((y : Int) + 1 - 1) = (y : Int) := by rw [IntKind.wrap_i64]; omega
              have hy1 : (y : Int) + 1 - 1 = (y : Int) := by omega
              have hy2 : (0 : Int) ≤ (y : Int) := by omega
              have hy3 : ((y : Int)).toNat = y := by omega
              have hyl : (y : Int) < (s.length : Int) := by omega
              have hyl2 : (y : Int) + 1 < (s.length : Int) := by omega
              have hyz : (0 : Int) < (y : Int) + 1 := by omega
              by_cases h3 : (pn.toList == na.toList) = true
              · have hf := Lib.hid (Hbad.out (by rw [Hitem.out, h1, h2, h3]; simp))
                clear Hbad Hgood Hitem h1 h2
                go_wp2_with fail
                go_quiet (first | (go_at_call_of 81 (Value.string na); exact quiet_left (HNa.out _)) | (go_at_call_of 81 (Value.string va); exact quiet_left (HVa.out _)))
                go_wp2
                go_ret
                rw [hf.out]
                exact ⟨rfl, below_then Hb.out (Hb3.out _)⟩
              · have h3' : (pn.toList == na.toList) = false := by simpa using h3
                have ho := Lib.hid (Hgood.out (by rw [Hitem.out, h1, h2, h3']; simp))
                clear Hbad Hgood Hitem h3 h1 h2
                go_wp2_with fail
                go_quiet (first | (go_at_call_of 81 (Value.string na); exact quiet_left (HNa.out _)) | (go_at_call_of 81 (Value.string va); exact quiet_left (HVa.out _)))
                go_wp2
                go_roundw
                case rel => exact ⟨y + 1 + 1, by go_num, by omega, ho.out, Hb3.out _⟩
                case measure => simp [intOf] <;> omega
          · have h2' : nameOk va = false := by simpa using h2
            rw [h2'] at HVa
            have hf := Lib.hid (Hbad.out (by rw [Hitem.out, h1, h2']; simp))
            clear Hbad Hgood Hitem h2 h1 h2'
            go_wp2_with fail
            go_quiet (first | (go_at_call_of 81 (Value.string na); exact quiet_left (HNa.out _)) | (go_at_call_of 81 (Value.string va); exact quiet_left (HVa.out _)))
            go_wp2
            go_ret
            rw [hf.out]
            exact ⟨rfl, below_then Hb.out (Hb3.out _)⟩
        · have h1' : nameOk na = false := by simpa using h1
          rw [h1'] at HNa
          have hf := Lib.hid (Hbad.out (by rw [Hitem.out, h1']; simp))
          clear Hbad Hgood Hitem h1 h1'
          go_wp2_with fail
          go_quiet (first | (go_at_call_of 81 (Value.string na); exact quiet_left (HNa.out _)) | (go_at_call_of 81 (Value.string va); exact quiet_left (HVa.out _)))
          go_wp2
          go_ret
          rw [hf.out]
          exact ⟨rfl, below_then Hb.out (Hb3.out _)⟩
      · obtain rfl : x = s.length := by omega
        have hok : Hid (okRow s = true) := Hok.out
        by_cases hz : s.length = 0
        · have hR : Hid (rightS l = 1) := by show _ = _; rw [HR2.out, if_neg (by rw [hok.out]; simp), if_pos hz]
          have hzi : ((s.length : Int) == 0) = true := by rw [beq_iff_eq]; omega
          have hzi2 : (s.length : Int) = 0 := by omega
          go_wp2
          go_ret
          rw [hR.out]
          exact ⟨rfl, below_then Hb.out Hbr.out⟩
        · have hR : Hid (rightS l = 0) := by show _ = _; rw [HR2.out, if_neg (by rw [hok.out]; simp), if_neg hz]
          have hzi : ((s.length : Int) == 0) = false := by rw [beq_eq_false_iff_ne]; omega
          go_wp2
          go_ret
          rw [hR.out]
          exact ⟨rfl, below_then Hb.out Hbr.out⟩
end Go.Proofs.YtinnifhnabncfaaDoor.Vi
end
/-
  DERIVED: THE SHELF's CONTRACTS AT THIS DUMP, IN PLAIN WORDS (tools/lay-plain.mjs out of 'TrydShelf.lean', which tools/lay-shelf.mjs wrote): THE SAME DECLARATIONS UNDER THE SAME NAMES: 'import', 'namespace', 'open', 'def', 'theorem' AND NOTHING ELSE: no command of the shelf's: FOR A HAND-IN. Each laying: the table of numbers ('.._ren') and one theorem, a field a fact of the dump's own or the kernel's comparison; each contract: ONE APPLICATION.
-/
section
namespace Go.Proofs
open Go.Shelf
def Tryd.lays169_ren : Go.Shelf.Ren := ⟨fun | 169 => 88 | n => n, fun | 70 => 126 | 9 => 9 | 0 => 0 | 72 => 128 | 37 => 32 | 127 => 140 | 3 => 3 | 5 => 5 | n => n, fun | n => n⟩
theorem Tryd.lays169 : Go.Proofs.Lays.n169 Tryd.prog Tryd.lays169_ren := {
  mixed := by kernel_rfl
  f169 := Tryd.func88.trans (congrArg some (by kernel_rfl))
  t0 := Tryd.underlying0
  a0 := Tryd.isAgg0
  z0 := Tryd.sizeOf0
  v0 := Tryd.zeroValue0
  t3 := Tryd.underlying3
  a3 := Tryd.isAgg3
  z3 := Tryd.sizeOf3
  v3 := Tryd.zeroValue3
  t9 := Tryd.underlying9
  a9 := Tryd.isAgg9
  z9 := Tryd.sizeOf9
  v9 := Tryd.zeroValue9
  t37 := Tryd.underlying32
  a37 := Tryd.isAgg32
  z37 := Tryd.sizeOf32
  v37 := Tryd.zeroValue32
  t70 := Tryd.underlying126
  a70 := Tryd.isAgg126
  z70 := Tryd.sizeOf126
  v70 := Tryd.zeroValue126
  t72 := Tryd.underlying128
  a72 := Tryd.isAgg128
  z72 := Tryd.sizeOf128
  v72 := Tryd.zeroValue128
  t127 := Tryd.underlying140
  a127 := Tryd.isAgg140
  z127 := Tryd.sizeOf140
  v127 := Tryd.zeroValue140 }
theorem Tryd.Builder_Extra_169 : Builder.Extra Tryd.prog Tryd.lays169_ren := {
  sizeBuilder := by kernel_rfl
  liesBuilder := by kernel_rfl
  t5 := Tryd.underlying5
  a5 := Tryd.isAgg5
  z5 := Tryd.sizeOf5
  v5 := Tryd.zeroValue5
  infoByte := by kernel_rfl
  cellsByte := by kernel_rfl
  sizeByte := by kernel_rfl
  neB5 := by decide }
open Go.RowKit in
/-- (*strings.Builder).String: "String returns the accumulated string.": OF A BUILDER THAT HOLDS AT LEAST ONE BYTE. ✋ THE MODEL FREEZES THOSE BYTES IN THE BUFFER (unsafe.String): a later write INTO them ends the model's run without an answer; a later append BEHIND them goes on. The statement's order of evaluation is drawn: one draw. (LAID: no walk: one application.) -/
theorem Tryd.Builder_String (B b : Nat) (l : List UInt8) (w : World) (h : Lib.IsBuilder 128 5 B b (Lib.byteCells l) w) (h0 : l ≠ []) :
    Calls Tryd.prog 88 #[.pointer (some ⟨b, 0, none⟩)] w fun e w' => e = .returned (.string ⟨l.toArray⟩) ∧ Below B w w' := Any.Builder_String Tryd.lays169 Tryd.Builder_Extra_169 B b l w h h0
open Go.RowKit in
/-- (*strings.Builder).String OF A BUILDER THAT HOLDS NO BYTE: the empty string. (Its buffer is nil, or a row of which it has taken nothing yet; where that row has NO capacity the model lays one new block for unsafe.SliceData's 'some address'.) One draw. (LAID: no walk: one application.) -/
theorem Tryd.Builder_String_empty (B b : Nat) (w : World) (h : Lib.IsBuilder 128 5 B b [] w) (hBw : B ≤ w.heap.size) :
    Calls Tryd.prog 88 #[.pointer (some ⟨b, 0, none⟩)] w fun e w' => e = .returned (.string ⟨#[]⟩) ∧ Below B w w' := Any.Builder_String_empty Tryd.lays169 Tryd.Builder_Extra_169 B b w h hBw
open Go.RowKit in
/-- (*strings.Builder).String: "String returns the accumulated string.": WHATEVER THE BUILDER HOLDS. (LAID: no walk: one application.) -/
theorem Tryd.Builder_String_any (B b : Nat) (l : List UInt8) (w : World) (h : Lib.IsBuilder 128 5 B b (Lib.byteCells l) w) (hBw : B ≤ w.heap.size) :
    Calls Tryd.prog 88 #[.pointer (some ⟨b, 0, none⟩)] w fun e w' => e = .returned (.string ⟨l.toArray⟩) ∧ Below B w w' := Any.Builder_String_any Tryd.lays169 Tryd.Builder_Extra_169 B b l w h hBw
def Tryd.lays241_ren : Go.Shelf.Ren := ⟨fun | 241 => 101 | 277 => 108 | n => n, fun | 70 => 126 | 3 => 3 | 0 => 0 | 72 => 128 | 37 => 32 | 5 => 5 | n => n, fun | n => n⟩
theorem Tryd.lays241 : Go.Proofs.Lays.n241 Tryd.prog Tryd.lays241_ren := {
  mixed := by kernel_rfl
  f241 := Tryd.func101.trans (congrArg some (by kernel_rfl))
  f277 := Tryd.func108.trans (congrArg some (by kernel_rfl))
  t0 := Tryd.underlying0
  a0 := Tryd.isAgg0
  z0 := Tryd.sizeOf0
  v0 := Tryd.zeroValue0
  t3 := Tryd.underlying3
  a3 := Tryd.isAgg3
  z3 := Tryd.sizeOf3
  v3 := Tryd.zeroValue3
  t37 := Tryd.underlying32
  a37 := Tryd.isAgg32
  z37 := Tryd.sizeOf32
  v37 := Tryd.zeroValue32
  t70 := Tryd.underlying126
  a70 := Tryd.isAgg126
  z70 := Tryd.sizeOf126
  v70 := Tryd.zeroValue126
  t72 := Tryd.underlying128
  a72 := Tryd.isAgg128
  z72 := Tryd.sizeOf128
  v72 := Tryd.zeroValue128 }
theorem Tryd.Builder_Extra_241 : Builder.Extra Tryd.prog Tryd.lays241_ren := {
  sizeBuilder := by kernel_rfl
  liesBuilder := by kernel_rfl
  t5 := Tryd.underlying5
  a5 := Tryd.isAgg5
  z5 := Tryd.sizeOf5
  v5 := Tryd.zeroValue5
  infoByte := by kernel_rfl
  cellsByte := by kernel_rfl
  sizeByte := by kernel_rfl
  neB5 := by decide }
open Go.RowKit in
/-- (*strings.Builder).grow (no doc but "grow copies the buffer to a new, larger buffer so that there are at least n bytes of capacity beyond len(b.buf)."): AT A BUILDER WITHOUT A BUFFER: a new row of whatever bytes for its buffer, none of them its own yet. Three draws. (LAID: no walk: one application.) -/
theorem Tryd.Builder_grow_fresh (B b n : Nat) (w : World) (hB : B ≤ b) (hbk : w.heap[b]? = some (.cells #[.pointer (some ⟨b, 0, none⟩), .slice none 0 0] 128 (0, 0))) (hBw : B ≤ w.heap.size) (hn : n ≤ 281474976710656) :
    Calls Tryd.prog 101 #[.pointer (some ⟨b, 0, none⟩), .int .i64 n] w fun e w' => e = .returned (.tuple #[]) ∧ (Lib.BuilderAt 128 5 B b (.pointer (some ⟨b, 0, none⟩)) [] w' ∧ Below B w w') := Any.Builder_grow_fresh Tryd.lays241 Tryd.Builder_Extra_241 B b n w hB hbk hBw hn
def Tryd.lays165_ren : Go.Shelf.Ren := ⟨fun | 165 => 86 | 240 => 100 | 241 => 101 | 276 => 107 | 277 => 108 | n => n, fun | 70 => 126 | 3 => 3 | 0 => 0 | 4 => 4 | 9 => 9 | 20 => 20 | 72 => 128 | 37 => 32 | 164 => 145 | 5 => 5 | n => n, fun | n => n⟩
theorem Tryd.lays165 : Go.Proofs.Lays.n165 Tryd.prog Tryd.lays165_ren := {
  mixed := by kernel_rfl
  f165 := Tryd.func86.trans (congrArg some (by kernel_rfl))
  f240 := Tryd.func100.trans (congrArg some (by kernel_rfl))
  f241 := Tryd.func101.trans (congrArg some (by kernel_rfl))
  f276 := Tryd.func107.trans (congrArg some (by kernel_rfl))
  f277 := Tryd.func108.trans (congrArg some (by kernel_rfl))
  t0 := Tryd.underlying0
  a0 := Tryd.isAgg0
  z0 := Tryd.sizeOf0
  v0 := Tryd.zeroValue0
  t3 := Tryd.underlying3
  a3 := Tryd.isAgg3
  z3 := Tryd.sizeOf3
  v3 := Tryd.zeroValue3
  t4 := Tryd.underlying4
  a4 := Tryd.isAgg4
  z4 := Tryd.sizeOf4
  v4 := Tryd.zeroValue4
  t9 := Tryd.underlying9
  a9 := Tryd.isAgg9
  z9 := Tryd.sizeOf9
  v9 := Tryd.zeroValue9
  t20 := Tryd.underlying20
  a20 := Tryd.isAgg20
  z20 := Tryd.sizeOf20
  v20 := Tryd.zeroValue20
  t37 := Tryd.underlying32
  a37 := Tryd.isAgg32
  z37 := Tryd.sizeOf32
  v37 := Tryd.zeroValue32
  t70 := Tryd.underlying126
  a70 := Tryd.isAgg126
  z70 := Tryd.sizeOf126
  v70 := Tryd.zeroValue126
  t72 := Tryd.underlying128
  a72 := Tryd.isAgg128
  z72 := Tryd.sizeOf128
  v72 := Tryd.zeroValue128
  t164 := Tryd.underlying145
  a164 := Tryd.isAgg145
  z164 := Tryd.sizeOf145
  v164 := Tryd.zeroValue145 }
theorem Tryd.Builder_Extra_165 : Builder.Extra Tryd.prog Tryd.lays165_ren := {
  sizeBuilder := by kernel_rfl
  liesBuilder := by kernel_rfl
  t5 := Tryd.underlying5
  a5 := Tryd.isAgg5
  z5 := Tryd.sizeOf5
  v5 := Tryd.zeroValue5
  infoByte := by kernel_rfl
  cellsByte := by kernel_rfl
  sizeByte := by kernel_rfl
  neB5 := by decide }
open Go.RowKit in
/-- (*strings.Builder).Grow AT A BUILDER THAT HAS NOT BEEN WRITTEN ('var b strings.Builder; b.Grow(n)'): "Grow grows b's capacity, if necessary, to guarantee space for another n bytes.": it holds no byte behind it as before it. (LAID: no walk: one application.) -/
theorem Tryd.Builder_Grow_fresh (B b n : Nat) (w : World) (hB : B ≤ b) (hbk : w.heap[b]? = some (.cells #[.pointer none, .slice none 0 0] 128 (0, 0))) (hBw : B ≤ w.heap.size) (hn : n ≤ 281474976710656) :
    Calls Tryd.prog 86 #[.pointer (some ⟨b, 0, none⟩), .int .i64 n] w fun e w' => e = .returned (.tuple #[]) ∧ (Lib.BuilderAt 128 5 B b (.pointer (some ⟨b, 0, none⟩)) [] w' ∧ Below B w w') := Any.Builder_Grow_fresh Tryd.lays165 Tryd.Builder_Extra_165 B b n w hB hbk hBw hn
def Tryd.lays156_ren : Go.Shelf.Ren := ⟨fun | 156 => 73 | 165 => 86 | 166 => 87 | 169 => 88 | 240 => 100 | 241 => 101 | 276 => 107 | 277 => 108 | n => n, fun | 31 => 84 | 9 => 9 | 3 => 3 | 4 => 4 | 0 => 0 | 20 => 20 | 72 => 128 | 76 => 132 | 70 => 126 | 37 => 32 | 75 => 131 | 127 => 140 | 164 => 145 | 5 => 5 | 80 => 58 | n => n, fun | n => n⟩
theorem Tryd.lays156 : Go.Proofs.Lays.n156 Tryd.prog Tryd.lays156_ren := {
  mixed := by kernel_rfl
  f156 := Tryd.func73.trans (congrArg some (by kernel_rfl))
  f165 := Tryd.func86.trans (congrArg some (by kernel_rfl))
  f166 := Tryd.func87.trans (congrArg some (by kernel_rfl))
  f169 := Tryd.func88.trans (congrArg some (by kernel_rfl))
  f240 := Tryd.func100.trans (congrArg some (by kernel_rfl))
  f241 := Tryd.func101.trans (congrArg some (by kernel_rfl))
  f276 := Tryd.func107.trans (congrArg some (by kernel_rfl))
  f277 := Tryd.func108.trans (congrArg some (by kernel_rfl))
  t0 := Tryd.underlying0
  a0 := Tryd.isAgg0
  z0 := Tryd.sizeOf0
  v0 := Tryd.zeroValue0
  t3 := Tryd.underlying3
  a3 := Tryd.isAgg3
  z3 := Tryd.sizeOf3
  v3 := Tryd.zeroValue3
  t4 := Tryd.underlying4
  a4 := Tryd.isAgg4
  z4 := Tryd.sizeOf4
  v4 := Tryd.zeroValue4
  t9 := Tryd.underlying9
  a9 := Tryd.isAgg9
  z9 := Tryd.sizeOf9
  v9 := Tryd.zeroValue9
  t20 := Tryd.underlying20
  a20 := Tryd.isAgg20
  z20 := Tryd.sizeOf20
  v20 := Tryd.zeroValue20
  t31 := Tryd.underlying84
  a31 := Tryd.isAgg84
  z31 := Tryd.sizeOf84
  v31 := Tryd.zeroValue84
  t37 := Tryd.underlying32
  a37 := Tryd.isAgg32
  z37 := Tryd.sizeOf32
  v37 := Tryd.zeroValue32
  t70 := Tryd.underlying126
  a70 := Tryd.isAgg126
  z70 := Tryd.sizeOf126
  v70 := Tryd.zeroValue126
  t72 := Tryd.underlying128
  a72 := Tryd.isAgg128
  z72 := Tryd.sizeOf128
  v72 := Tryd.zeroValue128
  t75 := Tryd.underlying131
  a75 := Tryd.isAgg131
  z75 := Tryd.sizeOf131
  v75 := Tryd.zeroValue131
  t76 := Tryd.underlying132
  a76 := Tryd.isAgg132
  z76 := Tryd.sizeOf132
  v76 := Tryd.zeroValue132
  t127 := Tryd.underlying140
  a127 := Tryd.isAgg140
  z127 := Tryd.sizeOf140
  v127 := Tryd.zeroValue140
  t164 := Tryd.underlying145
  a164 := Tryd.isAgg145
  z164 := Tryd.sizeOf145
  v164 := Tryd.zeroValue145 }
theorem Tryd.Builder_Extra_156 : Builder.Extra Tryd.prog Tryd.lays156_ren := {
  sizeBuilder := by kernel_rfl
  liesBuilder := by kernel_rfl
  t5 := Tryd.underlying5
  a5 := Tryd.isAgg5
  z5 := Tryd.sizeOf5
  v5 := Tryd.zeroValue5
  infoByte := by kernel_rfl
  cellsByte := by kernel_rfl
  sizeByte := by kernel_rfl
  neB5 := by decide }
open Go.RowKit in
/-- No element: the empty string; the world is as it was. (Whatever the slice's address and capacity: a nil slice too.) (LAID: no walk: one application.) -/
theorem Tryd.strings_Join_none (a : Option Addr) (c : Nat) (sep : ByteArray) (w : World) :
    Calls Tryd.prog 73 #[.slice a 0 c, .string sep] w fun e w' => e = .returned (.string ⟨#[]⟩) ∧ w' = w := Any.strings_Join_none Tryd.lays156 Tryd.Builder_Extra_156 a c sep w
open Go.RowKit in
/-- strings.Join: "Join concatenates the elements of its first argument to create a single string. The separator string sep is placed between elements in the resulting string.": HOWEVER MANY ELEMENTS. Below the heap's end the world is as it was. (LAID: no walk: one application.) -/
theorem Tryd.strings_Join (bk o c : Nat) (xs : List ByteArray) (sep : ByteArray) (w : World) (hcells : ∀ (j : Nat) x, xs[j]? = some x → w.cell? ⟨bk, o + j, none⟩ = some (.string x)) (hbk : bk < w.heap.size) (hN : xs.length ≤ 140737488355328) (hcap : xs.length ≤ c) (hlen : (Lib.join (xs.map (·.data.toList)) sep.data.toList).length ≤ 140737488355328) :
    Calls Tryd.prog 73 #[.slice (some ⟨bk, o, none⟩) xs.length c, .string sep] w fun e w' => e = .returned (.string ⟨(Lib.join (xs.map (·.data.toList)) sep.data.toList).toArray⟩) ∧ Below w.heap.size w w' := Any.strings_Join Tryd.lays156 Tryd.Builder_Extra_156 bk o c xs sep w hcells hbk hN hcap hlen
def Tryd.lays195_ren : Go.Shelf.Ren := ⟨fun | 195 => 91 | n => n, fun | 9 => 9 | 3 => 3 | 0 => 0 | 4 => 4 | n => n, fun | n => n⟩
theorem Tryd.lays195 : Go.Proofs.Lays.n195 Tryd.prog Tryd.lays195_ren := {
  mixed := by kernel_rfl
  f195 := Tryd.func91.trans (congrArg some (by kernel_rfl))
  t0 := Tryd.underlying0
  a0 := Tryd.isAgg0
  z0 := Tryd.sizeOf0
  v0 := Tryd.zeroValue0
  t3 := Tryd.underlying3
  a3 := Tryd.isAgg3
  z3 := Tryd.sizeOf3
  v3 := Tryd.zeroValue3
  t4 := Tryd.underlying4
  a4 := Tryd.isAgg4
  z4 := Tryd.sizeOf4
  v4 := Tryd.zeroValue4
  t9 := Tryd.underlying9
  a9 := Tryd.isAgg9
  z9 := Tryd.sizeOf9
  v9 := Tryd.zeroValue9 }
open Go.RowKit in
/-- unicode/utf8.RuneCountInString: "RuneCountInString is like RuneCount but its input is a string." ("RuneCount returns the number of runes in p. Erroneous and short encodings are treated as single runes of width 1 byte."): EVERY STRING, valid UTF-8 or not: 'Lib.runeCount s' (plain Lean over the model's own 'Utf8.decode'; 'Lib.runeCount_le': at most len(s); 'Lib.runeCount_ascii': on ASCII: len(s)). THE ONE CONDITION: len(s) below 2^63 - 1 (the counter does not wrap): the form's reach pays it. THE WORLD BEHIND THE CALL: ONE BLOCK MORE: the model's iterator over s, at its end: all else as it was. (LAID: no walk: one application.) -/
theorem Tryd.utf8_RuneCountInString (s : ByteArray) (w : World) (hs : s.size < 9223372036854775807) :
    Calls Tryd.prog 91 #[.string s] w fun e w' => e = .returned (.int .i64 (Lib.runeCount s)) ∧ ∃ pos, w' = w.iter s pos := Any.utf8_RuneCountInString Tryd.lays195 s w hs
def Tryd.lays217_ren : Go.Shelf.Ren := ⟨fun | 217 => 94 | 266 => 103 | n => n, fun | 9 => 9 | 5 => 5 | 3 => 3 | n => n, fun | n => n⟩
theorem Tryd.lays217 : Go.Proofs.Lays.n217 Tryd.prog Tryd.lays217_ren := {
  mixed := by kernel_rfl
  f217 := Tryd.func94.trans (congrArg some (by kernel_rfl))
  f266 := Tryd.func103.trans (congrArg some (by kernel_rfl))
  t3 := Tryd.underlying3
  a3 := Tryd.isAgg3
  z3 := Tryd.sizeOf3
  v3 := Tryd.zeroValue3
  t5 := Tryd.underlying5
  a5 := Tryd.isAgg5
  z5 := Tryd.sizeOf5
  v5 := Tryd.zeroValue5
  t9 := Tryd.underlying9
  a9 := Tryd.isAgg9
  z9 := Tryd.sizeOf9
  v9 := Tryd.zeroValue9 }
open Go.RowKit Go.Lib in
/-- internal/stringslite.IndexByte (what strings.IndexByte calls): IT RETURNS 'Lib.indexByte s c'; the world is as it was. (LAID: no walk: one application.) -/
theorem Tryd.stringslite_IndexByte (s : ByteArray) (c : Int) (w : World) :
    Calls Tryd.prog 94 #[.string s, .int .u8 c] w fun e w' => e = .returned (.int .i64 (Lib.indexByte s.data.toList c.toNat.toUInt8)) ∧ w' = w := Any.stringslite_IndexByte Tryd.lays217 s c w
def Tryd.lays224_ren : Go.Shelf.Ren := ⟨fun | 224 => 96 | n => n, fun | 3 => 3 | n => n, fun | n => n⟩
theorem Tryd.lays224 : Go.Proofs.Lays.n224 Tryd.prog Tryd.lays224_ren := {
  mixed := by kernel_rfl
  f224 := Tryd.func96.trans (congrArg some (by kernel_rfl))
  t3 := Tryd.underlying3
  a3 := Tryd.isAgg3
  z3 := Tryd.sizeOf3
  v3 := Tryd.zeroValue3 }
open Go.RowKit Go.Lib in
/-- internal/bytealg.Cutover: "Cutover reports the number of failures of IndexByte we should tolerate before switching over to Index. n is the number of bytes processed so far.": on amd64: (n + 16) / 8. (LAID: no walk: one application.) -/
theorem Tryd.bytealg_Cutover (n : Int) (h0 : 0 ≤ n) (h1 : n < 4611686018427387904) (w : World) :
    Calls Tryd.prog 96 #[.int .i64 n] w fun e w' => e = .returned (.int .i64 ((n + 16) / 8)) ∧ w' = w := Any.bytealg_Cutover Tryd.lays224 n h0 h1 w
def Tryd.lays314_ren : Go.Shelf.Ren := ⟨fun | 314 => 104 | n => n, fun | 9 => 9 | 51 => 102 | 3 => 3 | 4 => 4 | 5 => 5 | 46 => 87 | n => n, fun | n => n⟩
theorem Tryd.lays314 : Go.Proofs.Lays.n314 Tryd.prog Tryd.lays314_ren := {
  mixed := by kernel_rfl
  f314 := Tryd.func104.trans (congrArg some (by kernel_rfl))
  t3 := Tryd.underlying3
  a3 := Tryd.isAgg3
  z3 := Tryd.sizeOf3
  v3 := Tryd.zeroValue3
  t4 := Tryd.underlying4
  a4 := Tryd.isAgg4
  z4 := Tryd.sizeOf4
  v4 := Tryd.zeroValue4
  t5 := Tryd.underlying5
  a5 := Tryd.isAgg5
  z5 := Tryd.sizeOf5
  v5 := Tryd.zeroValue5
  t9 := Tryd.underlying9
  a9 := Tryd.isAgg9
  z9 := Tryd.sizeOf9
  v9 := Tryd.zeroValue9
  t46 := Tryd.underlying87
  a46 := Tryd.isAgg87
  z46 := Tryd.sizeOf87
  v46 := Tryd.zeroValue87
  t51 := Tryd.underlying102
  a51 := Tryd.isAgg102
  z51 := Tryd.sizeOf102
  v51 := Tryd.zeroValue102 }
open Go.RowKit Go.Lib in
/-- hashStr: "returns the hash and the appropriate multiplicative factor for use in Rabin-Karp algorithm": THE HASH OF ALL OF sep, AND 16777619 ^ len(sep), both in uint32. (LAID: no walk: one application.) -/
theorem Tryd.bytealg_hashStr (sep : ByteArray) (hs : sep.size < 4294967281) (w : World) :
    Calls Tryd.prog 104 #[.string sep] w fun e w' => e = .returned (.tuple #[.int .u32 (RK.H sep.data.toList % 4294967296), .int .u32 (16777619 ^ sep.size % 4294967296)]) ∧ w' = w := Any.bytealg_hashStr Tryd.lays314 sep hs w
def Tryd.lays267_ren : Go.Shelf.Ren := ⟨fun | 267 => 97 | 314 => 104 | n => n, fun | 9 => 9 | 3 => 3 | 146 => 141 | 51 => 102 | 4 => 4 | 5 => 5 | 46 => 87 | n => n, fun | n => n⟩
theorem Tryd.lays267 : Go.Proofs.Lays.n267 Tryd.prog Tryd.lays267_ren := {
  mixed := by kernel_rfl
  f267 := Tryd.func97.trans (congrArg some (by kernel_rfl))
  f314 := Tryd.func104.trans (congrArg some (by kernel_rfl))
  t3 := Tryd.underlying3
  a3 := Tryd.isAgg3
  z3 := Tryd.sizeOf3
  v3 := Tryd.zeroValue3
  t4 := Tryd.underlying4
  a4 := Tryd.isAgg4
  z4 := Tryd.sizeOf4
  v4 := Tryd.zeroValue4
  t5 := Tryd.underlying5
  a5 := Tryd.isAgg5
  z5 := Tryd.sizeOf5
  v5 := Tryd.zeroValue5
  t9 := Tryd.underlying9
  a9 := Tryd.isAgg9
  z9 := Tryd.sizeOf9
  v9 := Tryd.zeroValue9
  t46 := Tryd.underlying87
  a46 := Tryd.isAgg87
  z46 := Tryd.sizeOf87
  v46 := Tryd.zeroValue87
  t51 := Tryd.underlying102
  a51 := Tryd.isAgg102
  z51 := Tryd.sizeOf102
  v51 := Tryd.zeroValue102
  t146 := Tryd.underlying141
  a146 := Tryd.isAgg141
  z146 := Tryd.sizeOf141
  v146 := Tryd.zeroValue141 }
open Go.RowKit Go.Lib in
theorem Tryd.bytealg_IndexRabinKarp (s sep : ByteArray) (h1 : 1 ≤ sep.size) (h2 : sep.size ≤ s.size) (hs : s.size < 4294967281) (w : World) :
    Calls Tryd.prog 97 #[.string s, .string sep] w fun e w' => e = .returned (.int .i64 (Lib.index s.data.toList sep.data.toList)) ∧ w' = w := Any.bytealg_IndexRabinKarp Tryd.lays267 s sep h1 h2 hs w
def Tryd.lays219_ren : Go.Shelf.Ren := ⟨fun | 219 => 80 | 217 => 94 | 225 => 95 | 224 => 96 | 267 => 97 | 266 => 103 | 314 => 104 | n => n, fun | 9 => 9 | 3 => 3 | 4 => 4 | 5 => 5 | 46 => 87 | 146 => 141 | 51 => 102 | n => n, fun | 1 => 0 | n => n⟩
theorem Tryd.lays219 : Go.Proofs.Lays.n219 Tryd.prog Tryd.lays219_ren := {
  mixed := by kernel_rfl
  f217 := Tryd.func94.trans (congrArg some (by kernel_rfl))
  f219 := Tryd.func80.trans (congrArg some (by kernel_rfl))
  f224 := Tryd.func96.trans (congrArg some (by kernel_rfl))
  f225 := Tryd.func95.trans (congrArg some (by kernel_rfl))
  f266 := Tryd.func103.trans (congrArg some (by kernel_rfl))
  f267 := Tryd.func97.trans (congrArg some (by kernel_rfl))
  f314 := Tryd.func104.trans (congrArg some (by kernel_rfl))
  t3 := Tryd.underlying3
  a3 := Tryd.isAgg3
  z3 := Tryd.sizeOf3
  v3 := Tryd.zeroValue3
  t4 := Tryd.underlying4
  a4 := Tryd.isAgg4
  z4 := Tryd.sizeOf4
  v4 := Tryd.zeroValue4
  t5 := Tryd.underlying5
  a5 := Tryd.isAgg5
  z5 := Tryd.sizeOf5
  v5 := Tryd.zeroValue5
  t9 := Tryd.underlying9
  a9 := Tryd.isAgg9
  z9 := Tryd.sizeOf9
  v9 := Tryd.zeroValue9
  t46 := Tryd.underlying87
  a46 := Tryd.isAgg87
  z46 := Tryd.sizeOf87
  v46 := Tryd.zeroValue87
  t51 := Tryd.underlying102
  a51 := Tryd.isAgg102
  z51 := Tryd.sizeOf102
  v51 := Tryd.zeroValue102
  t146 := Tryd.underlying141
  a146 := Tryd.isAgg141
  z146 := Tryd.sizeOf141
  v146 := Tryd.zeroValue141
  g1 := by kernel_rfl }
open Go.RowKit Go.Lib in
/-- internal/stringslite.Index (what strings.Index calls) AT A substr OF ONE BYTE c: IT RETURNS 'Lib.indexByte s c'; the world is as it was. (LAID: no walk: one application.) -/
theorem Tryd.stringslite_Index_one (s : ByteArray) (c : UInt8) (w : World) :
    Calls Tryd.prog 80 #[.string s, .string ⟨#[c]⟩] w fun e w' => e = .returned (.int .i64 (Lib.indexByte s.data.toList c)) ∧ w' = w := Any.stringslite_Index_one Tryd.lays219 s c w
open Go.RowKit Go.Lib in
/-- internal/stringslite.Index (what strings.Index calls) AT A substr OF WHATEVER LENGTH: IT RETURNS 'Lib.index s substr'; the world is as it was. 'm': what internal/bytealg.MaxLen holds: whatever. (LAID: no walk: one application.) -/
theorem Tryd.stringslite_Index (s sub : ByteArray) (m : Int) (w : World) (hs : s.size < 4294967281) (hm : w.cell? ⟨0, 0, none⟩ = some (.int .i64 m)) :
    Calls Tryd.prog 80 #[.string s, .string sub] w fun e w' => e = .returned (.int .i64 (Lib.index s.data.toList sub.data.toList)) ∧ w' = w := Any.stringslite_Index Tryd.lays219 s sub m w hs hm
def Tryd.lays143_ren : Go.Shelf.Ren := ⟨fun | 143 => 79 | 219 => 80 | 217 => 94 | 225 => 95 | 224 => 96 | 267 => 97 | 266 => 103 | 314 => 104 | n => n, fun | 9 => 9 | 3 => 3 | 4 => 4 | 5 => 5 | 46 => 87 | 146 => 141 | 51 => 102 | n => n, fun | 1 => 0 | n => n⟩
theorem Tryd.lays143 : Go.Proofs.Lays.n143 Tryd.prog Tryd.lays143_ren := {
  mixed := by kernel_rfl
  f143 := Tryd.func79.trans (congrArg some (by kernel_rfl))
  f217 := Tryd.func94.trans (congrArg some (by kernel_rfl))
  f219 := Tryd.func80.trans (congrArg some (by kernel_rfl))
  f224 := Tryd.func96.trans (congrArg some (by kernel_rfl))
  f225 := Tryd.func95.trans (congrArg some (by kernel_rfl))
  f266 := Tryd.func103.trans (congrArg some (by kernel_rfl))
  f267 := Tryd.func97.trans (congrArg some (by kernel_rfl))
  f314 := Tryd.func104.trans (congrArg some (by kernel_rfl))
  t3 := Tryd.underlying3
  a3 := Tryd.isAgg3
  z3 := Tryd.sizeOf3
  v3 := Tryd.zeroValue3
  t4 := Tryd.underlying4
  a4 := Tryd.isAgg4
  z4 := Tryd.sizeOf4
  v4 := Tryd.zeroValue4
  t5 := Tryd.underlying5
  a5 := Tryd.isAgg5
  z5 := Tryd.sizeOf5
  v5 := Tryd.zeroValue5
  t9 := Tryd.underlying9
  a9 := Tryd.isAgg9
  z9 := Tryd.sizeOf9
  v9 := Tryd.zeroValue9
  t46 := Tryd.underlying87
  a46 := Tryd.isAgg87
  z46 := Tryd.sizeOf87
  v46 := Tryd.zeroValue87
  t51 := Tryd.underlying102
  a51 := Tryd.isAgg102
  z51 := Tryd.sizeOf102
  v51 := Tryd.zeroValue102
  t146 := Tryd.underlying141
  a146 := Tryd.isAgg141
  z146 := Tryd.sizeOf141
  v146 := Tryd.zeroValue141
  g1 := by kernel_rfl }
open Go.RowKit Go.Lib in
/-- strings.Index: "Index returns the index of the first instance of substr in s, or -1 if substr is not present in s.": AT A substr OF ONE BYTE c: IT RETURNS 'Lib.indexByte s c'; the world is as it was. (LAID: no walk: one application.) -/
theorem Tryd.strings_Index_one (s : ByteArray) (c : UInt8) (w : World) :
    Calls Tryd.prog 79 #[.string s, .string ⟨#[c]⟩] w fun e w' => e = .returned (.int .i64 (Lib.indexByte s.data.toList c)) ∧ w' = w := Any.strings_Index_one Tryd.lays143 s c w
open Go.RowKit Go.Lib in
/-- strings.Index: "Index returns the index of the first instance of substr in s, or -1 if substr is not present in s.": IT RETURNS 'Lib.index s substr'; the world is as it was. (LAID: no walk: one application.) -/
theorem Tryd.strings_Index (s sub : ByteArray) (m : Int) (w : World) (hs : s.size < 4294967281) (hm : w.cell? ⟨0, 0, none⟩ = some (.int .i64 m)) :
    Calls Tryd.prog 79 #[.string s, .string sub] w fun e w' => e = .returned (.int .i64 (Lib.index s.data.toList sub.data.toList)) ∧ w' = w := Any.strings_Index Tryd.lays143 s sub m w hs hm
def Tryd.lays220_ren : Go.Shelf.Ren := ⟨fun | 220 => 70 | 219 => 80 | 217 => 94 | 225 => 95 | 224 => 96 | 267 => 97 | 266 => 103 | 314 => 104 | n => n, fun | 9 => 9 | 4 => 4 | 3 => 3 | 5 => 5 | 46 => 87 | 146 => 141 | 51 => 102 | n => n, fun | 1 => 0 | n => n⟩
theorem Tryd.lays220 : Go.Proofs.Lays.n220 Tryd.prog Tryd.lays220_ren := {
  mixed := by kernel_rfl
  f217 := Tryd.func94.trans (congrArg some (by kernel_rfl))
  f219 := Tryd.func80.trans (congrArg some (by kernel_rfl))
  f220 := Tryd.func70.trans (congrArg some (by kernel_rfl))
  f224 := Tryd.func96.trans (congrArg some (by kernel_rfl))
  f225 := Tryd.func95.trans (congrArg some (by kernel_rfl))
  f266 := Tryd.func103.trans (congrArg some (by kernel_rfl))
  f267 := Tryd.func97.trans (congrArg some (by kernel_rfl))
  f314 := Tryd.func104.trans (congrArg some (by kernel_rfl))
  t3 := Tryd.underlying3
  a3 := Tryd.isAgg3
  z3 := Tryd.sizeOf3
  v3 := Tryd.zeroValue3
  t4 := Tryd.underlying4
  a4 := Tryd.isAgg4
  z4 := Tryd.sizeOf4
  v4 := Tryd.zeroValue4
  t5 := Tryd.underlying5
  a5 := Tryd.isAgg5
  z5 := Tryd.sizeOf5
  v5 := Tryd.zeroValue5
  t9 := Tryd.underlying9
  a9 := Tryd.isAgg9
  z9 := Tryd.sizeOf9
  v9 := Tryd.zeroValue9
  t46 := Tryd.underlying87
  a46 := Tryd.isAgg87
  z46 := Tryd.sizeOf87
  v46 := Tryd.zeroValue87
  t51 := Tryd.underlying102
  a51 := Tryd.isAgg102
  z51 := Tryd.sizeOf102
  v51 := Tryd.zeroValue102
  t146 := Tryd.underlying141
  a146 := Tryd.isAgg141
  z146 := Tryd.sizeOf141
  v146 := Tryd.zeroValue141
  g1 := by kernel_rfl }
open Go.RowKit Go.Lib in
/-- internal/stringslite.Cut (what strings.Cut calls): IT RETURNS 'Lib.cut s sep'; the world is as it was but for the count of draws. (LAID: no walk: one application.) -/
theorem Tryd.stringslite_Cut (s sep : ByteArray) (m : Int) (w : World) (hs : s.size < 4294967281) (hm : w.cell? ⟨0, 0, none⟩ = some (.int .i64 m)) :
    Calls Tryd.prog 70 #[.string s, .string sep] w fun e w' => e = .returned (.tuple #[.string ⟨(Lib.cut s.data.toList sep.data.toList).1.toArray⟩, .string ⟨(Lib.cut s.data.toList sep.data.toList).2.1.toArray⟩, .bool (Lib.cut s.data.toList sep.data.toList).2.2]) ∧ ∃ n, w' = w.drewN n := Any.stringslite_Cut Tryd.lays220 s sep m w hs hm
def Tryd.lays145_ren : Go.Shelf.Ren := ⟨fun | 145 => 58 | 220 => 70 | 219 => 80 | 217 => 94 | 225 => 95 | 224 => 96 | 267 => 97 | 266 => 103 | 314 => 104 | n => n, fun | 9 => 9 | 4 => 4 | 59 => 94 | 3 => 3 | 5 => 5 | 46 => 87 | 146 => 141 | 51 => 102 | n => n, fun | 1 => 0 | n => n⟩
theorem Tryd.lays145 : Go.Proofs.Lays.n145 Tryd.prog Tryd.lays145_ren := {
  mixed := by kernel_rfl
  f145 := Tryd.func58.trans (congrArg some (by kernel_rfl))
  f217 := Tryd.func94.trans (congrArg some (by kernel_rfl))
  f219 := Tryd.func80.trans (congrArg some (by kernel_rfl))
  f220 := Tryd.func70.trans (congrArg some (by kernel_rfl))
  f224 := Tryd.func96.trans (congrArg some (by kernel_rfl))
  f225 := Tryd.func95.trans (congrArg some (by kernel_rfl))
  f266 := Tryd.func103.trans (congrArg some (by kernel_rfl))
  f267 := Tryd.func97.trans (congrArg some (by kernel_rfl))
  f314 := Tryd.func104.trans (congrArg some (by kernel_rfl))
  t3 := Tryd.underlying3
  a3 := Tryd.isAgg3
  z3 := Tryd.sizeOf3
  v3 := Tryd.zeroValue3
  t4 := Tryd.underlying4
  a4 := Tryd.isAgg4
  z4 := Tryd.sizeOf4
  v4 := Tryd.zeroValue4
  t5 := Tryd.underlying5
  a5 := Tryd.isAgg5
  z5 := Tryd.sizeOf5
  v5 := Tryd.zeroValue5
  t9 := Tryd.underlying9
  a9 := Tryd.isAgg9
  z9 := Tryd.sizeOf9
  v9 := Tryd.zeroValue9
  t46 := Tryd.underlying87
  a46 := Tryd.isAgg87
  z46 := Tryd.sizeOf87
  v46 := Tryd.zeroValue87
  t51 := Tryd.underlying102
  a51 := Tryd.isAgg102
  z51 := Tryd.sizeOf102
  v51 := Tryd.zeroValue102
  t59 := Tryd.underlying94
  a59 := Tryd.isAgg94
  z59 := Tryd.sizeOf94
  v59 := Tryd.zeroValue94
  t146 := Tryd.underlying141
  a146 := Tryd.isAgg141
  z146 := Tryd.sizeOf141
  v146 := Tryd.zeroValue141
  g1 := by kernel_rfl }
open Go.RowKit Go.Lib in
/-- strings.Cut: "Cut slices s around the first instance of sep, returning the text before and after sep. The found result reports whether sep appears in s. If sep does not appear in s, cut returns s, "", false.": IT RETURNS 'Lib.cut s sep'; the world is as it was but for the count of draws. (LAID: no walk: one application.) -/
theorem Tryd.strings_Cut (s sep : ByteArray) (m : Int) (w : World) (hs : s.size < 4294967281) (hm : w.cell? ⟨0, 0, none⟩ = some (.int .i64 m)) :
    Calls Tryd.prog 58 #[.string s, .string sep] w fun e w' => e = .returned (.tuple #[.string ⟨(Lib.cut s.data.toList sep.data.toList).1.toArray⟩, .string ⟨(Lib.cut s.data.toList sep.data.toList).2.1.toArray⟩, .bool (Lib.cut s.data.toList sep.data.toList).2.2]) ∧ ∃ n, w' = w.drewN n := Any.strings_Cut Tryd.lays145 s sep m w hs hm
def Tryd.lays138_ren : Go.Shelf.Ren := ⟨fun | 138 => 78 | 195 => 91 | 218 => 93 | 143 => 79 | 219 => 80 | 217 => 94 | 225 => 95 | 224 => 96 | 267 => 97 | 266 => 103 | 314 => 104 | n => n, fun | 9 => 9 | 3 => 3 | 4 => 4 | 5 => 5 | 0 => 0 | 46 => 87 | 146 => 141 | 51 => 102 | n => n, fun | 1 => 0 | n => n⟩
theorem Tryd.lays138 : Go.Proofs.Lays.n138 Tryd.prog Tryd.lays138_ren := {
  mixed := by kernel_rfl
  f138 := Tryd.func78.trans (congrArg some (by kernel_rfl))
  f143 := Tryd.func79.trans (congrArg some (by kernel_rfl))
  f195 := Tryd.func91.trans (congrArg some (by kernel_rfl))
  f217 := Tryd.func94.trans (congrArg some (by kernel_rfl))
  f218 := Tryd.func93.trans (congrArg some (by kernel_rfl))
  f219 := Tryd.func80.trans (congrArg some (by kernel_rfl))
  f224 := Tryd.func96.trans (congrArg some (by kernel_rfl))
  f225 := Tryd.func95.trans (congrArg some (by kernel_rfl))
  f266 := Tryd.func103.trans (congrArg some (by kernel_rfl))
  f267 := Tryd.func97.trans (congrArg some (by kernel_rfl))
  f314 := Tryd.func104.trans (congrArg some (by kernel_rfl))
  t0 := Tryd.underlying0
  a0 := Tryd.isAgg0
  z0 := Tryd.sizeOf0
  v0 := Tryd.zeroValue0
  t3 := Tryd.underlying3
  a3 := Tryd.isAgg3
  z3 := Tryd.sizeOf3
  v3 := Tryd.zeroValue3
  t4 := Tryd.underlying4
  a4 := Tryd.isAgg4
  z4 := Tryd.sizeOf4
  v4 := Tryd.zeroValue4
  t5 := Tryd.underlying5
  a5 := Tryd.isAgg5
  z5 := Tryd.sizeOf5
  v5 := Tryd.zeroValue5
  t9 := Tryd.underlying9
  a9 := Tryd.isAgg9
  z9 := Tryd.sizeOf9
  v9 := Tryd.zeroValue9
  t46 := Tryd.underlying87
  a46 := Tryd.isAgg87
  z46 := Tryd.sizeOf87
  v46 := Tryd.zeroValue87
  t51 := Tryd.underlying102
  a51 := Tryd.isAgg102
  z51 := Tryd.sizeOf102
  v51 := Tryd.zeroValue102
  t146 := Tryd.underlying141
  a146 := Tryd.isAgg141
  z146 := Tryd.sizeOf141
  v146 := Tryd.zeroValue141
  g1 := by kernel_rfl }
open Go.RowKit Go.Lib in
/-- strings.Count AT A substr OF ONE BYTE ('hp'): "Count counts the number of non-overlapping instances of substr in s.": IT RETURNS 'Lib.countByte s (that byte)'; the world is as it was. ✋ NO CONTRACT HERE YET at an empty substr (utf8.RuneCountInString) or at a longer one (a loop over strings.Index). (LAID: no walk: one application.) -/
theorem Tryd.strings_Count_one (s : ByteArray) (c : UInt8) (w : World) :
    Calls Tryd.prog 78 #[.string s, .string ⟨#[c]⟩] w fun e w' => e = .returned (.int .i64 (Lib.countByte s.data.toList c)) ∧ w' = w := Any.strings_Count_one Tryd.lays138 s c w
open Go.RowKit Go.Lib in
/-- strings.Count AT A substr OF TWO BYTES OR MORE: "Count counts the number of non-overlapping instances of substr in s.": IT RETURNS 'Lib.count s substr'; the world is as it was. (LAID: no walk: one application.) -/
theorem Tryd.strings_Count (s sub : ByteArray) (m : Int) (w : World) (hs : s.size < 4294967281) (hm : w.cell? ⟨0, 0, none⟩ = some (.int .i64 m)) (h2 : 2 ≤ sub.size) :
    Calls Tryd.prog 78 #[.string s, .string sub] w fun e w' => e = .returned (.int .i64 (Lib.countB s sub)) ∧ w' = w := Any.strings_Count Tryd.lays138 s sub m w hs hm h2
def Tryd.laysM219_ren : Go.Shelf.Ren := ⟨fun | 219 => 80 | 217 => 94 | 225 => 95 | 224 => 96 | 267 => 97 | 266 => 103 | 314 => 104 | n => n, fun | 9 => 9 | 3 => 3 | 4 => 4 | 5 => 5 | 46 => 87 | 146 => 141 | 51 => 102 | n => n, fun | 1 => 0 | n => n⟩
theorem Tryd.laysM219 : Go.Proofs.LaysM.n219 Tryd.prog Tryd.laysM219_ren := {
  mixed := by kernel_rfl
  f217 := Tryd.func94.trans (congrArg some (by kernel_rfl))
  f219 := Tryd.func80.trans (congrArg some (by kernel_rfl))
  f224 := Tryd.func96.trans (congrArg some (by kernel_rfl))
  f225 := Tryd.func95.trans (congrArg some (by kernel_rfl))
  f266 := Tryd.func103.trans (congrArg some (by kernel_rfl))
  f267 := Tryd.func97.trans (congrArg some (by kernel_rfl))
  f314 := Tryd.func104.trans (congrArg some (by kernel_rfl))
  t3 := Tryd.underlying3
  a3 := Tryd.isAgg3
  z3 := Tryd.sizeOf3
  v3 := Tryd.zeroValue3
  t4 := Tryd.underlying4
  a4 := Tryd.isAgg4
  z4 := Tryd.sizeOf4
  v4 := Tryd.zeroValue4
  t5 := Tryd.underlying5
  a5 := Tryd.isAgg5
  z5 := Tryd.sizeOf5
  v5 := Tryd.zeroValue5
  t9 := Tryd.underlying9
  a9 := Tryd.isAgg9
  z9 := Tryd.sizeOf9
  v9 := Tryd.zeroValue9
  t46 := Tryd.underlying87
  a46 := Tryd.isAgg87
  z46 := Tryd.sizeOf87
  v46 := Tryd.zeroValue87
  t51 := Tryd.underlying102
  a51 := Tryd.isAgg102
  z51 := Tryd.sizeOf102
  v51 := Tryd.zeroValue102
  t146 := Tryd.underlying141
  a146 := Tryd.isAgg141
  z146 := Tryd.sizeOf141
  v146 := Tryd.zeroValue141
  g1 := by kernel_rfl
  i3 := by kernel_rfl
  i4 := by kernel_rfl
  i5 := by kernel_rfl
  i9 := by kernel_rfl
  i46 := by kernel_rfl
  i51 := by kernel_rfl
  i146 := by kernel_rfl
  m1 := by kernel_rfl
  s1_3 := fun w h => Go.Proofs.cell_of_shapedOpen_int (zero := #[.int .i64 0]) (t := 3) h (of_decide_eq_true (by kernel_rfl)) (by kernel_rfl) rfl (by kernel_rfl) (by kernel_rfl) Tryd.underlying3 }
open Go.RowKit Go.Lib in
theorem Tryd.stringslite_Index_shaped (s sub : ByteArray) (w : World) (h : w.ShapedOpen Tryd.prog) (hs : s.size < 4294967281) :
    Calls Tryd.prog 80 #[.string s, .string sub] w fun e w' => e = .returned (.int .i64 (Lib.index s.data.toList sub.data.toList)) ∧ w' = w := Any.stringslite_Index_shaped Tryd.laysM219 s sub w h hs
def Tryd.laysM143_ren : Go.Shelf.Ren := ⟨fun | 143 => 79 | 219 => 80 | 217 => 94 | 225 => 95 | 224 => 96 | 267 => 97 | 266 => 103 | 314 => 104 | n => n, fun | 9 => 9 | 3 => 3 | 4 => 4 | 5 => 5 | 46 => 87 | 146 => 141 | 51 => 102 | n => n, fun | 1 => 0 | n => n⟩
theorem Tryd.laysM143 : Go.Proofs.LaysM.n143 Tryd.prog Tryd.laysM143_ren := {
  mixed := by kernel_rfl
  f143 := Tryd.func79.trans (congrArg some (by kernel_rfl))
  f217 := Tryd.func94.trans (congrArg some (by kernel_rfl))
  f219 := Tryd.func80.trans (congrArg some (by kernel_rfl))
  f224 := Tryd.func96.trans (congrArg some (by kernel_rfl))
  f225 := Tryd.func95.trans (congrArg some (by kernel_rfl))
  f266 := Tryd.func103.trans (congrArg some (by kernel_rfl))
  f267 := Tryd.func97.trans (congrArg some (by kernel_rfl))
  f314 := Tryd.func104.trans (congrArg some (by kernel_rfl))
  t3 := Tryd.underlying3
  a3 := Tryd.isAgg3
  z3 := Tryd.sizeOf3
  v3 := Tryd.zeroValue3
  t4 := Tryd.underlying4
  a4 := Tryd.isAgg4
  z4 := Tryd.sizeOf4
  v4 := Tryd.zeroValue4
  t5 := Tryd.underlying5
  a5 := Tryd.isAgg5
  z5 := Tryd.sizeOf5
  v5 := Tryd.zeroValue5
  t9 := Tryd.underlying9
  a9 := Tryd.isAgg9
  z9 := Tryd.sizeOf9
  v9 := Tryd.zeroValue9
  t46 := Tryd.underlying87
  a46 := Tryd.isAgg87
  z46 := Tryd.sizeOf87
  v46 := Tryd.zeroValue87
  t51 := Tryd.underlying102
  a51 := Tryd.isAgg102
  z51 := Tryd.sizeOf102
  v51 := Tryd.zeroValue102
  t146 := Tryd.underlying141
  a146 := Tryd.isAgg141
  z146 := Tryd.sizeOf141
  v146 := Tryd.zeroValue141
  g1 := by kernel_rfl
  i3 := by kernel_rfl
  i4 := by kernel_rfl
  i5 := by kernel_rfl
  i9 := by kernel_rfl
  i46 := by kernel_rfl
  i51 := by kernel_rfl
  i146 := by kernel_rfl
  m1 := by kernel_rfl
  s1_3 := fun w h => Go.Proofs.cell_of_shapedOpen_int (zero := #[.int .i64 0]) (t := 3) h (of_decide_eq_true (by kernel_rfl)) (by kernel_rfl) rfl (by kernel_rfl) (by kernel_rfl) Tryd.underlying3 }
open Go.RowKit Go.Lib in
theorem Tryd.strings_Index_shaped (s sub : ByteArray) (w : World) (h : w.ShapedOpen Tryd.prog) (hs : s.size < 4294967281) :
    Calls Tryd.prog 79 #[.string s, .string sub] w fun e w' => e = .returned (.int .i64 (Lib.index s.data.toList sub.data.toList)) ∧ w' = w := Any.strings_Index_shaped Tryd.laysM143 s sub w h hs
def Tryd.laysM220_ren : Go.Shelf.Ren := ⟨fun | 220 => 70 | 219 => 80 | 217 => 94 | 225 => 95 | 224 => 96 | 267 => 97 | 266 => 103 | 314 => 104 | n => n, fun | 9 => 9 | 4 => 4 | 3 => 3 | 5 => 5 | 46 => 87 | 146 => 141 | 51 => 102 | n => n, fun | 1 => 0 | n => n⟩
theorem Tryd.laysM220 : Go.Proofs.LaysM.n220 Tryd.prog Tryd.laysM220_ren := {
  mixed := by kernel_rfl
  f217 := Tryd.func94.trans (congrArg some (by kernel_rfl))
  f219 := Tryd.func80.trans (congrArg some (by kernel_rfl))
  f220 := Tryd.func70.trans (congrArg some (by kernel_rfl))
  f224 := Tryd.func96.trans (congrArg some (by kernel_rfl))
  f225 := Tryd.func95.trans (congrArg some (by kernel_rfl))
  f266 := Tryd.func103.trans (congrArg some (by kernel_rfl))
  f267 := Tryd.func97.trans (congrArg some (by kernel_rfl))
  f314 := Tryd.func104.trans (congrArg some (by kernel_rfl))
  t3 := Tryd.underlying3
  a3 := Tryd.isAgg3
  z3 := Tryd.sizeOf3
  v3 := Tryd.zeroValue3
  t4 := Tryd.underlying4
  a4 := Tryd.isAgg4
  z4 := Tryd.sizeOf4
  v4 := Tryd.zeroValue4
  t5 := Tryd.underlying5
  a5 := Tryd.isAgg5
  z5 := Tryd.sizeOf5
  v5 := Tryd.zeroValue5
  t9 := Tryd.underlying9
  a9 := Tryd.isAgg9
  z9 := Tryd.sizeOf9
  v9 := Tryd.zeroValue9
  t46 := Tryd.underlying87
  a46 := Tryd.isAgg87
  z46 := Tryd.sizeOf87
  v46 := Tryd.zeroValue87
  t51 := Tryd.underlying102
  a51 := Tryd.isAgg102
  z51 := Tryd.sizeOf102
  v51 := Tryd.zeroValue102
  t146 := Tryd.underlying141
  a146 := Tryd.isAgg141
  z146 := Tryd.sizeOf141
  v146 := Tryd.zeroValue141
  g1 := by kernel_rfl
  i3 := by kernel_rfl
  i4 := by kernel_rfl
  i5 := by kernel_rfl
  i9 := by kernel_rfl
  i46 := by kernel_rfl
  i51 := by kernel_rfl
  i146 := by kernel_rfl
  m1 := by kernel_rfl
  s1_3 := fun w h => Go.Proofs.cell_of_shapedOpen_int (zero := #[.int .i64 0]) (t := 3) h (of_decide_eq_true (by kernel_rfl)) (by kernel_rfl) rfl (by kernel_rfl) (by kernel_rfl) Tryd.underlying3 }
open Go.RowKit Go.Lib in
theorem Tryd.stringslite_Cut_shaped (s sep : ByteArray) (w : World) (h : w.ShapedOpen Tryd.prog) (hs : s.size < 4294967281) :
    Calls Tryd.prog 70 #[.string s, .string sep] w fun e w' => e = .returned (.tuple #[.string ⟨(Lib.cut s.data.toList sep.data.toList).1.toArray⟩, .string ⟨(Lib.cut s.data.toList sep.data.toList).2.1.toArray⟩, .bool (Lib.cut s.data.toList sep.data.toList).2.2]) ∧ ∃ n, w' = w.drewN n := Any.stringslite_Cut_shaped Tryd.laysM220 s sep w h hs
def Tryd.laysM145_ren : Go.Shelf.Ren := ⟨fun | 145 => 58 | 220 => 70 | 219 => 80 | 217 => 94 | 225 => 95 | 224 => 96 | 267 => 97 | 266 => 103 | 314 => 104 | n => n, fun | 9 => 9 | 4 => 4 | 59 => 94 | 3 => 3 | 5 => 5 | 46 => 87 | 146 => 141 | 51 => 102 | n => n, fun | 1 => 0 | n => n⟩
theorem Tryd.laysM145 : Go.Proofs.LaysM.n145 Tryd.prog Tryd.laysM145_ren := {
  mixed := by kernel_rfl
  f145 := Tryd.func58.trans (congrArg some (by kernel_rfl))
  f217 := Tryd.func94.trans (congrArg some (by kernel_rfl))
  f219 := Tryd.func80.trans (congrArg some (by kernel_rfl))
  f220 := Tryd.func70.trans (congrArg some (by kernel_rfl))
  f224 := Tryd.func96.trans (congrArg some (by kernel_rfl))
  f225 := Tryd.func95.trans (congrArg some (by kernel_rfl))
  f266 := Tryd.func103.trans (congrArg some (by kernel_rfl))
  f267 := Tryd.func97.trans (congrArg some (by kernel_rfl))
  f314 := Tryd.func104.trans (congrArg some (by kernel_rfl))
  t3 := Tryd.underlying3
  a3 := Tryd.isAgg3
  z3 := Tryd.sizeOf3
  v3 := Tryd.zeroValue3
  t4 := Tryd.underlying4
  a4 := Tryd.isAgg4
  z4 := Tryd.sizeOf4
  v4 := Tryd.zeroValue4
  t5 := Tryd.underlying5
  a5 := Tryd.isAgg5
  z5 := Tryd.sizeOf5
  v5 := Tryd.zeroValue5
  t9 := Tryd.underlying9
  a9 := Tryd.isAgg9
  z9 := Tryd.sizeOf9
  v9 := Tryd.zeroValue9
  t46 := Tryd.underlying87
  a46 := Tryd.isAgg87
  z46 := Tryd.sizeOf87
  v46 := Tryd.zeroValue87
  t51 := Tryd.underlying102
  a51 := Tryd.isAgg102
  z51 := Tryd.sizeOf102
  v51 := Tryd.zeroValue102
  t59 := Tryd.underlying94
  a59 := Tryd.isAgg94
  z59 := Tryd.sizeOf94
  v59 := Tryd.zeroValue94
  t146 := Tryd.underlying141
  a146 := Tryd.isAgg141
  z146 := Tryd.sizeOf141
  v146 := Tryd.zeroValue141
  g1 := by kernel_rfl
  i3 := by kernel_rfl
  i4 := by kernel_rfl
  i5 := by kernel_rfl
  i9 := by kernel_rfl
  i46 := by kernel_rfl
  i51 := by kernel_rfl
  i59 := by kernel_rfl
  i146 := by kernel_rfl
  m1 := by kernel_rfl
  s1_3 := fun w h => Go.Proofs.cell_of_shapedOpen_int (zero := #[.int .i64 0]) (t := 3) h (of_decide_eq_true (by kernel_rfl)) (by kernel_rfl) rfl (by kernel_rfl) (by kernel_rfl) Tryd.underlying3 }
open Go.RowKit Go.Lib in
theorem Tryd.strings_Cut_shaped (s sep : ByteArray) (w : World) (h : w.ShapedOpen Tryd.prog) (hs : s.size < 4294967281) :
    Calls Tryd.prog 58 #[.string s, .string sep] w fun e w' => e = .returned (.tuple #[.string ⟨(Lib.cut s.data.toList sep.data.toList).1.toArray⟩, .string ⟨(Lib.cut s.data.toList sep.data.toList).2.1.toArray⟩, .bool (Lib.cut s.data.toList sep.data.toList).2.2]) ∧ ∃ n, w' = w.drewN n := Any.strings_Cut_shaped Tryd.laysM145 s sep w h hs
def Tryd.laysM138_ren : Go.Shelf.Ren := ⟨fun | 138 => 78 | 195 => 91 | 218 => 93 | 143 => 79 | 219 => 80 | 217 => 94 | 225 => 95 | 224 => 96 | 267 => 97 | 266 => 103 | 314 => 104 | n => n, fun | 9 => 9 | 3 => 3 | 4 => 4 | 5 => 5 | 0 => 0 | 46 => 87 | 146 => 141 | 51 => 102 | n => n, fun | 1 => 0 | n => n⟩
theorem Tryd.laysM138 : Go.Proofs.LaysM.n138 Tryd.prog Tryd.laysM138_ren := {
  mixed := by kernel_rfl
  f138 := Tryd.func78.trans (congrArg some (by kernel_rfl))
  f143 := Tryd.func79.trans (congrArg some (by kernel_rfl))
  f195 := Tryd.func91.trans (congrArg some (by kernel_rfl))
  f217 := Tryd.func94.trans (congrArg some (by kernel_rfl))
  f218 := Tryd.func93.trans (congrArg some (by kernel_rfl))
  f219 := Tryd.func80.trans (congrArg some (by kernel_rfl))
  f224 := Tryd.func96.trans (congrArg some (by kernel_rfl))
  f225 := Tryd.func95.trans (congrArg some (by kernel_rfl))
  f266 := Tryd.func103.trans (congrArg some (by kernel_rfl))
  f267 := Tryd.func97.trans (congrArg some (by kernel_rfl))
  f314 := Tryd.func104.trans (congrArg some (by kernel_rfl))
  t0 := Tryd.underlying0
  a0 := Tryd.isAgg0
  z0 := Tryd.sizeOf0
  v0 := Tryd.zeroValue0
  t3 := Tryd.underlying3
  a3 := Tryd.isAgg3
  z3 := Tryd.sizeOf3
  v3 := Tryd.zeroValue3
  t4 := Tryd.underlying4
  a4 := Tryd.isAgg4
  z4 := Tryd.sizeOf4
  v4 := Tryd.zeroValue4
  t5 := Tryd.underlying5
  a5 := Tryd.isAgg5
  z5 := Tryd.sizeOf5
  v5 := Tryd.zeroValue5
  t9 := Tryd.underlying9
  a9 := Tryd.isAgg9
  z9 := Tryd.sizeOf9
  v9 := Tryd.zeroValue9
  t46 := Tryd.underlying87
  a46 := Tryd.isAgg87
  z46 := Tryd.sizeOf87
  v46 := Tryd.zeroValue87
  t51 := Tryd.underlying102
  a51 := Tryd.isAgg102
  z51 := Tryd.sizeOf102
  v51 := Tryd.zeroValue102
  t146 := Tryd.underlying141
  a146 := Tryd.isAgg141
  z146 := Tryd.sizeOf141
  v146 := Tryd.zeroValue141
  g1 := by kernel_rfl
  i0 := by kernel_rfl
  i3 := by kernel_rfl
  i4 := by kernel_rfl
  i5 := by kernel_rfl
  i9 := by kernel_rfl
  i46 := by kernel_rfl
  i51 := by kernel_rfl
  i146 := by kernel_rfl
  m1 := by kernel_rfl
  s1_3 := fun w h => Go.Proofs.cell_of_shapedOpen_int (zero := #[.int .i64 0]) (t := 3) h (of_decide_eq_true (by kernel_rfl)) (by kernel_rfl) rfl (by kernel_rfl) (by kernel_rfl) Tryd.underlying3 }
open Go.RowKit Go.Lib in
theorem Tryd.strings_Count_shaped (s sub : ByteArray) (w : World) (h : w.ShapedOpen Tryd.prog) (hs : s.size < 4294967281) (h2 : 2 ≤ sub.size) :
    Calls Tryd.prog 78 #[.string s, .string sub] w fun e w' => e = .returned (.int .i64 (Lib.countB s sub)) ∧ w' = w := Any.strings_Count_shaped Tryd.laysM138 s sub w h hs h2
open Go.RowKit Go.Lib in
/-- strings.Count at whatever sep that is not empty: the two roads under one statement. (LAID: no walk: one application.) -/
theorem Tryd.strings_Count_any (s sep : ByteArray) (m : Int) (w : World) (hs : s.size < 4294967281) (hm : w.cell? ⟨0, 0, none⟩ = some (.int .i64 m)) (h1 : 1 ≤ sep.size) :
    Calls Tryd.prog 78 #[.string s, .string sep] w fun e w' => e = .returned (.int .i64 (Lib.countB s sep)) ∧ w' = w := Any.strings_Count_any Tryd.lays138 s sep m w hs hm h1
def Tryd.lays221_ren : Go.Shelf.Ren := ⟨fun | 221 => 69 | 268 => 77 | 138 => 78 | 143 => 79 | 195 => 91 | 197 => 92 | 218 => 93 | 219 => 80 | 260 => 102 | 217 => 94 | 225 => 95 | 224 => 96 | 267 => 97 | 266 => 103 | 314 => 104 | n => n, fun | 9 => 9 | 3 => 3 | 31 => 84 | 4 => 4 | 0 => 0 | 105 => 136 | 21 => 21 | 5 => 5 | 46 => 87 | 119 => 148 | 139 => 151 | 138 => 150 | 146 => 141 | 51 => 102 | n => n, fun | 1 => 0 | 3 => 1 | 4 => 2 | n => n⟩
theorem Tryd.lays221 : Go.Proofs.Lays.n221 Tryd.prog Tryd.lays221_ren := {
  mixed := by kernel_rfl
  f138 := Tryd.func78.trans (congrArg some (by kernel_rfl))
  f143 := Tryd.func79.trans (congrArg some (by kernel_rfl))
  f195 := Tryd.func91.trans (congrArg some (by kernel_rfl))
  f197 := Tryd.func92.trans (congrArg some (by kernel_rfl))
  f217 := Tryd.func94.trans (congrArg some (by kernel_rfl))
  f218 := Tryd.func93.trans (congrArg some (by kernel_rfl))
  f219 := Tryd.func80.trans (congrArg some (by kernel_rfl))
  f221 := Tryd.func69.trans (congrArg some (by kernel_rfl))
  f224 := Tryd.func96.trans (congrArg some (by kernel_rfl))
  f225 := Tryd.func95.trans (congrArg some (by kernel_rfl))
  f260 := Tryd.func102.trans (congrArg some (by kernel_rfl))
  f266 := Tryd.func103.trans (congrArg some (by kernel_rfl))
  f267 := Tryd.func97.trans (congrArg some (by kernel_rfl))
  f268 := Tryd.func77.trans (congrArg some (by kernel_rfl))
  f314 := Tryd.func104.trans (congrArg some (by kernel_rfl))
  t0 := Tryd.underlying0
  a0 := Tryd.isAgg0
  z0 := Tryd.sizeOf0
  v0 := Tryd.zeroValue0
  t3 := Tryd.underlying3
  a3 := Tryd.isAgg3
  z3 := Tryd.sizeOf3
  v3 := Tryd.zeroValue3
  t4 := Tryd.underlying4
  a4 := Tryd.isAgg4
  z4 := Tryd.sizeOf4
  v4 := Tryd.zeroValue4
  t5 := Tryd.underlying5
  a5 := Tryd.isAgg5
  z5 := Tryd.sizeOf5
  v5 := Tryd.zeroValue5
  t9 := Tryd.underlying9
  a9 := Tryd.isAgg9
  z9 := Tryd.sizeOf9
  v9 := Tryd.zeroValue9
  t21 := Tryd.underlying21
  a21 := Tryd.isAgg21
  z21 := Tryd.sizeOf21
  v21 := Tryd.zeroValue21
  t31 := Tryd.underlying84
  a31 := Tryd.isAgg84
  z31 := Tryd.sizeOf84
  v31 := Tryd.zeroValue84
  t46 := Tryd.underlying87
  a46 := Tryd.isAgg87
  z46 := Tryd.sizeOf87
  v46 := Tryd.zeroValue87
  t51 := Tryd.underlying102
  a51 := Tryd.isAgg102
  z51 := Tryd.sizeOf102
  v51 := Tryd.zeroValue102
  t105 := Tryd.underlying136
  a105 := Tryd.isAgg136
  z105 := Tryd.sizeOf136
  v105 := Tryd.zeroValue136
  t119 := Tryd.underlying148
  a119 := Tryd.isAgg148
  z119 := Tryd.sizeOf148
  t138 := Tryd.underlying150
  a138 := Tryd.isAgg150
  z138 := Tryd.sizeOf150
  v138 := Tryd.zeroValue150
  t139 := Tryd.underlying151
  a139 := Tryd.isAgg151
  z139 := Tryd.sizeOf151
  v139 := Tryd.zeroValue151
  t146 := Tryd.underlying141
  a146 := Tryd.isAgg141
  z146 := Tryd.sizeOf141
  v146 := Tryd.zeroValue141
  g1 := by kernel_rfl
  g3 := by kernel_rfl
  g4 := by kernel_rfl }
open Go.RowKit Go.Lib in
theorem Tryd.strings_genSplit (s sep : ByteArray) (sv : Nat) (n : Int) (N : Nat) (m : Int) (w : World) (hs : s.size < 4294967281) (hm : w.cell? ⟨0, 0, none⟩ = some (.int .i64 m)) (h1 : 1 ≤ sep.size) (hsv : sv ≤ sep.size) (hn0 : n ≠ 0) (hn63 : n ≤ 9223372036854775807) (hN : (N : Int) = min (if n < 0 then (Lib.countB s sep : Int) + 1 else n) ((s.size : Int) + 1)) :
    Calls Tryd.prog 69 #[.string s, .string sep, .int .i64 sv, .int .i64 n] w fun e w' =>
      e = .returned (.slice (some ⟨w.heap.size, 0, none⟩) (Lib.splitB sep sv (N - 1) s).length N) ∧ w' = w.alloc (.cells (Lib.cellsOf (Lib.splitB sep sv (N - 1) s) N) 9) := Any.strings_genSplit Tryd.lays221 (by kernel_rfl) s sep sv n N m w hs hm h1 hsv hn0 hn63 hN
def Tryd.lays146_ren : Go.Shelf.Ren := ⟨fun | 146 => 57 | 221 => 69 | 268 => 77 | 138 => 78 | 143 => 79 | 195 => 91 | 197 => 92 | 218 => 93 | 219 => 80 | 260 => 102 | 217 => 94 | 225 => 95 | 224 => 96 | 267 => 97 | 266 => 103 | 314 => 104 | n => n, fun | 9 => 9 | 31 => 84 | 3 => 3 | 4 => 4 | 0 => 0 | 105 => 136 | 21 => 21 | 5 => 5 | 46 => 87 | 119 => 148 | 139 => 151 | 138 => 150 | 146 => 141 | 51 => 102 | n => n, fun | 1 => 0 | 3 => 1 | 4 => 2 | n => n⟩
theorem Tryd.lays146 : Go.Proofs.Lays.n146 Tryd.prog Tryd.lays146_ren := {
  mixed := by kernel_rfl
  f138 := Tryd.func78.trans (congrArg some (by kernel_rfl))
  f143 := Tryd.func79.trans (congrArg some (by kernel_rfl))
  f146 := Tryd.func57.trans (congrArg some (by kernel_rfl))
  f195 := Tryd.func91.trans (congrArg some (by kernel_rfl))
  f197 := Tryd.func92.trans (congrArg some (by kernel_rfl))
  f217 := Tryd.func94.trans (congrArg some (by kernel_rfl))
  f218 := Tryd.func93.trans (congrArg some (by kernel_rfl))
  f219 := Tryd.func80.trans (congrArg some (by kernel_rfl))
  f221 := Tryd.func69.trans (congrArg some (by kernel_rfl))
  f224 := Tryd.func96.trans (congrArg some (by kernel_rfl))
  f225 := Tryd.func95.trans (congrArg some (by kernel_rfl))
  f260 := Tryd.func102.trans (congrArg some (by kernel_rfl))
  f266 := Tryd.func103.trans (congrArg some (by kernel_rfl))
  f267 := Tryd.func97.trans (congrArg some (by kernel_rfl))
  f268 := Tryd.func77.trans (congrArg some (by kernel_rfl))
  f314 := Tryd.func104.trans (congrArg some (by kernel_rfl))
  t0 := Tryd.underlying0
  a0 := Tryd.isAgg0
  z0 := Tryd.sizeOf0
  v0 := Tryd.zeroValue0
  t3 := Tryd.underlying3
  a3 := Tryd.isAgg3
  z3 := Tryd.sizeOf3
  v3 := Tryd.zeroValue3
  t4 := Tryd.underlying4
  a4 := Tryd.isAgg4
  z4 := Tryd.sizeOf4
  v4 := Tryd.zeroValue4
  t5 := Tryd.underlying5
  a5 := Tryd.isAgg5
  z5 := Tryd.sizeOf5
  v5 := Tryd.zeroValue5
  t9 := Tryd.underlying9
  a9 := Tryd.isAgg9
  z9 := Tryd.sizeOf9
  v9 := Tryd.zeroValue9
  t21 := Tryd.underlying21
  a21 := Tryd.isAgg21
  z21 := Tryd.sizeOf21
  v21 := Tryd.zeroValue21
  t31 := Tryd.underlying84
  a31 := Tryd.isAgg84
  z31 := Tryd.sizeOf84
  v31 := Tryd.zeroValue84
  t46 := Tryd.underlying87
  a46 := Tryd.isAgg87
  z46 := Tryd.sizeOf87
  v46 := Tryd.zeroValue87
  t51 := Tryd.underlying102
  a51 := Tryd.isAgg102
  z51 := Tryd.sizeOf102
  v51 := Tryd.zeroValue102
  t105 := Tryd.underlying136
  a105 := Tryd.isAgg136
  z105 := Tryd.sizeOf136
  v105 := Tryd.zeroValue136
  t119 := Tryd.underlying148
  a119 := Tryd.isAgg148
  z119 := Tryd.sizeOf148
  t138 := Tryd.underlying150
  a138 := Tryd.isAgg150
  z138 := Tryd.sizeOf150
  v138 := Tryd.zeroValue150
  t139 := Tryd.underlying151
  a139 := Tryd.isAgg151
  z139 := Tryd.sizeOf151
  v139 := Tryd.zeroValue151
  t146 := Tryd.underlying141
  a146 := Tryd.isAgg141
  z146 := Tryd.sizeOf141
  v146 := Tryd.zeroValue141
  g1 := by kernel_rfl
  g3 := by kernel_rfl
  g4 := by kernel_rfl }
open Go.RowKit Go.Lib in
/-- strings.Split. (LAID: no walk: one application.) -/
theorem Tryd.strings_Split (s sep : ByteArray) (m : Int) (w : World) (hs : s.size < 4294967281) (hm : w.cell? ⟨0, 0, none⟩ = some (.int .i64 m)) (h1 : 1 ≤ sep.size) :
    Calls Tryd.prog 57 #[.string s, .string sep] w fun e w' =>
      e = .returned (.slice (some ⟨w.heap.size, 0, none⟩) (Lib.countB s sep + 1) (Lib.countB s sep + 1)) ∧ w' = w.alloc (.cells ((Lib.splitB sep 0 (Lib.countB s sep) s).map Value.string).toArray 9) := Any.strings_Split Tryd.lays146 (by kernel_rfl) s sep m w hs hm h1
def Tryd.laysM146_ren : Go.Shelf.Ren := ⟨fun | 146 => 57 | 221 => 69 | 268 => 77 | 138 => 78 | 143 => 79 | 195 => 91 | 197 => 92 | 218 => 93 | 219 => 80 | 260 => 102 | 217 => 94 | 225 => 95 | 224 => 96 | 267 => 97 | 266 => 103 | 314 => 104 | n => n, fun | 9 => 9 | 31 => 84 | 3 => 3 | 4 => 4 | 0 => 0 | 105 => 136 | 21 => 21 | 5 => 5 | 46 => 87 | 119 => 148 | 139 => 151 | 138 => 150 | 146 => 141 | 51 => 102 | n => n, fun | 1 => 0 | 3 => 1 | 4 => 2 | n => n⟩
theorem Tryd.laysM146 : Go.Proofs.LaysM.n146 Tryd.prog Tryd.laysM146_ren := {
  mixed := by kernel_rfl
  f138 := Tryd.func78.trans (congrArg some (by kernel_rfl))
  f143 := Tryd.func79.trans (congrArg some (by kernel_rfl))
  f146 := Tryd.func57.trans (congrArg some (by kernel_rfl))
  f195 := Tryd.func91.trans (congrArg some (by kernel_rfl))
  f197 := Tryd.func92.trans (congrArg some (by kernel_rfl))
  f217 := Tryd.func94.trans (congrArg some (by kernel_rfl))
  f218 := Tryd.func93.trans (congrArg some (by kernel_rfl))
  f219 := Tryd.func80.trans (congrArg some (by kernel_rfl))
  f221 := Tryd.func69.trans (congrArg some (by kernel_rfl))
  f224 := Tryd.func96.trans (congrArg some (by kernel_rfl))
  f225 := Tryd.func95.trans (congrArg some (by kernel_rfl))
  f260 := Tryd.func102.trans (congrArg some (by kernel_rfl))
  f266 := Tryd.func103.trans (congrArg some (by kernel_rfl))
  f267 := Tryd.func97.trans (congrArg some (by kernel_rfl))
  f268 := Tryd.func77.trans (congrArg some (by kernel_rfl))
  f314 := Tryd.func104.trans (congrArg some (by kernel_rfl))
  t0 := Tryd.underlying0
  a0 := Tryd.isAgg0
  z0 := Tryd.sizeOf0
  v0 := Tryd.zeroValue0
  t3 := Tryd.underlying3
  a3 := Tryd.isAgg3
  z3 := Tryd.sizeOf3
  v3 := Tryd.zeroValue3
  t4 := Tryd.underlying4
  a4 := Tryd.isAgg4
  z4 := Tryd.sizeOf4
  v4 := Tryd.zeroValue4
  t5 := Tryd.underlying5
  a5 := Tryd.isAgg5
  z5 := Tryd.sizeOf5
  v5 := Tryd.zeroValue5
  t9 := Tryd.underlying9
  a9 := Tryd.isAgg9
  z9 := Tryd.sizeOf9
  v9 := Tryd.zeroValue9
  t21 := Tryd.underlying21
  a21 := Tryd.isAgg21
  z21 := Tryd.sizeOf21
  v21 := Tryd.zeroValue21
  t31 := Tryd.underlying84
  a31 := Tryd.isAgg84
  z31 := Tryd.sizeOf84
  v31 := Tryd.zeroValue84
  t46 := Tryd.underlying87
  a46 := Tryd.isAgg87
  z46 := Tryd.sizeOf87
  v46 := Tryd.zeroValue87
  t51 := Tryd.underlying102
  a51 := Tryd.isAgg102
  z51 := Tryd.sizeOf102
  v51 := Tryd.zeroValue102
  t105 := Tryd.underlying136
  a105 := Tryd.isAgg136
  z105 := Tryd.sizeOf136
  v105 := Tryd.zeroValue136
  t119 := Tryd.underlying148
  a119 := Tryd.isAgg148
  z119 := Tryd.sizeOf148
  t138 := Tryd.underlying150
  a138 := Tryd.isAgg150
  z138 := Tryd.sizeOf150
  v138 := Tryd.zeroValue150
  t139 := Tryd.underlying151
  a139 := Tryd.isAgg151
  z139 := Tryd.sizeOf151
  v139 := Tryd.zeroValue151
  t146 := Tryd.underlying141
  a146 := Tryd.isAgg141
  z146 := Tryd.sizeOf141
  v146 := Tryd.zeroValue141
  g1 := by kernel_rfl
  g3 := by kernel_rfl
  g4 := by kernel_rfl
  i0 := by kernel_rfl
  i3 := by kernel_rfl
  i4 := by kernel_rfl
  i5 := by kernel_rfl
  i9 := by kernel_rfl
  i21 := by kernel_rfl
  i31 := by kernel_rfl
  i46 := by kernel_rfl
  i51 := by kernel_rfl
  i105 := by kernel_rfl
  i138 := by kernel_rfl
  i139 := by kernel_rfl
  i146 := by kernel_rfl
  m1 := by kernel_rfl
  s1_3 := fun w h => Go.Proofs.cell_of_shapedOpen_int (zero := #[.int .i64 0]) (t := 3) h (of_decide_eq_true (by kernel_rfl)) (by kernel_rfl) rfl (by kernel_rfl) (by kernel_rfl) Tryd.underlying3
  m3 := by kernel_rfl
  m4 := by kernel_rfl }
open Go.RowKit Go.Lib in
/-- strings.Split, sep not empty. (LAID: no walk: one application.) -/
theorem Tryd.strings_Split_shaped (s sep : ByteArray) (w : World) (h : w.ShapedOpen Tryd.prog) (hs : s.size < 4294967281) (h1 : 1 ≤ sep.size) :
    Calls Tryd.prog 57 #[.string s, .string sep] w fun e w' =>
      e = .returned (.slice (some ⟨w.heap.size, 0, none⟩) (Lib.countB s sep + 1) (Lib.countB s sep + 1)) ∧ w' = w.alloc (.cells ((Lib.splitB sep 0 (Lib.countB s sep) s).map Value.string).toArray 9) := Any.strings_Split_shaped Tryd.laysM146 s sep w h hs h1
def Tryd.lays197_ren : Go.Shelf.Ren := ⟨fun | 197 => 92 | 260 => 102 | n => n, fun | 9 => 9 | 21 => 21 | 3 => 3 | 4 => 4 | 5 => 5 | 105 => 136 | 119 => 148 | 0 => 0 | 46 => 87 | 139 => 151 | 138 => 150 | n => n, fun | 3 => 1 | 4 => 2 | n => n⟩
theorem Tryd.lays197 : Go.Proofs.Lays.n197 Tryd.prog Tryd.lays197_ren := {
  mixed := by kernel_rfl
  f197 := Tryd.func92.trans (congrArg some (by kernel_rfl))
  f260 := Tryd.func102.trans (congrArg some (by kernel_rfl))
  t0 := Tryd.underlying0
  a0 := Tryd.isAgg0
  z0 := Tryd.sizeOf0
  v0 := Tryd.zeroValue0
  t3 := Tryd.underlying3
  a3 := Tryd.isAgg3
  z3 := Tryd.sizeOf3
  v3 := Tryd.zeroValue3
  t4 := Tryd.underlying4
  a4 := Tryd.isAgg4
  z4 := Tryd.sizeOf4
  v4 := Tryd.zeroValue4
  t5 := Tryd.underlying5
  a5 := Tryd.isAgg5
  z5 := Tryd.sizeOf5
  v5 := Tryd.zeroValue5
  t9 := Tryd.underlying9
  a9 := Tryd.isAgg9
  z9 := Tryd.sizeOf9
  v9 := Tryd.zeroValue9
  t21 := Tryd.underlying21
  a21 := Tryd.isAgg21
  z21 := Tryd.sizeOf21
  v21 := Tryd.zeroValue21
  t46 := Tryd.underlying87
  a46 := Tryd.isAgg87
  z46 := Tryd.sizeOf87
  v46 := Tryd.zeroValue87
  t105 := Tryd.underlying136
  a105 := Tryd.isAgg136
  z105 := Tryd.sizeOf136
  v105 := Tryd.zeroValue136
  t119 := Tryd.underlying148
  a119 := Tryd.isAgg148
  z119 := Tryd.sizeOf148
  t138 := Tryd.underlying150
  a138 := Tryd.isAgg150
  z138 := Tryd.sizeOf150
  v138 := Tryd.zeroValue150
  t139 := Tryd.underlying151
  a139 := Tryd.isAgg151
  z139 := Tryd.sizeOf151
  v139 := Tryd.zeroValue151
  g3 := by kernel_rfl
  g4 := by kernel_rfl }
open Go.RowKit Go.Lib in
/-- unicode/utf8.DecodeRuneInString: "DecodeRuneInString is like DecodeRune but its input is a string.": ("DecodeRune unpacks the first UTF-8 encoding in p and returns the rune and its width in bytes."): WHERE s BEGINS WITH AN ASCII BYTE x: (x, 1). (LAID: no walk: one application.) -/
theorem Tryd.utf8_DecodeRuneInString_ascii (s : ByteArray) (x : UInt8) (w : World) (h0 : s.data.toList[0]? = some x) (hx : x.toNat < 128) :
    Calls Tryd.prog 92 #[.string s] w fun e w' => e = .returned (.tuple #[.int .i32 x.toNat, .int .i64 1]) ∧ w' = w := Any.utf8_DecodeRuneInString_ascii Tryd.lays197 s x w h0 hx
open Go.RowKit Go.Lib in
theorem Tryd.utf8_RuneCountInString_ascii (s : ByteArray) (w : World) (hs : s.size < 4294967281) (hascii : ∀ (j : Nat) b, s.data.toList[j]? = some b → b.toNat < 128) :
    Calls Tryd.prog 91 #[.string s] w fun e w' => e = .returned (.int .i64 s.size) ∧ w' = w.iter s s.size := Any.utf8_RuneCountInString_ascii Tryd.lays195 s w hs hascii
def Tryd.lays268_ren : Go.Shelf.Ren := ⟨fun | 268 => 77 | 195 => 91 | 197 => 92 | 260 => 102 | n => n, fun | 9 => 9 | 3 => 3 | 31 => 84 | 4 => 4 | 105 => 136 | 21 => 21 | 0 => 0 | 5 => 5 | 119 => 148 | 46 => 87 | 139 => 151 | 138 => 150 | n => n, fun | 3 => 1 | 4 => 2 | n => n⟩
theorem Tryd.lays268 : Go.Proofs.Lays.n268 Tryd.prog Tryd.lays268_ren := {
  mixed := by kernel_rfl
  f195 := Tryd.func91.trans (congrArg some (by kernel_rfl))
  f197 := Tryd.func92.trans (congrArg some (by kernel_rfl))
  f260 := Tryd.func102.trans (congrArg some (by kernel_rfl))
  f268 := Tryd.func77.trans (congrArg some (by kernel_rfl))
  t0 := Tryd.underlying0
  a0 := Tryd.isAgg0
  z0 := Tryd.sizeOf0
  v0 := Tryd.zeroValue0
  t3 := Tryd.underlying3
  a3 := Tryd.isAgg3
  z3 := Tryd.sizeOf3
  v3 := Tryd.zeroValue3
  t4 := Tryd.underlying4
  a4 := Tryd.isAgg4
  z4 := Tryd.sizeOf4
  v4 := Tryd.zeroValue4
  t5 := Tryd.underlying5
  a5 := Tryd.isAgg5
  z5 := Tryd.sizeOf5
  v5 := Tryd.zeroValue5
  t9 := Tryd.underlying9
  a9 := Tryd.isAgg9
  z9 := Tryd.sizeOf9
  v9 := Tryd.zeroValue9
  t21 := Tryd.underlying21
  a21 := Tryd.isAgg21
  z21 := Tryd.sizeOf21
  v21 := Tryd.zeroValue21
  t31 := Tryd.underlying84
  a31 := Tryd.isAgg84
  z31 := Tryd.sizeOf84
  v31 := Tryd.zeroValue84
  t46 := Tryd.underlying87
  a46 := Tryd.isAgg87
  z46 := Tryd.sizeOf87
  v46 := Tryd.zeroValue87
  t105 := Tryd.underlying136
  a105 := Tryd.isAgg136
  z105 := Tryd.sizeOf136
  v105 := Tryd.zeroValue136
  t119 := Tryd.underlying148
  a119 := Tryd.isAgg148
  z119 := Tryd.sizeOf148
  t138 := Tryd.underlying150
  a138 := Tryd.isAgg150
  z138 := Tryd.sizeOf150
  v138 := Tryd.zeroValue150
  t139 := Tryd.underlying151
  a139 := Tryd.isAgg151
  z139 := Tryd.sizeOf151
  v139 := Tryd.zeroValue151
  g3 := by kernel_rfl
  g4 := by kernel_rfl }
open Go.RowKit Go.Lib in
theorem Tryd.strings_explode_all (s : ByteArray) (n : Int) (w : World) (hn : n < 0) (hs : s.size < 4294967281) (hascii : ∀ (j : Nat) b, s.data.toList[j]? = some b → b.toNat < 128) :
    Calls Tryd.prog 77 #[.string s, .int .i64 n] w fun e w' =>
      e = .returned (.slice (some ⟨(w.iter s s.size).heap.size, 0, none⟩) s.size s.size) ∧ w' = (w.iter s s.size).alloc (.cells ((Lib.charsB s).map Value.string).toArray 9) := Any.strings_explode_all Tryd.lays268 (by kernel_rfl) s n w hn hs hascii
open Go.RowKit Go.Lib in
/-- strings.genSplit at sep == "", n < 0: 'return explode(s, n)'. (LAID: no walk: one application.) -/
theorem Tryd.strings_genSplit_chars (s sep : ByteArray) (sv n : Int) (w : World) (h0 : sep.size = 0) (hn : n < 0) (hs : s.size < 4294967281) (hascii : ∀ (j : Nat) b, s.data.toList[j]? = some b → b.toNat < 128) :
    Calls Tryd.prog 69 #[.string s, .string sep, .int .i64 sv, .int .i64 n] w fun e w' =>
      e = .returned (.slice (some ⟨(w.iter s s.size).heap.size, 0, none⟩) s.size s.size) ∧ w' = (w.iter s s.size).alloc (.cells ((Lib.charsB s).map Value.string).toArray 9) := Any.strings_genSplit_chars Tryd.lays221 (by kernel_rfl) s sep sv n w h0 hn hs hascii
open Go.RowKit Go.Lib in
/-- strings.Split(s, ""), s ASCII: a piece a byte. (LAID: no walk: one application.) -/
theorem Tryd.strings_Split_chars (s sep : ByteArray) (w : World) (h0 : sep.size = 0) (hs : s.size < 4294967281) (hascii : ∀ (j : Nat) b, s.data.toList[j]? = some b → b.toNat < 128) :
    Calls Tryd.prog 57 #[.string s, .string sep] w fun e w' =>
      e = .returned (.slice (some ⟨(w.iter s s.size).heap.size, 0, none⟩) s.size s.size) ∧ w' = (w.iter s s.size).alloc (.cells ((Lib.charsB s).map Value.string).toArray 9) := Any.strings_Split_chars Tryd.lays146 (by kernel_rfl) s sep w h0 hs hascii
def Tryd.lays260_ren : Go.Shelf.Ren := ⟨fun | 260 => 102 | n => n, fun | 9 => 9 | 21 => 21 | 3 => 3 | 4 => 4 | 5 => 5 | 119 => 148 | 0 => 0 | 46 => 87 | 139 => 151 | 138 => 150 | n => n, fun | 3 => 1 | 4 => 2 | n => n⟩
theorem Tryd.lays260 : Go.Proofs.Lays.n260 Tryd.prog Tryd.lays260_ren := {
  mixed := by kernel_rfl
  f260 := Tryd.func102.trans (congrArg some (by kernel_rfl))
  t0 := Tryd.underlying0
  a0 := Tryd.isAgg0
  z0 := Tryd.sizeOf0
  v0 := Tryd.zeroValue0
  t3 := Tryd.underlying3
  a3 := Tryd.isAgg3
  z3 := Tryd.sizeOf3
  v3 := Tryd.zeroValue3
  t4 := Tryd.underlying4
  a4 := Tryd.isAgg4
  z4 := Tryd.sizeOf4
  v4 := Tryd.zeroValue4
  t5 := Tryd.underlying5
  a5 := Tryd.isAgg5
  z5 := Tryd.sizeOf5
  v5 := Tryd.zeroValue5
  t9 := Tryd.underlying9
  a9 := Tryd.isAgg9
  z9 := Tryd.sizeOf9
  v9 := Tryd.zeroValue9
  t21 := Tryd.underlying21
  a21 := Tryd.isAgg21
  z21 := Tryd.sizeOf21
  v21 := Tryd.zeroValue21
  t46 := Tryd.underlying87
  a46 := Tryd.isAgg87
  z46 := Tryd.sizeOf87
  v46 := Tryd.zeroValue87
  t119 := Tryd.underlying148
  a119 := Tryd.isAgg148
  z119 := Tryd.sizeOf148
  t138 := Tryd.underlying150
  a138 := Tryd.isAgg150
  z138 := Tryd.sizeOf150
  v138 := Tryd.zeroValue150
  t139 := Tryd.underlying151
  a139 := Tryd.isAgg151
  z139 := Tryd.sizeOf151
  v139 := Tryd.zeroValue151
  g3 := by kernel_rfl
  g4 := by kernel_rfl }
open Go.RowKit Go.Lib in
theorem Tryd.utf8_decodeRuneInStringSlow (s : ByteArray) (w : World) (hT : Lib.Utf8Tabs 1 2 w) :
    Calls Tryd.prog 102 #[.string s] w fun e w' => e = .returned (.tuple #[.int .i32 (Lib.decodeGo s).1, .int .i64 (Lib.decodeGo s).2]) ∧ Below w.heap.size w w' := Any.utf8_decodeRuneInStringSlow Tryd.lays260 s w hT
open Go.RowKit Go.Lib in
/-- **unicode/utf8.DecodeRuneInString AT EVERY STRING.** (LAID: no walk: one application.) -/
theorem Tryd.utf8_DecodeRuneInString (s : ByteArray) (w : World) (hT : Lib.Utf8Tabs 1 2 w) :
    Calls Tryd.prog 92 #[.string s] w fun e w' => e = .returned (.tuple #[.int .i32 (Lib.decodeGo s).1, .int .i64 (Lib.decodeGo s).2]) ∧ Below w.heap.size w w' := Any.utf8_DecodeRuneInString Tryd.lays197 s w hT
end Go.Proofs
end
/- Contract of label.Text. -/
section
namespace Go.Proofs.YtinnifhnabncfaaDoor.Vi
open Go.RowKit Base Mem Go.Sort Go.Shelf
def pairB (x : LabD) : ByteArray := x.name ++ ⟨#[61]⟩ ++ x.value
def joinB (l : List LabD) : ByteArray := ⟨(Lib.join ((l.map pairB).map (·.data.toList)) [44]).toArray⟩
/-- A series of labels; else why not. -/
def ltextS (l : List LabD) : ByteArray × Nat := if rightS l = 0 then (joinB (sortL l), 0) else (⟨#[]⟩, rightS l)
theorem pairB_len (x : LabD) : (pairB x).data.toList.length = x.name.size + 1 + x.value.size := by
  unfold pairB
  rw [ByteArray.data_append, ByteArray.data_append, Array.toList_append, Array.toList_append, List.length_append, List.length_append]
  rfl
theorem join_len (l : List LabD) (h : ∀ x ∈ l, x.name.size ≤ 32 ∧ x.value.size ≤ 32) : (Lib.join ((l.map pairB).map (·.data.toList)) [44]).length ≤ 66 * l.length := by
  induction l with
  | nil => simp [Lib.join_nil]
  | cons a r ih =>
    rw [List.map_cons, List.map_cons, Lib.join_cons]
    have ha := h a (by simp)
    have hp := pairB_len a
    have hr : ∀ (r : List LabD), (∀ x ∈ r, x.name.size ≤ 32 ∧ x.value.size ≤ 32) → (Lib.joinTail [44] ((r.map pairB).map (·.data.toList))).length ≤ 66 * r.length := by
      intro r hr
      induction r with
      | nil => simp [Lib.joinTail]
      | cons b q ihq =>
        have hb := hr b (by simp)
        have hpb := pairB_len b
        have := ihq (fun x hx => hr x (List.mem_cons_of_mem _ hx))
        simp only [Lib.joinTail, List.map_cons, List.flatten_cons, List.length_append, List.length_cons, List.length_nil] at this ⊢
        omega
    have := hr r (fun x hx => h x (List.mem_cons_of_mem _ hx))
    rw [List.length_append, List.length_cons]
    omega
theorem okRow_sizes {s : List LabD} (h : okRow s = true) : ∀ x ∈ s, x.name.size ≤ 32 ∧ x.value.size ≤ 32 := by
  intro x hx
  obtain ⟨i, hi, rfl⟩ := List.getElem_of_mem hx
  unfold okRow at h
  rw [List.all_eq_true] at h
  have h1 := h i (List.mem_range.2 hi)
  unfold itemOk at h1
  rw [getElem!_pos s i hi, Bool.and_eq_true, Bool.and_eq_true] at h1
  have h2 := h1.1.1
  have h3 := h1.1.2
  unfold nameOk at h2 h3
  simp at h2 h3
  omega
theorem infoStr : (Tryd.prog.info? 9).map (fun i => (i.zero, i.size, i.bytes)) = some (some (.string ByteArray.empty), 1, 16) := by kernel_rfl
def TextPost (l : List LabD) (w : World) (e : Ending) (w' : World) : Prop := e = .returned (.tuple #[.string (ltextS l).1, .int .i64 (ltextS l).2]) ∧ Below w.heap.size w w'
set_option maxRecDepth 100000 in
theorem ltext_any (v : Value) (l : List LabD) (w : World) (h : Labs w [] v l) (hl : l.length ≤ 4611686018427387904) :
    Calls Tryd.prog 59 #[v] w fun e w' => TextPost l w e w' := by
  have hri := Lib.hid (lright_any v l w h hl)
  have HT : Hid (ltextS l = if rightS l = 0 then (joinB (sortL l), 0) else (⟨#[]⟩, rightS l)) := rfl
  by_cases hr0 : rightS l = 0
  · have hR : Hid (ltextS l = (joinB (sortL l), 0)) := by show _ = _; rw [HT.out, if_pos hr0]
    have hl8 : l.length ≤ 8 ∧ okRow (sortL l) = true := by
      unfold rightS at hr0
      by_cases h8 : 8 < l.length
      · rw [if_pos h8] at hr0; cases hr0
      · rw [if_neg h8] at hr0
        refine ⟨by omega, ?_⟩
        cases hk : okRow (sortL l) with
        | true => rfl
        | false => rw [hk] at hr0; simp at hr0
    obtain ⟨hl8, hok⟩ := hl8
    have hjl := Lib.hid (join_len (sortL l) (okRow_sizes hok))
    have hsz := Lib.hid (okRow_sizes hok)
    rw [hr0] at hri
    have hso := Lib.hid (fun W (hk : Keeps [] w W) => sorted_any v l W (h.keep hk (by simp)) (by omega))
    obtain ⟨A, c, rfl, hc⟩ := h.len
    have hs8 : (sortL l).length ≤ 8 := by rw [sortL_len]; omega
    have hs0 : 0 < (sortL l).length := by
      rw [sortL_len]
      unfold rightS at hr0
      rw [if_neg (by omega), hok] at hr0
      rcases Nat.eq_zero_or_pos l.length with hz | hz
      · rw [hz] at hr0; simp at hr0
      · exact hz
    clear h HT hr0 hok
    obtain ⟨i0, hi0, hz0, hz1, hz2⟩ := info_parts infoStr
    have Hi0 := Lib.hid hi0; have Hz0 := Lib.hid hz0; have Hz1 := Lib.hid hz1; have Hz2 := Lib.hid hz2
    clear hi0 hz0 hz1 hz2
    generalize sortL l = s at *
    go_enter Tryd.func59, Tryd.ntmps59
    go_wp2_with fail
    refine hri.out.mono ?_
    rintro e w1 ⟨rfl, hb1⟩
    have hso1 := Lib.hid (hso.out w1 (Keeps.of_below hb1))
    have Hb1 := Lib.hid hb1
    clear hb1 hri hso
    go_wp2_with fail
    refine hso1.out.mono ?_
    rintro e w2 ⟨A1, rfl, hA, hb2⟩
    have HA := Lib.hid (hA [] (by simp)); have Hb2 := Lib.hid (below_then Hb1.out hb2)
    clear hA hb2 hso1 Hb1
    go_wp2_with fail
    go_loopw [5, 16] (fun out i wr => ∃ x : Nat, i = .int .i64 x ∧ x ≤ s.length ∧ Hid (wr.ownsRow w2.heap.size 9 1 out x ((s.take x).map fun y => Value.string (pairB y))) ∧ Hid (Below w2.heap.size w2 wr)) (fun _ i _ => s.length - (intOf i).toNat)
    case atStart => exact ⟨0, rfl, by omega, World.ownsRow_nil _ _ _ _, Below.refl _ _⟩
    case round =>
      obtain ⟨x, rfl, hx, Hown, Hbr⟩ := hrel
      by_cases hlt : x < s.length
      · have hx1 : (x : Int) < (s.length : Int) := by omega
        obtain ⟨g, off, _, e1, hg, c0, c1⟩ := (HA.out.keep (Keeps.of_below (M := []) Hbr.out) (by simp)).at_ hlt
        obtain rfl : A1 = some ⟨g, off, none⟩ := by injection e1
        clear e1
        have Htk : Hid (s.take (x + 1) = s.take x ++ [s[x]]) := List.take_succ_eq_append_getElem hlt
        have Hpb : Hid (pairB s[x] = s[x].name ++ ⟨#[61]⟩ ++ s[x].value) := rfl
        have hd32 := hsz.out s[x] (List.getElem_mem _)
        generalize s[x] = d at *
        have k1 : ¬ (9223372036854775807 < d.name.size + 1) := by omega
        have k2 : ¬ (9223372036854775807 < d.name.size + 1 + d.value.size) := by omega
        have k3 : ¬ (9223372036854775807 < (d.name ++ ⟨#[61]⟩).size + d.value.size) := by rw [ByteArray.size_append]; exact k2
        clear hd32
        have Hrd : Hid (Reads ((wr.alloc (.cells #[.string d.name, .string d.value] 97)).alloc (.cells #[.string (d.name ++ ⟨#[61]⟩ ++ d.value)] 9)) (wr.heap.size + 2) 1 (some ⟨wr.heap.size + 1, 0, none⟩) 1 [.string (d.name ++ ⟨#[61]⟩ ++ d.value)]) := by
          have := reads_new (wr.alloc (.cells #[.string d.name, .string d.value] 97)) 9 1 1 [.string (d.name ++ ⟨#[61]⟩ ++ d.value)] rfl
          show Reads _ _ _ _ _ _
          simpa using this
        have Hown3 := Lib.hid ((Hown.out.alloc (.cells #[.string d.name, .string d.value] 97)).alloc (.cells #[.string (d.name ++ ⟨#[61]⟩ ++ d.value)] 9))
        have hz2 : w2.heap.size ≤ wr.heap.size := Hbr.out.size
        have hb0 : w2.heap.size ≤ ((wr.alloc (.cells #[.string d.name, .string d.value] 97)).alloc (.cells #[.string (d.name ++ ⟨#[61]⟩ ++ d.value)] 9)).heap.size := by simp; omega
        have hm1 : x + 1 ≤ maxLen := by unfold maxLen; omega
        have hm2 : (x + 1) * 16 ≤ 140737488355328 := by omega
        have hone : ∀ u ∈ [Value.string (d.name ++ ⟨#[61]⟩ ++ d.value)], u.oneCell' = true := by intro u hu; simp at hu; subst hu; rfl
        have Hb0 := Lib.hid hb0; have Hm1 := Lib.hid hm1; have Hm2 := Lib.hid hm2; have Hone := Lib.hid hone
        clear hb0 hm1 hm2 hone
        go_wp2_with (at_builtin; refine wpList_append_any _ rfl (.tmp 20) (.tmp 27) _ rfl w2.heap.size 9 i0 _ 1 16 Tryd.underlying84 Hi0.out Hz0.out Hz1.out Hz2.out rfl (by omega) u5 x ((s.take x).map fun y => Value.string (pairB y)) rfl Hown3.out (wr.heap.size + 2) (some ⟨wr.heap.size + 1, 0, none⟩) 1 1 [.string (d.name ++ ⟨#[61]⟩ ++ d.value)] rfl Hrd.out Hone.out Hm1.out Hm2.out Hb0.out ?_)
        intro v4 w4 hown4 hg4 hat4
        have Hown4 : Hid (w4.ownsRow w2.heap.size 9 1 v4 (x + 1) ((s.take (x + 1)).map fun y => Value.string (pairB y))) := by
          show World.ownsRow _ _ _ _ _ _ _
          rw [Htk.out, List.map_append, List.map_cons, List.map_nil, Hpb.out, List.map_take]
          exact hown4
        have Hb4 : Hid (Below w2.heap.size w2 w4) := ((Hbr.out.alloc Hbr.out.size _).alloc (by simp; omega) _).grown hg4 (by simp; omega) (fun g hg => (Hown.out.lt g hg).1)
        clear hown4 hg4 hat4
        go_wp2
        go_roundw
        case rel => exact ⟨x + 1, by go_num, by omega, Hown4, Hb4⟩
        case measure => simp [intOf] <;> omega
      · obtain rfl : x = s.length := by omega
        have hrow : ∃ g c, u5 = .slice (some ⟨g, 0, none⟩) s.length c ∧ s.length ≤ c ∧ g < wr.heap.size ∧ ∀ (j : Nat) x, (s.map pairB)[j]? = some x → wr.cell? ⟨g, 0 + j, none⟩ = some (.string x) := by
          have h1 := Hown.out
          rw [List.take_length] at h1
          obtain ⟨g, cap, hv, hge, hgl⟩ := h1.form hs0
          subst hv
          have hrd := Rd.of_own (M := []) h1 (by simp)
          obtain ⟨A', c', he, hc', _, hx⟩ := hrd
          injection he with e1 _ e3
          subst e1 e3
          obtain ⟨g', off', e, _, _, hcell⟩ := hx hs0
          injection e with e
          injection e with e1 e2 _
          subst e1 e2
          refine ⟨g, cap, rfl, hc', hgl, fun j x hjx => hcell j _ ?_⟩
          rw [List.getElem?_map] at hjx ⊢
          cases hsj : s[j]? with
          | none => rw [hsj] at hjx; cases hjx
          | some d => rw [hsj] at hjx; injection hjx with hjx; rw [← hjx]; rfl
        obtain ⟨g, cj, rfl, hcj, hgl, hcell⟩ := hrow
        have hjo := Tryd.strings_Join g 0 cj (s.map pairB) ⟨#[44]⟩ wr hcell hgl (by rw [List.length_map]; omega) (by rw [List.length_map]; exact hcj) (Nat.le_trans hjl.out (by omega))
        rw [List.length_map] at hjo
        have Hjo := Lib.hid (show Calls Tryd.prog 73 #[.slice (some ⟨g, 0, none⟩) s.length cj, .string ⟨#[44]⟩] wr fun e w' => e = .returned (.string (joinB s)) ∧ Below wr.heap.size wr w' from hjo)
        have Hall := Lib.hid (below_then Hb2.out Hbr.out)
        clear hjo hcell
        go_wp2_with fail
        refine Hjo.out.mono ?_
        rintro e w5 ⟨rfl, hb5⟩
        have hp : Hid (TextPost l w (.returned (.tuple #[.string (joinB s), .int .i64 0])) w5) := by
          exact ⟨by rw [hR.out]; rfl, below_then Hall.out hb5⟩
        clear hb5
        go_wp2
        go_ret2
        exact hp.out
  · have hR : Hid (ltextS l = (⟨#[]⟩, rightS l)) := by show _ = _; rw [HT.out, if_neg hr0]
    obtain ⟨A, c, rfl, hc⟩ := h.len
    have hri2 : ((rightS l : Int) != 0) = true := by simpa using hr0
    clear h HT hr0
    have hp : Hid (∀ w1, Below w.heap.size w w1 → TextPost l w (.returned (.tuple #[.string ⟨#[]⟩, .int .i64 (rightS l)])) w1) := fun w1 hb => ⟨by rw [hR.out], hb⟩
    generalize rightS l = r at *
    go_enter Tryd.func59, Tryd.ntmps59
    go_wp2_with fail
    refine hri.out.mono ?_
    rintro e w1 ⟨rfl, hb1⟩
    have Hp := Lib.hid (hp.out _ hb1)
    clear hb1 hp
    go_wp2
    go_ret2
    exact Hp.out
end Go.Proofs.YtinnifhnabncfaaDoor.Vi
end
