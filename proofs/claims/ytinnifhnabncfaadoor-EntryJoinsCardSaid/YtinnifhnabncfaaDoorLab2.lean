/- cmp.Compare at string; label.sorted$1; the sort of labels by insertion. -/
import Derived.Test.YtinnifhnabncfaaDoorLab1
import Derived.Deep.RegionHeld3
import Derived.Laws.Cover1
import Derived.Shelf.SlSortCmp.InsertionK
import Derived.Test.YtinnifhnabncfaaDoorDoorLay
namespace Go.Proofs.YtinnifhnabncfaaDoor.Vi
open Go.RowKit Base Mem Go.Sort Go.Shelf
structure LabD where
  name : ByteArray
  value : ByteArray
instance : Inhabited LabD := ⟨⟨⟨#[]⟩, ⟨#[]⟩⟩⟩
def labEnc (d : LabD) : List Value := [.string d.name, .string d.value]
def sLt (x y : ByteArray) : Bool := Op.bytesLess x.toList y.toList
def cmpS (x y : ByteArray) : Int := if sLt x y = true then -1 else if (!(sLt x y || x.toList == y.toList)) = true then 1 else 0
def cmpL (a b : LabD) : Int := cmpS a.name b.name
theorem nanStr (x : ByteArray) (w : World) : Calls Tryd.prog 99 #[.string x] w fun e w' => e = .returned (.bool false) ∧ w' = w := by
  go_enter Tryd.func99, Tryd.ntmps99
  go_wp2
  go_ret
  exact ⟨ret_bool (by simp), rfl⟩
theorem compStr (x y : ByteArray) (w : World) : Calls Tryd.prog 85 #[.string x, .string y] w fun e w' => e = .returned (.int .i64 (cmpS x y)) ∧ w' = w := by
  have hc := Lib.hid (fun x W => nanStr x W)
  have Hs : Hid (cmpS x y = if Op.bytesLess x.toList y.toList = true then -1 else if (!(Op.bytesLess x.toList y.toList || x.toList == y.toList)) = true then 1 else 0) := rfl
  by_cases h1 : Op.bytesLess x.toList y.toList = true
  · have hr : Hid (cmpS x y = -1) := by show _ = _; rw [Hs.out, if_pos h1]
    rw [hr.out]
    go_enter Tryd.func85, Tryd.ntmps85
    go_wp2_with (go_at_call 99; refine (hc.out _ _).mono ?_; rintro e w' ⟨rfl, rfl⟩)
    go_ret
    exact ⟨rfl, rfl⟩
  · have h1' : Op.bytesLess x.toList y.toList = false := by simpa using h1
    by_cases h2 : (x.toList == y.toList) = true
    · have hr : Hid (cmpS x y = 0) := by show _ = _; rw [Hs.out, if_neg h1, h1', h2]; rfl
      rw [hr.out]
      clear h1
      go_enter Tryd.func85, Tryd.ntmps85
      go_wp2_with (go_at_call 99; refine (hc.out _ _).mono ?_; rintro e w' ⟨rfl, rfl⟩)
      go_ret
      exact ⟨rfl, rfl⟩
    · have h2' : (x.toList == y.toList) = false := by simpa using h2
      have h2'' : ¬ x.toList = y.toList := by simpa using h2
      have hr : Hid (cmpS x y = 1) := by show _ = _; rw [Hs.out, if_neg h1, h1', h2']; rfl
      rw [hr.out]
      go_enter Tryd.func85, Tryd.ntmps85
      go_wp2_with (go_at_call 99; refine (hc.out _ _).mono ?_; rintro e w' ⟨rfl, rfl⟩)
      go_ret
      exact ⟨rfl, rfl⟩
theorem byName_any (a b : LabD) (w : World) : Calls Tryd.prog 84 #[.agg #[.string a.name, .string a.value], .agg #[.string b.name, .string b.value]] w fun e w' => e = .returned (.int .i64 (cmpL a b)) ∧ ∃ q os', w' = Sort.grow (w.drewN q) os' := by
  have hc := Lib.hid (fun x y W => compStr x y W)
  have hr : Hid (cmpL a b = cmpS a.name b.name) := rfl
  go_enter Tryd.func84, Tryd.ntmps84
  go_wp2_with fail
  refine (hc.out _ _ _).mono ?_
  rintro e w' ⟨rfl, rfl⟩
  go_wp2
  go_ret
  refine ⟨by rw [hr.out]; rfl, 0, #[.cells #[.string a.name, .string a.value] 97, .cells #[.string b.name, .string b.value] 97], ?_⟩
  simp only [Sort.alloc_eq_grow, Sort.grow_grow]
  rfl
theorem byName_lays (blk off size : Nat) (w : World) : CmpLays Tryd.prog 84 #[] labEnc 2 cmpL blk off size w := fun _ _ _ _ x y => byName_any x y _
/-- Labels by name, in the order of the sort. -/
def sortL (l : List LabD) : List LabD := (insertionSort (ltOf cmpL) l.toArray 0 l.length).toList
theorem ins_any (blk off cap : Nat) (l : List LabD) (w : World) (hH : HoldsK labEnc 2 w blk off l.toArray) (hblk : blk < w.heap.size) (hsz : l.length < 4611686018427387904) :
    Calls Tryd.prog 105 #[.slice (some ⟨blk, off, none⟩) l.length cap, .int .i64 0, .int .i64 l.length, .func (.func 84) #[] #[]] w fun e w' =>
      e = .returned (.tuple #[]) ∧ ∃ n os, w' = sortWorldK labEnc 2 w blk off n (sortL l).toArray os := by
  have eg : ∀ args w, (callFunc 84 args).run Tryd.prog w = .ok (.enter 84 args) w := enters_of Tryd.func84 (by kernel_rfl) rfl
  have h := AnyQ.insertionSortCmpFunc Tryd.insLabel 2 Tryd.isAgg97 Tryd.sizeOf97 labEnc (fun _ => rfl) (fun x v hv => by simp [labEnc] at hv; rcases hv with rfl | rfl <;> rfl) cmpL 84 #[] blk off cap 0 l.length l.toArray w eg (byName_lays blk off _ w) hH hblk (Nat.zero_le _) (by simp) (by simpa using hsz)
  simp only [List.size_toArray] at h
  exact h
end Go.Proofs.YtinnifhnabncfaaDoor.Vi
