/- slices.SortFunc at idents with story.Order. -/
import Derived.Test.YtinnifhnabncfaaSets2
import Derived.Shelf.SlSortCmp.NoneTotal
import Derived.Test.YtinnifhnabncfaaSetsLay
import Derived.Shelf.SlicesQ.Contains
import Derived.Shelf.SlicesQ.IndexFunc
import Derived.Laws.StructEq
namespace Go.Proofs.Ytinnifhnabncfaa.Sets
open Go.RowKit Base Mem Go.Sort Go.Shelf Go.Lib
instance : Inhabited IdentD := ⟨⟨0, 0, 0⟩⟩
theorem ltOf_iCmp (a b : IdentD) : ltOf iCmp a b = iLt a b := iCmp_lt a b
theorem iLt_iff (a b : IdentD) : iLt a b = true ↔ a.ag < b.ag ∨ a.ag = b.ag ∧ (a.sh < b.sh ∨ a.sh = b.sh ∧ a.seq < b.seq) := by
  unfold iLt
  by_cases h1 : a.ag = b.ag <;> by_cases h2 : a.sh = b.sh <;> simp [h1, h2]
theorem iLt_no (a b : IdentD) : iLt a b = false ↔ ¬ (a.ag < b.ag ∨ a.ag = b.ag ∧ (a.sh < b.sh ∨ a.sh = b.sh ∧ a.seq < b.seq)) := by
  rw [← iLt_iff]; simp
theorem swo : SWO (ltOf iCmp) where
  irrefl x := by rw [ltOf_iCmp, iLt_no]; omega
  trans x y z h1 h2 := by rw [ltOf_iCmp, iLt_iff] at *; omega
  ntrans x y z h1 h2 := by rw [ltOf_iCmp, iLt_no] at *; omega
theorem total (x y : IdentD) (h1 : ltOf iCmp x y = false) (h2 : ltOf iCmp y x = false) : x = y := by
  rw [ltOf_iCmp, iLt_no] at *
  obtain ⟨a, b, c⟩ := x
  obtain ⟨d, e, f⟩ := y
  simp at *
  omega
theorem order_lays (blk off size : Nat) (w : World) : CmpLays Try.prog 56 #[] iEnc 3 iCmp blk off size w := fun _ _ _ _ x y => order_any x y _
theorem sort_any (blk off cap : Nat) (d : Array IdentD) (w : World) (hH : HoldsK iEnc 3 w blk off d) (hblk : blk < w.heap.size) (hsz : d.size < 4611686018427387904) :
    Calls Try.prog 55 #[.slice (some ⟨blk, off, none⟩) d.size cap, .func (.func 56) #[] #[]] w fun e w' =>
      e = .returned (.tuple #[]) ∧ ∃ n os, w' = sortWorldK iEnc 3 w blk off n (d.toList.mergeSort fun x y => !(iLt y x)).toArray os := by
  have eg : ∀ args w, (callFunc 56 args).run Try.prog w = .ok (.enter 56 args) w := enters_of Try.func56 (by kernel_rfl) rfl
  have hcon := AnyQ.slices_SortFunc_total Try.sortIdent 3 Try.isAgg58 Try.sizeOf58 iEnc (fun _ => rfl) (fun x v hv => by simp [iEnc] at hv; rcases hv with rfl | rfl | rfl <;> rfl) iCmp swo 56 #[] blk off cap d w eg (order_lays blk off d.size w) hH hblk hsz total
  simp only [ltOf_iCmp] at hcon
  exact hcon
end Go.Proofs.Ytinnifhnabncfaa.Sets
