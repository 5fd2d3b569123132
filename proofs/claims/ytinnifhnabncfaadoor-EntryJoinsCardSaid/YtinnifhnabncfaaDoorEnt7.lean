/- Contract of the look for a series among deltas (entry.Deltas$1, slices.IndexFunc). -/
import Derived.Test.YtinnifhnabncfaaDoorEnt6
namespace Go.Proofs.YtinnifhnabncfaaDoor.Vi
open Go.RowKit Base Mem Go.Shelf
theorem sameSer_any (x : DeltaD) (B : Nat) (s : ByteArray) (w : World) (hB : B < w.heap.size) (hc : w.cell? ⟨B, 0, none⟩ = some (.string s)) :
    Calls Tryd.prog 37 #[.agg #[.string x.ser, .int .u64 x.n], .pointer (some ⟨B, 0, none⟩)] w fun e w' => e = .returned (.bool (x.ser.toList == s.toList)) ∧ Below w.heap.size w w' := by
  have hb : Hid (∀ o, Below w.heap.size w (w.alloc o)) := fun o => (Below.refl _ _).alloc (Nat.le_refl _) o
  have hca : (w.alloc (.cells #[.string x.ser, .int .u64 x.n] 44)).cell? ⟨B, 0, none⟩ = some (.string s) := ((hb.out _).cell (p := ⟨B, 0, none⟩) hB).trans hc
  go_enter Tryd.func37, Tryd.ntmps37
  go_wp2
  go_ret
  exact ⟨rfl, hb.out _⟩
theorem index_any (v : Value) (l : List DeltaD) (B : Nat) (s : ByteArray) (w : World) (h : Ds w [] v l) (h0 : 0 < l.length) (hl : l.length ≤ 4611686018427387904) (hB : B < w.heap.size) (hc : w.cell? ⟨B, 0, none⟩ = some (.string s)) :
    Calls Tryd.prog 36 #[v, .func (.func 37) #[] #[.pointer (some ⟨B, 0, none⟩)]] w fun r w' => r = .returned (.int .i64 (Lib.idxBy (fun _ (y : DeltaD) => y.ser.toList == s.toList) l default)) ∧ Below w.heap.size w w' := by
  obtain ⟨g, off, c, rfl, hg, hx⟩ := ds_cells h h0
  have heg : ∀ args w, (callFunc 37 args).run Tryd.prog w = .ok (.enter 37 args) w := enters_of Tryd.func37 (by kernel_rfl) rfl
  have hp : PredBelow Tryd.prog 37 #[.pointer (some ⟨B, 0, none⟩)] (fun x => .agg (dCell x).toArray) (fun d => d.ser.toList == s.toList) w := fun W x hb => by
    refine Calls.mono (sameSer_any x B s W (Nat.lt_of_lt_of_le hB hb.size) ((hb.cell (p := ⟨B, 0, none⟩) hB).trans hc)) ?_
    rintro r w' ⟨rfl, hb2⟩
    exact ⟨rfl, hb.trans (hb2.mono hb.size)⟩
  have := AnyQ.slices_IndexFunc Tryd.indexFuncDelta 2 Tryd.isAgg44 Tryd.sizeOf44 dCell (fun _ => rfl) (fun d => d.ser.toList == s.toList) 37 #[.pointer (some ⟨B, 0, none⟩)] heg g off l.length c l w hp (Nat.le_refl _) (by omega) hg hx
  rw [List.take_length] at this
  exact this
end Go.Proofs.YtinnifhnabncfaaDoor.Vi
