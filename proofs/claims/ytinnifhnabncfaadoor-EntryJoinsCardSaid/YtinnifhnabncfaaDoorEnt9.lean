/- slices.IndexFunc at no deltas. -/
import Derived.Test.YtinnifhnabncfaaDoorEnt8
namespace Go.Proofs.YtinnifhnabncfaaDoor.Vi
open Go.RowKit Base Mem Go.Shelf
theorem indexf_nil (A : Option Addr) (c g : Nat) (lb : Array Value) (w : World) :
    Calls Tryd.prog 36 #[.slice A 0 c, .func (.func g) #[] lb] w fun e w' => e = .returned (.int .i64 (-1)) ∧ Below w.heap.size w w' := by
  go_enter Tryd.func36, Tryd.ntmps36
  go_wp2_with fail
  go_slots
  go_loopw [8] (fun i wr => i = .int .i64 0 ∧ Hid (Below w.heap.size w wr)) (fun i _ => 0)
  case atStart => exact ⟨rfl, Below.refl _ _⟩
  case round =>
    obtain ⟨rfl, Hb⟩ := hrel
    go_wp2
    go_ret
    exact ⟨rfl, Hb.out⟩
end Go.Proofs.YtinnifhnabncfaaDoor.Vi
