/- The walks of the helpers of the statements of package draw. -/
import Derived.Test.YtinnifhnabncfaaDraw
namespace Go.Proofs.Ytinnifhnabncfaa.Draw
open Go.RowKit
theorem same_any (s n t a b : Int) (w : World) (ht : t ≤ 9223372036854775807) :
    Calls Try.prog 13 #[.int .u64 s, .int .i64 n, .int .i64 t, .int .i64 a, .int .i64 b] w fun e w' => e = .returned (.bool true) ∧ w = w' := by
  go_enter Try.func13, Try.ntmps13
  go_wp2_with (first
    | (go_at_call 18; refine (next_any _ _).mono ?_; rintro e w' ⟨rfl, rfl⟩)
    | (go_at_call 38; refine (rnext_any _ _).mono ?_; rintro e w' ⟨rfl, rfl⟩)
    | (go_at_call 15; refine (in_any _ _ _).mono ?_; rintro e w' ⟨rfl, rfl⟩)
    | (go_at_call 39; refine (rin_any _ _ _).mono ?_; rintro e w' ⟨rfl, rfl⟩)
    | (go_at_call 17; refine (back_any _ _ _ _ ht).mono ?_; rintro e w' ⟨rfl, rfl⟩)
    | (go_at_call 40; refine (rback_any _ _ _ _ ht).mono ?_; rintro e w' ⟨rfl, rfl⟩)
    | (go_at_call 16; refine (wait_any _ _ _ _ _ ht).mono ?_; rintro e w' ⟨rfl, rfl⟩)
    | (go_at_call 41; refine (rwait_any _ _ _ _ _ ht).mono ?_; rintro e w' ⟨rfl, rfl⟩))
  go_ret
  exact ⟨rfl, rfl⟩
theorem known_any (w : World) : Calls Try.prog 14 #[] w fun e w' => e = .returned (.bool true) ∧ w = w' := by
  have k1 : backS 2 4 32 = 16 := by decide +kernel
  have k2 : backS 99 4 32 = 32 := by decide +kernel
  have k3 : inS 5 1 = 0 := by decide +kernel
  have k4 : inS 5 0 = 0 := by decide +kernel
  have k5 : nextS 0 = 1442695040888963407 := by decide +kernel
  have k6 : backS 1 0 9 = 0 := by decide +kernel
  have k7 : waitS 1 0 1 1 = 1 := by decide +kernel
  go_enter Try.func14, Try.ntmps14
  go_wp2_with (first
    | (go_at_call 18; refine (next_any _ _).mono ?_; rintro e w' ⟨rfl, rfl⟩)
    | (go_at_call 15; refine (in_any _ _ _).mono ?_; rintro e w' ⟨rfl, rfl⟩)
    | (go_at_call 17; refine (back_any _ _ _ _ (by omega)).mono ?_; rintro e w' ⟨rfl, rfl⟩)
    | (go_at_call 16; refine (wait_any _ _ _ _ _ (by omega)).mono ?_; rintro e w' ⟨rfl, rfl⟩))
  go_ret
  exact ⟨rfl, rfl⟩
end Go.Proofs.Ytinnifhnabncfaa.Draw
