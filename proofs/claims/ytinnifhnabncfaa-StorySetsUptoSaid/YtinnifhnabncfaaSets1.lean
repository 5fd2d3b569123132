/- Idents as data; contracts of less, cmp.Compare at int64, cmp.Or, story.Order, idents. -/
import Derived.Test.YtinnifhnabncfaaCopies
import Derived.Deep.RegionHeld3
import Derived.Lib.Small
namespace Go.Proofs.Ytinnifhnabncfaa.Sets
open Go.RowKit Base Mem
structure IdentD where
  ag : Int
  sh : Int
  seq : Int
deriving DecidableEq
def iCell (d : IdentD) : List Value := [.int .i64 d.ag, .int .i64 d.sh, .int .i64 d.seq]
def iVal (d : IdentD) : Value := .agg #[.int .i64 d.ag, .int .i64 d.sh, .int .i64 d.seq]
def iLt (a b : IdentD) : Bool := if a.ag ≠ b.ag then decide (a.ag < b.ag) else if a.sh ≠ b.sh then decide (a.sh < b.sh) else decide (a.seq < b.seq)
def cmp3 (a b : Int) : Int := Lib.compareInt a b
def iCmp (a b : IdentD) : Int := if cmp3 a.ag b.ag ≠ 0 then cmp3 a.ag b.ag else if cmp3 a.sh b.sh ≠ 0 then cmp3 a.sh b.sh else cmp3 a.seq b.seq
theorem iCmp_lt (a b : IdentD) : decide (iCmp a b < 0) = iLt a b := by
  unfold iCmp iLt cmp3 Lib.compareInt
  by_cases h1 : a.ag = b.ag <;> by_cases h2 : a.sh = b.sh <;> simp [h1, h2] <;> (repeat' split) <;> simp_all <;> omega
theorem less_any (a b : IdentD) (w : World) : Calls Try.prog 34 #[iVal a, iVal b] w fun e w' => e = .returned (.bool (iLt a b)) ∧ Below w.heap.size w w' := by
  obtain ⟨a1, a2, a3⟩ := a
  obtain ⟨b1, b2, b3⟩ := b
  simp only [iVal]
  by_cases h1 : a1 = b1
  · by_cases h2 : a2 = b2
    · have hr : Hid (iLt ⟨a1, a2, a3⟩ ⟨b1, b2, b3⟩ = decide (a3 < b3)) := by show _ = _; simp [iLt, h1, h2]
      have e1 : (a1 != b1) = false := by simpa using h1
      have e2 : (a2 != b2) = false := by simpa using h2
      clear h1 h2
      go_enter Try.func34, Try.ntmps34
      go_wp2
      go_ret
      exact ⟨by rw [hr.out]; rfl, ((Below.refl _ _).alloc (Nat.le_refl _) _).alloc (by simp) _⟩
    · have e2 : (a2 != b2) = true := by simpa using h2
      have e1 : (a1 != b1) = false := by simpa using h1
      have hr : Hid (iLt ⟨a1, a2, a3⟩ ⟨b1, b2, b3⟩ = decide (a2 < b2)) := by show _ = _; simp [iLt, h1, h2]
      go_enter Try.func34, Try.ntmps34
      go_wp2
      go_ret
      exact ⟨by rw [hr.out]; rfl, ((Below.refl _ _).alloc (Nat.le_refl _) _).alloc (by simp) _⟩
  · have e1 : (a1 != b1) = true := by simpa using h1
    have hr : Hid (iLt ⟨a1, a2, a3⟩ ⟨b1, b2, b3⟩ = decide (a1 < b1)) := by show _ = _; simp [iLt, h1]
    go_enter Try.func34, Try.ntmps34
    go_wp2
    go_ret
    exact ⟨by rw [hr.out]; rfl, ((Below.refl _ _).alloc (Nat.le_refl _) _).alloc (by simp) _⟩
end Go.Proofs.Ytinnifhnabncfaa.Sets
