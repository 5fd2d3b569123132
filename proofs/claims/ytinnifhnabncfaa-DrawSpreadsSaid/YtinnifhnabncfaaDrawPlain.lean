/- Plain arithmetic: the next seed is one to one. -/
import Derived.Test.YtinnifhnabncfaaDraw
namespace Go.Proofs.Ytinnifhnabncfaa.Draw
open Go.RowKit
theorem inj_gen (a b c d M inv q : Int) (hc : c * inv = 1 + M * q) (h : (a * c + d) % M = (b * c + d) % M) (ha : 0 ≤ a) (ha' : a < M) (hb : 0 ≤ b) (hb' : b < M) : a = b := by
  have h1 : M ∣ (a - b) * c := by
    have := Int.emod_eq_emod_iff_emod_sub_eq_zero.1 h
    have := Int.dvd_of_emod_eq_zero this
    rwa [show a * c + d - (b * c + d) = (a - b) * c by rw [Int.sub_mul]; omega] at this
  have h2 : M ∣ (a - b) * c * inv := Int.dvd_trans h1 (Int.dvd_mul_right _ _)
  rw [Int.mul_assoc, hc, Int.mul_add, Int.mul_one] at h2
  have h3 : M ∣ (a - b) * (M * q) := ⟨(a - b) * q, by rw [Int.mul_left_comm]⟩
  have h4 : M ∣ (a - b) := (Int.dvd_add_left h3).1 h2
  have h5 : a % M = b % M := Int.emod_eq_emod_iff_emod_sub_eq_zero.2 (Int.emod_eq_zero_of_dvd h4)
  rwa [Int.emod_eq_of_lt ha ha', Int.emod_eq_of_lt hb hb'] at h5
theorem inv_eq : (6364136223846793005 : Int) * 13877824140714322085 = 1 + 18446744073709551616 * 4787856489426250814 := by decide +kernel
theorem next_form (s : Int) : nextS s = (s * 6364136223846793005 + 1442695040888963407) % 18446744073709551616 := by
  unfold nextS
  rw [IntKind.wrap_u64, IntKind.wrap_u64, Int.emod_add_emod]
theorem next_bd (s : Int) : 0 ≤ nextS s ∧ nextS s < 18446744073709551616 := by rw [next_form]; omega
theorem next_inj {a b : Int} (ha : 0 ≤ a) (ha' : a < 18446744073709551616) (hb : 0 ≤ b) (hb' : b < 18446744073709551616) (h : nextS a = nextS b) : a = b := by
  rw [next_form, next_form] at h
  exact inj_gen a b _ _ _ _ _ inv_eq h ha ha' hb hb'
end Go.Proofs.Ytinnifhnabncfaa.Draw
