/- Plain words: a number that was put is got; so are texts. -/
import Derived.Test.YtinnifhnabncfaaDoorRead2
namespace Go.Proofs.YtinnifhnabncfaaDoor.Vi
open Go.RowKit Base Mem
/-- A number that was put is got. -/
theorem getF_put (n i acc : Nat) (r : List UInt8) (hacc : acc < 2 ^ (7 * i)) (hb : acc + n * 2 ^ (7 * i) < 18446744073709551616) (hz : i = 0 ∨ 0 < n) :
    getF i acc (Lib.uvarint n ++ r) = (acc + n * 2 ^ (7 * i), i + (Lib.uvarint n).length) := by
  induction n using Nat.strongRecOn generalizing i acc with
  | _ n ih =>
  have hp : 0 < 2 ^ (7 * i) := Nat.two_pow_pos _
  have hi : i < 10 := by
    rcases hz with rfl | h0
    · omega
    · apply Decidable.byContradiction; intro hge
      have h1 : 2 ^ 70 ≤ 2 ^ (7 * i) := Nat.pow_le_pow_right (by omega) (by omega)
      have h2 : 1 * 2 ^ (7 * i) ≤ n * 2 ^ (7 * i) := Nat.mul_le_mul_right _ h0
      have h3 : (2 : Nat) ^ 70 = 1180591620717411303424 := rfl
      omega
  by_cases hs : n < 128
  · rw [Lib.uvarint_small hs]
    have hc : (n.toUInt8).toNat = n := by rw [Nat.toUInt8_eq, UInt8.toNat_ofNat']; omega
    have hm : n % 128 = n := Nat.mod_eq_of_lt hs
    rw [List.singleton_append, getF, hc, hm, if_neg (by omega), if_neg (by omega), if_neg (by omega), if_neg (by omega)]
    simp
  · rw [Lib.uvarint_big (by omega)]
    have hc : ((n % 128 + 128).toUInt8).toNat = n % 128 + 128 := by rw [Nat.toUInt8_eq, UInt8.toNat_ofNat']; omega
    have hm : (n % 128 + 128) % 128 = n % 128 := by omega
    have hpow : 2 ^ (7 * (i + 1)) = 128 * 2 ^ (7 * i) := by rw [show 7 * (i + 1) = 7 * i + 7 by omega, Nat.pow_add, Nat.mul_comm]
    have hsplit : n * 2 ^ (7 * i) = n % 128 * 2 ^ (7 * i) + n / 128 * (128 * 2 ^ (7 * i)) := by
      conv => lhs; rw [← Nat.mod_add_div n 128]
      rw [Nat.add_mul, Nat.mul_comm 128 (n / 128), Nat.mul_assoc]
    have hlt : n % 128 * 2 ^ (7 * i) ≤ 127 * 2 ^ (7 * i) := Nat.mul_le_mul_right _ (by omega)
    rw [List.cons_append, getF, hc, hm, if_neg (by omega), if_neg (by omega), if_pos (by omega)]
    rw [ih (n / 128) (by omega) (i + 1) (acc + n % 128 * 2 ^ (7 * i)) (by rw [hpow]; omega) (by rw [hpow]; omega) (.inr (by omega))]
    rw [hpow, List.length_cons]
    congr 1 <;> omega
theorem getL_put (n : Nat) (r : List UInt8) (hn : n < 18446744073709551616) : getL (Lib.uvarint n ++ r) = (n, (Lib.uvarint n).length) := by
  have := getF_put n 0 0 r (by decide) (by omega) (.inl rfl)
  simpa [getL] using this
/-- A number cut short is none. -/
theorem getF_cut (n i acc : Nat) (k : Nat) (hk : k < (Lib.uvarint n).length) (hacc : acc < 2 ^ (7 * i)) (hb : acc + n * 2 ^ (7 * i) < 18446744073709551616) (hz : i = 0 ∨ 0 < n) :
    getF i acc ((Lib.uvarint n).take k) = (0, 0) := by
  induction n using Nat.strongRecOn generalizing i acc k with
  | _ n ih =>
  cases k with
  | zero => rfl
  | succ k =>
  have hp : 0 < 2 ^ (7 * i) := Nat.two_pow_pos _
  by_cases hs : n < 128
  · rw [Lib.uvarint_small hs] at hk
    simp at hk
  · rw [Lib.uvarint_big (by omega)] at hk ⊢
    rw [List.length_cons] at hk
    have hi : i < 10 := by
      apply Decidable.byContradiction; intro hge
      have h1 : 2 ^ 70 ≤ 2 ^ (7 * i) := Nat.pow_le_pow_right (by omega) (by omega)
      have h2 : 1 * 2 ^ (7 * i) ≤ n * 2 ^ (7 * i) := Nat.mul_le_mul_right _ (by omega)
      have h3 : (2 : Nat) ^ 70 = 1180591620717411303424 := rfl
      omega
    have hc : ((n % 128 + 128).toUInt8).toNat = n % 128 + 128 := by rw [Nat.toUInt8_eq, UInt8.toNat_ofNat']; omega
    have hm : (n % 128 + 128) % 128 = n % 128 := by omega
    have hpow : 2 ^ (7 * (i + 1)) = 128 * 2 ^ (7 * i) := by rw [show 7 * (i + 1) = 7 * i + 7 by omega, Nat.pow_add, Nat.mul_comm]
    have hsplit : n * 2 ^ (7 * i) = n % 128 * 2 ^ (7 * i) + n / 128 * (128 * 2 ^ (7 * i)) := by
      conv => lhs; rw [← Nat.mod_add_div n 128]
      rw [Nat.add_mul, Nat.mul_comm 128 (n / 128), Nat.mul_assoc]
    have hlt : n % 128 * 2 ^ (7 * i) ≤ 127 * 2 ^ (7 * i) := Nat.mul_le_mul_right _ (by omega)
    rw [List.take_succ_cons, getF, hc, hm, if_neg (by omega), if_neg (by omega), if_pos (by omega)]
    exact ih (n / 128) (by omega) (i + 1) _ k (by omega) (by rw [hpow]; omega) (by rw [hpow]; omega) (.inr (by omega))
theorem numS_put (n : Nat) (r : List UInt8) (hn : n < 18446744073709551616) : numS (Lib.uvarint n ++ r) false = (n, r, false) := by
  have h1 := Lib.uvarint_pos n
  unfold numS
  rw [getL_put n r hn, if_neg (fun h => by rcases h with h | h; cases h; simp only [] at h; omega)]
  simp
theorem intS_put (n : Nat) (r : List UInt8) (hn : n ≤ 9223372036854775807) : intS (Lib.uvarint n ++ r) false = (n, r, false) := by
  unfold intS
  rw [numS_put n r (by omega), if_neg (by simp only []; omega)]
theorem countS_put (n : Nat) (r : List UInt8) (most : Nat) (hn : n ≤ most) (hm : most ≤ 9223372036854775807) : countS (Lib.uvarint n ++ r) false most = (n, r, false) := by
  unfold countS
  rw [intS_put n r (by omega), if_neg (by simp only []; omega)]
theorem cutL_put (s r : List UInt8) (hn : s.length < 18446744073709551616) : cutL (Lib.uvarint s.length ++ s ++ r) = (s, (Lib.uvarint s.length).length + s.length) := by
  have h1 := Lib.uvarint_pos s.length
  unfold cutL
  rw [List.append_assoc, getL_put _ _ hn, if_neg (by simp only [List.length_append]; omega)]
  simp
theorem textS_put (s r : List UInt8) (hn : s.length < 18446744073709551616) : textS (Lib.uvarint s.length ++ s ++ r) false = (s, r, false) := by
  have h1 := Lib.uvarint_pos s.length
  unfold textS
  rw [cutL_put s r hn, if_neg (fun h => by rcases h with h | h; cases h; simp only [] at h; omega)]
  simp only [Prod.mk.injEq, and_true, true_and]
  rw [← List.length_append, List.drop_left]
end Go.Proofs.YtinnifhnabncfaaDoor.Vi
