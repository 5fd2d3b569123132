/- The walks of the four statements of package draw. -/
import Derived.Test.YtinnifhnabncfaaDrawLaw
import Derived.Test.YtinnifhnabncfaaDrawPlain
import Derived.Test.YtinnifhnabncfaaBase
namespace Go.Proofs.Ytinnifhnabncfaa.Draw
open Go.RowKit
theorem tells_walk (s n t a b : Int) (w : World) (ht : t ≤ 9223372036854775807) :
    Calls Try.prog 4 #[.int .u64 s, .int .i64 n, .int .i64 t, .int .i64 a, .int .i64 b] w fun e w' => e = .returned (.bool true) ∧ w = w' := by
  have m1 := Base.mask_255 n
  have m2 := Base.mask_15 t
  have m3 := Base.mask_31 a
  have m4 := Base.mask_255 b
  go_enter Try.func4, Try.ntmps4
  go_wp2_with (first
    | (go_at_call 13; refine (same_any _ _ _ _ _ _ ?_).mono ?_; omega; rintro e w' ⟨rfl, rfl⟩)
    | (go_at_call 14; refine (known_any _).mono ?_; rintro e w' ⟨rfl, rfl⟩))
  go_ret
  exact ⟨rfl, rfl⟩
theorem within_plain (s t x y : Int) (ht : 0 ≤ t) (hx : 1 ≤ x) (hxy : x ≤ y) (hy : y ≤ 1099511627776) :
    backS t x y ≤ waitS s t x y ∧ waitS s t x y ≤ backS t x y + backS t x y / 2 ∧ x ≤ backS t x y ∧ backS t x y ≤ y ∧ backS t x y ≤ backS (t + 1) x y ∧ backS (t + 1) x y ≤ y ∧
      (backS (t + 1) x y = 2 * backS t x y ∨ backS (t + 1) x y = y) := by
  have h1 := backS_pos (t := t) ⟨hx, hxy, hy⟩
  have h2 := inS_bd s (backS t x y / 2 + 1) (by omega)
  have hw : waitS s t x y = backS t x y + inS s (backS t x y / 2 + 1) := by unfold waitS; rw [if_neg (by omega)]
  have h3 : backS t x y = min (x * 2 ^ t.toNat) y := if_pos ⟨hx, hxy, hy⟩
  have h4 : backS (t + 1) x y = min (x * 2 ^ (t + 1).toNat) y := if_pos ⟨hx, hxy, hy⟩
  have h5 : (t + 1).toNat = t.toNat + 1 := by omega
  rw [h5, pow_up] at h4
  have h6 := pow_le x hx (Nat.zero_le t.toNat)
  simp at h6
  omega
theorem within_walk (s n t a b : Int) (w : World) :
    Calls Try.prog 5 #[.int .u64 s, .int .i64 n, .int .i64 t, .int .i64 a, .int .i64 b] w fun e w' => e = .returned (.bool true) ∧ w = w' := by
  have m1 := Base.mask_65535 n
  have m2 := Base.mask_31 t
  have m3 := Base.mask_31 a
  have m4 := Base.mask_255 b
  obtain ⟨k, hk⟩ : ∃ k, k = n % 65536 := ⟨_, rfl⟩
  obtain ⟨j, hj⟩ : ∃ k, k = t % 32 := ⟨_, rfl⟩
  obtain ⟨x, hx⟩ : ∃ k, k = a % 32 := ⟨_, rfl⟩
  obtain ⟨y, hy⟩ : ∃ k, k = b % 256 := ⟨_, rfl⟩
  rw [← hk] at m1; rw [← hj] at m2; rw [← hx] at m3; rw [← hy] at m4
  have bk : 0 ≤ k ∧ k < 65536 := by omega
  have bj : 0 ≤ j ∧ j < 32 := by omega
  have bx : 0 ≤ x ∧ x < 32 := by omega
  have by' : 0 ≤ y ∧ y < 256 := by omega
  clear hk hj hx hy
  obtain ⟨bk1, bk2⟩ := bk
  obtain ⟨bj1, bj2⟩ := bj
  obtain ⟨bx1, bx2⟩ := bx
  obtain ⟨by1, by2⟩ := by'
  have hin := Lib.hid (in_any s (1 + k) w)
  have hwait := Lib.hid (wait_any s j (1 + x) (32 + y) w (by omega))
  have hback := Lib.hid (back_any j (1 + x) (32 + y) w (by omega))
  have hback1 := Lib.hid (back_any (j + 1) (1 + x) (32 + y) w (by omega))
  obtain ⟨p1, p2, p3, p4, p5, p6, p7⟩ := within_plain s j (1 + x) (32 + y) (by omega) (by omega) (by omega) (by omega)
  obtain ⟨q1, q2⟩ := inS_bd s (1 + k) (by omega)
  generalize inS s (1 + k) = d at *
  generalize waitS s j (1 + x) (32 + y) = wt at *
  generalize backS j (1 + x) (32 + y) = v at *
  generalize backS (j + 1) (1 + x) (32 + y) = u at *
  by_cases c : u = 2 * v
  · have c1 : (u == 2 * v) = true := by simpa using c
    clear c p7
    go_enter Try.func5, Try.ntmps5
    go_wp2_with (first
      | (go_at_call 15; with_reducible refine hin.out.mono ?_; rintro e w' ⟨rfl, rfl⟩)
      | (go_at_call 16; with_reducible refine hwait.out.mono ?_; rintro e w' ⟨rfl, rfl⟩)
      | (go_at_call 17; with_reducible refine hback.out.mono ?_; rintro e w' ⟨rfl, rfl⟩)
      | (go_at_call 17; with_reducible refine hback1.out.mono ?_; rintro e w' ⟨rfl, rfl⟩)
      | (go_at_call 14; refine (known_any _).mono ?_; rintro e w' ⟨rfl, rfl⟩))
    go_ret
    exact ⟨rfl, rfl⟩
  · have c1 : (u == 2 * v) = false := by simpa using c
    have c2 : (u == 32 + y) = true := by simp; omega
    clear c p7
    go_enter Try.func5, Try.ntmps5
    go_wp2_with (first
      | (go_at_call 15; with_reducible refine hin.out.mono ?_; rintro e w' ⟨rfl, rfl⟩)
      | (go_at_call 16; with_reducible refine hwait.out.mono ?_; rintro e w' ⟨rfl, rfl⟩)
      | (go_at_call 17; with_reducible refine hback.out.mono ?_; rintro e w' ⟨rfl, rfl⟩)
      | (go_at_call 17; with_reducible refine hback1.out.mono ?_; rintro e w' ⟨rfl, rfl⟩)
      | (go_at_call 14; refine (known_any _).mono ?_; rintro e w' ⟨rfl, rfl⟩))
    go_ret
    exact ⟨rfl, rfl⟩
theorem spreads_walk (a b : Int) (w : World) (ha : 0 ≤ a ∧ a < 18446744073709551616) (hb : 0 ≤ b ∧ b < 18446744073709551616) :
    Calls Try.prog 6 #[.int .u64 a, .int .u64 b] w fun e w' => e = .returned (.bool true) ∧ w = w' := by
  have hna := Lib.hid (next_any a w)
  have hnb := Lib.hid (next_any b w)
  have ba := next_bd a
  have i1 : inS a 2147483648 = (nextS a / 4294967296) % 2147483648 := by
    unfold inS; rw [if_pos (by omega), show wrap64 (nextS a / 4294967296) = nextS a / 4294967296 by unfold wrap64; omega, Int.tmod_eq_emod_of_nonneg (by omega)]
  have i2 : inS a 2 = (nextS a / 4294967296) % 2 := by
    unfold inS; rw [if_pos (by omega), show wrap64 (nextS a / 4294967296) = nextS a / 4294967296 by unfold wrap64; omega, Int.tmod_eq_emod_of_nonneg (by omega)]
  have j1 := Lib.hid (in_any a 2147483648 w)
  have j2 := Lib.hid (in_any a 2 w)
  rw [i1] at j1; rw [i2] at j2
  clear i1 i2
  have he : (nextS a = nextS b) ↔ a = b := ⟨next_inj ha.1 ha.2 hb.1 hb.2, fun h => by rw [h]⟩
  have m1 := Base.u64_mask' (nextS a / 4294967296) 2147483647 31 (by omega) (by decide +kernel) (by omega) (by omega)
  have m2 := Base.u64_mask' (nextS a / 4294967296) 1 1 (by omega) (by decide +kernel) (by omega) (by omega)
  rw [show (2147483647 + 1 : Int) = 2147483648 by omega] at m1
  rw [show (1 + 1 : Int) = 2 by omega] at m2
  have he' : ((nextS a == nextS b) == (a == b)) = true := by
    rw [beq_iff_eq, Bool.eq_iff_iff, beq_iff_eq, beq_iff_eq]; exact he
  clear he
  generalize nextS a = x at *
  generalize nextS b = y at *
  obtain ⟨ba1, ba2⟩ := ba
  go_enter Try.func6, Try.ntmps6
  go_wp2_with (first
    | (go_at_call 18; with_reducible refine hna.out.mono ?_; rintro e w' ⟨rfl, rfl⟩)
    | (go_at_call 18; with_reducible refine hnb.out.mono ?_; rintro e w' ⟨rfl, rfl⟩)
    | (go_at_call 15; with_reducible refine j1.out.mono ?_; rintro e w' ⟨rfl, rfl⟩)
    | (go_at_call 15; with_reducible refine j2.out.mono ?_; rintro e w' ⟨rfl, rfl⟩)
    | (go_at_call 14; refine (known_any _).mono ?_; rintro e w' ⟨rfl, rfl⟩))
  go_ret
  exact ⟨rfl, rfl⟩
end Go.Proofs.Ytinnifhnabncfaa.Draw
