/- The walk of LeadAlone. -/
import Derived.Test.YtinnifhnabncfaaLeadK
import Derived.Test.YtinnifhnabncfaaTape
namespace Go.Proofs.Ytinnifhnabncfaa.Lead
open Go.RowKit Base Mem
theorem alone_plain {x y i j k : Int} (hx : 0 ≤ x) (hx2 : x < 16777216) (hy : 0 ≤ y) (hy2 : y < 16777216) (hk : 1 ≤ k) (hk2 : k ≤ 8) (hi : 0 ≤ i) (hi2 : i < k) (hj : 0 ≤ j) (hj2 : j < k) :
    x < termS x i k ∧ y < termS y j k ∧ termS x i k - x ≤ k ∧ termS x i k % k = i ∧ (i = j ∨ termS x i k ≠ termS y j k) ∧ termS x i k ≤ 16777300 ∧ termS y j k ≤ 16777300 := by
  obtain ⟨a1, a2, a3, _⟩ := term_plain (above := x) (node := i) (nodes := k) ⟨⟨hk, hk2⟩, hi, hi2, hx, by omega⟩
  obtain ⟨b1, b2, b3, _⟩ := term_plain (above := y) (node := j) (nodes := k) ⟨⟨hk, hk2⟩, hj, hj2, hy, by omega⟩
  refine ⟨by omega, by omega, by omega, a3, ?_, by omega, by omega⟩
  rcases Int.lt_trichotomy i j with h | h | h
  · right; intro e; rw [e, b3] at a3; omega
  · exact .inl h
  · right; intro e; rw [e, b3] at a3; omega
set_option maxRecDepth 100000 in
theorem alone_walk (a b n : Int) (w : World) :
    Calls Try.prog 8 #[.int .i64 a, .int .i64 b, .int .i64 n] w fun e w' => e = .returned (.bool true) ∧ Below w.heap.size w w' := by
  have hwb := Tape.within_bd n 0 7 (by omega)
  have hw := Lib.hid (Tape.within_any n 0 7 w (by omega) (by omega) (by omega))
  have m1 := Base.mask_16777215 a
  have m2 := Base.mask_16777215 b
  have m3 := Base.mask_7 (a / 16777216)
  have m4 := Base.mask_7 (b / 16777216)
  obtain ⟨hw1, hw2⟩ := hwb
  generalize Tape.withinS n 0 7 = q at *
  obtain ⟨x, hx⟩ : ∃ x, x = a % 16777216 := ⟨_, rfl⟩
  obtain ⟨y, hy⟩ : ∃ x, x = b % 16777216 := ⟨_, rfl⟩
  obtain ⟨u, hu⟩ : ∃ x, x = a / 16777216 % 8 := ⟨_, rfl⟩
  obtain ⟨v, hv⟩ : ∃ x, x = b / 16777216 % 8 := ⟨_, rfl⟩
  rw [← hx] at m1; rw [← hy] at m2; rw [← hu] at m3; rw [← hv] at m4
  have bx : 0 ≤ x ∧ x < 16777216 := by omega
  have by' : 0 ≤ y ∧ y < 16777216 := by omega
  have bu : 0 ≤ u ∧ u < 8 := by omega
  have bv : 0 ≤ v ∧ v < 8 := by omega
  obtain ⟨bx1, bx2⟩ := bx
  obtain ⟨by1, by2⟩ := by'
  obtain ⟨bu1, bu2⟩ := bu
  obtain ⟨bv1, bv2⟩ := bv
  clear hx hy hu hv
  have hi1 := Int.emod_nonneg u (show 1 + q ≠ 0 by omega)
  have hi2 := Int.emod_lt_of_pos u (show 0 < 1 + q by omega)
  have hj1 := Int.emod_nonneg v (show 1 + q ≠ 0 by omega)
  have hj2 := Int.emod_lt_of_pos v (show 0 < 1 + q by omega)
  have tu : u.tmod (1 + q) = u % (1 + q) := Int.tmod_eq_emod_of_nonneg bu1
  have tv : v.tmod (1 + q) = v % (1 + q) := Int.tmod_eq_emod_of_nonneg bv1
  generalize u % (1 + q) = i at *
  generalize v % (1 + q) = j at *
  obtain ⟨k, hk⟩ : ∃ k, k = 1 + q := ⟨_, rfl⟩
  have hk1 : 1 ≤ k ∧ k ≤ 8 := by omega
  have hk2 : 1 + q = k := hk.symm
  clear hk
  rw [hk2] at hi2 hj2 tu tv
  obtain ⟨hk1, hk8⟩ := hk1
  obtain ⟨p1, p2, p3, p4, p5, p6, p7⟩ := alone_plain bx1 bx2 by1 by2 hk1 hk8 hi1 hi2 hj1 hj2
  have ht1 := Lib.hid (fun W => term_any x i k W)
  have ht2 := Lib.hid (fun W => term_any y j k W)
  have hs0 : 0 < termS x i k := by omega
  have hs1 : 0 < termS y j k := by omega
  generalize termS x i k = s at *
  generalize termS y j k = t at *
  have e4 : (s % k == i) = true := by simpa using p4
  have hd : (i == j) = true ∨ ((i == j) = false ∧ (s != t) = true) := by
    by_cases h : i = j
    · exact .inl (by simpa using h)
    · exact .inr ⟨by simpa using h, by simpa using p5.resolve_left h⟩
  clear p4 p5
  rcases hd with e5 | ⟨e5, e6⟩
  all_goals
    go_enter Try.func8, Try.ntmps8
    go_wp2_with fail
    refine hw.out.mono ?_
    rintro e w' ⟨rfl, rfl⟩
    go_wp2_with fail
    go_quiet (fail)
    go_wp2_with (first
      | (go_at_call 22; with_reducible refine (ht1.out _).mono ?_; rintro e w' ⟨rfl, rfl⟩)
      | (go_at_call 22; with_reducible refine (ht2.out _).mono ?_; rintro e w' ⟨rfl, rfl⟩)
      | fail)
    refine (known_walk _).mono ?_
    rintro e w2 ⟨rfl, hb⟩
    have Hb := Lib.hid hb
    clear hb
    go_wp2
    go_ret
    exact ⟨rfl, (Keeps.below (((Keeps.refl [] w).drewN _).trans (Keeps.of_below (M := []) Hb.out) (by simp)))⟩
end Go.Proofs.Ytinnifhnabncfaa.Lead
