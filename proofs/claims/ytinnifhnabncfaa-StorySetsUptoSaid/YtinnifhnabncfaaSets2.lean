/- Contracts of cmp.Compare at int64, cmp.Or, story.Order. -/
import Derived.Test.YtinnifhnabncfaaSets1
import Derived.Shelf.SlSortCmp.WholeK
namespace Go.Proofs.Ytinnifhnabncfaa.Sets
open Go.RowKit Base Mem
theorem nan64 (x : Int) (w : World) : Calls Try.prog 108 #[.int .i64 x] w fun e w' => e = .returned (.bool false) ∧ w = w' := by
  go_enter Try.func108, Try.ntmps108
  go_wp2
  go_ret
  exact ⟨ret_bool (by simp), rfl⟩
theorem comp64 (x y : Int) (w : World) : Calls Try.prog 78 #[.int .i64 x, .int .i64 y] w fun e w' => e = .returned (.int .i64 (cmp3 x y)) ∧ w = w' := by
  have hc := Lib.hid (fun x W => nan64 x W)
  rcases Int.lt_trichotomy x y with h | h | h
  · have hr : Hid (cmp3 x y = -1) := by show _ = _; unfold cmp3 Lib.compareInt; rw [if_pos h]
    go_enter Try.func78, Try.ntmps78
    go_wp2_with (go_at_call 108; refine (hc.out _ _).mono ?_; rintro e w' ⟨rfl, rfl⟩)
    go_ret
    exact ⟨by rw [hr.out]; rfl, rfl⟩
  · have hr : Hid (cmp3 x y = 0) := by show _ = _; unfold cmp3 Lib.compareInt; rw [if_neg (by omega), if_neg (by omega)]
    have h1 : decide (x < y) = false := decide_eq_false (by omega)
    have h2 : decide (y < x) = false := decide_eq_false (by omega)
    go_enter Try.func78, Try.ntmps78
    go_wp2_with (go_at_call 108; refine (hc.out _ _).mono ?_; rintro e w' ⟨rfl, rfl⟩)
    go_ret
    exact ⟨by rw [hr.out]; rfl, rfl⟩
  · have hr : Hid (cmp3 x y = 1) := by show _ = _; unfold cmp3 Lib.compareInt; rw [if_neg (by omega), if_pos (by omega)]
    have h1 : decide (x < y) = false := decide_eq_false (by omega)
    go_enter Try.func78, Try.ntmps78
    go_wp2_with (go_at_call 108; refine (hc.out _ _).mono ?_; rintro e w' ⟨rfl, rfl⟩)
    go_ret
    exact ⟨by rw [hr.out]; rfl, rfl⟩
theorem nanInt (x : Int) (w : World) : Calls Try.prog 107 #[.int .i64 x] w fun e w' => e = .returned (.bool false) ∧ w = w' := by
  go_enter Try.func107, Try.ntmps107
  go_wp2
  go_ret
  exact ⟨ret_bool (by simp), rfl⟩
theorem compInt (x y : Int) (w : World) : Calls Try.prog 77 #[.int .i64 x, .int .i64 y] w fun e w' => e = .returned (.int .i64 (cmp3 x y)) ∧ w = w' := by
  have hc := Lib.hid (fun x W => nanInt x W)
  rcases Int.lt_trichotomy x y with h | h | h
  · have hr : Hid (cmp3 x y = -1) := by show _ = _; unfold cmp3 Lib.compareInt; rw [if_pos h]
    go_enter Try.func77, Try.ntmps77
    go_wp2_with (go_at_call 107; refine (hc.out _ _).mono ?_; rintro e w' ⟨rfl, rfl⟩)
    go_ret
    exact ⟨by rw [hr.out]; rfl, rfl⟩
  · have hr : Hid (cmp3 x y = 0) := by show _ = _; unfold cmp3 Lib.compareInt; rw [if_neg (by omega), if_neg (by omega)]
    have h1 : decide (x < y) = false := decide_eq_false (by omega)
    have h2 : decide (y < x) = false := decide_eq_false (by omega)
    go_enter Try.func77, Try.ntmps77
    go_wp2_with (go_at_call 107; refine (hc.out _ _).mono ?_; rintro e w' ⟨rfl, rfl⟩)
    go_ret
    exact ⟨by rw [hr.out]; rfl, rfl⟩
  · have hr : Hid (cmp3 x y = 1) := by show _ = _; unfold cmp3 Lib.compareInt; rw [if_neg (by omega), if_pos (by omega)]
    have h1 : decide (x < y) = false := decide_eq_false (by omega)
    go_enter Try.func77, Try.ntmps77
    go_wp2_with (go_at_call 107; refine (hc.out _ _).mono ?_; rintro e w' ⟨rfl, rfl⟩)
    go_ret
    exact ⟨by rw [hr.out]; rfl, rfl⟩
def orS (x y z : Int) : Int := if x ≠ 0 then x else if y ≠ 0 then y else z
theorem or_any (g : Nat) (x y z : Int) (w : World) (h0 : w.cell? ⟨g, 0, none⟩ = some (.int .i64 x)) (h1 : w.cell? ⟨g, 1, none⟩ = some (.int .i64 y)) (h2 : w.cell? ⟨g, 2, none⟩ = some (.int .i64 z)) :
    Calls Try.prog 76 #[.slice (some ⟨g, 0, none⟩) 3 3] w fun e w' => e = .returned (.int .i64 (orS x y z)) ∧ ∃ q, w' = w.drewN q := by
  go_enter Try.func76, Try.ntmps76
  go_wp2_with fail
  go_slots
  go_loopw [8] (fun j wr => ∃ n q : Nat, j = .int .i64 n ∧ n ≤ 3 ∧ wr = w.drewN q ∧ (0 < n → x = 0) ∧ (1 < n → y = 0) ∧ (2 < n → z = 0)) (fun j _ => 3 - (intOf j).toNat)
  case atStart => exact ⟨0, 0, rfl, by omega, rfl, by omega, by omega, by omega⟩
  case round =>
    obtain ⟨n, q, rfl, hn, rfl, e0, e1, e2⟩ := hrel
    have E0 := Lib.hid e0; have E1 := Lib.hid e1; have E2 := Lib.hid e2
    clear e0 e1 e2
    rcases (show n = 0 ∨ n = 1 ∨ n = 2 ∨ n = 3 by omega) with rfl | rfl | rfl | rfl
    · by_cases hx : x = 0
      · have b1 : (x != 0) = false := by simpa using hx
        go_wp2
        go_roundw
        case rel => exact ⟨1, q, by go_num, by omega, rfl, fun _ => hx, by omega, by omega⟩
        case measure => simp [intOf]
      · have b1 : (x != 0) = true := by simpa using hx
        have hr : Hid (orS x y z = x) := by show _ = _; simp [orS, hx]
        go_wp2
        go_ret
        exact ⟨by rw [hr.out]; rfl, q, rfl⟩
    · have hx := E0.out (by omega)
      by_cases hy : y = 0
      · have b1 : (y != 0) = false := by simpa using hy
        go_wp2
        go_roundw
        case rel => exact ⟨2, q, by go_num, by omega, rfl, fun _ => hx, fun _ => hy, by omega⟩
        case measure => simp [intOf]
      · have b1 : (y != 0) = true := by simpa using hy
        have hr : Hid (orS x y z = y) := by show _ = _; simp [orS, hx, hy]
        go_wp2
        go_ret
        exact ⟨by rw [hr.out]; rfl, q, rfl⟩
    · have hx := E0.out (by omega)
      have hy := E1.out (by omega)
      have hr : Hid (orS x y z = z) := by show _ = _; simp [orS, hx, hy]
      by_cases hz : z = 0
      · have b1 : (z != 0) = false := by simpa using hz
        go_wp2
        go_roundw
        case rel => exact ⟨3, q, by go_num, by omega, rfl, fun _ => hx, fun _ => hy, fun _ => hz⟩
        case measure => simp [intOf]
      · have b1 : (z != 0) = true := by simpa using hz
        go_wp2
        go_ret
        exact ⟨by rw [hr.out]; rfl, q, rfl⟩
    · have hr : Hid (orS x y z = 0) := by show _ = _; simp [orS, E0.out (by omega), E1.out (by omega), E2.out (by omega)]
      go_wp2
      go_ret
      exact ⟨by rw [hr.out]; rfl, q, rfl⟩
def iEnc (d : IdentD) : List Value := [.int .i64 d.ag, .int .i64 d.sh, .int .i64 d.seq]
set_option maxRecDepth 100000 in
theorem order_any (a b : IdentD) (w : World) : Calls Try.prog 56 #[.agg #[.int .i64 a.ag, .int .i64 a.sh, .int .i64 a.seq], .agg #[.int .i64 b.ag, .int .i64 b.sh, .int .i64 b.seq]] w fun e w' => e = .returned (.int .i64 (iCmp a b)) ∧ ∃ q os', w' = Sort.grow (w.drewN q) os' := by
  obtain ⟨a1, a2, a3⟩ := a
  obtain ⟨b1, b2, b3⟩ := b
  have hc := Lib.hid (fun x y W => (compInt x y W).mono (R' := fun e w' => e = .returned (.int .i64 (cmp3 x y)) ∧ w' = W) fun e w' h => ⟨h.1, h.2.symm⟩)
  have hc64 := Lib.hid (fun x y W => comp64 x y W)
  go_enter Try.func56, Try.ntmps56
  go_wp2_with fail
  obtain ⟨W, hW⟩ : ∃ W, W = ((w.alloc (.cells #[.int .i64 a1, .int .i64 a2, .int .i64 a3] 58)).alloc (.cells #[.int .i64 b1, .int .i64 b2, .int .i64 b3] 58)) := ⟨_, rfl⟩
  have hA : Blk W w.heap.size 58 #[.int .i64 a1, .int .i64 a2, .int .i64 a3] := by rw [hW]; exact ((Keeps.refl [] _).alloc _).blk (Blk.new w _ _) (by simp)
  have hB : Blk W (w.heap.size + 1) 58 #[.int .i64 b1, .int .i64 b2, .int .i64 b3] := by
    have := Blk.new (w.alloc (.cells #[.int .i64 a1, .int .i64 a2, .int .i64 a3] 58)) 58 #[.int .i64 b1, .int .i64 b2, .int .i64 b3]
    rw [hW]
    simpa using this
  rw [← hW]
  have HW := Lib.hid hW
  clear hW
  generalize hg1 : w.heap.size = g1 at *
  generalize hg2 : g1 + 1 = g2 at *
  have p0 : W.cell? ⟨g1, 0, none⟩ = some (.int .i64 a1) := hA.cell 0
  have p1 : W.cell? ⟨g1, 1, none⟩ = some (.int .i64 a2) := hA.cell 1
  have p2 : W.cell? ⟨g1, 2, none⟩ = some (.int .i64 a3) := hA.cell 2
  have q0 : W.cell? ⟨g2, 0, none⟩ = some (.int .i64 b1) := hB.cell 0
  have q1 : W.cell? ⟨g2, 1, none⟩ = some (.int .i64 b2) := hB.cell 1
  have q2 : W.cell? ⟨g2, 2, none⟩ = some (.int .i64 b3) := hB.cell 2
  have hr : Hid (orS (cmp3 a1 b1) (cmp3 a2 b2) (cmp3 a3 b3) = iCmp ⟨a1, a2, a3⟩ ⟨b1, b2, b3⟩) := rfl
  have hx1 : ∀ W', Calls Try.prog 77 #[.int .i64 a1, .int .i64 b1] W' fun e w' => e = .returned (.int .i64 (cmp3 a1 b1)) ∧ w' = W' := fun W' => hc.out a1 b1 W'
  have hx2 : ∀ W', Calls Try.prog 77 #[.int .i64 a2, .int .i64 b2] W' fun e w' => e = .returned (.int .i64 (cmp3 a2 b2)) ∧ w' = W' := fun W' => hc.out a2 b2 W'
  have hx3 := fun W' => hc64.out a3 b3 W'
  generalize cmp3 a1 b1 = r1 at *
  generalize cmp3 a2 b2 = r2 at *
  generalize cmp3 a3 b3 = r3 at *
  have Hx1 := Lib.hid hx1; have Hx2 := Lib.hid hx2; have Hx3 := Lib.hid hx3
  have HA := Lib.hid hA; have HB := Lib.hid hB
  clear hx1 hx2 hx3 hc hc64 hg1 hg2 hA hB
  go_region_held3 (fun w' => w'.cell? ⟨g1, 0, none⟩ = some (.int .i64 a1) ∧ w'.cell? ⟨g1, 1, none⟩ = some (.int .i64 a2) ∧ w'.cell? ⟨g1, 2, none⟩ = some (.int .i64 a3) ∧ w'.cell? ⟨g2, 0, none⟩ = some (.int .i64 b1) ∧ w'.cell? ⟨g2, 1, none⟩ = some (.int .i64 b2) ∧ w'.cell? ⟨g2, 2, none⟩ = some (.int .i64 b3)) (first | exact ⟨p0, p1, p2, q0, q1, q2⟩ | go_keep) (first
    | (go_at_call 77
       with_reducible first | refine (Hx1.out _).mono ?_ | refine (Hx2.out _).mono ?_
       rintro e w' ⟨rfl, rfl⟩)
    | (go_at_call 78
       refine (Hx3.out _).mono ?_
       rintro e w' ⟨rfl, rfl⟩)
    | (go_at_call 76
       refine (or_any _ r1 r2 r3 _ ((Blk.new _ _ _).cell 0) ((Blk.new _ _ _).cell 1) ((Blk.new _ _ _).cell 2)).mono ?_
       rw [hr.out]
       rintro e w' ⟨rfl, nq, rfl⟩))
  go_wp2
  go_ret
  refine ⟨rfl, 1 + nq, #[.cells #[.int .i64 a1, .int .i64 a2, .int .i64 a3] 58, .cells #[.int .i64 b1, .int .i64 b2, .int .i64 b3] 58, .cells #[.int .i64 r1, .int .i64 r2, .int .i64 r3] 3], ?_⟩
  rw [HW.out]
  simp only [Sort.alloc_eq_grow, Sort.grow_grow]
  rfl
end Go.Proofs.Ytinnifhnabncfaa.Sets
