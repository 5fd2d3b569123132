/- The walk of DrawNumbers. -/
import Derived.Test.YtinnifhnabncfaaDrawLaw
import Derived.Test.YtinnifhnabncfaaBase
namespace Go.Proofs.Ytinnifhnabncfaa.Draw
open Go.RowKit Base
/-- The first n cells of block b hold some int64. -/
def Row (b n : Nat) (w : World) : Prop := ∀ j, j < n → ∃ z : Int, w.cell? ⟨b, j, none⟩ = some (.int .i64 z)
theorem Row.below {b n B : Nat} {w w' : World} (h : Row b n w) (hb : Below B w w') (hB : b < B) : Row b n w' := fun j hj => by
  obtain ⟨z, hz⟩ := h j hj
  exact ⟨z, (hb.cell hB).trans hz⟩
theorem row_new {w : World} {cs : Array Value} {t : TypeId} (n : Nat) (h : ∀ j, j < n → ∃ z : Int, cs[j]? = some (.int .i64 z)) : Row w.heap.size n (w.alloc (.cells cs t)) := fun j hj => by
  obtain ⟨z, hz⟩ := h j hj
  exact ⟨z, ((Blk.new w t cs).cell j).trans hz⟩
set_option maxHeartbeats 1000000 in
theorem numbers_walk (w : World) :
    Calls Try.prog 3 #[] w fun e w' => e = .returned (.bool true) ∧ Below w.heap.size w w' := by
  go_enter Try.func3, Try.ntmps3
  go_wp2
  go_loopw [1] (fun s wr => ∃ k : Nat, k ≤ 40 ∧ s = .int .u64 k ∧ Below w.heap.size w wr) (fun s _ => 40 - (intOf s).toNat)
  case atStart => exact ⟨0, by omega, rfl, Below.refl _ _⟩
  case round =>
    obtain ⟨k, hk, rfl, hb⟩ := hrel
    by_cases hlt : k < 40
    · have d1 : decide ((k : Int) < 40) = true := by simp; omega
      go_wp2
      obtain ⟨w1, hw1⟩ : ∃ w1 : World, w1 = wr := ⟨_, rfl⟩
      subst hw1
      go_loopw [2] (fun t wr => ∃ j : Int, -1 ≤ j ∧ j ≤ 12 ∧ t = .int .i64 j ∧ Below w.heap.size w wr) (fun t _ => (12 - intOf t).toNat)
      case atStart => exact ⟨-1, by omega, by omega, rfl, hb⟩
      case round =>
        clear hb
        obtain ⟨j, hj1, hj2, rfl, hb⟩ := hrel
        by_cases hjt : j < 12
        · go_wp2
          have hrow : Row wr.heap.size 8 (wr.alloc (.cells #[.int .i64 (-1), .int .i64 0, .int .i64 1, .int .i64 3, .int .i64 4, .int .i64 549755813888, .int .i64 1099511627776, .int .i64 1099511627777] 2)) :=
            row_new 8 (by intro j hj; rcases (show j = 0 ∨ j = 1 ∨ j = 2 ∨ j = 3 ∨ j = 4 ∨ j = 5 ∨ j = 6 ∨ j = 7 by omega) with rfl | rfl | rfl | rfl | rfl | rfl | rfl | rfl <;> exact ⟨_, rfl⟩)
          have hb2 := below_new hb (.cells #[.int .i64 (-1), .int .i64 0, .int .i64 1, .int .i64 3, .int .i64 4, .int .i64 549755813888, .int .i64 1099511627776, .int .i64 1099511627777] 2)
          clear hb
          have hlt2 : wr.heap.size < (wr.alloc (.cells #[.int .i64 (-1), .int .i64 0, .int .i64 1, .int .i64 3, .int .i64 4, .int .i64 549755813888, .int .i64 1099511627776, .int .i64 1099511627777] 2)).heap.size := by simp
          generalize hw2 : (wr.alloc (.cells #[.int .i64 (-1), .int .i64 0, .int .i64 1, .int .i64 3, .int .i64 4, .int .i64 549755813888, .int .i64 1099511627776, .int .i64 1099511627777] 2)) = w2 at hrow hb2 hlt2 ⊢
          clear hw2
          generalize wr.heap.size = b at hrow hlt2 ⊢
          go_loopw [17] (fun i wr => ∃ q : Nat, q ≤ 8 ∧ i = .int .i64 q ∧ Below w.heap.size w wr ∧ Row b 8 wr ∧ b < wr.heap.size) (fun i _ => 8 - (intOf i).toNat)
          case atStart => exact ⟨0, by omega, rfl, hb2, hrow, hlt2⟩
          case round =>
            clear hb2 hrow hlt2
            obtain ⟨q, hq, rfl, hb, hrow, hblt⟩ := hrel
            by_cases hq8 : q < 8
            · obtain ⟨x, hx⟩ := hrow q hq8
              have d2 : decide ((q : Int) < 8) = true := by simp; omega
              have Hrow := Lib.hid hrow; clear hrow
              go_wp2
              have hrow2 : Row wr.heap.size 7 (wr.alloc (.cells #[.int .i64 0, .int .i64 1, .int .i64 4, .int .i64 30, .int .i64 32, .int .i64 1099511627776, .int .i64 1099511627777] 2)) :=
                row_new 7 (by intro j hj; rcases (show j = 0 ∨ j = 1 ∨ j = 2 ∨ j = 3 ∨ j = 4 ∨ j = 5 ∨ j = 6 by omega) with rfl | rfl | rfl | rfl | rfl | rfl | rfl <;> exact ⟨_, rfl⟩)
              have hb2 := below_new hb (.cells #[.int .i64 0, .int .i64 1, .int .i64 4, .int .i64 30, .int .i64 32, .int .i64 1099511627776, .int .i64 1099511627777] 2)
              have hrow := Hrow.out.below (Below.alloc (Below.refl wr.heap.size wr) (Nat.le_refl _) (.cells #[.int .i64 0, .int .i64 1, .int .i64 4, .int .i64 30, .int .i64 32, .int .i64 1099511627776, .int .i64 1099511627777] 2)) hblt
              clear hb Hrow hx
              have hlt3 : wr.heap.size < (wr.alloc (.cells #[.int .i64 0, .int .i64 1, .int .i64 4, .int .i64 30, .int .i64 32, .int .i64 1099511627776, .int .i64 1099511627777] 2)).heap.size := by simp
              generalize hw3 : (wr.alloc (.cells #[.int .i64 0, .int .i64 1, .int .i64 4, .int .i64 30, .int .i64 32, .int .i64 1099511627776, .int .i64 1099511627777] 2)) = w3 at hrow hb2 hlt3 hrow2 ⊢
              clear hw3
              have hb3 : b < w3.heap.size := by omega
              clear hblt
              generalize wr.heap.size = b2 at hrow2 hlt3 ⊢
              go_loopw [23] (fun i wr => ∃ q : Nat, q ≤ 7 ∧ i = .int .i64 q ∧ Below w.heap.size w wr ∧ Row b 8 wr ∧ b < wr.heap.size ∧ Row b2 7 wr ∧ b2 < wr.heap.size) (fun i _ => 7 - (intOf i).toNat)
              case atStart => exact ⟨0, by omega, rfl, hb2, hrow, hb3, hrow2, hlt3⟩
              case round =>
                clear hb2 hrow hb3 hrow2 hlt3
                obtain ⟨p, hp, rfl, hb, hrow, hblt, hrow2, hblt2⟩ := hrel
                have Hrow := Lib.hid hrow; clear hrow
                by_cases hp7 : p < 7
                · obtain ⟨y, hy⟩ := hrow2 p hp7
                  have Hrow2 := Lib.hid hrow2; clear hrow2
                  go_wp2_with (first
                    | (go_at_call 13; refine (same_any _ _ _ _ _ _ (by omega)).mono ?_; rintro e w' ⟨rfl, rfl⟩))
                  go_roundw
                  case rel => first | exact ⟨p + 1, by omega, by go_num, hb, Hrow.out, hblt, Hrow2.out, hblt2⟩ | ((repeat apply Exists.intro); exact ⟨⟨p + 1, by omega, by go_num, hb, Hrow.out, hblt, Hrow2.out, hblt2⟩, rfl⟩)
                  case measure => simp [intOf]; omega
                · clear hrow2
                  go_wp2
                  go_roundw
                  case rel => first | exact ⟨q + 1, by omega, by go_num, hb, Hrow.out, hblt⟩ | ((repeat apply Exists.intro); exact ⟨⟨q + 1, by omega, by go_num, hb, Hrow.out, hblt⟩, rfl⟩)
                  case measure => simp [intOf]; omega
            · clear hrow
              go_wp2
              go_roundw
              case rel => exact ⟨j + 1, by omega, by omega, by go_num, hb⟩
              case measure => simp [intOf]; omega
        · go_wp2
          go_roundw
          case rel => exact ⟨k + 1, by omega, by go_num, hb⟩
          case measure => simp [intOf]; omega
    · go_wp2_with (first
       | (go_at_call 13; refine (same_any _ _ _ _ _ _ (by omega)).mono ?_; rintro e w' ⟨rfl, rfl⟩)
       | (go_at_call 14; refine (known_any _).mono ?_; rintro e w' ⟨rfl, rfl⟩))
      go_ret
      exact ⟨rfl, hb⟩
end Go.Proofs.Ytinnifhnabncfaa.Draw
