/- The walk of LeadNumbers. -/
import Derived.Test.YtinnifhnabncfaaPlay
namespace Go.Proofs.Ytinnifhnabncfaa.Lead
open Go.RowKit Base Mem Tape
def termL : List Int := [-1, 0, 1, 7, 8, 1099511627776, 1099511627777, 9223372036854775807]
set_option maxRecDepth 100000 in
set_option maxHeartbeats 400000 in
theorem numbers_walk (w : World) : Calls Try.prog 7 #[] w fun e w' => e = .returned (.bool true) ∧ Below w.heap.size w w' := by
  go_enter Try.func7, Try.ntmps7
  go_wp2
  go_loopw [1] (fun i wr => ∃ x : Nat, i = .int .i64 x ∧ x ≤ 40 ∧ Hid (Below w.heap.size w wr)) (fun i _ => 40 - (intOf i).toNat)
  case atStart => exact ⟨0, rfl, by omega, Below.refl _ _⟩
  case round =>
    obtain ⟨x, rfl, hx, Hb⟩ := hrel
    by_cases hlt : x < 40
    · go_wp2_with fail
      refine (tape_any x wr (by omega)).mono ?_
      rintro e w1 ⟨v, l, rfl, hl, hown, hb1⟩
      obtain ⟨g, cap, cur, rfl, _, _, hc1, hc2, _, _⟩ := own_form hown (by omega)
      have hcell := fun (j : Nat) (y : Int) (hj : l[j]? = some y) => own_cell (u := .int .i64 y) (j := j) hown (by rw [List.getElem?_map, hj]; rfl)
      have hlg : g < w1.heap.size := (hown.lt g rfl).2
      have hasks := asks_any (some ⟨g, 0, none⟩) cap l 40 w1 (by omega) hc2 (by omega) (fun _ => ⟨g, 0, rfl, hlg, fun j y hj => by rw [Nat.zero_add]; exact hcell j y hj⟩)
      rw [hl] at hasks
      have Hasks := Lib.hid hasks
      have Hb1 := Lib.hid (below_then Hb.out hb1)
      clear hasks hcell hlg hown hc1 hc2 hb1
      go_wp2_with fail
      refine Hasks.out.mono ?_
      rintro e w2 ⟨va, la, rfl, hsm, hla, has, hb2⟩
      have Hb2 := Lib.hid (below_then Hb1.out hb2)
      have Has := Lib.hid (has [] (by simp)); have Hsm := Lib.hid hsm
      obtain ⟨Aa, ca, rfl, _⟩ := Has.out.len
      clear has hsm hb2 Hasks Hb1
      go_wp2_with fail
      refine (play_any x (x % 10) _ la w2 Has.out Hsm.out).mono ?_
      rintro e w3 ⟨rfl, hb3⟩
      have Hb3 := Lib.hid (below_then Hb2.out hb3)
      clear hb3
      go_wp2
      go_roundw
      case rel => exact ⟨x + 1, by go_num, by omega, Hb3⟩
      case measure => simp [intOf]; omega
    · have d40 : decide ((x : Int) < 40) = false := decide_eq_false (by omega)
      go_wp2_with fail
      have hB : Blk (wr.alloc (.cells #[.int .i64 (-1), .int .i64 0, .int .i64 1, .int .i64 7, .int .i64 8, .int .i64 1099511627776, .int .i64 1099511627777, .int .i64 9223372036854775807] 2)) wr.heap.size 2 (termL.map (Value.int .i64)).toArray := Blk.new wr _ _
      have hb : Below w.heap.size w (wr.alloc (.cells #[.int .i64 (-1), .int .i64 0, .int .i64 1, .int .i64 7, .int .i64 8, .int .i64 1099511627776, .int .i64 1099511627777, .int .i64 9223372036854775807] 2)) := below_new Hb.out _
      generalize (wr.alloc (.cells #[.int .i64 (-1), .int .i64 0, .int .i64 1, .int .i64 7, .int .i64 8, .int .i64 1099511627776, .int .i64 1099511627777, .int .i64 9223372036854775807] 2)) = W at *
      generalize wr.heap.size = g at *
      have HB := Lib.hid hB; have HbW := Lib.hid hb
      clear hB hb Hb
      go_slots
      go_loopw [20] (fun j wq => ∃ y : Nat, j = .int .i64 y ∧ y ≤ 8 ∧ ∃ q, wq = W.drewN q) (fun j _ => 8 - (intOf j).toNat)
      case atStart => exact ⟨0, rfl, by omega, 0, rfl⟩
      case round =>
        obtain ⟨y, rfl, hy, q1, rfl⟩ := hrel
        by_cases hy8 : y < 8
        · have d8 : decide ((y : Int) < 8) = true := decide_eq_true (by omega)
          have hc : W.cell? ⟨g, y, none⟩ = some (.int .i64 (termL.getD y 0)) := by
            rw [HB.out.cell]
            rcases (show y = 0 ∨ y = 1 ∨ y = 2 ∨ y = 3 ∨ y = 4 ∨ y = 5 ∨ y = 6 ∨ y = 7 by omega) with rfl | rfl | rfl | rfl | rfl | rfl | rfl | rfl <;> rfl
          generalize termL.getD y 0 = t at *
          go_wp2_with fail
          go_loopw [4] (fun j wq => ∃ n : Int, j = .int .i64 n ∧ -1 ≤ n ∧ n ≤ 10 ∧ ∃ q, wq = W.drewN q) (fun j _ => (10 - intOf j).toNat)
          case atStart => exact ⟨-1, rfl, by omega, by omega, _, rfl⟩
          case round =>
            obtain ⟨n, rfl, hn1, hn10, q2, rfl⟩ := hrel
            by_cases hn : n < 10
            · have d9 : decide (n < 10) = true := decide_eq_true hn
              go_wp2_with fail
              go_loopw [5] (fun j wq => ∃ i : Int, j = .int .i64 i ∧ -1 ≤ i ∧ i ≤ 10 ∧ ∃ q, wq = W.drewN q) (fun j _ => (10 - intOf j).toNat)
              case atStart => exact ⟨-1, rfl, by omega, by omega, _, rfl⟩
              case round =>
                obtain ⟨i, rfl, hi1, hi10, q3, rfl⟩ := hrel
                by_cases hi : i < 10
                · have d10 : decide (i < 10) = true := decide_eq_true hi
                  go_wp2_with fail
                  refine (term_any t i n _).mono ?_
                  rintro e w' ⟨rfl, rfl⟩
                  generalize htt : termS t i n = tt
                  have Htt := Lib.hid htt
                  clear htt
                  go_wp2_with fail
                  refine (rterm_any t i n _).mono ?_
                  rw [Htt.out]
                  rintro e w' ⟨rfl, rfl⟩
                  go_wp2
                  go_roundw
                  case rel => exact ⟨i + 1, by go_num, by omega, by omega, _, rfl⟩
                  case measure => simp [intOf]; omega
                · have d10 : decide (i < 10) = false := decide_eq_false hi
                  go_wp2
                  go_roundw
                  case rel => exact ⟨n + 1, by go_num, by omega, by omega, _, rfl⟩
                  case measure => simp [intOf]; omega
            · have d9 : decide (n < 10) = false := decide_eq_false hn
              go_wp2
              go_roundw
              case rel => exact ⟨y + 1, by go_num, by omega, _, rfl⟩
              case measure => simp [intOf]; omega
        · have d8 : decide ((y : Int) < 8) = false := decide_eq_false (by omega)
          go_wp2_with fail
          refine (known_walk (W.drewN q1)).mono ?_
          rintro e w5 ⟨rfl, hb5⟩
          have Hb5 := Lib.hid (below_then (HbW.out.trans (((Keeps.refl [] W).drewN q1).belowB HbW.out.size (by simp))) hb5)
          clear hb5
          go_wp2
          go_ret
          exact ⟨rfl, Hb5.out⟩
end Go.Proofs.Ytinnifhnabncfaa.Lead
