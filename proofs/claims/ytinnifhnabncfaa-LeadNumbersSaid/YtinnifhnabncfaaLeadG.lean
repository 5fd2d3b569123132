/- Contract of the reference's Accepted. -/
import Derived.Test.YtinnifhnabncfaaLeadF
namespace Go.Proofs.Ytinnifhnabncfaa.Lead
open Go.RowKit Base Mem
set_option maxRecDepth 100000 in
theorem raccepted_tail (M : List Nat) (b k : Nat) (s : VoteD) (fr n : Int) (w : World) (h : RVoteAt w M b s) (hi : ¬ (0 ≤ fr ∧ fr < s.nodes)) (hs : s.nodes = k) (hk8 : k ≤ 8) :
    Calls Try.prog 43 #[.pointer (some ⟨b, 0, none⟩), .int .i64 fr, .int .i64 n] w fun e w' => e = .returned (.int .i64 (rb s.acc k k)) ∧ RVoteAt w' M b s ∧ Keeps [b] w w' := by
  obtain ⟨bv, he, hlt, hfr, c0, c1, cp, ca, c18, c19, c20⟩ := h.cells
  rw [hs] at c1
  have hd : fr < 0 ∨ (0 ≤ fr ∧ (k : Int) ≤ fr) := by omega
  have H := Lib.hid h; have Hca := Lib.hid ca; have Hs := Lib.hid hs
  clear he cp ca hfr h hi c0 c18 c19 c20 hs
  have hacc : s.acc.length = 8 := H.out.l2
  have Hacc := Lib.hid hacc
  clear hacc
  generalize hl : s.acc = l at *
  clear hl
  rcases hd with hd | ⟨hd, hd2⟩
  all_goals
    go_enter Try.func43, Try.ntmps43
    go_wp2
    go_loopw [7, 8] (fun bst i wr => ∃ (x q : Nat) (m : Int), x ≤ k ∧ i = .int .i64 x ∧ bst = .int .i64 m ∧ Hid (m = rb l k x) ∧ wr = w.drewN q) (fun _ i _ => k - (intOf i).toNat)
    case atStart => exact ⟨0, 0, 0, by omega, rfl, rfl, rfl, rfl⟩
    case round =>
      obtain ⟨x, q0, m, hx, rfl, rfl, Hm, rfl⟩ := hrel
      by_cases hlt : x < k
      · have hxl : x < l.length := by rw [Hacc.out]; omega
        have d1 : decide ((x : Int) < (k : Int)) = true := by simp; omega
        have cx := Hca.out x (by omega)
        obtain ⟨u, hu⟩ : ∃ u, u = l.getD x 0 := ⟨_, rfl⟩
        rw [← hu] at cx
        have Hu := Lib.hid hu
        have hx8 : (x : Int) < 8 := by omega
        clear hu
        go_wp2
        go_loopw [9, 10] (fun hv j wr => ∃ (y c q : Nat), y ≤ k ∧ j = .int .i64 y ∧ hv = .int .i64 c ∧ Hid (c = cnt l u y) ∧ c ≤ y ∧ wr = w.drewN q) (fun _ j _ => k - (intOf j).toNat)
        case atStart => exact ⟨0, 0, q0, by omega, rfl, rfl, rfl, by omega, rfl⟩
        case round =>
          obtain ⟨y, c, q, hy, rfl, rfl, Hc, hcy, rfl⟩ := hrel
          by_cases hlt2 : y < k
          · have hyl : y < l.length := by rw [Hacc.out]; omega
            have cy := Hca.out y (by omega)
            rw [List.getD_eq_getElem?_getD, List.getElem?_eq_getElem hyl, Option.getD_some] at cy
            have hcs := cnt_succ l u hyl
            have hy8 : (y : Int) < 8 := by omega
            have Hcs := Lib.hid hcs
            clear hcs
            generalize l[y] = z at *
            by_cases hz : u ≤ z
            · have Hc2 : Hid (c + 1 = cnt l u (y + 1)) := by show _ = _; rw [Hcs.out, if_pos hz, Hc.out]
              go_wp2
              go_quiet (fail)
              go_wp2
              go_roundw
              case rel => exact ⟨y + 1, c + 1, _, by omega, by go_num, by go_num, Hc2, by omega, rfl⟩
              case measure => simp [intOf]; omega
            · have Hc2 : Hid (c = cnt l u (y + 1)) := by show _ = _; rw [Hcs.out, if_neg hz, Hc.out]
              go_wp2
              go_quiet (fail)
              go_wp2
              go_roundw
              case rel => exact ⟨y + 1, c, _, by omega, by go_num, rfl, Hc2, by omega, rfl⟩
              case measure => simp [intOf]; omega
          · obtain rfl : y = k := by omega
            have hrb : rb l y (x + 1) = if y / 2 < cnt l u y then max (rb l y x) u else rb l y x := by rw [rb, ← Hu.out]
            rw [← Hc.out, ← Hm.out] at hrb
            have Hrb := Lib.hid hrb
            clear hrb
            by_cases hgt : y / 2 < c
            · have Hr2 : Hid (max m u = rb l y (x + 1)) := by show _ = _; rw [Hrb.out, if_pos hgt]
              go_wp2
              go_roundw
              case rel => exact ⟨x + 1, _, max m u, by omega, by go_num, by first | rfl | (congr 1; omega), Hr2, rfl⟩
              case measure => simp [intOf]; omega
            · have Hr2 : Hid (m = rb l y (x + 1)) := by show _ = _; rw [Hrb.out, if_neg hgt]
              go_wp2
              go_roundw
              case rel => exact ⟨x + 1, _, m, by omega, by go_num, rfl, Hr2, rfl⟩
              case measure => simp [intOf]; omega
      · obtain rfl : x = k := by omega
        go_wp2
        go_ret
        exact ⟨ret_int Hm.out, H.out.drewN _, (Keeps.refl _ _).drewN _⟩
set_option maxRecDepth 100000 in
theorem raccepted_in (M : List Nat) (b k i : Nat) (s0 s : VoteD) (n : Int) (w0 : World) (h0 : RVoteAt w0 M b s0) (hi : i < k) (hs0 : s0.nodes = k) (hk8 : k ≤ 8) (hs1' : s = { s0 with acc := s0.acc.set i (max (s0.acc.getD i 0) n) }) :
    Calls Try.prog 43 #[.pointer (some ⟨b, 0, none⟩), .int .i64 i, .int .i64 n] w0 fun e w' => e = .returned (.int .i64 (rb s.acc k k)) ∧ RVoteAt w' M b s ∧ Keeps [b] w0 w' := by
  obtain ⟨bv, he, hlt, hfr, c0, c1, cp, ca, c18, c19, c20⟩ := h0.cells
  rw [hs0] at c1
  have hca := ca i (by omega)
  have hfr1 := hfr (13 + i)
  have hi8 : (i : Int) < 8 := by omega
  have hik : (i : Int) < k := by omega
  have hgd : s0.acc.getD i 0 = s0.acc[i]?.getD 0 := List.getD_eq_getElem?_getD ..
  rw [hgd] at hca hs1'
  have H0 := Lib.hid h0; have Hs0 := Lib.hid hs0; have Hs1' := Lib.hid hs1'
  clear he cp ca hfr h0 c0 c18 c19 c20 hs0 hs1' hgd
  go_enter Try.func43, Try.ntmps43
  go_wp2
  go_region
  have h : RVoteAt ((w0.setCell ⟨b, 13 + i, none⟩ (.int .i64 (max (s0.acc[i]?.getD 0) n))).drew) M b s := by rw [Hs1'.out]; exact (H0.out.set_acc (by omega) _).drewN 1
  have hW : Keeps [b] w0 ((w0.setCell ⟨b, 13 + i, none⟩ (.int .i64 (max (s0.acc[i]?.getD 0) n))).drew) := ((Keeps.refl _ _).setCell (by simp) _).drew
  have hsn : s.nodes = k := by rw [Hs1'.out]; exact Hs0.out
  generalize ((w0.setCell ⟨b, 13 + i, none⟩ (.int .i64 (max (s0.acc[i]?.getD 0) n))).drew) = w at *
  have HW := Lib.hid hW
  clear hW c1 hca hfr1
  obtain ⟨bv, he, hlt, hfr, c0, c1, cp, ca, c18, c19, c20⟩ := h.cells
  rw [hsn] at c1
  have H := Lib.hid h; have Hca := Lib.hid ca
  clear he cp ca hfr h c0 c18 c19 c20 hsn
  have hacc : s.acc.length = 8 := H.out.l2
  have Hacc := Lib.hid hacc
  clear hacc
  obtain ⟨l, hl⟩ : ∃ l, l = s.acc := ⟨_, rfl⟩
  rw [← hl] at Hca Hacc
  have Hl := Lib.hid hl
  clear hl
  go_wp2
  go_loopw [7, 8] (fun bst i wr => ∃ (x q : Nat) (m : Int), x ≤ k ∧ i = .int .i64 x ∧ bst = .int .i64 m ∧ Hid (m = rb l k x) ∧ wr = w.drewN q) (fun _ i _ => k - (intOf i).toNat)
  case atStart => exact ⟨0, 0, 0, by omega, rfl, rfl, rfl, rfl⟩
  case round =>
    obtain ⟨x, q0, m, hx, rfl, rfl, Hm, rfl⟩ := hrel
    by_cases hlt : x < k
    · have hxl : x < l.length := by rw [Hacc.out]; omega
      have d1 : decide ((x : Int) < (k : Int)) = true := by simp; omega
      have cx := Hca.out x (by omega)
      obtain ⟨u, hu⟩ : ∃ u, u = l.getD x 0 := ⟨_, rfl⟩
      rw [← hu] at cx
      have Hu := Lib.hid hu
      have hx8 : (x : Int) < 8 := by omega
      clear hu
      go_wp2
      go_loopw [9, 10] (fun hv j wr => ∃ (y c q : Nat), y ≤ k ∧ j = .int .i64 y ∧ hv = .int .i64 c ∧ Hid (c = cnt l u y) ∧ c ≤ y ∧ wr = w.drewN q) (fun _ j _ => k - (intOf j).toNat)
      case atStart => exact ⟨0, 0, q0, by omega, rfl, rfl, rfl, by omega, rfl⟩
      case round =>
        obtain ⟨y, c, q, hy, rfl, rfl, Hc, hcy, rfl⟩ := hrel
        by_cases hlt2 : y < k
        · have hyl : y < l.length := by rw [Hacc.out]; omega
          have cy := Hca.out y (by omega)
          rw [List.getD_eq_getElem?_getD, List.getElem?_eq_getElem hyl, Option.getD_some] at cy
          have hcs := cnt_succ l u hyl
          have hy8 : (y : Int) < 8 := by omega
          have Hcs := Lib.hid hcs
          clear hcs
          generalize l[y] = z at *
          by_cases hz : u ≤ z
          · have Hc2 : Hid (c + 1 = cnt l u (y + 1)) := by show _ = _; rw [Hcs.out, if_pos hz, Hc.out]
            go_wp2
            go_quiet (fail)
            go_wp2
            go_roundw
            case rel => exact ⟨y + 1, c + 1, _, by omega, by go_num, by go_num, Hc2, by omega, rfl⟩
            case measure => simp [intOf]; omega
          · have Hc2 : Hid (c = cnt l u (y + 1)) := by show _ = _; rw [Hcs.out, if_neg hz, Hc.out]
            go_wp2
            go_quiet (fail)
            go_wp2
            go_roundw
            case rel => exact ⟨y + 1, c, _, by omega, by go_num, rfl, Hc2, by omega, rfl⟩
            case measure => simp [intOf]; omega
        · obtain rfl : y = k := by omega
          have hrb : rb l y (x + 1) = if y / 2 < cnt l u y then max (rb l y x) u else rb l y x := by rw [rb, ← Hu.out]
          rw [← Hc.out, ← Hm.out] at hrb
          have Hrb := Lib.hid hrb
          clear hrb
          by_cases hgt : y / 2 < c
          · have Hr2 : Hid (max m u = rb l y (x + 1)) := by show _ = _; rw [Hrb.out, if_pos hgt]
            go_wp2
            go_roundw
            case rel => exact ⟨x + 1, _, max m u, by omega, by go_num, by first | rfl | (congr 1; omega), Hr2, rfl⟩
            case measure => simp [intOf]; omega
          · have Hr2 : Hid (m = rb l y (x + 1)) := by show _ = _; rw [Hrb.out, if_neg hgt]
            go_wp2
            go_roundw
            case rel => exact ⟨x + 1, _, m, by omega, by go_num, rfl, Hr2, rfl⟩
            case measure => simp [intOf]; omega
    · obtain rfl : x = k := by omega
      go_wp2
      go_ret
      exact ⟨ret_int (by rw [← Hl.out]; exact Hm.out), H.out.drewN _, HW.out.drewN _⟩
theorem raccepted_any (M : List Nat) (b : Nat) (s : VoteD) (fr n : Int) (w : World) (h : RVoteAt w M b s) (h1 : 1 ≤ s.nodes) (h8 : s.nodes ≤ 8) :
    Calls Try.prog 43 #[.pointer (some ⟨b, 0, none⟩), .int .i64 fr, .int .i64 n] w fun e w' => e = .returned (.int .i64 (rb (accS s fr n) s.nodes.toNat s.nodes.toNat)) ∧ RVoteAt w' M b { s with acc := accS s fr n } ∧ Keeps [b] w w' := by
  have hk : s.nodes = (s.nodes.toNat : Int) := by omega
  unfold accS
  by_cases hf : 0 ≤ fr ∧ fr < s.nodes
  · rw [if_pos hf]
    obtain ⟨i, rfl⟩ := Int.eq_ofNat_of_zero_le hf.1
    rw [Int.toNat_natCast]
    exact raccepted_in M b _ i s _ n w h (by omega) hk (by omega) rfl
  · rw [if_neg hf]
    exact raccepted_tail M b _ s fr n w h hf hk (by omega)
end Go.Proofs.Ytinnifhnabncfaa.Lead
