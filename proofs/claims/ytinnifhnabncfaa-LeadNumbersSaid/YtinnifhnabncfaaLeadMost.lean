/- The walk of LeadMost. -/
import Derived.Test.YtinnifhnabncfaaLeadTwice
import Derived.Test.YtinnifhnabncfaaLeadMostP
import Derived.Deep.RegionWith
namespace Go.Proofs.Ytinnifhnabncfaa.Lead
open Go.RowKit Base Mem Tape
/-- The vote, and the list that the statement keeps beside it. -/
def MsR (w wr : World) (bv bh : Nat) (H : List Int) (last : Int) : Prop := ∃ s : VoteD, s.nodes = 5 ∧ s.acc = H ++ [0, 0, 0] ∧ H.length = 5 ∧ (∀ x ∈ H, 0 ≤ x ∧ x ≤ 50) ∧ last = medS s.acc 5 ∧ VoteAt wr [bh] bv s ∧ Blk wr bh 51 (H.map (Value.int .i64)).toArray ∧ Below w.heap.size w wr
theorem five {H : List Int} (h : H.length = 5) : ∃ a b c d e, H = [a, b, c, d, e] := by
  match H, h with
  | [a, b, c, d, e], _ => exact ⟨a, b, c, d, e, rfl⟩
theorem index5 (c0 c1 c2 c3 c4 : Int) (j : Nat) (hj : j < 5) (W : World) :
    (Instr.index 51 (.agg #[.int .i64 c0, .int .i64 c1, .int .i64 c2, .int .i64 c3, .int .i64 c4]) (.int .i64 j)).run Try.prog W = .ok (.int .i64 ([c0, c1, c2, c3, c4].getD j 0)) W := by
  rcases (show j = 0 ∨ j = 1 ∨ j = 2 ∨ j = 3 ∨ j = 4 by omega) with rfl | rfl | rfl | rfl | rfl <;> kernel_rfl
theorem most_step {s : VoteD} {H : List Int} {i : Nat} (n : Int) (hi : i < 5) (hs : s.nodes = 5) (ha : s.acc = H ++ [0, 0, 0]) (hl : H.length = 5) (h0 : ∀ x ∈ H, 0 ≤ x ∧ x ≤ 50) (hn : 0 ≤ n ∧ n ≤ 50) :
    accS s i n = H.set i (max (H.getD i 0) n) ++ [0, 0, 0] ∧ (H.set i (max (H.getD i 0) n)).length = 5 ∧ (∀ x ∈ H.set i (max (H.getD i 0) n), 0 ≤ x ∧ x ≤ 50) ∧
      medS s.acc 5 ≤ medS (accS s i n) 5 ∧ 3 ≤ cnt (H.set i (max (H.getD i 0) n)) (medS (accS s i n) 5) 5 ∧ cgt (H.set i (max (H.getD i 0) n)) (medS (accS s i n) 5) 5 ≤ 2 ∧ 0 ≤ medS (accS s i n) 5 ∧ medS (accS s i n) 5 ≤ 50 := by
  have hlen : s.acc.length = 8 := by rw [ha]; simp [hl]
  have e1 : accS s i n = s.acc.set i (max (s.acc.getD i 0) n) := by unfold accS; rw [if_pos (by omega), Int.toNat_natCast]
  have e2 : s.acc.getD i 0 = H.getD i 0 := by rw [ha, List.getD_eq_getElem?_getD, List.getElem?_append_left (by omega), ← List.getD_eq_getElem?_getD]
  have e3 : accS s i n = H.set i (max (H.getD i 0) n) ++ [0, 0, 0] := by rw [e1, e2, ha, List.set_append_left _ _ (by omega)]
  have hl2 : (H.set i (max (H.getD i 0) n)).length = 5 := by simpa using hl
  have hin : ∀ x ∈ H.set i (max (H.getD i 0) n), 0 ≤ x ∧ x ≤ 50 := by
    intro x hx
    rcases List.mem_or_eq_of_mem_set hx with h | h
    · exact h0 x h
    · have : H.getD i 0 ∈ H := by rw [List.getD_eq_getElem?_getD, List.getElem?_eq_getElem (by omega)]; exact List.getElem_mem _
      have := h0 _ this
      omega
  have e4 : (accS s i n).take 5 = H.set i (max (H.getD i 0) n) := by rw [e3, List.take_append_of_le_length (by omega), ← hl2, List.take_length]
  have e5 : (H.set i (max (H.getD i 0) n)).take 5 = H.set i (max (H.getD i 0) n) := by rw [← hl2, List.take_length]
  obtain ⟨m1, m2, m3⟩ := med_mem (l := accS s i n) (k := 5) (by omega) (by rw [e3]; simp [hl])
  rw [e4] at m1 m2 m3
  refine ⟨e3, hl2, hin, ?_, ?_, ?_, (hin _ m1).1, (hin _ m1).2⟩
  · rw [e1]; exact med_set n (by omega) (by omega) hi
  · rw [cnt_ge, e5]; omega
  · rw [cgt_gt, e5]; omega
set_option maxRecDepth 100000 in
set_option maxHeartbeats 1000000 in
theorem most_walk (A A2 : Option Addr) (c c2 : Nat) (l l2 : List Int) (w : World) (hlc : l.length ≤ c) (hmx : c ≤ 9223372036854775807) (hlc2 : l2.length ≤ c2) (hmx2 : c2 ≤ 9223372036854775807)
    (hl : 0 < l.length → ∃ g off, A = some ⟨g, off, none⟩ ∧ g < w.heap.size ∧ ∀ (j : Nat) (x : Int), l[j]? = some x → w.cell? ⟨g, off + j, none⟩ = some (.int .i64 x))
    (hl2 : 0 < l2.length → ∃ g off, A2 = some ⟨g, off, none⟩ ∧ g < w.heap.size ∧ ∀ (j : Nat) (x : Int), l2[j]? = some x → w.cell? ⟨g, off + j, none⟩ = some (.int .i64 x)) :
    Calls Try.prog 10 #[.slice A l.length c, .slice A2 l2.length c2] w fun e w' => e = .returned (.bool true) ∧ Below w.heap.size w w' := by
  have Hl := Lib.hid hl; have Hl2 := Lib.hid hl2
  have hn1 : (l.length : Int) ≤ 9223372036854775807 := by omega
  have hn2 : (l2.length : Int) ≤ 9223372036854775807 := by omega
  have Hn1 := Lib.hid hn1; have Hn2 := Lib.hid hn2
  clear hl hl2 hmx hmx2 hn1 hn2
  go_enter Try.func10, Try.ntmps10
  go_wp2_with fail
  refine (new_yes 5 5 w (by omega) (by omega)).mono ?_
  rintro e w1 ⟨rfl, hv, hb, hlt⟩
  have hne := fun W => vote_neq_nil (w := W) ⟨w.heap.size, 0, none⟩
  go_wp2_with fail
  have hR : MsR w (w1.alloc (.cells #[.int .i64 0, .int .i64 0, .int .i64 0, .int .i64 0, .int .i64 0] 51)) w.heap.size w1.heap.size [0, 0, 0, 0, 0] 0 :=
    ⟨newVote 5 5, rfl, rfl, rfl, by simp, (med_zero (by omega) (by omega)).symm, (hv [w1.heap.size]).keep (M' := []) ((Keeps.refl _ _).alloc _) (by simp) (by simp), Blk.new w1 _ _, below_new hb _⟩
  generalize (w1.alloc (.cells #[.int .i64 0, .int .i64 0, .int .i64 0, .int .i64 0, .int .i64 0] 51)) = W at *
  obtain ⟨bv, hbv⟩ : ∃ b, b = w.heap.size := ⟨_, rfl⟩
  obtain ⟨bh, hbh⟩ : ∃ b, b = w1.heap.size := ⟨_, rfl⟩
  rw [← hbv, ← hbh] at hR ⊢
  rw [← hbv] at hne
  have hlt2 : bv < bh := by omega
  have hwbv : w.heap.size ≤ bv := by omega
  have HR := Lib.hid hR
  clear hR hv hb hlt hbv hbh
  go_slots
  go_loopw [7, 8] (fun ls i wr => ∃ (x : Nat) (H : List Int) (last : Int), ls = .int .i64 last ∧ i = .int .i64 x ∧ x ≤ 40 ∧ 0 ≤ last ∧ last ≤ 50 ∧ Hid (MsR w wr bv bh H last)) (fun _ i _ => 40 - (intOf i).toNat)
  case atStart => exact ⟨0, [0, 0, 0, 0, 0], 0, rfl, rfl, by omega, by omega, by omega, HR.out⟩
  case round =>
    obtain ⟨x, H, last, rfl, rfl, hx, hl0, hl50, HRx⟩ := hrel
    obtain ⟨s, hs1, hs2, hs3, hs4, hs5, hv, hB, hb⟩ := HRx.out
    have Hs1 := Lib.hid hs1; have Hs2 := Lib.hid hs2; have Hs3 := Lib.hid hs3; have Hs4 := Lib.hid hs4; have Hs5 := Lib.hid hs5; have Hv := Lib.hid hv; have HB := Lib.hid hB; have Hb := Lib.hid hb
    clear hs1 hs2 hs3 hs4 hs5 hv hB hb HR HRx
    by_cases hlt : x < l.length ∧ x < l2.length ∧ x < 40
    · obtain ⟨h1, h2, h3⟩ := hlt
      have d1 : decide (x < l.length) = true := by simpa using h1
      have d2 : decide (x < l2.length) = true := by simpa using h2
      have d3 : decide ((x : Int) < 40) = true := by simp; omega
      obtain ⟨g, off, rfl, hg, hx1⟩ := Hl.out (by omega)
      obtain ⟨g2, off2, rfl, hg2, hx2⟩ := Hl2.out (by omega)
      have hc1 : wr.cell? ⟨g, off + x, none⟩ = some (.int .i64 l[x]) := (Hb.out.cell (p := ⟨g, off + x, none⟩) hg).trans (hx1 x _ (List.getElem?_eq_getElem h1))
      have hc2 : wr.cell? ⟨g2, off2 + x, none⟩ = some (.int .i64 l2[x]) := (Hb.out.cell (p := ⟨g2, off2 + x, none⟩) hg2).trans (hx2 x _ (List.getElem?_eq_getElem h2))
      generalize l[x] = y1 at *
      generalize l2[x] = y2 at *
      clear hx1 hx2
      have ha1 : (0 : Int) ≤ (x : Int) := by omega
      have ha2 : (x : Int) < (l.length : Int) := by omega
      have ha3 : (x : Int) < (l2.length : Int) := by omega
      obtain ⟨hk0, hk4⟩ := within_bd y1 0 4 (by omega)
      obtain ⟨hn0, hn50⟩ := within_bd y2 0 50 (by omega)
      have hwa := Lib.hid (fun W => within_any y1 0 4 W (by omega) (by omega) (by omega))
      have hwb := Lib.hid (fun W => within_any y2 0 50 W (by omega) (by omega) (by omega))
      obtain ⟨i, hi⟩ := Int.eq_ofNat_of_zero_le hk0
      rw [hi] at hwa hk4
      generalize withinS y2 0 50 = n at *
      clear hi hk0
      go_wp2_with fail
      go_quiet ((first | (go_at_call_of 25 (Value.int .i64 4); exact quiet_left (hwa.out _)) | (go_at_call_of 25 (Value.int .i64 50); exact quiet_left (hwb.out _))))
      have hi5 : i < 5 := by omega
      have hi6 : (i : Int) < 5 := by omega
      have hcb : wr.cell? ⟨bh, i, none⟩ = some (.int .i64 (H.getD i 0)) := by
        rw [HB.out.cell]
        have hlH : H.length = 5 := Hs3.out
        simp [List.getD_eq_getElem?_getD, List.getElem?_eq_getElem (show i < H.length by omega)]
      have hfb : wr.frozen? ⟨bh, i, none⟩ = false := HB.out.frozen i
      go_wp2_with fail
      have hgd : H.getD i 0 = H[i]?.getD 0 := List.getD_eq_getElem?_getD ..
      obtain ⟨e3, hl2, hin, hme, hcn, hcg, ha0, ha50⟩ := most_step n hi5 Hs1.out Hs2.out Hs3.out Hs4.out ⟨hn0, hn50⟩
      rw [← Hs5.out] at hme
      have hv1 : VoteAt ((wr.drewN nq).setCell ⟨bh, i, none⟩ (.int .i64 (max (H[i]?.getD 0) n))) [bh] bv s := (Hv.out.drewN nq).keep (keep_set _ _ _ _) (by simp; omega) (by simp)
      have hB1 : Blk ((wr.drewN nq).setCell ⟨bh, i, none⟩ (.int .i64 (max (H[i]?.getD 0) n))) bh 51 ((H.set i (max (H.getD i 0) n)).map (Value.int .i64)).toArray := by
        have h := Blk.set_ (((Keeps.refl [] wr).drewN nq).blk HB.out (by simp)) i (.int .i64 (max (H[i]?.getD 0) n))
        rw [hgd, List.map_set, ← List.setIfInBounds_toArray]
        exact h
      have hb1 : Below w.heap.size w ((wr.drewN nq).setCell ⟨bh, i, none⟩ (.int .i64 (max (H[i]?.getD 0) n))) := Hb.out.trans ((((Keeps.refl [bh] wr).drewN nq).setCell (p := ⟨bh, i, none⟩) (by simp) _).belowB Hb.out.size (by simp; omega))
      generalize ((wr.drewN nq).setCell ⟨bh, i, none⟩ (.int .i64 (max (H[i]?.getD 0) n))) = W1 at *
      have Hv1 := Lib.hid hv1; have HB1 := Lib.hid hB1; have Hb1 := Lib.hid hb1; have E3 := Lib.hid e3; have Hl2' := Lib.hid hl2; have Hin := Lib.hid hin
      clear hv1 hB1 hb1 e3 hin hgd hcb hfb hc1 hc2 hl2
      have hacc := accepted_any [bh] bv s i n W1 Hv1.out (by rw [Hs1.out]; omega) (by rw [Hs1.out]; omega)
      rw [show s.nodes.toNat = 5 by rw [Hs1.out]; rfl] at hacc
      have Hme := Lib.hid (show medS (accS s i n) 5 = medS (accS s i n) 5 from rfl)
      obtain ⟨a, hae⟩ : ∃ a, a = medS (accS s i n) 5 := ⟨_, rfl⟩
      rw [← hae] at hacc hme hcn hcg ha0 ha50
      have Hae := Lib.hid hae
      obtain ⟨H', hH'⟩ : ∃ H', H' = H.set i (max (H.getD i 0) n) := ⟨_, rfl⟩
      rw [← hH'] at HB1 hcn hcg Hl2' Hin E3
      clear hH' hae Hme
      refine hacc.mono ?_
      rintro e w2 ⟨rfl, hv2, hK2⟩
      have Hv2 := Lib.hid hv2
      have HB2 := Lib.hid (hK2.blk HB1.out (by simp; omega))
      have Hb2 := Lib.hid (Hb1.out.trans (hK2.belowB Hb1.out.size (by simp; omega)))
      clear hv2 hK2 hacc Hv1 HB1 Hb1 Hv HB Hb
      have Hcn := Lib.hid hcn; have Hcg := Lib.hid hcg
      clear hcn hcg
      obtain ⟨c0, c1, c2, c3, c4, hcs⟩ := five Hl2'.out
      have Hix := Lib.hid (fun (j : Nat) (hj : j < 5) (W : World) => index5 c0 c1 c2 c3 c4 j hj W)
      have hk0 : w2.cell? ⟨bh, 0, none⟩ = some (.int .i64 c0) := by rw [HB2.out.cell, hcs]; rfl
      have hk1 : w2.cell? ⟨bh, 1, none⟩ = some (.int .i64 c1) := by rw [HB2.out.cell, hcs]; rfl
      have hk2 : w2.cell? ⟨bh, 2, none⟩ = some (.int .i64 c2) := by rw [HB2.out.cell, hcs]; rfl
      have hk3 : w2.cell? ⟨bh, 3, none⟩ = some (.int .i64 c3) := by rw [HB2.out.cell, hcs]; rfl
      have hk5 : w2.cell? ⟨bh, 4, none⟩ = some (.int .i64 c4) := by rw [HB2.out.cell, hcs]; rfl
      have Hcs := Lib.hid hcs
      clear hcs
      rw [← Hcs.out] at Hix
      go_wp2_with fail
      go_loopw [12, 59] (fun cn j wq => ∃ (q c' m : Nat), q ≤ 5 ∧ cn = .int .i64 c' ∧ j = .int .i64 q ∧ c' ≤ q ∧ Hid (c' = cnt H' a q) ∧ wq = w2.drewN m) (fun _ j _ => 5 - (intOf j).toNat)
      case atStart => exact ⟨0, 0, 0, by omega, rfl, rfl, by omega, rfl, rfl⟩
      case round =>
        obtain ⟨q, c', m, hq, rfl, rfl, hc', Hc, rfl⟩ := hrel
        by_cases hq5 : q < 5
        · have hql : q < H'.length := by rw [Hl2'.out]; exact hq5
          have hix := Hix.out q hq5
          rw [List.getD_eq_getElem?_getD, List.getElem?_eq_getElem hql, Option.getD_some] at hix
          have Hcs2 := Lib.hid (cnt_succ H' a hql)
          generalize H'[q] = u at *
          by_cases hz : a ≤ u
          · have Hc2 : Hid (c' + 1 = cnt H' a (q + 1)) := by show _ = _; rw [Hcs2.out, if_pos hz, Hc.out]
            go_wp2
            go_roundw
            case rel => exact ⟨q + 1, c' + 1, _, by omega, by go_num, by go_num, by omega, Hc2, rfl⟩
            case measure => simp [intOf] <;> omega
          · have Hc2 : Hid (c' = cnt H' a (q + 1)) := by show _ = _; rw [Hcs2.out, if_neg hz, Hc.out]
            go_wp2
            go_roundw
            case rel => exact ⟨q + 1, c', _, by omega, rfl, by go_num, by omega, Hc2, rfl⟩
            case measure => simp [intOf] <;> omega
        · obtain rfl : q = 5 := by omega
          have hmore : 3 ≤ c' := by rw [Hc.out]; exact Hcn.out
          clear Hc Hcn hc' hq hq5
          go_wp2_with fail
          go_loopw [15, 69] (fun cn j wq => ∃ (q c'' m' : Nat), q ≤ 5 ∧ cn = .int .i64 c'' ∧ j = .int .i64 q ∧ c'' ≤ q ∧ Hid (c'' = cgt H' a q) ∧ wq = w2.drewN m') (fun _ j _ => 5 - (intOf j).toNat)
          case atStart => exact ⟨0, 0, m, by omega, rfl, rfl, by omega, rfl, rfl⟩
          case round =>
            obtain ⟨q, c'', m', hq, rfl, rfl, hc'', Hc, rfl⟩ := hrel
            by_cases hq5 : q < 5
            · have hql : q < H'.length := by rw [Hl2'.out]; exact hq5
              have hix := Hix.out q hq5
              rw [List.getD_eq_getElem?_getD, List.getElem?_eq_getElem hql, Option.getD_some] at hix
              have Hcs2 := Lib.hid (cgt_succ H' a hql)
              generalize H'[q] = u at *
              by_cases hz : a < u
              · have Hc2 : Hid (c'' + 1 = cgt H' a (q + 1)) := by show _ = _; rw [Hcs2.out, if_pos hz, Hc.out]
                go_wp2
                go_roundw
                case rel => exact ⟨q + 1, c'' + 1, _, by omega, by go_num, by go_num, by omega, Hc2, rfl⟩
                case measure => simp [intOf] <;> omega
              · have Hc2 : Hid (c'' = cgt H' a (q + 1)) := by show _ = _; rw [Hcs2.out, if_neg hz, Hc.out]
                go_wp2
                go_roundw
                case rel => exact ⟨q + 1, c'', _, by omega, rfl, by go_num, by omega, Hc2, rfl⟩
                case measure => simp [intOf] <;> omega
            · obtain rfl : q = 5 := by omega
              have habove : c'' ≤ 2 := by rw [Hc.out]; exact Hcg.out
              clear Hc Hcg hc'' hq hq5
              have f1 : decide (a < last) = false := by simp; omega
              have f2 : decide ((c' : Int) < 3) = false := by simp; omega
              have f3 : decide ((c'' : Int) > 2) = false := by simp; omega
              have HRn : Hid (MsR w (w2.drewN m') bv bh H' a) := ⟨{ s with acc := accS s i n }, Hs1.out, E3.out, Hl2'.out, Hin.out, Hae.out, Hv2.out.drewN m', ((Keeps.refl [] w2).drewN m').blk HB2.out (by simp), Hb2.out.trans (((Keeps.refl [] w2).drewN m').belowB Hb2.out.size (by simp))⟩
              go_wp2
              go_roundw
              case rel => exact ⟨x + 1, H', a, rfl, by go_num, by omega, ha0, ha50, HRn⟩
              case measure => simp [intOf] <;> omega
    · have hend : (x : Int) < l.length ∧ (x : Int) < l2.length ∧ x = 40 ∨ (x : Int) < l.length ∧ ¬ (x : Int) < l2.length ∨ ¬ (x : Int) < l.length := by omega
      rcases hend with ⟨h1, h2, rfl⟩ | ⟨h1, h2⟩ | h1
      all_goals
        go_wp2_with fail
        refine (known_walk wr).mono ?_
        rintro e w5 ⟨rfl, hb5⟩
        have Hb5 := Lib.hid (below_then Hb.out hb5)
        clear hb5
        go_wp2
        go_ret
        exact ⟨rfl, Hb5.out⟩
end Go.Proofs.Ytinnifhnabncfaa.Lead
