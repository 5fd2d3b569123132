/- Texts put together: RqG. -/
import Derived.BigQuiet
import Derived.Test.YtdaceeijifjpeaaGreatDoorRT15
set_option linter.unusedVariables false
set_option linter.unusedSimpArgs false
section
namespace Go.Proofs.YtdaceeijifjpeaaGreatDoor.Vi
open Go.RowKit Base Mem Go.Shelf Tape
open Lead (VoteD VoteAt promiseS wonS accS medS termS newVote)
open Px (upd upd_same upd_ne Inv)
set_option maxRecDepth 100000 in
set_option maxHeartbeats 2000000 in
theorem three_walk (Av : Option Addr) (c : Nat) (lx : List Int) (mx : Int) (w : World) (hN : Nums w Av c lx) (hm : w.cell? ⟨0, 0, none⟩ = some (.int .i64 mx)) :
    Calls Tryz.prog 4 #[.slice Av lx.length c] w fun e w' => SamePost true w e w' := by
  have Hm := Lib.hid hm
  have hw0 : 0 < w.heap.size := by
    have := World.block_lt_of_cell? w _ hm
    simpa using this
  obtain ⟨M0, tg0, hti⟩ := Ti.start Av c lx w hN
  obtain ⟨w3, hw3⟩ : ∃ w3, w3 = ((w.alloc (.cells #[.slice Av lx.length c, .int .i64 0] 43)).alloc (.cells #[.pointer none, .pointer none, .pointer none] 49)).alloc (.cells #[.pointer none, .pointer none, .pointer none] 50) := ⟨_, rfl⟩
  rw [← hw3] at hti
  have HTi := Lib.hid hti
  clear hm hN hti
  go_enter Tryz.func4, Tryz.ntmps4
  go_upto_region 4 with (fail)
  rw [← hw3]
  clear hw3
  obtain ⟨bt, Hbt⟩ : ∃ b, Hid (b = w.heap.size) := ⟨_, rfl⟩
  rw [← Hbt.out] at HTi ⊢
  obtain ⟨gd, Hgd⟩ : ∃ b, Hid (b = bt + 1) := ⟨_, rfl⟩
  rw [← Hgd.out] at HTi ⊢
  obtain ⟨gr, Hgr⟩ : ∃ b, Hid (b = gd + 1) := ⟨_, rfl⟩
  rw [← Hgr.out] at HTi ⊢
  clear Hbt Hgd Hgr
  go_wp2_with fail
  go_loopw [17] (fun i wr => ∃ (x : Nat) (M : List Nat) (tg : Nat → Nat → Nat) (r d : Nat → Nat), i = .int .i64 x ∧ x ≤ 3 ∧ Hid (Ti w wr M tg r d bt lx gd gr x x)) (fun i _ => 3 - (intOf i).toNat)
  case atStart => exact ⟨0, M0, tg0, _, _, rfl, by omega, HTi⟩
  case round =>
    obtain ⟨x, M, tg, r, d, rfl, hx3, HT⟩ := hrel
    clear HTi
    by_cases hx : x < 3
    · have hxi : (x : Int) < 3 := by omega
      go_wp2_with fail
      refine (dknew_any wr).mono ?_
      rintro e w5 ⟨rfl, hd5, hb5⟩
      obtain ⟨hB5, M6, tg6, d6, ht6, hd6, hbb6, hdx6, hn6⟩ := HT.out.disk hx hd5 hb5
      obtain ⟨b1, Hb1⟩ : ∃ b, Hid (b = wr.heap.size) := ⟨_, rfl⟩
      rw [← Hb1.out] at ht6 hd6 hbb6 hdx6 hn6 ⊢
      have c5 : w5.cell? ⟨gd, x, none⟩ = some (.pointer none) := by
        have := hB5.cell x
        rw [pn_cell x d hx, if_neg (Nat.lt_irrefl x)] at this
        exact this
      have f5 := hB5.frozen x
      obtain ⟨w6, hw6⟩ : ∃ w6, w6 = w5.setCell ⟨gd, x, none⟩ (.pointer (some ⟨b1, 0, none⟩)) := ⟨_, rfl⟩
      rw [← hw6] at ht6 hd6
      have HT6 := Lib.hid ht6
      have HQ := Lib.hid (ht6.new hx hd6 hbb6 hdx6 hn6 Hm.out)
      have Hdx := Lib.hid hdx6
      clear hd5 hb5 ht6 hd6 hbb6 hn6 hB5 HT Hb1 hdx6
      go_upto_region 8 with (fail)
      rw [← hw6]
      clear hw6 c5 f5
      have c6 : w6.cell? ⟨gd, x, none⟩ = some (.pointer (some ⟨b1, 0, none⟩)) := by
        have := HT6.out.ad.cell x
        rw [pn_cell (x + 1) d6 hx, if_pos (Nat.lt_succ_self x), Hdx.out] at this
        exact this
      go_wp2_with fail
      refine HQ.out.mono ?_
      rintro e w7 ⟨r', rfl, hB7, M8, tg8, r8, ht8⟩
      have c7 : w7.cell? ⟨gr, x, none⟩ = some (.pointer none) := by
        have := hB7.cell x
        rw [pn_cell x r hx, if_neg (Nat.lt_irrefl x)] at this
        exact this
      have f7 := hB7.frozen x
      obtain ⟨w8, hw8⟩ : ∃ w8, w8 = w7.setCell ⟨gr, x, none⟩ (.pointer (some ⟨r', 0, none⟩)) := ⟨_, rfl⟩
      rw [← hw8] at ht8
      have HT8 := Lib.hid ht8
      clear hB7 ht8 HQ HT6 c6
      go_upto_region 9 with (fail)
      rw [← hw8]
      clear hw8 c7 f7
      have c8 : w8.cell? ⟨gd, x, none⟩ = some (.pointer (some ⟨d6 x, 0, none⟩)) := by
        have := HT8.out.ad.cell x
        rw [pn_cell (x + 1) d6 hx, if_pos (Nat.lt_succ_self x)] at this
        exact this
      have c9 : w8.cell? ⟨gr, x, none⟩ = some (.pointer (some ⟨r8 x, 0, none⟩)) := by
        have := HT8.out.ar.cell x
        rw [pn_cell (x + 1) r8 hx, if_pos (Nat.lt_succ_self x)] at this
        exact this
      go_wp2_with fail
      go_roundw
      case rel => exact ⟨x + 1, M8, tg8, r8, d6, by go_num, by omega, HT8⟩
      case measure => simp [intOf] <;> omega
    · obtain rfl : x = 3 := by omega
      have hxi : ¬ (((3 : Nat) : Int) < 3) := by omega
      have HTh := Lib.hid HT.out.done
      clear HT
      go_wp2_with fail
      go_loopw [7] (fun v wr => ∃ (M : List Nat) (tg : Nat → Nat → Nat) (r d : Nat → Nat) (R : Nat → RpD) (s : PSt) (k : Nat) (ls : List (LetD × Value × Value)), Hid (Th w wr M tg r d R s bt lx 0 k gd gr v ls)) (fun _ wr => lx.length - (intOf ((wr.cell? ⟨bt, 1, none⟩).getD undef)).toNat)
      case atStart => exact ⟨M, tg, r, d, _, _, 0, [], HTh⟩
      case round =>
        obtain ⟨M1, tg1, r1, d1, R1, s1, k1, ls1, HT1⟩ := hrel
        obtain ⟨wo, rfl⟩ : ∃ wo : World, wo = wr := ⟨_, rfl⟩
        clear HTh
        obtain ⟨At, ct, t0, -, t1, -, -, -⟩ := HT1.out.tp.cells
        by_cases hlt : k1 < lx.length
        · have hlti : (k1 : Int) < (lx.length : Int) := by omega
          have HQ := Lib.hid (HT1.out.next1 hlt 3 (by omega))
          have Ht1 := Lib.hid t1
          go_upto_region 15 with (fail)
          go_wp2_with fail
          refine HQ.out.mono ?_
          rintro e w2 ⟨kk, k2, rfl, hkk, ht2, hk2⟩
          have HT2 := Lib.hid ht2
          have hk3 : kk < 3 := by omega
          have hki : (kk : Int) < 3 := by omega
          have HQ2 := Lib.hid (ht2.next 8 (by omega))
          clear ht2 hk2 HQ HT1 t0 t1 hkk
          go_upto_region 16 with (fail)
          go_cut [51] (fun t wx => ∃ (x k3 : Nat), t = .int .i64 x ∧ x < 8 ∧ Hid (Th w wx M1 tg1 r1 d1 R1 s1 bt lx (k1 + 1) k3 gd gr u7 ls1))
          case first =>
            go_wp2_with fail
            refine HQ2.out.mono ?_
            rintro e w3 ⟨x, k3, rfl, hx, ht3, -⟩
            have HT3 := Lib.hid ht3
            clear ht3
            go_wp2_with fail
            go_meet
            exact ⟨x, k3, rfl, by omega, HT3⟩
          case rest =>
            obtain ⟨x, k3, rfl, hx8, HT3⟩ := hcut
            obtain ⟨w4, rfl⟩ : ∃ w4 : World, w4 = wc := ⟨_, rfl⟩
            clear HT2 HQ2
            have ca : w4.cell? ⟨gr, kk, none⟩ = some (.pointer (some ⟨r1 kk, 0, none⟩)) := by
              have := HT3.out.ar.cell kk
              rw [p3_cell r1 hk3] at this
              exact this
            have cd : w4.cell? ⟨gd, kk, none⟩ = some (.pointer (some ⟨d1 kk, 0, none⟩)) := by
              have := HT3.out.ad.cell kk
              rw [p3_cell d1 hk3] at this
              exact this
            go_step
            go_cut [7, 8, 9] (fun v7 v8 v9 wx => ∃ (M : List Nat) (tg : Nat → Nat → Nat) (r d : Nat → Nat) (R : Nat → RpD) (s : PSt) (k i : Nat) (ls : List (LetD × Value × Value)) (qs : List (SentD × Value × Value)), v9 = .int .i64 i ∧ i < 3 ∧ Hid (Th w wx M tg r d R s bt lx (k1 + 1) k gd gr v7 ls) ∧ Hid (OuS wx M v7 v8 qs s i))
            case first =>
              by_cases h0 : x = 0
              · subst h0
                have HQ := Lib.hid (HT3.out.lead hk3 Hm.out)
                go_wp2_with fail
                refine HQ.out.mono ?_
                rintro e w5 ⟨v8, M5, tg5, R5, s5, qs5, rfl, ht5, ho5⟩
                have HT5 := Lib.hid ht5; have HO5 := Lib.hid ho5
                clear ht5 ho5 HQ HT3
                go_wp2_with fail
                go_meet
                exact ⟨_, _, _, _, _, _, _, _, _, _, rfl, hk3, HT5, HO5⟩
              by_cases h1 : x = 1
              · subst h1
                have HS28 : Hid (∀ W, Keeps [] w4 W → W.cell? ⟨gr, kk, none⟩ = some (.pointer (some ⟨r1 kk, 0, none⟩))) := fun W hk => ((HT3.out.keep0 hk).rcell hk3).1
                go_upto_region 28 with (fail)
                refine wp_region_held_drew (S := (fun W => W.cell? ⟨gr, kk, none⟩ = some (.pointer (some ⟨r1 kk, 0, none⟩)))) (by kernel_rfl) (HS28.out _ ((Keeps.refl [] w4).drew)) (fun hHeld => ?_)
                refine wT 0 (v := ?v0u1) (by kernel_rfl) rfl (by rfl) ?y0u1 (fun _ _ _ h => h) (by assumption) ?r0u1
                case y0u1 => (intro w hSw; (have hS0 := hSw); go_simp <;> with_reducible rfl)
                try simp only [sgl, Act.put]
                refine wT 1 (v := ?v1u2) (by kernel_rfl) rfl (by rfl) ?y1u2 (fun _ _ _ h => h) (by assumption) ?r1u2
                case y1u2 => (intro w hSw; (have hS0 := hSw); go_simp <;> with_reducible rfl)
                try simp only [sgl, Act.put]
                refine wT 2 (v := ?v2u3) (by kernel_rfl) rfl (by rfl) ?y2u3 (fun _ _ _ h => h) (by assumption) ?r2u3
                case y2u3 => (intro w hSw; (have hS0 := hSw); go_simp <;> with_reducible rfl)
                try simp only [sgl, Act.put]
                refine wT 3 (v := ?v3u4) (by kernel_rfl) rfl (by rfl) ?y3u4 (fun _ _ _ h => h) (by assumption) ?r3u4
                case y3u4 => (intro w hSw; (have hS0 := hSw); go_simp <;> with_reducible rfl)
                try simp only [sgl, Act.put]
                refine wpAnyH_ready (rs := [4]) (by kernel_rfl) (by simp) ?_
                refine AllReadyH.cons (o := _) rfl (fun K hK => ?_) AllReadyH.nil
                go_simp
                refine (HT3.out.keep0 (Keeps.refl [] w4).drew).entry.mono ?_
                rintro e w5 ⟨en, dv, k5, rfl, hen, hds, ht5, -⟩
                obtain ⟨Ad, nd, rfl, _⟩ := (hds [] (by simp)).len
                have HQ := Lib.hid (ht5.recv hk3 7 (askM en) (.slice Ad en.ds.length nd) (.slice none 0 0) ⟨hds M1 (HT3.out.keep0 (Keeps.refl [] w4).drew).sys.lt, Ens.nil _ _⟩ (fit_ask hen) (.inl rfl) Hm.out)
                have Hc5 := Lib.hid (ht5.rcell hk3).1
                have heq : (eCell (en, .slice Ad en.ds.length nd)).toArray = #[.int .i64 en.kind, .int .i64 en.ag, .int .i64 en.sh, .int .i64 en.seq, .int .i64 en.ep, .slice Ad en.ds.length nd, .string en.ser, .int .i64 en.fr, .int .i64 en.tag] := rfl
                rw [heq]
                clear heq hds ht5 hen
                refine hK.out _ _ Hc5.out (fun hHeld2 => ?_)
                clear hK K hHeld
                have hHeld := hHeld2
                clear hHeld2
                try simp only [sgl, Act.put]
                refine wT 5 (v := ?v5u5) (by kernel_rfl) rfl (by rfl) ?y5u5 (fun _ _ _ h => h) (by assumption) ?r5u5
                case y5u5 => (intro w hSw; (have hS0 := hSw); go_simp <;> with_reducible rfl)
                try simp only [sgl, Act.put]
                refine wpAnyH_ready (rs := [6]) (by kernel_rfl) (by simp) ?_
                refine AllReadyH.cons (o := _) rfl (fun K hK => ?_) AllReadyH.nil
                go_simp
                refine (show Calls Tryz.prog 10 #[.pointer (some ⟨r1 kk, 0, none⟩), .int .i64 7, .agg #[.int .i64 1, .int .i64 en.kind, .int .i64 en.ag, .int .i64 en.sh, .int .i64 en.seq, .int .i64 en.ep, .slice Ad en.ds.length nd, .string en.ser, .int .i64 en.fr, .int .i64 en.tag, .int .i64 0, .int .i64 0, .int .u64 0, .int .i64 0, .int .i64 0, .slice none 0 0, .int .i64 0, .int .i64 0]] w5 _ from HQ.out).mono ?_
                rintro e w6 ⟨v8, M6, tg6, R6, s6, qs6, rfl, ht6, ho6, -⟩
                have Hc6 := Lib.hid (ht6.rcell hk3).1
                have HT6 := Lib.hid ht6; have HO6 := Lib.hid ho6
                clear ht6 ho6 HQ
                refine hK.out _ _ Hc6.out (fun hHeld2 => ?_)
                clear hK K hHeld
                have hHeld := hHeld2
                clear hHeld2
                try simp only [sgl, Act.put]
                refine wT 7 (v := ?v7u6) (by kernel_rfl) rfl (by rfl) ?y7u6 (fun _ _ _ h => h) (by assumption) ?r7u6
                case y7u6 => (intro w hSw; (have hS0 := hSw); go_simp <;> with_reducible rfl)
                try simp only [sgl, Act.put]
                refine wpAnyH_done (by kernel_rfl) ?_ _
                clear hHeld
                go_wp2_with fail
                go_meet
                exact ⟨_, _, _, _, _, _, _, _, _, _, rfl, hk3, HT6, HO6⟩
              by_cases h2 : x = 2
              · subst h2
                have HQ := Lib.hid (HT3.out.tick hk3)
                go_wp2_with fail
                refine HQ.out.mono ?_
                rintro e w5 ⟨v8, M5, tg5, R5, s5, qs5, rfl, ht5, ho5⟩
                have HT5 := Lib.hid ht5; have HO5 := Lib.hid ho5
                clear ht5 ho5 HQ HT3
                go_wp2_with fail
                go_meet
                exact ⟨_, _, _, _, _, _, _, _, _, _, rfl, hk3, HT5, HO5⟩
              by_cases h3 : x = 3
              · subst h3
                have HQ := Lib.hid (HT3.out.next 4 (by omega))
                go_wp2_with fail
                refine HQ.out.mono ?_
                rintro e w5 ⟨y, k5, rfl, hy4, ht5, -⟩
                have HT5 := Lib.hid ht5
                obtain ⟨ca5, cd5⟩ := ht5.rcell hk3
                clear ht5 HQ HT3
                by_cases hy : y = 0
                · subst hy
                  have HC := Lib.hid (HT5.out.crash hk3)
                  go_wp2_with fail
                  refine HC.out.mono ?_
                  rintro e w6 ⟨xv, Y6, rfl, htc⟩
                  have cd6 : w6.cell? ⟨gd, kk, none⟩ = some (.pointer (some ⟨d1 kk, 0, none⟩)) := by
                    have := htc.ad.cell kk
                    rw [p3_cell _ hk3] at this
                    exact this
                  have HQ := Lib.hid (htc.new hk3 Hm.out)
                  clear htc HC HT5 ca5 cd5
                  go_wp2_with fail
                  refine HQ.out.mono ?_
                  rintro e w7 ⟨r', rfl, hB7, M8, tg8, R8, s8, ht8⟩
                  have c7 : w7.cell? ⟨gr, kk, none⟩ = some (.pointer (some ⟨r1 kk, 0, none⟩)) := by
                    have := hB7.cell kk
                    rw [p3_cell _ hk3] at this
                    exact this
                  have f7 := hB7.frozen kk
                  obtain ⟨w8, hw8⟩ : ∃ w8, w8 = w7.setCell ⟨gr, kk, none⟩ (.pointer (some ⟨r', 0, none⟩)) := ⟨_, rfl⟩
                  rw [← hw8] at ht8
                  have HT8 := Lib.hid ht8
                  have c8 : w8.cell? ⟨gr, kk, none⟩ = some (.pointer (some ⟨r', 0, none⟩)) := by
                    have := (ht8.rcell hk3).1
                    rw [upd_same] at this
                    exact this
                  clear hB7 ht8 HQ
                  go_upto_region 35 with (fail)
                  rw [← hw8]
                  clear hw8 c7 f7 cd6
                  go_wp2_with fail
                  go_meet
                  exact ⟨_, _, _, _, _, _, _, _, _, _, rfl, hk3, HT8, OuS.nil _ _ _⟩
                · go_wp2_with fail
                  go_meet
                  exact ⟨_, _, _, _, _, _, _, _, _, _, rfl, hk3, HT5, OuS.nil _ s1 _⟩
              · by_cases hl0 : ls1.length = 0
                · obtain ⟨Au, cu, rfl, hcu⟩ : ∃ A c, u7 = .slice A ls1.length c ∧ ls1.length ≤ c := by
                    obtain ⟨A, c, h1, h2, _⟩ := Rd.of_own (M := []) HT3.out.un.row (by simp)
                    exact ⟨A, c, h1, h2⟩
                  go_wp2_with fail
                  go_meet
                  exact ⟨_, _, _, _, _, _, _, _, _, _, rfl, hk3, HT3, OuS.nil _ s1 _⟩
                have hlp : (0 : Int) < (ls1.length : Int) := by omega
                have HQ := Lib.hid (HT3.out.next (ls1.length : Int) (by omega))
                obtain ⟨gu, cu, rfl, hcu, hcm, -, -, -⟩ := HT3.out.letter (j := 0) (by omega)
                go_upto_region 18 with (fail)
                go_wp2_with fail
                refine HQ.out.mono ?_
                rintro e w5 ⟨ii, k5, rfl, hii, ht5, -⟩
                have HT5 := Lib.hid ht5
                have hil : ii < ls1.length := by omega
                obtain ⟨gu', cu', hv5, -, -, hgl5, hrg5, hcl5⟩ := ht5.letter hil
                obtain ⟨rfl, rfl⟩ : gu = gu' ∧ cu = cu' := by
                  injection hv5 with h1 _ h2
                  injection h1 with h1
                  injection h1 with h1 _
                  exact ⟨h1, h2⟩
                have hmq := ht5.un.msg _ (List.getElem_mem hil)
                have hokq := ht5.ok _ (List.getElem_mem hil)
                have Hcl5 := Lib.hid hcl5
                have Hgl5 := Lib.hid hgl5
                obtain ⟨q, Hq⟩ : ∃ q : LetD × Value × Value, Hid (q = ls1[ii]) := ⟨ls1[ii], (rfl : ls1[ii] = ls1[ii])⟩
                rw [← Hq.out] at hrg5 hmq hokq
                obtain ⟨⟨fr, dst, m⟩, dv, lv⟩ := q
                have hmq : MsgAt w5 M1 m dv lv := hmq
                have hokq : LtOk s1 ⟨fr, dst, m⟩ := hokq
                obtain ⟨Adq, ndq, rfl, _⟩ := hmq.1.len
                obtain ⟨Alq, nlq, rfl, _⟩ := hmq.2.len
                have HRg := Lib.hid hrg5
                have HMq := Lib.hid hmq
                have HOq := Lib.hid hokq
                clear ht5 HQ HT3 hv5 hgl5 hrg5 hcl5 hmq hokq Hq ca cd
                go_upto_region 19 with (fail)
                go_upto_region 20 with (first
                  | (refine wpList_load_mid rfl 55 (.tmp 61) rfl gu (ii * 20) rfl _ _ HRg.out Tryz.underlying55 rfl (by kernel_rfl) ?_)
                  | (refine wpList_store_blk rfl 55 (.tmp 11) (.tmp 62) rfl w5.heap.size 0 55 #[.int .i64 0, .int .i64 0, .int .i64 0, .int .i64 0, .int .i64 0, .int .i64 0, .int .i64 0, .int .i64 0, .slice none 0 0, .string ⟨#[]⟩, .int .i64 0, .int .i64 0, .int .i64 0, .int .i64 0, .int .u64 0, .int .i64 0, .int .i64 0, .slice none 0 0, .int .i64 0, .int .i64 0] (ltCell (⟨fr, dst, m⟩, .slice Adq m.en.ds.length ndq, .slice Alq m.log.length nlq)).toArray (ltCell (⟨fr, dst, m⟩, .slice Adq m.en.ds.length ndq, .slice Alq m.log.length nlq)).toArray rfl rfl (Blk.new w5 _ _) (by show 0 + 20 ≤ 20; omega) rfl (by kernel_rfl) rfl ?_; intro w6 hk6 hB6))
                have Hk6 : Hid (Keeps [] w5 w6) := ((Keeps.refl [] w5).alloc _).trans hk6 (by intro g hg; simp at hg; subst hg; exact .inr (Nat.le_refl _))
                have HT6 := Lib.hid (HT5.out.keep0 Hk6.out)
                have HMq6 := Lib.hid (HMq.out.keep Hk6.out (by simp))
                obtain ⟨gl, Hgl⟩ : ∃ g, Hid (g = w5.heap.size) := ⟨_, rfl⟩
                have hnl : gl ≠ bt ∧ gl ∉ M1 := by
                  have h1 := Hgl.out
                  have h2 := HT5.out.tp.lt
                  exact ⟨by omega, fun hm => by have := HT5.out.sys.lt _ hm; omega⟩
                rw [← Hgl.out] at hB6 ⊢
                have HB6 := Lib.hid hB6
                have Hnl := Lib.hid hnl
                clear hB6 hk6 HT5 HMq HRg Hcl5 Hgl5 Hk6 Hgl hnl
                have HQ := Lib.hid (HT6.out.next 5 (by omega))
                simp only [Act.put]
                go_cut [65] (fun t wx => ∃ (b : Bool) (k : Nat), t = .bool b ∧ Hid (Th w wx M1 tg1 r1 d1 R1 s1 bt lx (k1 + 1) k gd gr (.slice (some ⟨gu, 0, none⟩) ls1.length cu) ls1) ∧ Hid (Keeps [bt] w6 wx))
                case first =>
                  go_wp2_with fail
                  refine HQ.out.mono ?_
                  rintro e w7 ⟨y, k7, rfl, -, ht7, hk7⟩
                  have HT7 := Lib.hid ht7
                  have HK7 := Lib.hid hk7
                  clear ht7 hk7
                  go_wp2_with fail
                  go_meet
                  exact ⟨_, k7, rfl, HT7, HK7⟩
                case rest =>
                  obtain ⟨bb, k7, rfl, HT7, HK7⟩ := hcut
                  obtain ⟨w7, rfl⟩ : ∃ w7 : World, w7 = wc := ⟨_, rfl⟩
                  have HB7 : Hid (Blk w7 gl 55 (ltCell (⟨fr, dst, m⟩, .slice Adq m.en.ds.length ndq, .slice Alq m.log.length nlq)).toArray) := HK7.out.blk HB6.out (by simp; exact Hnl.out.1)
                  have HM7 := Lib.hid (HMq6.out.keep HK7.out (fun g hg => by simp at hg; subst hg; exact .inl HT6.out.tb.1))
                  clear HT6 HB6 HMq6 HK7 HQ
                  go_step
                  go_cut [7] (fun v7 wx => ∃ (M : List Nat) (tg : Nat → Nat → Nat) (ls : List (LetD × Value × Value)) (k : Nat), Hid (Th w wx M tg r1 d1 R1 s1 bt lx (k1 + 1) k gd gr v7 ls) ∧ Hid (Blk wx gl 55 (ltCell (⟨fr, dst, m⟩, .slice Adq m.en.ds.length ndq, .slice Alq m.log.length nlq)).toArray) ∧ Hid (MsgAt wx M m (.slice Adq m.en.ds.length ndq) (.slice Alq m.log.length nlq)) ∧ Hid (gl ∉ M))
                  case first =>
                    cases bb with
                    | false =>
                      go_wp2_with fail
                      go_meet
                      exact ⟨_, _, _, _, HT7, HB7, HM7, Hnl.out.2⟩
                    | true =>
                      have hiL : (ii : Int) < (ls1.length : Int) := by omega
                      have hii1 : (ii : Int) + 1 ≤ (ls1.length : Int) := by omega
                      have hcuI : (ls1.length : Int) ≤ (cu : Int) := by omega
                      have hiu : (ii : Int) ≤ (cu : Int) := by omega
                      have hii0 : (0 : Int) ≤ (ii : Int) + 1 := by omega
                      have hl80 := HT7.out.ll
                      have hwr0 : Hid (IntKind.i64.wrap ((ii : Int) + 1) = (ii : Int) + 1) := by
                        show _ = _
                        rw [IntKind.wrap_i64]; omega
                      obtain ⟨i0, hi0, hz0, hz1, hz2⟩ := info_parts infoLetter
                      have Hi0 := Lib.hid hi0; have Hz0 := Lib.hid hz0; have Hz1 := Lib.hid hz1; have Hz2 := Lib.hid hz2
                      obtain ⟨w8, hw8⟩ : ∃ w8, w8 = (w7.alloc (.cells #[] 55)).drew := ⟨_, rfl⟩
                      have Hb7 : Hid (w.heap.size ≤ w7.heap.size) := HT7.out.sys.bel.size
                      have Hk8 : Hid (Keeps [] w7 w8) := by
                        show Keeps _ _ _
                        rw [hw8]; exact ((Keeps.refl _ _).alloc _).drew
                      have Hrow0 : Hid (w8.ownsRow w.heap.size 55 20 (.slice (some ⟨w7.heap.size, 0, none⟩) 0 0) 0 []) := by
                        show World.ownsRow _ _ _ _ _ _ _
                        rw [hw8]
                        exact own_other2 (World.ownsRow_lit w7 #[] 0 Hb7.out (by unfold maxLen; omega) rfl) (M := []) ((Keeps.refl _ _).drew) (by simp)
                      have Hb8 : Hid (w.heap.size ≤ w8.heap.size) := Nat.le_trans Hb7.out Hk8.out.size
                      have HP8 := Lib.hid ((HT7.out.keep0 Hk8.out).parts rfl hil)
                      have HA8' : Hid (∀ (A : Option Addr), (A = if cu = ii + 1 then some ⟨gu, 0, none⟩ else some ⟨gu, (ii + 1) * 20, none⟩) → ∀ W, Reads W W.heap.size 20 (some ⟨gu, (ii + 1) * 20, none⟩) (ls1.length - (ii + 1)) ((ls1.drop (ii + 1)).flatMap ltCell) → Reads W W.heap.size 20 A (ls1.length - (ii + 1)) ((ls1.drop (ii + 1)).flatMap ltCell)) := fun A hA W hr => by
                        by_cases hc : cu = ii + 1
                        · refine ⟨hr.1, fun h0 => ?_⟩
                          omega
                        · rw [hA, if_neg hc]; exact hr
                      have HO7 : Hid (∀ u ∈ ls1.flatMap ltCell, u.oneCell' = true) := lt_one HT7.out.un.msg
                      clear hi0 hz0 hz1 hz2
                      go_upto_region 21 with (fail)
                      refine wp_region_held_drew (S := (fun W => True)) (by kernel_rfl) trivial (fun hHeld => ?_)
                      refine wT 1 (v := ?v1u7) (by kernel_rfl) rfl (by rfl) ?y1u7 (fun _ _ _ h => h) (by assumption) ?r1u7
                      case y1u7 => (intro w hSw; (have hS0 := hSw); go_simp <;> with_reducible rfl)
                      try simp only [sgl, Act.put]
                      refine wT 2 (v := ?v2u8) (by kernel_rfl) rfl (by rfl) ?y2u8 (fun _ _ _ h => h) (by assumption) ?r2u8
                      case y2u8 => (intro w hSw; (have hS0 := hSw); go_simp <;> with_reducible rfl)
                      try simp only [sgl, Act.put]
                      refine wT 3 (v := ?v3u9) (by kernel_rfl) rfl (by rfl) ?y3u9 (fun _ _ _ h => h) (by assumption) ?r3u9
                      case y3u9 => (intro w hSw; (have hS0 := hSw); go_simp <;> with_reducible rfl)
                      try simp only [sgl, Act.put]
                      refine wT 5 (v := ?v5u10) (by kernel_rfl) rfl (by rfl) ?y5u10 (fun _ _ _ h => h) (by assumption) ?r5u10
                      case y5u10 => (intro w hSw; (have hS0 := hSw); go_simp <;> with_reducible rfl)
                      try simp only [sgl, Act.put]
                      refine wT 6 (v := ?v6u11) (by kernel_rfl) rfl (by rfl) ?y6u11 (fun _ _ _ h => h) (by assumption) ?r6u11
                      case y6u11 => (intro w hSw; (have hS0 := hSw); go_simp <;> with_reducible rfl)
                      try simp only [sgl, Act.put]
                      have hwr : IntKind.i64.wrap ((ii : Int) + 1) = (ii : Int) + 1 := hwr0.out
                      refine wT 7 (v := ?v7u12) (by kernel_rfl) rfl (by rfl) ?y7u12 (fun _ _ _ h => h) (by assumption) ?r7u12
                      case y7u12 => (intro w hSw; (have hS0 := hSw); go_simp <;> with_reducible rfl)
                      try simp only [sgl, Act.put]
                      clear hwr
                      obtain ⟨A8, HA8⟩ : ∃ A : Option Addr, Hid (A = if cu = ii + 1 then some ⟨gu, 0, none⟩ else some ⟨gu, (ii + 1) * 20, none⟩) := ⟨_, (rfl : (if cu = ii + 1 then some (⟨gu, 0, none⟩ : Addr) else some ⟨gu, (ii + 1) * 20, none⟩) = _)⟩
                      refine wpAnyH_take (i := 8) (oi := _) (v := .slice A8 (ls1.length - (ii + 1)) (cu - (ii + 1))) rfl (by kernel_rfl) (by kernel_rfl) (by kernel_rfl) (fun _ _ _ h => h) (Or.inl ⟨by rfl, ?y8z⟩) (by assumption) ?r8z
                      case y8z => (intro w hSw; have e1 : ((ii : Int) + 1).toNat = ii + 1 := by omega
                                   go_simp
                                   exact HA8.out.symm)
                      try simp only [sgl, Act.put]
                      refine wpAnyH_ready (rs := [0]) (by kernel_rfl) (by simp) ?_
                      refine AllReadyH.cons (o := _) rfl (fun K hK => ?_) AllReadyH.nil
                      go_simp
                      rw [← hw8]
                      refine hK.out _ _ trivial (fun hHeld2 => ?_)
                      clear hK K hHeld
                      have hHeld := hHeld2
                      clear hHeld2
                      try simp only [sgl, Act.put]
                      refine wpAnyH_ready (rs := [4]) (by kernel_rfl) (by simp) ?_
                      refine AllReadyH.cons (o := _) rfl (fun K hK => ?_) AllReadyH.nil
                      rw [if_pos (by rfl)]
                      refine wp_append_any _ (.tmp 66) (.tmp 69) 51 rfl w.heap.size 55 i0 _ 20 200 Tryz.underlying51 Hi0.out Hz0.out Hz1.out Hz2.out rfl (by omega) (.slice (some ⟨w7.heap.size, 0, none⟩) 0 0) 0 [] (by simp [Act.eval, Act.put]) Hrow0.out w8.heap.size (some ⟨gu, 0, none⟩) ii cu ((ls1.take ii).flatMap ltCell) (by simp [Act.eval, Act.put]) HP8.out.1 (fun u hu => HO7.out u (by rw [← List.take_append_drop ii ls1, List.flatMap_append]; exact List.mem_append_left _ hu)) (by unfold maxLen; omega) (by omega) Hb8.out ?_
                      intro v9 w9 hown9 hg9 _
                      obtain ⟨A9, c9, rfl, _⟩ := own_slice3 hown9
                      have Hk9 : Hid (Keeps [] w7 w9) := Hk8.out.grown hg9 (fun g hg => by injection hg with hg; subst hg; exact .inr (Nat.le_refl _))
                      have Hown9 := Lib.hid hown9
                      have HP9 := Lib.hid ((HT7.out.keep0 Hk9.out).parts rfl hil).2
                      have HRd9 : Hid (Reads w9 w9.heap.size 20 A8 (ls1.length - (ii + 1)) ((ls1.drop (ii + 1)).flatMap ltCell)) := HA8'.out A8 HA8.out w9 HP9.out
                      have Hb9 : Hid (w.heap.size ≤ w9.heap.size) := Nat.le_trans Hb7.out Hk9.out.size
                      have Hn9 : Hid (∀ g, (Value.slice A9 (0 + ii) c9).ownBlock = some g → w7.heap.size ≤ g) := fun g hg => by
                        rcases ‹_ ∨ _› with h | h
                        · rw [h] at hg
                          have hg' : some w7.heap.size = some g := hg
                          injection hg' with hg'
                          omega
                        · rw [h] at hg; injection hg with hg; have := Hk8.out.size; omega
                      clear hown9 hg9
                      refine hK.out _ _ trivial (fun hHeld2 => ?_)
                      clear hK K hHeld
                      have hHeld := hHeld2
                      clear hHeld2
                      try simp only [sgl, Act.put]
                      refine wpAnyH_ready (rs := [9]) (by kernel_rfl) (by simp) ?_
                      refine AllReadyH.cons (o := _) rfl (fun K hK => ?_) AllReadyH.nil
                      rw [if_pos (by rfl)]
                      refine wp_append_any _ (.tmp 70) (.tmp 74) 51 rfl w.heap.size 55 i0 _ 20 200 Tryz.underlying51 Hi0.out Hz0.out Hz1.out Hz2.out rfl (by omega) (.slice A9 (0 + ii) c9) (0 + ii) ([] ++ (ls1.take ii).flatMap ltCell) (by simp [Act.eval, Act.put]) Hown9.out w9.heap.size A8 (ls1.length - (ii + 1)) (cu - (ii + 1)) ((ls1.drop (ii + 1)).flatMap ltCell) (by simp [Act.eval, Act.put]) HRd9.out (fun u hu => HO7.out u (by rw [← List.take_append_drop (ii + 1) ls1, List.flatMap_append]; exact List.mem_append_right _ hu)) (by unfold maxLen; omega) (by omega) Hb9.out ?_
                      intro v10 w10 hown10 hg10 hat10
                      obtain ⟨A10, c10, rfl, _⟩ := own_slice3 hown10
                      have Hk10 : Hid (Keeps [] w7 w10) := Hk9.out.grown hg10 (fun g hg => .inr (Hn9.out g hg))
                      have Hn10 : Hid (∀ g, (Value.slice A10 (0 + ii + (ls1.length - (ii + 1))) c10).ownBlock = some g → w7.heap.size ≤ g) := fun g hg => by
                        rcases hat10 with h | h
                        · rw [h] at hg; exact Hn9.out g hg
                        · rw [h] at hg; injection hg with hg; have := Hk9.out.size; omega
                      have Hown10 := Lib.hid hown10
                      clear hown10 hg10 hat10
                      refine hK.out _ _ trivial (fun hHeld2 => ?_)
                      clear hK K hHeld
                      have hHeld := hHeld2
                      clear hHeld2
                      try simp only [sgl, Act.put]
                      refine wT 10 (v := ?v10u13) (by kernel_rfl) rfl (by rfl) ?y10u13 (fun _ _ _ h => h) (by assumption) ?r10u13
                      case y10u13 => (intro w hSw; (have hS0 := hSw); go_simp <;> with_reducible rfl)
                      try simp only [sgl, Act.put]
                      refine wpAnyH_done (by kernel_rfl) ?_ _
                      clear hHeld
                      have hls : ls1.take ii ++ ls1.drop (ii + 1) = ls1.eraseIdx ii := (List.eraseIdx_eq_take_drop_succ ..).symm
                      have hlen10 : (ls1.eraseIdx ii).length = 0 + ii + (ls1.length - (ii + 1)) := by rw [List.length_eraseIdx, if_pos hil]; omega
                      obtain ⟨M10, tg10, ht10, hbs10, hnw10, hsb10⟩ := HT7.out.row (v' := .slice A10 (0 + ii + (ls1.length - (ii + 1))) c10) (ls' := ls1.eraseIdx ii) (V := w10) (Hk10.out.mono (by simp)) (by
                        have h9 := Hown10.out
                        rw [List.nil_append, ← List.flatMap_append, hls] at h9
                        rw [hlen10]
                        exact h9) (fun g hg => .inr (Hn10.out g hg)) (fun q hq => HT7.out.un.msg q (List.mem_of_mem_eraseIdx hq)) (fun q hq => HT7.out.ok q (List.mem_of_mem_eraseIdx hq)) (by rw [hlen10]; omega)
                      rw [Nat.zero_add] at ht10
                      have HT10 := Lib.hid ht10
                      have HB10 := Lib.hid (Hk10.out.blk HB7.out (by simp))
                      have HM10 := Lib.hid ((HM7.out.avoid hnw10).keep Hk10.out (by simp))
                      have HN10 : Hid (gl ∉ M10) := fun hm => (hnw10 gl hm).elim Hnl.out.2 (fun h => by have := HB7.out.lt; omega)
                      clear ht10 hbs10 hnw10 hsb10 hls hlen10 HT7 HB7 HM7
                      go_wp2_with fail
                      go_meet
                      exact ⟨_, _, _, _, HT10, HB10, HM10, HN10⟩
                  case rest =>
                    obtain ⟨M10, tg10, ls10, k10, HT10, HB10, HM10, HN10⟩ := hcut
                    obtain ⟨w10, rfl⟩ : ∃ w10 : World, w10 = wc := ⟨_, rfl⟩
                    clear HT7 HB7 HM7 Hnl
                    have HQ := Lib.hid (HT10.out.next 9 (by omega))
                    go_step
                    go_wp2_with fail
                    refine HQ.out.mono ?_
                    rintro e w11 ⟨y, k11, rfl, -, ht11, hk11⟩
                    have HT11 := Lib.hid ht11
                    have HB11 : Hid (Blk w11 gl 55 (ltCell (⟨fr, dst, m⟩, .slice Adq m.en.ds.length ndq, .slice Alq m.log.length nlq)).toArray) := hk11.blk HB10.out (by simp; exact fun e => HN10.out (e ▸ HT10.out.tb.1))
                    have HM11 := Lib.hid (HM10.out.keep hk11 (fun g hg => by simp at hg; subst hg; exact .inl HT10.out.tb.1))
                    clear ht11 hk11 HQ HT10 HB10 HM10
                    by_cases hy : y = 0
                    · subst hy
                      go_wp2_with fail
                      go_meet
                      exact ⟨_, _, _, _, _, _, _, _, _, _, rfl, hk3, HT11, OuS.nil _ s1 _⟩
                    have hyp : (0 : Int) < (y : Int) := by omega
                    have hd3 : dst < 3 := HOq.out.dst
                    have hdi : (dst : Int) < 3 := by omega
                    have c1 : w11.cell? ⟨gl, 1, none⟩ = some (.int .i64 dst) := HB11.out.cell 1
                    have HS24 : Hid (∀ W, Keeps [] w11 W → W.cell? ⟨gr, dst, none⟩ = some (.pointer (some ⟨r1 dst, 0, none⟩)) ∧ W.cell? ⟨gl, 0, none⟩ = some (.int .i64 fr) ∧ W.rangeAt gl 2 (mCell m (.slice Adq m.en.ds.length ndq) (.slice Alq m.log.length nlq))) := fun W hk => by
                      have hb := hk.blk HB11.out (by simp)
                      refine ⟨((HT11.out.keep0 hk).rcell hd3).1, hb.cell 0, fun j u hu => ?_⟩
                      rw [hb.cell, Nat.add_comm]
                      simpa [ltCell] using hu
                    have HQ := Lib.hid ((HT11.out.keep0 ((Keeps.refl [] w11).drew)).recv hd3 fr m _ _ (HM11.out.keep ((Keeps.refl [] w11).drew) (by simp)) HOq.out.fit (.inr ⟨fr, rfl, HOq.out.let_⟩) Hm.out)
                    have HS24b : Hid (∀ W M tg R s, Th w W M tg r1 d1 R s bt lx (k1 + 1) k11 gd gr u7 ls10 → Keeps M10 w11.drew W → W.cell? ⟨gr, dst, none⟩ = some (.pointer (some ⟨r1 dst, 0, none⟩)) ∧ W.cell? ⟨gl, 0, none⟩ = some (.int .i64 fr) ∧ W.rangeAt gl 2 (mCell m (.slice Adq m.en.ds.length ndq) (.slice Alq m.log.length nlq))) := fun W M tg R s hT hk => by
                      have hb := hk.blk (((Keeps.refl [] w11).drew).blk HB11.out (by simp)) HN10.out
                      refine ⟨(hT.rcell hd3).1, hb.cell 0, fun j u hu => ?_⟩
                      rw [hb.cell, Nat.add_comm]
                      simpa [ltCell] using hu
                    go_upto_region 24 with (fail)
                    clear c1
                    refine wp_region_held_drew (S := (fun W => W.cell? ⟨gr, dst, none⟩ = some (.pointer (some ⟨r1 dst, 0, none⟩)) ∧ W.cell? ⟨gl, 0, none⟩ = some (.int .i64 fr) ∧ W.rangeAt gl 2 (mCell m (.slice Adq m.en.ds.length ndq) (.slice Alq m.log.length nlq)))) (by kernel_rfl) (HS24.out _ ((Keeps.refl [] w11).drew)) (fun hHeld => ?_)
                    refine wT 0 (v := ?v0u14) (by kernel_rfl) rfl (by rfl) ?y0u14 (fun _ _ _ h => h) (by assumption) ?r0u14
                    case y0u14 => (intro w hSw; (obtain ⟨hS0, hS1, hS2⟩ := hSw); go_simp <;> with_reducible rfl)
                    try simp only [sgl, Act.put]
                    refine wT 1 (v := ?v1u15) (by kernel_rfl) rfl (by rfl) ?y1u15 (fun _ _ _ h => h) (by assumption) ?r1u15
                    case y1u15 => (intro w hSw; (obtain ⟨hS0, hS1, hS2⟩ := hSw); go_simp <;> with_reducible rfl)
                    try simp only [sgl, Act.put]
                    refine wT 2 (v := ?v2u16) (by kernel_rfl) rfl (by rfl) ?y2u16 (fun _ _ _ h => h) (by assumption) ?r2u16
                    case y2u16 => (intro w hSw; (obtain ⟨hS0, hS1, hS2⟩ := hSw); go_simp <;> with_reducible rfl)
                    try simp only [sgl, Act.put]
                    refine wT 3 (v := ?v3u17) (by kernel_rfl) rfl (by rfl) ?y3u17 (fun _ _ _ h => h) (by assumption) ?r3u17
                    case y3u17 => (intro w hSw; (obtain ⟨hS0, hS1, hS2⟩ := hSw); go_simp <;> with_reducible rfl)
                    try simp only [sgl, Act.put]
                    refine wT 4 (v := ?v4u18) (by kernel_rfl) rfl (by rfl) ?y4u18 (fun _ _ _ h => h) (by assumption) ?r4u18
                    case y4u18 => (intro w hSw; (obtain ⟨hS0, hS1, hS2⟩ := hSw); go_simp <;> with_reducible rfl)
                    try simp only [sgl, Act.put]
                    refine wT 5 (v := ?v5u19) (by kernel_rfl) rfl (by rfl) ?y5u19 (fun _ _ _ h => h) (by assumption) ?r5u19
                    case y5u19 => (intro w hSw; (obtain ⟨hS0, hS1, hS2⟩ := hSw); go_simp <;> with_reducible rfl)
                    try simp only [sgl, Act.put]
                    refine wpAnyH_take (i := 6) (oi := _) (v := .agg (mCell m (.slice Adq m.en.ds.length ndq) (.slice Alq m.log.length nlq)).toArray) rfl (by kernel_rfl) (by kernel_rfl) (by kernel_rfl) (fun _ _ _ h => h) (yieldsIf_load_mid (by rfl) _ _ rfl _ _ rfl (mCell m (.slice Adq m.en.ds.length ndq) (.slice Alq m.log.length nlq)) _ (fun w hSw => hSw.2.2) Tryz.underlying37 rfl (by kernel_rfl)) (by assumption) ?_
                    try simp only [sgl, Act.put]
                    refine wpAnyH_ready (rs := [7]) (by kernel_rfl) (by simp) ?_
                    refine AllReadyH.cons (o := _) rfl (fun K hK => ?_) AllReadyH.nil
                    go_simp
                    with_reducible refine HQ.out.mono ?_
                    rintro e w12 ⟨v8, M12, tg12, R12, s12, qs12, rfl, ht12, ho12, hk12⟩
                    have HT12 := Lib.hid ht12; have HO12 := Lib.hid ho12
                    have Hs12 := Lib.hid (HS24b.out _ _ _ _ _ ht12 hk12)
                    clear ht12 ho12 hk12
                    refine hK.out _ _ Hs12.out (fun hHeld2 => ?_)
                    clear hK K hHeld
                    have hHeld := hHeld2
                    clear hHeld2
                    try simp only [sgl, Act.put]
                    refine wT 8 (v := ?v8u20) (by kernel_rfl) rfl (by rfl) ?y8u20 (fun _ _ _ h => h) (by assumption) ?r8u20
                    case y8u20 => (intro w hSw; (obtain ⟨hS0, hS1, hS2⟩ := hSw); go_simp <;> with_reducible rfl)
                    try simp only [sgl, Act.put]
                    refine wpAnyH_done (by kernel_rfl) ?_ _
                    clear hHeld
                    go_wp2_with fail
                    go_meet
                    exact ⟨_, _, _, _, _, _, _, _, _, _, rfl, hd3, HT12, HO12⟩
            case rest =>
              obtain ⟨M5, tg5, r5, d5, R5, s5, k5, ki, ls5, qs5, rfl, hki5, HT5, HO5⟩ := hcut
              obtain ⟨w5, rfl⟩ : ∃ w5 : World, w5 = wc := ⟨_, rfl⟩
              clear HT3 ca cd
              obtain ⟨A8, c8, rfl, hc8⟩ : ∃ A c, u8 = .slice A qs5.length c ∧ qs5.length ≤ c := by
                obtain ⟨A, c, h1, h2, _⟩ := HO5.out.rd
                exact ⟨A, c, h1, h2⟩
              have hml : qs5.length ≤ 9223372036854775807 := by have := HO5.out.ml; unfold maxLen at this; omega
              obtain ⟨i0, hi0, hz0, hz1, hz2⟩ := info_parts infoLetter
              have Hi0 := Lib.hid hi0; have Hz0 := Lib.hid hz0; have Hz1 := Lib.hid hz1; have Hz2 := Lib.hid hz2
              clear hi0 hz0 hz1 hz2
              go_step
              go_wp2_with fail
              go_loopw [7, 132] (fun v7 i wr => ∃ (x : Nat) (M : List Nat) (tg : Nat → Nat → Nat) (ls : List (LetD × Value × Value)), i = .int .i64 x ∧ x ≤ qs5.length ∧ Hid (Th w wr M tg r5 d5 R5 s5 bt lx (k1 + 1) k5 gd gr v7 ls) ∧ Hid (OuS wr M v7 (.slice A8 qs5.length c8) qs5 s5 ki)) (fun _ i _ => qs5.length - (intOf i).toNat)
              case atStart => exact ⟨0, M5, tg5, ls5, rfl, by omega, HT5, HO5⟩
              case round =>
                obtain ⟨x, M6, tg6, ls6, rfl, hxl, HT6, HO6⟩ := hrel
                clear HT5 HO5
                by_cases hx : x < qs5.length
                · have hxi : (x : Int) < (qs5.length : Int) := by omega
                  obtain ⟨go, off, cap, e1, _, hgo, _, hcl6⟩ := Rd.at_ srCell 19 (fun _ => rfl) HO6.out.rd hx
                  obtain rfl : A8 = some ⟨go, off, none⟩ := by injection e1
                  clear e1
                  have hmq := HO6.out.msg _ (List.getElem_mem hx)
                  have hokq := HO6.out.ok _ (List.getElem_mem hx)
                  have hrg6 : wr.rangeAt go (off + x * 19) (srCell qs5[x]) := fun j u hu => hcl6 j u hu
                  clear hcl6
                  generalize qs5[x] = q at hmq hokq hrg6
                  obtain ⟨⟨dst, ⟨kd, ⟨kind, ag, sh, seq, ep, ds, ser, efr, etg⟩, tag, code, nn, term, had, log, commit, len⟩⟩, dv, lv⟩ := q
                  have hmq : MsgAt wr M6 ⟨kd, ⟨kind, ag, sh, seq, ep, ds, ser, efr, etg⟩, tag, code, nn, term, had, log, commit, len⟩ dv lv := hmq
                  obtain ⟨Adq, ndq, hdv, _⟩ := hmq.1.len
                  obtain ⟨Alq, nlq, hlv, _⟩ := hmq.2.len
                  have hdv : dv = .slice Adq ds.length ndq := hdv
                  have hlv : lv = .slice Alq log.length nlq := hlv
                  subst hdv hlv
                  have HRg := Lib.hid hrg6; have HMq := Lib.hid hmq; have HOq := Lib.hid hokq
                  clear hmq hokq hrg6
                  go_upto_region 40 with (first
                    | (refine wpList_load_mid rfl 39 (.tmp 134) rfl go (off + x * 19) rfl _ _ HRg.out Tryz.underlying39 rfl (by kernel_rfl) ?_)
                    | (refine wpList_store_blk rfl 39 (.tmp 13) (.tmp 135) rfl wr.heap.size 0 39 #[.int .i64 0, .int .i64 0, .int .i64 0, .int .i64 0, .int .i64 0, .int .i64 0, .int .i64 0, .slice none 0 0, .string ⟨#[]⟩, .int .i64 0, .int .i64 0, .int .i64 0, .int .i64 0, .int .u64 0, .int .i64 0, .int .i64 0, .slice none 0 0, .int .i64 0, .int .i64 0] #[.int .i64 dst, .int .i64 kd, .int .i64 kind, .int .i64 ag, .int .i64 sh, .int .i64 seq, .int .i64 ep, .slice Adq ds.length ndq, .string ser, .int .i64 efr, .int .i64 etg, .int .i64 tag, .int .i64 code, .int .u64 nn, .int .i64 term, .int .i64 had, .slice Alq log.length nlq, .int .i64 commit, .int .i64 len] #[.int .i64 dst, .int .i64 kd, .int .i64 kind, .int .i64 ag, .int .i64 sh, .int .i64 seq, .int .i64 ep, .slice Adq ds.length ndq, .string ser, .int .i64 efr, .int .i64 etg, .int .i64 tag, .int .i64 code, .int .u64 nn, .int .i64 term, .int .i64 had, .slice Alq log.length nlq, .int .i64 commit, .int .i64 len] rfl rfl (Blk.new wr _ _) (by show 0 + 19 ≤ 19; omega) rfl (by kernel_rfl) rfl ?_; intro w6 hk6 hB6))
                  have Hk6 : Hid (Keeps [] wr w6) := ((Keeps.refl [] wr).alloc _).trans hk6 (by intro g hg; simp at hg; subst hg; exact .inr (Nat.le_refl _))
                  have HT7 := Lib.hid (HT6.out.keep0 Hk6.out)
                  have HO7 := Lib.hid (HO6.out.keep0 Hk6.out)
                  have HM7 := Lib.hid (HMq.out.keep Hk6.out (by simp))
                  obtain ⟨gs, Hgs⟩ : ∃ g, Hid (g = wr.heap.size) := ⟨_, rfl⟩
                  rw [← Hgs.out] at hB6 ⊢
                  have s0 : w6.cell? ⟨gs, 0, none⟩ = some (.int .i64 dst) := hB6.cell 0
                  have HRs : Hid (w6.rangeAt gs 1 [.int .i64 kd, .int .i64 kind, .int .i64 ag, .int .i64 sh, .int .i64 seq, .int .i64 ep, .slice Adq ds.length ndq, .string ser, .int .i64 efr, .int .i64 etg, .int .i64 tag, .int .i64 code, .int .u64 nn, .int .i64 term, .int .i64 had, .slice Alq log.length nlq, .int .i64 commit, .int .i64 len]) := fun j u hu => by
                    rw [hB6.cell, Nat.add_comm]
                    simpa using hu
                  obtain ⟨Au, cu, rfl, hcu⟩ : ∃ A c, u7 = .slice A ls6.length c ∧ ls6.length ≤ c := by
                    obtain ⟨A, c, h1, h2, _⟩ := Rd.of_own (M := []) HT6.out.un.row (by simp)
                    exact ⟨A, c, h1, h2⟩
                  have hll6 := HT7.out.ll
                  have Hb7 : Hid (w.heap.size ≤ w6.heap.size) := HT7.out.sys.bel.size
                  clear hB6 hk6 HT6 HO6 HMq HRg Hgs Hk6
                  simp only [Act.put]
                  by_cases hc1 : dst < 0
                  · have hc1' : ¬ (0 : Int) ≤ dst := by omega
                    go_wp2_with fail
                    go_roundw
                    case rel => exact ⟨x + 1, _, _, _, by go_num, by omega, HT7, HO7⟩
                    case measure => simp [intOf] <;> omega
                  have hc1' : (0 : Int) ≤ dst := by omega
                  by_cases hc2 : dst < 3
                  case neg =>
                    skip
                    go_wp2_with fail
                    go_roundw
                    case rel => exact ⟨x + 1, _, _, _, by go_num, by omega, HT7, HO7⟩
                    case measure => simp [intOf] <;> omega
                  by_cases hc3 : ls6.length < 80
                  case neg =>
                    have hc3' : ¬ (ls6.length : Int) < 80 := by omega
                    go_wp2_with fail
                    go_roundw
                    case rel => exact ⟨x + 1, _, _, _, by go_num, by omega, HT7, HO7⟩
                    case measure => simp [intOf] <;> omega
                  have hc3' : (ls6.length : Int) < 80 := by omega
                  obtain ⟨dd, rfl⟩ : ∃ dd : Nat, dst = dd := ⟨dst.toNat, by omega⟩
                  have hdd : dd < 3 := by omega
                  clear hc1 hc1'
                  have Hcell : Hid (ltCell ((⟨ki, dd, ⟨kd, ⟨kind, ag, sh, seq, ep, ds, ser, efr, etg⟩, tag, code, nn, term, had, log, commit, len⟩⟩ : LetD), .slice Adq ds.length ndq, .slice Alq log.length nlq) = [.int .i64 ki, .int .i64 dd, .int .i64 kd, .int .i64 kind, .int .i64 ag, .int .i64 sh, .int .i64 seq, .int .i64 ep, .slice Adq ds.length ndq, .string ser, .int .i64 efr, .int .i64 etg, .int .i64 tag, .int .i64 code, .int .u64 nn, .int .i64 term, .int .i64 had, .slice Alq log.length nlq, .int .i64 commit, .int .i64 len]) := by show _ = _; rfl
                  go_wp2_with (first
                    | (refine wpList_load_mid rfl 37 (.tmp 153) rfl gs 1 rfl _ _ HRs.out Tryz.underlying37 rfl (by kernel_rfl) ?_)
                    | (at_builtin; go_must (refine wpList_append_any _ rfl (.tmp 149) (.tmp 156) 51 rfl w.heap.size 55 i0 _ 20 200 Tryz.underlying51 Hi0.out Hz0.out Hz1.out Hz2.out rfl (by omega) (.slice Au ls6.length cu) ls6.length (ls6.flatMap ltCell) rfl (own_below HT7.out.un.row (below_new' w6 _)) (w6.heap.size + 1) (some ⟨w6.heap.size, 0, none⟩) 1 1 [.int .i64 ki, .int .i64 dd, .int .i64 kd, .int .i64 kind, .int .i64 ag, .int .i64 sh, .int .i64 seq, .int .i64 ep, .slice Adq ds.length ndq, .string ser, .int .i64 efr, .int .i64 etg, .int .i64 tag, .int .i64 code, .int .u64 nn, .int .i64 term, .int .i64 had, .slice Alq log.length nlq, .int .i64 commit, .int .i64 len] rfl (reads_new w6 _ 20 1 _ rfl) (by intro u hu; simp only [List.mem_cons, List.not_mem_nil, or_false] at hu; rcases hu with rfl | rfl | rfl | rfl | rfl | rfl | rfl | rfl | rfl | rfl | rfl | rfl | rfl | rfl | rfl | rfl | rfl | rfl | rfl | rfl <;> rfl) (by unfold maxLen; omega) (by omega) (by have := Hb7.out; rw [World.size_alloc]; omega) ?_)))
                  intro v9 w9 hown9 hg9 hat9
                  rw [← Hcell.out] at hown9
                  obtain ⟨M9, tg9, ht9, ho9⟩ := HT7.out.put hg9 (by rw [World.size_alloc]; exact hat9) (q := ((⟨ki, dd, ⟨kd, ⟨kind, ag, sh, seq, ep, ds, ser, efr, etg⟩, tag, code, nn, term, had, log, commit, len⟩⟩ : LetD), .slice Adq ds.length ndq, .slice Alq log.length nlq)) hown9 HM7.out ⟨hki5, hdd, HOq.out.2, HOq.out.1⟩ hc3 HO7.out
                  have HT9 := Lib.hid ht9; have HO9 := Lib.hid ho9
                  clear ht9 ho9 hown9 hg9 hat9 HT7 HO7 HM7 HRs s0 HOq Hcell
                  go_wp2_with fail
                  go_roundw
                  case rel => exact ⟨x + 1, M9, tg9, _, by go_num, by omega, HT9, HO9⟩
                  case measure => simp [intOf] <;> omega
                · obtain rfl : x = qs5.length := by omega
                  have hxi : ¬ (qs5.length : Int) < (qs5.length : Int) := by omega
                  have hB := HT6.out.ar
                  have g0 : wr.cell? ⟨gr, 0, none⟩ = some (.pointer (some ⟨r5 0, 0, none⟩)) := hB.cell 0
                  have g1 : wr.cell? ⟨gr, 1, none⟩ = some (.pointer (some ⟨r5 1, 0, none⟩)) := hB.cell 1
                  have g2 : wr.cell? ⟨gr, 2, none⟩ = some (.pointer (some ⟨r5 2, 0, none⟩)) := hB.cell 2
                  have HAg := Lib.hid (agree_any HT6.out.sys HT6.out.pr)
                  clear hB HO6
                  go_wp2_with fail
                  refine HAg.out.mono ?_
                  rintro e w9 ⟨rfl, hk9⟩
                  have HT9 := Lib.hid (HT6.out.keep0 hk9).weak
                  have t9 : w9.cell? ⟨bt, 1, none⟩ = some (.int .i64 k5) := by
                    obtain ⟨_, _, _, _, h, _⟩ := HT9.out.tp.cells
                    exact h
                  have hk5 : k1 + 1 ≤ k5 := HT6.out.tp.2
                  clear hk9 HAg g0 g1 g2 HT6
                  go_wp2_with fail
                  go_roundw
                  case rel => exact ⟨_, _, _, _, _, _, _, _, HT9⟩
                  case measure => rw [t9, Ht1.out]; simp [intOf]; omega
        · have hlti : ¬ (k1 : Int) < (lx.length : Int) := by omega
          have HKn := Lib.hid (known16_any mx wo (HT1.out.sys.cell0 Hm.out).1)
          have HBl := Lib.hid HT1.out.sys.bel
          clear HT1
          go_wp2_with fail
          refine HKn.out.mono ?_
          rintro e w2 ⟨rfl, hb2⟩
          have HB2 := Lib.hid (HBl.out.trans (hb2.mono HBl.out.size))
          clear hb2
          go_wp2_with fail
          go_ret
          exact ⟨rfl, HB2.out⟩
end Go.Proofs.YtdaceeijifjpeaaGreatDoor.Vi
end
