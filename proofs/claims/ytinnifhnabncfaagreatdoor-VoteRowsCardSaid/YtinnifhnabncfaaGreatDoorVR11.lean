/- Texts put together: VoteR. -/
import Derived.OrdersHeld
import Derived.Test.YtinnifhnabncfaaGreatDoorVR10
/- The walk of hopperlaw14.VoteRows. -/
section
namespace Go.Proofs.YtinnifhnabncfaaGreatDoor.Vi
open Go.RowKit Base Mem Tape Go.Shelf
set_option maxRecDepth 100000 in
set_option maxHeartbeats 8000000 in
theorem rows_walk (A : Option Addr) (c : Nat) (l : List Int) (m : Int) (w : World) (hN : Nums w A c l) (hm : w.cell? ⟨0, 0, none⟩ = some (.int .i64 m)) :
    Calls Tryz.prog 6 #[.slice A l.length c] w fun e w' => SamePost true w e w' := by
  have hw0 : 0 < w.heap.size := by
    have := World.block_lt_of_cell? w _ hm
    simpa using this
  have hkeepm : Hid (∀ W, Keeps [] w W → W.cell? ⟨0, 0, none⟩ = some (.int .i64 m)) := fun W hb => (hb.cell (p := ⟨0, 0, none⟩) hw0 (by simp)).trans hm
  have HN := Lib.hid hN
  clear hN hm
  go_enter Tryz.func6, Tryz.ntmps6
  go_wp2_with fail
  refine (dknew_any w).mono ?_
  rintro e w1 ⟨rfl, hD, hb1⟩
  have HD := Lib.hid hD; have Hk1 : Hid (Keeps [] w w1) := Keeps.of_below (M := []) hb1
  clear hD hb1
  go_wp2_with fail
  refine (open_step (x := word0) (j := 0) ⟨⟨[], by simp, rfl, rfl⟩, by simp, ⟨by simp [word0], by simp [word0], by simp [word0], by simp [word0]⟩⟩ w1 HD.out m (hkeepm.out w1 Hk1.out) (by simp; omega)).mono ?_
  rintro e w2 ⟨s, p, n, rfl, hS, hk2, hs2, hp2⟩
  have HS2 := Lib.hid hS
  have Hk2 : Hid (Keeps [] w w2) := (Hk1.out.mono (M' := [w.heap.size]) (by simp)).trans hk2 (fun g hg => .inl hg) |>.mono (fun g hg => .inr (by simp at hg; omega))
  have hs1 := Hk1.out.size
  have hgr2 : Hid (∀ g ∈ s :: p :: [w.heap.size], w.heap.size ≤ g) := fun g hg => by
    simp only [List.mem_cons, List.not_mem_nil, or_false] at hg
    rcases hg with h | h | h <;> omega
  clear hS hk2 HD Hk1
  obtain ⟨d, hd⟩ : ∃ d, Hid (w.heap.size = d) := ⟨_, rfl⟩
  obtain ⟨Y0, hY0⟩ : ∃ Y0, Hid ([w.heap.size] = Y0) := ⟨_, rfl⟩
  rw [hY0.out] at HS2 hgr2
  rw [hd.out] at HS2 ⊢
  go_wp2_with fail
  refine (asks_any A c l 30 (by omega) w2 ?_).mono ?_
  · obtain ⟨h1, h2, h3⟩ := HN.out
    refine ⟨h1, h2, fun h => ?_⟩
    obtain ⟨g, off, e, hg, hx⟩ := h3 h
    exact ⟨g, off, e, Nat.lt_of_lt_of_le hg Hk2.out.size, fun q x hq => (Hk2.out.cell (p := ⟨g, off + q, none⟩) hg (by simp)).trans (hx q x hq)⟩
  rintro e w3 ⟨av, asl, rfl, has, hok, hAt, hk3⟩
  have Hok := Lib.hid hok
  have HA3 := Lib.hid (hAt _ HS2.out.old)
  have HS3 := Lib.hid (HS2.out.keep0 hk3)
  have Hk3 := Lib.hid (Hk2.out.trans hk3 (by simp))
  obtain ⟨Aa, ca, rfl, hca⟩ := HA3.out.len
  clear hok hAt hk3 Hk2 HS2
  go_wp2_with fail
  go_loopw [17] (fun i wr => ∃ (j n : Nat) (Y : List Nat) (x : WordD) (b : List UInt8), i = .int .i64 j ∧ j ≤ asl.length ∧ Hid (StAt wr s p Y x d b b.length n) ∧ Hid (VI x b j) ∧ Hid (AskAt wr (s :: p :: Y) (.slice Aa asl.length ca) asl) ∧ Hid (∀ g ∈ s :: p :: Y, w.heap.size ≤ g) ∧ Hid (Keeps [] w wr)) (fun i _ => asl.length - (intOf i).toNat)
  case atStart => exact ⟨0, n, Y0, word0, [], rfl, by omega, HS3.out, ⟨⟨[], by simp, rfl, rfl⟩, by simp, ⟨by simp [word0], by simp [word0], by simp [word0], by simp [word0]⟩⟩, HA3.out, hgr2.out, Hk3.out⟩
  case round =>
    clear HA3 HS3 Hk3 hgr2 hs2 hp2 hs1 hY0 hd
    obtain ⟨j, n, Y, x, b, rfl, hj, HS, HV, HA, HG, HK⟩ := hrel
    by_cases hlt : j < asl.length
    · have hji : (j : Int) < (asl.length : Int) := by omega
      obtain ⟨ga, oa, cap, lv, e1, hga, _, hEl, hcell⟩ := HA.out.at_ hlt
      injection e1 with e1 _ e3
      subst e1 e3
      obtain ⟨Al, cl, rfl, _⟩ := hEl.len
      have q0 := hcell 0 _ rfl; have q1 := hcell 1 _ rfl; have q2 := hcell 2 _ rfl
      rw [Nat.add_zero] at q0
      have Hao := Lib.hid (Hok.out _ (List.getElem_mem hlt))
      have HEl := Lib.hid hEl
      clear hcell hEl
      generalize asl[j] = a at *
      obtain ⟨ak, at_, al⟩ := a
      simp only [] at q0 q1 q2
      obtain ⟨_, _, t0, t14, _, _⟩ := Hao.out
      simp only [] at t0 t14
      obtain ⟨t, rfl⟩ : ∃ t : Nat, at_ = t := ⟨at_.toNat, by omega⟩
      obtain ⟨w4, hw4⟩ : ∃ w4, w4 = wr.alloc (.cells #[.int .i64 ak, .int .i64 t, .slice Al al.length cl] 54) := ⟨_, rfl⟩
      have hk4 : Keeps [] wr w4 := by rw [hw4]; exact (Keeps.refl _ _).alloc _
      have hB4 : Blk w4 wr.heap.size 54 #[.int .i64 ak, .int .i64 t, .slice Al al.length cl] := by rw [hw4]; exact Blk.new wr _ _
      have HS4 := Lib.hid (HS.out.keep0 hk4); have Hk4 := Lib.hid hk4; have HB4 := Lib.hid hB4
      obtain ⟨hxt, hxh⟩ : x.t ≤ 13 ∧ x.h ≤ x.t := ⟨HV.out.2.2.1, HV.out.2.2.2.1⟩
      have hgo := HS.out.old
      obtain ⟨ga4, hg4⟩ : ∃ g, Hid (wr.heap.size = g) := ⟨_, rfl⟩
      have hns : ga4 ∉ s :: p :: Y := fun hm => by have := hgo _ hm; have := hg4.out; omega
      have Hns := Lib.hid hns
      clear hk4 hB4 hgo hns
      go_wp2_with fail
      rw [← hw4]
      clear hw4 q0 q1 q2
      rw [hg4.out] at HB4 ⊢
      refine (vterm_any w4 HS4.out).mono ?_
      rintro e w5 ⟨rfl, rfl⟩
      go_wp2_with fail
      refine (vhad_any w4 HS4.out).mono ?_
      rintro e w5 ⟨rfl, rfl⟩
      go_wp2_with fail
      refine (vlog_any w4 HS4.out).mono ?_
      rintro e w5 ⟨A5, rfl, hE5, hk5⟩
      have Hk5 := Lib.hid (Hk4.out.trans hk5 (by simp))
      have HS5 := Lib.hid (HS4.out.keep0 hk5)
      have HB5 := Lib.hid (hk5.blk HB4.out (by simp))
      have HL5 := Lib.hid (hE5 _ HS4.out.old)
      have z0 := HB5.out.cell 0; have z1 := HB5.out.cell 1; have z2 := HB5.out.cell 2
      simp only [List.getElem?_toArray, List.getElem?_cons_succ, List.getElem?_cons_zero] at z0 z1 z2
      have hm5 := Lib.hid (hkeepm.out w5 (HK.out.trans Hk5.out (by simp)))
      have HE5 := Lib.hid (HEl.out.keep Hk5.out (by simp))
      clear hk5 HS4 HB4 Hk4 HEl hE5
      go_wp2_with fail
      refine (accept_step HV.out (by omega) w5 HS5.out ⟨ak, t, al⟩ Hao.out _ (HE5.out.avoid (by simp)) m hm5.out).mono ?_
      rintro e w6 ⟨rfl, b', Y', n', hS6, hV6, hG6, hK6⟩
      have HS6 := Lib.hid hS6; have HV6 := Lib.hid hV6
      have HB6 := Lib.hid (hK6.blk HB5.out Hns.out)
      have HL6 := Lib.hid ((HL5.out.keep hK6 (fun g hg => .inl hg)).avoid (M' := []) (by simp))
      have HE6 := Lib.hid ((HE5.out.keep hK6 (fun g hg => .inl hg)).avoid (M' := []) (by simp))
      have hsub : ∀ g ∈ s :: p :: Y', g ∈ s :: p :: Y ∨ wr.heap.size ≤ g := fun g hg => by
        simp only [List.mem_cons] at hg ⊢
        rcases hg with h | h | h
        · exact .inl (.inl h)
        · exact .inl (.inr (.inl h))
        · rcases hG6 g h with h | h
          · exact .inl (.inr (.inr h))
          · exact .inr (Nat.le_trans Hk5.out.size h)
      have hKr6 : Keeps (s :: p :: Y) wr w6 := (Hk5.out.mono (M' := s :: p :: Y) (by simp)).trans hK6 (fun g hg => .inl hg)
      have HA6 := Lib.hid (((HA.out.avoid (M' := (s :: p :: Y) ++ (s :: p :: Y')) (fun g hg => by
          rcases List.mem_append.1 hg with h1 | h1
          · exact .inl h1
          · exact hsub g h1)).keep hKr6 (fun g hg => .inl (List.mem_append_left _ hg))).avoid (M' := s :: p :: Y') (fun g hg => .inl (List.mem_append_right _ hg)))
      have HG6 : Hid (∀ g ∈ s :: p :: Y', w.heap.size ≤ g) := fun g hg => by
        rcases hsub g hg with h | h
        · exact HG.out g h
        · exact Nat.le_trans HK.out.size h
      have HK6 : Hid (Keeps [] w w6) := (HK.out.mono (M' := s :: p :: Y) (by simp)).trans hKr6 (fun g hg => .inl hg) |>.mono (fun g hg => .inr (HG.out g hg))
      have y0 := HB6.out.cell 0; have y1 := HB6.out.cell 1; have y2 := HB6.out.cell 2
      simp only [List.getElem?_toArray, List.getElem?_cons_succ, List.getElem?_cons_zero] at y0 y1 y2
      clear hS6 hV6 hG6 hK6 hsub hKr6 HS5 HB5 HL5 HE5 hm5 z0 z1 z2 HS HA HG HK Hk5
      by_cases hokk : (x.t : Int) ≤ (t : Int) ∧ 1 ≤ (t : Int)
      · have hyx : nextA x ⟨ak, t, al⟩ = accW x t al := by unfold nextA; rw [if_pos hokk]; rfl
        rw [hyx] at HS6 HV6
        rw [show decide (((x.t : Int) ≤ (⟨ak, t, al⟩ : AskD).t) ∧ 1 ≤ (⟨ak, t, al⟩ : AskD).t) = true from decide_eq_true hokk]
        have f1 : decide ((x.t : Int) ≤ (t : Int)) = true := decide_eq_true (by omega)
        have f1n : decide (x.t ≤ t) = true := decide_eq_true (by omega)
        have f2 : decide ((0 : Int) < (t : Int)) = true := decide_eq_true (by omega)
        have f2n : decide (0 < t) = true := decide_eq_true (by omega)
        clear hyx hokk
        by_cases h4 : x.h < t
        · have f4 : decide ((x.h : Int) < (t : Int)) = true := decide_eq_true (by omega)
          have f4n : decide (x.h < t) = true := decide_eq_true h4
          have hw9 : accW x t al = ⟨t, t, al⟩ := if_pos (Or.inl h4)
          rw [hw9] at HS6 HV6
          clear hw9 h4
          go_upto_region 12 with (fail)
          go_quiet (fail)
          have HSy := Lib.hid (HS6.out.keep0 ((Keeps.refl _ _).drewN nq)); have HVy := HV6; have HLV := Lib.hid (HE6.out.keep ((Keeps.refl [] _).drewN nq) (by simp))
          have HB6q := Lib.hid (((Keeps.refl [] _).drewN nq).blk HB6.out (by simp)); have HA6q := Lib.hid (HA6.out.keep ((Keeps.refl [] _).drewN nq) (by simp)); have HK6q := Lib.hid (HK6.out.drewN nq)
          clear HS6 HV6 HL6 HE6 HB6 HA6 HK6 y0 y1 y2
          generalize w6.drewN nq = wq at *
          have HB6 := HB6q; have HA6 := HA6q; have HK6 := HK6q
          have y0 := HB6.out.cell 0; have y1 := HB6.out.cell 1; have y2 := HB6.out.cell 2
          simp only [List.getElem?_toArray, List.getElem?_cons_succ, List.getElem?_cons_zero] at y0 y1 y2
          clear HB6q HA6q HK6q
          have hyok := HSy.out.ok
          try simp only [] at hyok
          have hsm : Hid (al.length ≤ 1048576 ∧ ∀ e ∈ al, e.ds.length ≤ 1048576) := ⟨Nat.le_trans hyok.2.2.1 (by omega), fun e he => by have := eok_ds8 (hyok.2.2.2 e he); omega⟩
          have hyt : (t : Int) ≤ 9223372036854775807 := by have := hyok.1; omega
          clear hyok
          have hlg : Hid (∀ W, Keeps [] wq W → Calls Tryz.prog 33 #[.pointer (some ⟨s, 0, none⟩)] W fun e w' => EnsPost al W e w') := fun W hk => vlog_any (x := ⟨t, t, al⟩) W (HSy.out.keep0 hk)
          have hhd : Hid (∀ W, Keeps [] wq W → Calls Tryz.prog 32 #[.pointer (some ⟨s, 0, none⟩)] W fun e w' => e = .returned (.int .i64 t) ∧ W = w') := fun W hk => vhad_any (x := ⟨t, t, al⟩) W (HSy.out.keep0 hk)
          have htm : Hid (∀ W, Keeps [] wq W → Calls Tryz.prog 31 #[.pointer (some ⟨s, 0, none⟩)] W fun e w' => e = .returned (.int .i64 t) ∧ W = w') := fun W hk => vterm_any (x := ⟨t, t, al⟩) W (HSy.out.keep0 hk)
          have hpm : Hid (∀ W, Keeps [] wq W → Calls Tryz.prog 36 #[.pointer (some ⟨s, 0, none⟩), .int .i64 t] W fun e w' => e = .returned (.bool false) ∧ Keeps [] W w') := fun W hk => by
            refine (vpromise_any s p Y' ⟨t, t, al⟩ d b'.length n' b' W (HSy.out.keep0 hk) t hyt m (hkeepm.out W (HK6.out.trans hk (by simp)))).mono ?_
            intro e w' h
            unfold PmPost at h
            rw [if_neg (by simp)] at h
            exact h
          have hls : Hid (∀ W va, Keeps [] wq W → Ens W [] va al → Calls Tryz.prog 38 #[va, .slice Al al.length cl] W fun r w' => r = .returned (.bool true) ∧ Below W.heap.size W w') := fun W va hk hva => rlogs_eq va _ al W hva (HLV.out.keep hk (by simp)) hsm.out
          have HC : Hid (∀ W, Keeps [] wq W → (fun W => W.cell? ⟨ga4, 1, none⟩ = some (.int .i64 t)) W) := fun W hk => (hk.blk HB6.out (by simp)).cell 1
          go_upto_region 13 with (fail)
          refine wp_region_held_drew (S := (fun W => W.cell? ⟨ga4, 1, none⟩ = some (.int .i64 t))) (by kernel_rfl) (HC.out _ (Keeps.refl _ _).drew) (fun hHeld => ?_)
          refine wpAnyH_take (i := 0) (oi := _) (v := ?v0u1) rfl (by kernel_rfl) (by kernel_rfl) (by kernel_rfl) (fun _ _ _ h => h) (Or.inl ⟨by rfl, ?y0u1⟩) (by assumption) ?r0u1
          case y0u1 => (intro w hSw; (try dsimp only at hSw); go_simp <;> with_reducible rfl)
          try simp only [List.getElem_toArray, List.getElem_cons_succ, List.getElem_cons_zero, Act.put, List.setIfInBounds_toArray, List.set_cons_zero, List.set_cons_succ]
          refine wpAnyH_take (i := 2) (oi := _) (v := ?v2u2) rfl (by kernel_rfl) (by kernel_rfl) (by kernel_rfl) (fun _ _ _ h => h) (Or.inl ⟨by rfl, ?y2u2⟩) (by assumption) ?r2u2
          case y2u2 => (intro w hSw; (try dsimp only at hSw); go_simp <;> with_reducible rfl)
          try simp only [List.getElem_toArray, List.getElem_cons_succ, List.getElem_cons_zero, Act.put, List.setIfInBounds_toArray, List.set_cons_zero, List.set_cons_succ]
          refine wpAnyH_ready (rs := [1]) (by kernel_rfl) (by simp) ?_
          refine AllReadyH.cons (o := _) rfl (fun K hK => ?_) AllReadyH.nil
          go_simp
          refine (hlg.out _ (Keeps.refl _ _).drew).mono ?_
          rintro e w7 ⟨A7, rfl, hE7, hk7⟩
          have Hk7 : Hid (Keeps [] wq w7) := (Keeps.refl _ _).drew.trans hk7 (by simp)
          have HE7 := Lib.hid (hE7 [] (by simp))
          clear hk7 hE7
          refine hK.out _ _ (HC.out _ Hk7.out) (fun hHeld2 => ?_)
          clear hK K hHeld
          have hHeld := hHeld2
          clear hHeld2
          try simp only [List.getElem_toArray, List.getElem_cons_succ, List.getElem_cons_zero, Act.put, List.setIfInBounds_toArray, List.set_cons_zero, List.set_cons_succ]
          refine wpAnyH_ready (rs := [3]) (by kernel_rfl) (by simp) ?_
          refine AllReadyH.cons (o := _) rfl (fun K hK => ?_) AllReadyH.nil
          go_simp
          refine (hls.out _ _ Hk7.out HE7.out).mono ?_
          rintro e w8 ⟨rfl, hb8⟩
          have Hk8 := Lib.hid (Hk7.out.trans (Keeps.of_below (M := []) hb8) (by simp))
          clear hb8 HE7
          refine hK.out _ _ (HC.out _ Hk8.out) (fun hHeld2 => ?_)
          clear hK K hHeld
          have hHeld := hHeld2
          clear hHeld2
          try simp only [List.getElem_toArray, List.getElem_cons_succ, List.getElem_cons_zero, Act.put, List.setIfInBounds_toArray, List.set_cons_zero, List.set_cons_succ]
          refine wpAnyH_take (i := 4) (oi := _) (v := ?v4u3) rfl (by kernel_rfl) (by kernel_rfl) (by kernel_rfl) (fun _ _ _ h => h) (Or.inl ⟨by rfl, ?y4u3⟩) (by assumption) ?r4u3
          case y4u3 => (intro w hSw; (try dsimp only at hSw); go_simp <;> with_reducible rfl)
          try simp only [List.getElem_toArray, List.getElem_cons_succ, List.getElem_cons_zero, Act.put, List.setIfInBounds_toArray, List.set_cons_zero, List.set_cons_succ]
          refine wpAnyH_take (i := 5) (oi := _) (v := ?v5u4) rfl (by kernel_rfl) (by kernel_rfl) (by kernel_rfl) (fun _ _ _ h => h) (Or.inl ⟨by rfl, ?y5u4⟩) (by assumption) ?r5u4
          case y5u4 => (intro w hSw; (try dsimp only at hSw); go_simp <;> with_reducible rfl)
          try simp only [List.getElem_toArray, List.getElem_cons_succ, List.getElem_cons_zero, Act.put, List.setIfInBounds_toArray, List.set_cons_zero, List.set_cons_succ]
          refine wpAnyH_take (i := 6) (oi := _) (v := ?v6u5) rfl (by kernel_rfl) (by kernel_rfl) (by kernel_rfl) (fun _ _ _ h => h) (Or.inl ⟨by rfl, ?y6u5⟩) (by assumption) ?r6u5
          case y6u5 => (intro w hSw; (try dsimp only at hSw); go_simp <;> with_reducible rfl)
          try simp only [List.getElem_toArray, List.getElem_cons_succ, List.getElem_cons_zero, Act.put, List.setIfInBounds_toArray, List.set_cons_zero, List.set_cons_succ]
          refine wpAnyH_take (i := 8) (oi := _) (v := ?v8u6) rfl (by kernel_rfl) (by kernel_rfl) (by kernel_rfl) (fun _ _ _ h => h) (Or.inl ⟨by rfl, ?y8u6⟩) (by assumption) ?r8u6
          case y8u6 => (intro w hSw; (try dsimp only at hSw); go_simp <;> with_reducible rfl)
          try simp only [List.getElem_toArray, List.getElem_cons_succ, List.getElem_cons_zero, Act.put, List.setIfInBounds_toArray, List.set_cons_zero, List.set_cons_succ]
          refine wpAnyH_ready (rs := [7]) (by kernel_rfl) (by simp) ?_
          refine AllReadyH.cons (o := _) rfl (fun K hK => ?_) AllReadyH.nil
          go_simp
          refine (hhd.out _ Hk8.out).mono ?_
          rintro e wz ⟨rfl, rfl⟩
          refine hK.out _ _ (HC.out _ Hk8.out) (fun hHeld2 => ?_)
          clear hK K hHeld
          have hHeld := hHeld2
          clear hHeld2
          try simp only [List.getElem_toArray, List.getElem_cons_succ, List.getElem_cons_zero, Act.put, List.setIfInBounds_toArray, List.set_cons_zero, List.set_cons_succ]
          refine wpAnyH_take (i := 9) (oi := _) (v := ?v9u7) rfl (by kernel_rfl) (by kernel_rfl) (by kernel_rfl) (fun _ _ _ h => h) (Or.inl ⟨by rfl, ?y9u7⟩) (by assumption) ?r9u7
          case y9u7 => (intro w hSw; (try dsimp only at hSw); go_simp <;> with_reducible rfl)
          try simp only [List.getElem_toArray, List.getElem_cons_succ, List.getElem_cons_zero, Act.put, List.setIfInBounds_toArray, List.set_cons_zero, List.set_cons_succ]
          refine wpAnyH_take (i := 10) (oi := _) (v := ?v10u8) rfl (by kernel_rfl) (by kernel_rfl) (by kernel_rfl) (fun _ _ _ h => h) (Or.inl ⟨by rfl, ?y10u8⟩) (by assumption) ?r10u8
          case y10u8 => (intro w hSw; (try dsimp only at hSw); go_simp <;> with_reducible rfl)
          try simp only [List.getElem_toArray, List.getElem_cons_succ, List.getElem_cons_zero, Act.put, List.setIfInBounds_toArray, List.set_cons_zero, List.set_cons_succ]
          refine wpAnyH_take (i := 11) (oi := _) (v := ?v11u9) rfl (by kernel_rfl) (by kernel_rfl) (by kernel_rfl) (fun _ _ _ h => h) (Or.inl ⟨by rfl, ?y11u9⟩) (by assumption) ?r11u9
          case y11u9 => (intro w hSw; (try dsimp only at hSw); go_simp <;> with_reducible rfl)
          try simp only [List.getElem_toArray, List.getElem_cons_succ, List.getElem_cons_zero, Act.put, List.setIfInBounds_toArray, List.set_cons_zero, List.set_cons_succ]
          refine wpAnyH_take (i := 12) (oi := _) (v := ?v12u10) rfl (by kernel_rfl) (by kernel_rfl) (by kernel_rfl) (fun _ _ _ h => h) (Or.inl ⟨by rfl, ?y12u10⟩) (by assumption) ?r12u10
          case y12u10 => (intro w hSw; (try dsimp only at hSw); go_simp <;> with_reducible rfl)
          try simp only [List.getElem_toArray, List.getElem_cons_succ, List.getElem_cons_zero, Act.put, List.setIfInBounds_toArray, List.set_cons_zero, List.set_cons_succ]
          refine wpAnyH_take (i := 13) (oi := _) (v := ?v13u11) rfl (by kernel_rfl) (by kernel_rfl) (by kernel_rfl) (fun _ _ _ h => h) (Or.inl ⟨by rfl, ?y13u11⟩) (by assumption) ?r13u11
          case y13u11 => (intro w hSw; (try dsimp only at hSw); go_simp <;> with_reducible rfl)
          try simp only [List.getElem_toArray, List.getElem_cons_succ, List.getElem_cons_zero, Act.put, List.setIfInBounds_toArray, List.set_cons_zero, List.set_cons_succ]
          refine wpAnyH_ready (rs := [14]) (by kernel_rfl) (by simp) ?_
          refine AllReadyH.cons (o := _) rfl (fun K hK => ?_) AllReadyH.nil
          go_simp
          refine (htm.out _ Hk8.out).mono ?_
          rintro e wz ⟨rfl, rfl⟩
          refine hK.out _ _ (HC.out _ Hk8.out) (fun hHeld2 => ?_)
          clear hK K hHeld
          have hHeld := hHeld2
          clear hHeld2
          try simp only [List.getElem_toArray, List.getElem_cons_succ, List.getElem_cons_zero, Act.put, List.setIfInBounds_toArray, List.set_cons_zero, List.set_cons_succ]
          refine wpAnyH_ready (rs := [15]) (by kernel_rfl) (by simp) ?_
          refine AllReadyH.cons (o := _) rfl (fun K hK => ?_) AllReadyH.nil
          go_simp
          refine (hpm.out _ Hk8.out).mono ?_
          rintro e w9 ⟨rfl, hk9⟩
          have Hk9 := Lib.hid (Hk8.out.trans hk9 (by simp))
          clear hk9
          refine hK.out _ _ (HC.out _ Hk9.out) (fun hHeld2 => ?_)
          clear hK K hHeld
          have hHeld := hHeld2
          clear hHeld2
          try simp only [List.getElem_toArray, List.getElem_cons_succ, List.getElem_cons_zero, Act.put, List.setIfInBounds_toArray, List.set_cons_zero, List.set_cons_succ]
          refine wpAnyH_take (i := 16) (oi := _) (v := ?v16u12) rfl (by kernel_rfl) (by kernel_rfl) (by kernel_rfl) (fun _ _ _ h => h) (Or.inl ⟨by rfl, ?y16u12⟩) (by assumption) ?r16u12
          case y16u12 => (intro w hSw; (try dsimp only at hSw); go_simp <;> with_reducible rfl)
          try simp only [List.getElem_toArray, List.getElem_cons_succ, List.getElem_cons_zero, Act.put, List.setIfInBounds_toArray, List.set_cons_zero, List.set_cons_succ]
          refine wpAnyH_take (i := 17) (oi := _) (v := ?v17u13) rfl (by kernel_rfl) (by kernel_rfl) (by kernel_rfl) (fun _ _ _ h => h) (Or.inl ⟨by rfl, ?y17u13⟩) (by assumption) ?r17u13
          case y17u13 => (intro w hSw; (try dsimp only at hSw); go_simp <;> with_reducible rfl)
          try simp only [List.getElem_toArray, List.getElem_cons_succ, List.getElem_cons_zero, Act.put, List.setIfInBounds_toArray, List.set_cons_zero, List.set_cons_succ]
          refine wpAnyH_take (i := 18) (oi := _) (v := ?v18u14) rfl (by kernel_rfl) (by kernel_rfl) (by kernel_rfl) (fun _ _ _ h => h) (Or.inl ⟨by rfl, ?y18u14⟩) (by assumption) ?r18u14
          case y18u14 => (intro w hSw; (try dsimp only at hSw); go_simp <;> with_reducible rfl)
          try simp only [List.getElem_toArray, List.getElem_cons_succ, List.getElem_cons_zero, Act.put, List.setIfInBounds_toArray, List.set_cons_zero, List.set_cons_succ]
          refine wpAnyH_take (i := 19) (oi := _) (v := ?v19u15) rfl (by kernel_rfl) (by kernel_rfl) (by kernel_rfl) (fun _ _ _ h => h) (Or.inl ⟨by rfl, ?y19u15⟩) (by assumption) ?r19u15
          case y19u15 => (intro w hSw; (try dsimp only at hSw); go_simp <;> with_reducible rfl)
          try simp only [List.getElem_toArray, List.getElem_cons_succ, List.getElem_cons_zero, Act.put, List.setIfInBounds_toArray, List.set_cons_zero, List.set_cons_succ]
          refine wpAnyH_take (i := 20) (oi := _) (v := ?v20u16) rfl (by kernel_rfl) (by kernel_rfl) (by kernel_rfl) (fun _ _ _ h => h) (Or.inl ⟨by rfl, ?y20u16⟩) (by assumption) ?r20u16
          case y20u16 => (intro w hSw; (try dsimp only at hSw); go_simp <;> with_reducible rfl)
          try simp only [List.getElem_toArray, List.getElem_cons_succ, List.getElem_cons_zero, Act.put, List.setIfInBounds_toArray, List.set_cons_zero, List.set_cons_succ]
          refine wpAnyH_take (i := 22) (oi := _) (v := ?v22u17) rfl (by kernel_rfl) (by kernel_rfl) (by kernel_rfl) (fun _ _ _ h => h) (Or.inl ⟨by rfl, ?y22u17⟩) (by assumption) ?r22u17
          case y22u17 => (intro w hSw; (try dsimp only at hSw); go_simp <;> with_reducible rfl)
          try simp only [List.getElem_toArray, List.getElem_cons_succ, List.getElem_cons_zero, Act.put, List.setIfInBounds_toArray, List.set_cons_zero, List.set_cons_succ]
          refine wpAnyH_take (i := 23) (oi := _) (v := ?v23u18) rfl (by kernel_rfl) (by kernel_rfl) (by kernel_rfl) (fun _ _ _ h => h) (Or.inl ⟨by rfl, ?y23u18⟩) (by assumption) ?r23u18
          case y23u18 => (intro w hSw; (try dsimp only at hSw); go_simp <;> with_reducible rfl)
          try simp only [List.getElem_toArray, List.getElem_cons_succ, List.getElem_cons_zero, Act.put, List.setIfInBounds_toArray, List.set_cons_zero, List.set_cons_succ]
          refine wpAnyH_ready (rs := [21]) (by kernel_rfl) (by simp) ?_
          refine AllReadyH.cons (o := _) rfl (fun K hK => ?_) AllReadyH.nil
          go_simp
          refine (htm.out _ Hk9.out).mono ?_
          rintro e wz ⟨rfl, rfl⟩
          refine hK.out _ _ (HC.out _ Hk9.out) (fun hHeld2 => ?_)
          clear hK K hHeld
          have hHeld := hHeld2
          clear hHeld2
          try simp only [List.getElem_toArray, List.getElem_cons_succ, List.getElem_cons_zero, Act.put, List.setIfInBounds_toArray, List.set_cons_zero, List.set_cons_succ]
          refine wpAnyH_take (i := 24) (oi := _) (v := ?v24u19) rfl (by kernel_rfl) (by kernel_rfl) (by kernel_rfl) (fun _ _ _ h => h) (Or.inl ⟨by rfl, ?y24u19⟩) (by assumption) ?r24u19
          case y24u19 => (intro w hSw; (try dsimp only at hSw); go_simp <;> with_reducible rfl)
          try simp only [List.getElem_toArray, List.getElem_cons_succ, List.getElem_cons_zero, Act.put, List.setIfInBounds_toArray, List.set_cons_zero, List.set_cons_succ]
          refine wpAnyH_take (i := 25) (oi := _) (v := ?v25u20) rfl (by kernel_rfl) (by kernel_rfl) (by kernel_rfl) (fun _ _ _ h => h) (Or.inl ⟨by rfl, ?y25u20⟩) (by assumption) ?r25u20
          case y25u20 => (intro w hSw; (try dsimp only at hSw); go_simp <;> with_reducible rfl)
          try simp only [List.getElem_toArray, List.getElem_cons_succ, List.getElem_cons_zero, Act.put, List.setIfInBounds_toArray, List.set_cons_zero, List.set_cons_succ]
          refine wpAnyH_take (i := 26) (oi := _) (v := ?v26u21) rfl (by kernel_rfl) (by kernel_rfl) (by kernel_rfl) (fun _ _ _ h => h) (Or.inl ⟨by rfl, ?y26u21⟩) (by assumption) ?r26u21
          case y26u21 => (intro w hSw; (try dsimp only at hSw); go_simp <;> with_reducible rfl)
          try simp only [List.getElem_toArray, List.getElem_cons_succ, List.getElem_cons_zero, Act.put, List.setIfInBounds_toArray, List.set_cons_zero, List.set_cons_succ]
          refine wpAnyH_done (by kernel_rfl) ?_ _
          have HSz := Lib.hid (HSy.out.keep0 Hk9.out); have HAz := Lib.hid (HA6.out.keep Hk9.out (by simp)); have HKz := Lib.hid (HK6.out.trans Hk9.out (by simp))
          clear hlg hhd htm hpm hls HC Hk7 Hk8 Hk9 HSy HA6 HK6 hHeld
          go_wp2_with fail
          go_roundw
          case rel => exact ⟨j + 1, n', Y', ⟨t, t, al⟩, b', by go_num, by omega, HSz, HVy, HAz, HG6, HKz⟩
          case measure => simp [intOf] <;> omega
        · have f4 : decide ((x.h : Int) < (t : Int)) = false := decide_eq_false (by omega)
          have f4n : decide (x.h < t) = false := decide_eq_false h4
          by_cases h5 : x.log.length < al.length
          · have f5 : decide ((x.log.length : Int) < (al.length : Int)) = true := decide_eq_true (by omega)
            have f5n : decide (x.log.length < al.length) = true := decide_eq_true h5
            have hw9 : accW x t al = ⟨t, t, al⟩ := if_pos (Or.inr h5)
            rw [hw9] at HS6 HV6
            clear hw9 h4
            go_upto_region 12 with (fail)
            go_quiet (fail)
            have HSy := Lib.hid (HS6.out.keep0 ((Keeps.refl _ _).drewN nq)); have HVy := HV6; have HLV := Lib.hid (HE6.out.keep ((Keeps.refl [] _).drewN nq) (by simp))
            have HB6q := Lib.hid (((Keeps.refl [] _).drewN nq).blk HB6.out (by simp)); have HA6q := Lib.hid (HA6.out.keep ((Keeps.refl [] _).drewN nq) (by simp)); have HK6q := Lib.hid (HK6.out.drewN nq)
            clear HS6 HV6 HL6 HE6 HB6 HA6 HK6 y0 y1 y2
            generalize w6.drewN nq = wq at *
            have HB6 := HB6q; have HA6 := HA6q; have HK6 := HK6q
            have y0 := HB6.out.cell 0; have y1 := HB6.out.cell 1; have y2 := HB6.out.cell 2
            simp only [List.getElem?_toArray, List.getElem?_cons_succ, List.getElem?_cons_zero] at y0 y1 y2
            clear HB6q HA6q HK6q
            have hyok := HSy.out.ok
            try simp only [] at hyok
            have hsm : Hid (al.length ≤ 1048576 ∧ ∀ e ∈ al, e.ds.length ≤ 1048576) := ⟨Nat.le_trans hyok.2.2.1 (by omega), fun e he => by have := eok_ds8 (hyok.2.2.2 e he); omega⟩
            have hyt : (t : Int) ≤ 9223372036854775807 := by have := hyok.1; omega
            clear hyok
            have hlg : Hid (∀ W, Keeps [] wq W → Calls Tryz.prog 33 #[.pointer (some ⟨s, 0, none⟩)] W fun e w' => EnsPost al W e w') := fun W hk => vlog_any (x := ⟨t, t, al⟩) W (HSy.out.keep0 hk)
            have hhd : Hid (∀ W, Keeps [] wq W → Calls Tryz.prog 32 #[.pointer (some ⟨s, 0, none⟩)] W fun e w' => e = .returned (.int .i64 t) ∧ W = w') := fun W hk => vhad_any (x := ⟨t, t, al⟩) W (HSy.out.keep0 hk)
            have htm : Hid (∀ W, Keeps [] wq W → Calls Tryz.prog 31 #[.pointer (some ⟨s, 0, none⟩)] W fun e w' => e = .returned (.int .i64 t) ∧ W = w') := fun W hk => vterm_any (x := ⟨t, t, al⟩) W (HSy.out.keep0 hk)
            have hpm : Hid (∀ W, Keeps [] wq W → Calls Tryz.prog 36 #[.pointer (some ⟨s, 0, none⟩), .int .i64 t] W fun e w' => e = .returned (.bool false) ∧ Keeps [] W w') := fun W hk => by
              refine (vpromise_any s p Y' ⟨t, t, al⟩ d b'.length n' b' W (HSy.out.keep0 hk) t hyt m (hkeepm.out W (HK6.out.trans hk (by simp)))).mono ?_
              intro e w' h
              unfold PmPost at h
              rw [if_neg (by simp)] at h
              exact h
            have hls : Hid (∀ W va, Keeps [] wq W → Ens W [] va al → Calls Tryz.prog 38 #[va, .slice Al al.length cl] W fun r w' => r = .returned (.bool true) ∧ Below W.heap.size W w') := fun W va hk hva => rlogs_eq va _ al W hva (HLV.out.keep hk (by simp)) hsm.out
            have HC : Hid (∀ W, Keeps [] wq W → (fun W => W.cell? ⟨ga4, 1, none⟩ = some (.int .i64 t)) W) := fun W hk => (hk.blk HB6.out (by simp)).cell 1
            go_upto_region 13 with (fail)
            refine wp_region_held_drew (S := (fun W => W.cell? ⟨ga4, 1, none⟩ = some (.int .i64 t))) (by kernel_rfl) (HC.out _ (Keeps.refl _ _).drew) (fun hHeld => ?_)
            refine wpAnyH_take (i := 0) (oi := _) (v := ?v0u22) rfl (by kernel_rfl) (by kernel_rfl) (by kernel_rfl) (fun _ _ _ h => h) (Or.inl ⟨by rfl, ?y0u22⟩) (by assumption) ?r0u22
            case y0u22 => (intro w hSw; (try dsimp only at hSw); go_simp <;> with_reducible rfl)
            try simp only [List.getElem_toArray, List.getElem_cons_succ, List.getElem_cons_zero, Act.put, List.setIfInBounds_toArray, List.set_cons_zero, List.set_cons_succ]
            refine wpAnyH_take (i := 2) (oi := _) (v := ?v2u23) rfl (by kernel_rfl) (by kernel_rfl) (by kernel_rfl) (fun _ _ _ h => h) (Or.inl ⟨by rfl, ?y2u23⟩) (by assumption) ?r2u23
            case y2u23 => (intro w hSw; (try dsimp only at hSw); go_simp <;> with_reducible rfl)
            try simp only [List.getElem_toArray, List.getElem_cons_succ, List.getElem_cons_zero, Act.put, List.setIfInBounds_toArray, List.set_cons_zero, List.set_cons_succ]
            refine wpAnyH_ready (rs := [1]) (by kernel_rfl) (by simp) ?_
            refine AllReadyH.cons (o := _) rfl (fun K hK => ?_) AllReadyH.nil
            go_simp
            refine (hlg.out _ (Keeps.refl _ _).drew).mono ?_
            rintro e w7 ⟨A7, rfl, hE7, hk7⟩
            have Hk7 : Hid (Keeps [] wq w7) := (Keeps.refl _ _).drew.trans hk7 (by simp)
            have HE7 := Lib.hid (hE7 [] (by simp))
            clear hk7 hE7
            refine hK.out _ _ (HC.out _ Hk7.out) (fun hHeld2 => ?_)
            clear hK K hHeld
            have hHeld := hHeld2
            clear hHeld2
            try simp only [List.getElem_toArray, List.getElem_cons_succ, List.getElem_cons_zero, Act.put, List.setIfInBounds_toArray, List.set_cons_zero, List.set_cons_succ]
            refine wpAnyH_ready (rs := [3]) (by kernel_rfl) (by simp) ?_
            refine AllReadyH.cons (o := _) rfl (fun K hK => ?_) AllReadyH.nil
            go_simp
            refine (hls.out _ _ Hk7.out HE7.out).mono ?_
            rintro e w8 ⟨rfl, hb8⟩
            have Hk8 := Lib.hid (Hk7.out.trans (Keeps.of_below (M := []) hb8) (by simp))
            clear hb8 HE7
            refine hK.out _ _ (HC.out _ Hk8.out) (fun hHeld2 => ?_)
            clear hK K hHeld
            have hHeld := hHeld2
            clear hHeld2
            try simp only [List.getElem_toArray, List.getElem_cons_succ, List.getElem_cons_zero, Act.put, List.setIfInBounds_toArray, List.set_cons_zero, List.set_cons_succ]
            refine wpAnyH_take (i := 4) (oi := _) (v := ?v4u24) rfl (by kernel_rfl) (by kernel_rfl) (by kernel_rfl) (fun _ _ _ h => h) (Or.inl ⟨by rfl, ?y4u24⟩) (by assumption) ?r4u24
            case y4u24 => (intro w hSw; (try dsimp only at hSw); go_simp <;> with_reducible rfl)
            try simp only [List.getElem_toArray, List.getElem_cons_succ, List.getElem_cons_zero, Act.put, List.setIfInBounds_toArray, List.set_cons_zero, List.set_cons_succ]
            refine wpAnyH_take (i := 5) (oi := _) (v := ?v5u25) rfl (by kernel_rfl) (by kernel_rfl) (by kernel_rfl) (fun _ _ _ h => h) (Or.inl ⟨by rfl, ?y5u25⟩) (by assumption) ?r5u25
            case y5u25 => (intro w hSw; (try dsimp only at hSw); go_simp <;> with_reducible rfl)
            try simp only [List.getElem_toArray, List.getElem_cons_succ, List.getElem_cons_zero, Act.put, List.setIfInBounds_toArray, List.set_cons_zero, List.set_cons_succ]
            refine wpAnyH_take (i := 6) (oi := _) (v := ?v6u26) rfl (by kernel_rfl) (by kernel_rfl) (by kernel_rfl) (fun _ _ _ h => h) (Or.inl ⟨by rfl, ?y6u26⟩) (by assumption) ?r6u26
            case y6u26 => (intro w hSw; (try dsimp only at hSw); go_simp <;> with_reducible rfl)
            try simp only [List.getElem_toArray, List.getElem_cons_succ, List.getElem_cons_zero, Act.put, List.setIfInBounds_toArray, List.set_cons_zero, List.set_cons_succ]
            refine wpAnyH_take (i := 8) (oi := _) (v := ?v8u27) rfl (by kernel_rfl) (by kernel_rfl) (by kernel_rfl) (fun _ _ _ h => h) (Or.inl ⟨by rfl, ?y8u27⟩) (by assumption) ?r8u27
            case y8u27 => (intro w hSw; (try dsimp only at hSw); go_simp <;> with_reducible rfl)
            try simp only [List.getElem_toArray, List.getElem_cons_succ, List.getElem_cons_zero, Act.put, List.setIfInBounds_toArray, List.set_cons_zero, List.set_cons_succ]
            refine wpAnyH_ready (rs := [7]) (by kernel_rfl) (by simp) ?_
            refine AllReadyH.cons (o := _) rfl (fun K hK => ?_) AllReadyH.nil
            go_simp
            refine (hhd.out _ Hk8.out).mono ?_
            rintro e wz ⟨rfl, rfl⟩
            refine hK.out _ _ (HC.out _ Hk8.out) (fun hHeld2 => ?_)
            clear hK K hHeld
            have hHeld := hHeld2
            clear hHeld2
            try simp only [List.getElem_toArray, List.getElem_cons_succ, List.getElem_cons_zero, Act.put, List.setIfInBounds_toArray, List.set_cons_zero, List.set_cons_succ]
            refine wpAnyH_take (i := 9) (oi := _) (v := ?v9u28) rfl (by kernel_rfl) (by kernel_rfl) (by kernel_rfl) (fun _ _ _ h => h) (Or.inl ⟨by rfl, ?y9u28⟩) (by assumption) ?r9u28
            case y9u28 => (intro w hSw; (try dsimp only at hSw); go_simp <;> with_reducible rfl)
            try simp only [List.getElem_toArray, List.getElem_cons_succ, List.getElem_cons_zero, Act.put, List.setIfInBounds_toArray, List.set_cons_zero, List.set_cons_succ]
            refine wpAnyH_take (i := 10) (oi := _) (v := ?v10u29) rfl (by kernel_rfl) (by kernel_rfl) (by kernel_rfl) (fun _ _ _ h => h) (Or.inl ⟨by rfl, ?y10u29⟩) (by assumption) ?r10u29
            case y10u29 => (intro w hSw; (try dsimp only at hSw); go_simp <;> with_reducible rfl)
            try simp only [List.getElem_toArray, List.getElem_cons_succ, List.getElem_cons_zero, Act.put, List.setIfInBounds_toArray, List.set_cons_zero, List.set_cons_succ]
            refine wpAnyH_take (i := 11) (oi := _) (v := ?v11u30) rfl (by kernel_rfl) (by kernel_rfl) (by kernel_rfl) (fun _ _ _ h => h) (Or.inl ⟨by rfl, ?y11u30⟩) (by assumption) ?r11u30
            case y11u30 => (intro w hSw; (try dsimp only at hSw); go_simp <;> with_reducible rfl)
            try simp only [List.getElem_toArray, List.getElem_cons_succ, List.getElem_cons_zero, Act.put, List.setIfInBounds_toArray, List.set_cons_zero, List.set_cons_succ]
            refine wpAnyH_take (i := 12) (oi := _) (v := ?v12u31) rfl (by kernel_rfl) (by kernel_rfl) (by kernel_rfl) (fun _ _ _ h => h) (Or.inl ⟨by rfl, ?y12u31⟩) (by assumption) ?r12u31
            case y12u31 => (intro w hSw; (try dsimp only at hSw); go_simp <;> with_reducible rfl)
            try simp only [List.getElem_toArray, List.getElem_cons_succ, List.getElem_cons_zero, Act.put, List.setIfInBounds_toArray, List.set_cons_zero, List.set_cons_succ]
            refine wpAnyH_take (i := 13) (oi := _) (v := ?v13u32) rfl (by kernel_rfl) (by kernel_rfl) (by kernel_rfl) (fun _ _ _ h => h) (Or.inl ⟨by rfl, ?y13u32⟩) (by assumption) ?r13u32
            case y13u32 => (intro w hSw; (try dsimp only at hSw); go_simp <;> with_reducible rfl)
            try simp only [List.getElem_toArray, List.getElem_cons_succ, List.getElem_cons_zero, Act.put, List.setIfInBounds_toArray, List.set_cons_zero, List.set_cons_succ]
            refine wpAnyH_ready (rs := [14]) (by kernel_rfl) (by simp) ?_
            refine AllReadyH.cons (o := _) rfl (fun K hK => ?_) AllReadyH.nil
            go_simp
            refine (htm.out _ Hk8.out).mono ?_
            rintro e wz ⟨rfl, rfl⟩
            refine hK.out _ _ (HC.out _ Hk8.out) (fun hHeld2 => ?_)
            clear hK K hHeld
            have hHeld := hHeld2
            clear hHeld2
            try simp only [List.getElem_toArray, List.getElem_cons_succ, List.getElem_cons_zero, Act.put, List.setIfInBounds_toArray, List.set_cons_zero, List.set_cons_succ]
            refine wpAnyH_ready (rs := [15]) (by kernel_rfl) (by simp) ?_
            refine AllReadyH.cons (o := _) rfl (fun K hK => ?_) AllReadyH.nil
            go_simp
            refine (hpm.out _ Hk8.out).mono ?_
            rintro e w9 ⟨rfl, hk9⟩
            have Hk9 := Lib.hid (Hk8.out.trans hk9 (by simp))
            clear hk9
            refine hK.out _ _ (HC.out _ Hk9.out) (fun hHeld2 => ?_)
            clear hK K hHeld
            have hHeld := hHeld2
            clear hHeld2
            try simp only [List.getElem_toArray, List.getElem_cons_succ, List.getElem_cons_zero, Act.put, List.setIfInBounds_toArray, List.set_cons_zero, List.set_cons_succ]
            refine wpAnyH_take (i := 16) (oi := _) (v := ?v16u33) rfl (by kernel_rfl) (by kernel_rfl) (by kernel_rfl) (fun _ _ _ h => h) (Or.inl ⟨by rfl, ?y16u33⟩) (by assumption) ?r16u33
            case y16u33 => (intro w hSw; (try dsimp only at hSw); go_simp <;> with_reducible rfl)
            try simp only [List.getElem_toArray, List.getElem_cons_succ, List.getElem_cons_zero, Act.put, List.setIfInBounds_toArray, List.set_cons_zero, List.set_cons_succ]
            refine wpAnyH_take (i := 17) (oi := _) (v := ?v17u34) rfl (by kernel_rfl) (by kernel_rfl) (by kernel_rfl) (fun _ _ _ h => h) (Or.inl ⟨by rfl, ?y17u34⟩) (by assumption) ?r17u34
            case y17u34 => (intro w hSw; (try dsimp only at hSw); go_simp <;> with_reducible rfl)
            try simp only [List.getElem_toArray, List.getElem_cons_succ, List.getElem_cons_zero, Act.put, List.setIfInBounds_toArray, List.set_cons_zero, List.set_cons_succ]
            refine wpAnyH_take (i := 18) (oi := _) (v := ?v18u35) rfl (by kernel_rfl) (by kernel_rfl) (by kernel_rfl) (fun _ _ _ h => h) (Or.inl ⟨by rfl, ?y18u35⟩) (by assumption) ?r18u35
            case y18u35 => (intro w hSw; (try dsimp only at hSw); go_simp <;> with_reducible rfl)
            try simp only [List.getElem_toArray, List.getElem_cons_succ, List.getElem_cons_zero, Act.put, List.setIfInBounds_toArray, List.set_cons_zero, List.set_cons_succ]
            refine wpAnyH_take (i := 19) (oi := _) (v := ?v19u36) rfl (by kernel_rfl) (by kernel_rfl) (by kernel_rfl) (fun _ _ _ h => h) (Or.inl ⟨by rfl, ?y19u36⟩) (by assumption) ?r19u36
            case y19u36 => (intro w hSw; (try dsimp only at hSw); go_simp <;> with_reducible rfl)
            try simp only [List.getElem_toArray, List.getElem_cons_succ, List.getElem_cons_zero, Act.put, List.setIfInBounds_toArray, List.set_cons_zero, List.set_cons_succ]
            refine wpAnyH_take (i := 20) (oi := _) (v := ?v20u37) rfl (by kernel_rfl) (by kernel_rfl) (by kernel_rfl) (fun _ _ _ h => h) (Or.inl ⟨by rfl, ?y20u37⟩) (by assumption) ?r20u37
            case y20u37 => (intro w hSw; (try dsimp only at hSw); go_simp <;> with_reducible rfl)
            try simp only [List.getElem_toArray, List.getElem_cons_succ, List.getElem_cons_zero, Act.put, List.setIfInBounds_toArray, List.set_cons_zero, List.set_cons_succ]
            refine wpAnyH_take (i := 22) (oi := _) (v := ?v22u38) rfl (by kernel_rfl) (by kernel_rfl) (by kernel_rfl) (fun _ _ _ h => h) (Or.inl ⟨by rfl, ?y22u38⟩) (by assumption) ?r22u38
            case y22u38 => (intro w hSw; (try dsimp only at hSw); go_simp <;> with_reducible rfl)
            try simp only [List.getElem_toArray, List.getElem_cons_succ, List.getElem_cons_zero, Act.put, List.setIfInBounds_toArray, List.set_cons_zero, List.set_cons_succ]
            refine wpAnyH_take (i := 23) (oi := _) (v := ?v23u39) rfl (by kernel_rfl) (by kernel_rfl) (by kernel_rfl) (fun _ _ _ h => h) (Or.inl ⟨by rfl, ?y23u39⟩) (by assumption) ?r23u39
            case y23u39 => (intro w hSw; (try dsimp only at hSw); go_simp <;> with_reducible rfl)
            try simp only [List.getElem_toArray, List.getElem_cons_succ, List.getElem_cons_zero, Act.put, List.setIfInBounds_toArray, List.set_cons_zero, List.set_cons_succ]
            refine wpAnyH_ready (rs := [21]) (by kernel_rfl) (by simp) ?_
            refine AllReadyH.cons (o := _) rfl (fun K hK => ?_) AllReadyH.nil
            go_simp
            refine (htm.out _ Hk9.out).mono ?_
            rintro e wz ⟨rfl, rfl⟩
            refine hK.out _ _ (HC.out _ Hk9.out) (fun hHeld2 => ?_)
            clear hK K hHeld
            have hHeld := hHeld2
            clear hHeld2
            try simp only [List.getElem_toArray, List.getElem_cons_succ, List.getElem_cons_zero, Act.put, List.setIfInBounds_toArray, List.set_cons_zero, List.set_cons_succ]
            refine wpAnyH_take (i := 24) (oi := _) (v := ?v24u40) rfl (by kernel_rfl) (by kernel_rfl) (by kernel_rfl) (fun _ _ _ h => h) (Or.inl ⟨by rfl, ?y24u40⟩) (by assumption) ?r24u40
            case y24u40 => (intro w hSw; (try dsimp only at hSw); go_simp <;> with_reducible rfl)
            try simp only [List.getElem_toArray, List.getElem_cons_succ, List.getElem_cons_zero, Act.put, List.setIfInBounds_toArray, List.set_cons_zero, List.set_cons_succ]
            refine wpAnyH_take (i := 25) (oi := _) (v := ?v25u41) rfl (by kernel_rfl) (by kernel_rfl) (by kernel_rfl) (fun _ _ _ h => h) (Or.inl ⟨by rfl, ?y25u41⟩) (by assumption) ?r25u41
            case y25u41 => (intro w hSw; (try dsimp only at hSw); go_simp <;> with_reducible rfl)
            try simp only [List.getElem_toArray, List.getElem_cons_succ, List.getElem_cons_zero, Act.put, List.setIfInBounds_toArray, List.set_cons_zero, List.set_cons_succ]
            refine wpAnyH_take (i := 26) (oi := _) (v := ?v26u42) rfl (by kernel_rfl) (by kernel_rfl) (by kernel_rfl) (fun _ _ _ h => h) (Or.inl ⟨by rfl, ?y26u42⟩) (by assumption) ?r26u42
            case y26u42 => (intro w hSw; (try dsimp only at hSw); go_simp <;> with_reducible rfl)
            try simp only [List.getElem_toArray, List.getElem_cons_succ, List.getElem_cons_zero, Act.put, List.setIfInBounds_toArray, List.set_cons_zero, List.set_cons_succ]
            refine wpAnyH_done (by kernel_rfl) ?_ _
            have HSz := Lib.hid (HSy.out.keep0 Hk9.out); have HAz := Lib.hid (HA6.out.keep Hk9.out (by simp)); have HKz := Lib.hid (HK6.out.trans Hk9.out (by simp))
            clear hlg hhd htm hpm hls HC Hk7 Hk8 Hk9 HSy HA6 HK6 hHeld
            go_wp2_with fail
            go_roundw
            case rel => exact ⟨j + 1, n', Y', ⟨t, t, al⟩, b', by go_num, by omega, HSz, HVy, HAz, HG6, HKz⟩
            case measure => simp [intOf] <;> omega
          · have f5 : decide ((x.log.length : Int) < (al.length : Int)) = false := decide_eq_false (by omega)
            have f5n : decide (x.log.length < al.length) = false := decide_eq_false h5
            have hw9 : accW x t al = ⟨t, x.h, x.log⟩ := if_neg (fun h => by rcases h with h | h <;> omega)
            rw [hw9] at HS6 HV6
            have HSy := HS6; have HVy := HV6; have HLV := HL6
            clear HS6 HV6 HL6 HE6 hw9 h4 h5
            have hyok := HSy.out.ok
            try simp only [] at hyok
            have hsm : Hid (x.log.length ≤ 1048576 ∧ ∀ e ∈ x.log, e.ds.length ≤ 1048576) := ⟨Nat.le_trans hyok.2.2.1 (by omega), fun e he => by have := eok_ds8 (hyok.2.2.2 e he); omega⟩
            have hyt : (t : Int) ≤ 9223372036854775807 := by have := hyok.1; omega
            clear hyok
            have hlg : Hid (∀ W, Keeps [] w6 W → Calls Tryz.prog 33 #[.pointer (some ⟨s, 0, none⟩)] W fun e w' => EnsPost x.log W e w') := fun W hk => vlog_any (x := ⟨t, x.h, x.log⟩) W (HSy.out.keep0 hk)
            have hhd : Hid (∀ W, Keeps [] w6 W → Calls Tryz.prog 32 #[.pointer (some ⟨s, 0, none⟩)] W fun e w' => e = .returned (.int .i64 x.h) ∧ W = w') := fun W hk => vhad_any (x := ⟨t, x.h, x.log⟩) W (HSy.out.keep0 hk)
            have htm : Hid (∀ W, Keeps [] w6 W → Calls Tryz.prog 31 #[.pointer (some ⟨s, 0, none⟩)] W fun e w' => e = .returned (.int .i64 t) ∧ W = w') := fun W hk => vterm_any (x := ⟨t, x.h, x.log⟩) W (HSy.out.keep0 hk)
            have hpm : Hid (∀ W, Keeps [] w6 W → Calls Tryz.prog 36 #[.pointer (some ⟨s, 0, none⟩), .int .i64 t] W fun e w' => e = .returned (.bool false) ∧ Keeps [] W w') := fun W hk => by
              refine (vpromise_any s p Y' ⟨t, x.h, x.log⟩ d b'.length n' b' W (HSy.out.keep0 hk) t hyt m (hkeepm.out W (HK6.out.trans hk (by simp)))).mono ?_
              intro e w' h
              unfold PmPost at h
              rw [if_neg (by simp)] at h
              exact h
            have hls : Hid (∀ W va, Keeps [] w6 W → Ens W [] va x.log → Calls Tryz.prog 38 #[va, .slice A5 x.log.length x.log.length] W fun r w' => r = .returned (.bool true) ∧ Below W.heap.size W w') := fun W va hk hva => rlogs_eq va _ x.log W hva (HLV.out.keep hk (by simp)) hsm.out
            have HC : Hid (∀ W, Keeps [] w6 W → (fun W => W.cell? ⟨ga4, 1, none⟩ = some (.int .i64 t)) W) := fun W hk => (hk.blk HB6.out (by simp)).cell 1
            go_upto_region 13 with (fail)
            refine wp_region_held_drew (S := (fun W => W.cell? ⟨ga4, 1, none⟩ = some (.int .i64 t))) (by kernel_rfl) (HC.out _ (Keeps.refl _ _).drew) (fun hHeld => ?_)
            refine wpAnyH_take (i := 0) (oi := _) (v := ?v0u43) rfl (by kernel_rfl) (by kernel_rfl) (by kernel_rfl) (fun _ _ _ h => h) (Or.inl ⟨by rfl, ?y0u43⟩) (by assumption) ?r0u43
            case y0u43 => (intro w hSw; (try dsimp only at hSw); go_simp <;> with_reducible rfl)
            try simp only [List.getElem_toArray, List.getElem_cons_succ, List.getElem_cons_zero, Act.put, List.setIfInBounds_toArray, List.set_cons_zero, List.set_cons_succ]
            refine wpAnyH_take (i := 2) (oi := _) (v := ?v2u44) rfl (by kernel_rfl) (by kernel_rfl) (by kernel_rfl) (fun _ _ _ h => h) (Or.inl ⟨by rfl, ?y2u44⟩) (by assumption) ?r2u44
            case y2u44 => (intro w hSw; (try dsimp only at hSw); go_simp <;> with_reducible rfl)
            try simp only [List.getElem_toArray, List.getElem_cons_succ, List.getElem_cons_zero, Act.put, List.setIfInBounds_toArray, List.set_cons_zero, List.set_cons_succ]
            refine wpAnyH_ready (rs := [1]) (by kernel_rfl) (by simp) ?_
            refine AllReadyH.cons (o := _) rfl (fun K hK => ?_) AllReadyH.nil
            go_simp
            refine (hlg.out _ (Keeps.refl _ _).drew).mono ?_
            rintro e w7 ⟨A7, rfl, hE7, hk7⟩
            have Hk7 : Hid (Keeps [] w6 w7) := (Keeps.refl _ _).drew.trans hk7 (by simp)
            have HE7 := Lib.hid (hE7 [] (by simp))
            clear hk7 hE7
            refine hK.out _ _ (HC.out _ Hk7.out) (fun hHeld2 => ?_)
            clear hK K hHeld
            have hHeld := hHeld2
            clear hHeld2
            try simp only [List.getElem_toArray, List.getElem_cons_succ, List.getElem_cons_zero, Act.put, List.setIfInBounds_toArray, List.set_cons_zero, List.set_cons_succ]
            refine wpAnyH_ready (rs := [3]) (by kernel_rfl) (by simp) ?_
            refine AllReadyH.cons (o := _) rfl (fun K hK => ?_) AllReadyH.nil
            go_simp
            refine (hls.out _ _ Hk7.out HE7.out).mono ?_
            rintro e w8 ⟨rfl, hb8⟩
            have Hk8 := Lib.hid (Hk7.out.trans (Keeps.of_below (M := []) hb8) (by simp))
            clear hb8 HE7
            refine hK.out _ _ (HC.out _ Hk8.out) (fun hHeld2 => ?_)
            clear hK K hHeld
            have hHeld := hHeld2
            clear hHeld2
            try simp only [List.getElem_toArray, List.getElem_cons_succ, List.getElem_cons_zero, Act.put, List.setIfInBounds_toArray, List.set_cons_zero, List.set_cons_succ]
            refine wpAnyH_take (i := 4) (oi := _) (v := ?v4u45) rfl (by kernel_rfl) (by kernel_rfl) (by kernel_rfl) (fun _ _ _ h => h) (Or.inl ⟨by rfl, ?y4u45⟩) (by assumption) ?r4u45
            case y4u45 => (intro w hSw; (try dsimp only at hSw); go_simp <;> with_reducible rfl)
            try simp only [List.getElem_toArray, List.getElem_cons_succ, List.getElem_cons_zero, Act.put, List.setIfInBounds_toArray, List.set_cons_zero, List.set_cons_succ]
            refine wpAnyH_take (i := 5) (oi := _) (v := ?v5u46) rfl (by kernel_rfl) (by kernel_rfl) (by kernel_rfl) (fun _ _ _ h => h) (Or.inl ⟨by rfl, ?y5u46⟩) (by assumption) ?r5u46
            case y5u46 => (intro w hSw; (try dsimp only at hSw); go_simp <;> with_reducible rfl)
            try simp only [List.getElem_toArray, List.getElem_cons_succ, List.getElem_cons_zero, Act.put, List.setIfInBounds_toArray, List.set_cons_zero, List.set_cons_succ]
            refine wpAnyH_take (i := 6) (oi := _) (v := ?v6u47) rfl (by kernel_rfl) (by kernel_rfl) (by kernel_rfl) (fun _ _ _ h => h) (Or.inl ⟨by rfl, ?y6u47⟩) (by assumption) ?r6u47
            case y6u47 => (intro w hSw; (try dsimp only at hSw); go_simp <;> with_reducible rfl)
            try simp only [List.getElem_toArray, List.getElem_cons_succ, List.getElem_cons_zero, Act.put, List.setIfInBounds_toArray, List.set_cons_zero, List.set_cons_succ]
            refine wpAnyH_take (i := 8) (oi := _) (v := ?v8u48) rfl (by kernel_rfl) (by kernel_rfl) (by kernel_rfl) (fun _ _ _ h => h) (Or.inl ⟨by rfl, ?y8u48⟩) (by assumption) ?r8u48
            case y8u48 => (intro w hSw; (try dsimp only at hSw); go_simp <;> with_reducible rfl)
            try simp only [List.getElem_toArray, List.getElem_cons_succ, List.getElem_cons_zero, Act.put, List.setIfInBounds_toArray, List.set_cons_zero, List.set_cons_succ]
            refine wpAnyH_ready (rs := [7]) (by kernel_rfl) (by simp) ?_
            refine AllReadyH.cons (o := _) rfl (fun K hK => ?_) AllReadyH.nil
            go_simp
            refine (hhd.out _ Hk8.out).mono ?_
            rintro e wz ⟨rfl, rfl⟩
            refine hK.out _ _ (HC.out _ Hk8.out) (fun hHeld2 => ?_)
            clear hK K hHeld
            have hHeld := hHeld2
            clear hHeld2
            try simp only [List.getElem_toArray, List.getElem_cons_succ, List.getElem_cons_zero, Act.put, List.setIfInBounds_toArray, List.set_cons_zero, List.set_cons_succ]
            refine wpAnyH_take (i := 9) (oi := _) (v := ?v9u49) rfl (by kernel_rfl) (by kernel_rfl) (by kernel_rfl) (fun _ _ _ h => h) (Or.inl ⟨by rfl, ?y9u49⟩) (by assumption) ?r9u49
            case y9u49 => (intro w hSw; (try dsimp only at hSw); go_simp <;> with_reducible rfl)
            try simp only [List.getElem_toArray, List.getElem_cons_succ, List.getElem_cons_zero, Act.put, List.setIfInBounds_toArray, List.set_cons_zero, List.set_cons_succ]
            refine wpAnyH_take (i := 10) (oi := _) (v := ?v10u50) rfl (by kernel_rfl) (by kernel_rfl) (by kernel_rfl) (fun _ _ _ h => h) (Or.inl ⟨by rfl, ?y10u50⟩) (by assumption) ?r10u50
            case y10u50 => (intro w hSw; (try dsimp only at hSw); go_simp <;> with_reducible rfl)
            try simp only [List.getElem_toArray, List.getElem_cons_succ, List.getElem_cons_zero, Act.put, List.setIfInBounds_toArray, List.set_cons_zero, List.set_cons_succ]
            refine wpAnyH_take (i := 11) (oi := _) (v := ?v11u51) rfl (by kernel_rfl) (by kernel_rfl) (by kernel_rfl) (fun _ _ _ h => h) (Or.inl ⟨by rfl, ?y11u51⟩) (by assumption) ?r11u51
            case y11u51 => (intro w hSw; (try dsimp only at hSw); go_simp <;> with_reducible rfl)
            try simp only [List.getElem_toArray, List.getElem_cons_succ, List.getElem_cons_zero, Act.put, List.setIfInBounds_toArray, List.set_cons_zero, List.set_cons_succ]
            refine wpAnyH_take (i := 12) (oi := _) (v := ?v12u52) rfl (by kernel_rfl) (by kernel_rfl) (by kernel_rfl) (fun _ _ _ h => h) (Or.inl ⟨by rfl, ?y12u52⟩) (by assumption) ?r12u52
            case y12u52 => (intro w hSw; (try dsimp only at hSw); go_simp <;> with_reducible rfl)
            try simp only [List.getElem_toArray, List.getElem_cons_succ, List.getElem_cons_zero, Act.put, List.setIfInBounds_toArray, List.set_cons_zero, List.set_cons_succ]
            refine wpAnyH_take (i := 13) (oi := _) (v := ?v13u53) rfl (by kernel_rfl) (by kernel_rfl) (by kernel_rfl) (fun _ _ _ h => h) (Or.inl ⟨by rfl, ?y13u53⟩) (by assumption) ?r13u53
            case y13u53 => (intro w hSw; (try dsimp only at hSw); go_simp <;> with_reducible rfl)
            try simp only [List.getElem_toArray, List.getElem_cons_succ, List.getElem_cons_zero, Act.put, List.setIfInBounds_toArray, List.set_cons_zero, List.set_cons_succ]
            refine wpAnyH_ready (rs := [14]) (by kernel_rfl) (by simp) ?_
            refine AllReadyH.cons (o := _) rfl (fun K hK => ?_) AllReadyH.nil
            go_simp
            refine (htm.out _ Hk8.out).mono ?_
            rintro e wz ⟨rfl, rfl⟩
            refine hK.out _ _ (HC.out _ Hk8.out) (fun hHeld2 => ?_)
            clear hK K hHeld
            have hHeld := hHeld2
            clear hHeld2
            try simp only [List.getElem_toArray, List.getElem_cons_succ, List.getElem_cons_zero, Act.put, List.setIfInBounds_toArray, List.set_cons_zero, List.set_cons_succ]
            refine wpAnyH_ready (rs := [15]) (by kernel_rfl) (by simp) ?_
            refine AllReadyH.cons (o := _) rfl (fun K hK => ?_) AllReadyH.nil
            go_simp
            refine (hpm.out _ Hk8.out).mono ?_
            rintro e w9 ⟨rfl, hk9⟩
            have Hk9 := Lib.hid (Hk8.out.trans hk9 (by simp))
            clear hk9
            refine hK.out _ _ (HC.out _ Hk9.out) (fun hHeld2 => ?_)
            clear hK K hHeld
            have hHeld := hHeld2
            clear hHeld2
            try simp only [List.getElem_toArray, List.getElem_cons_succ, List.getElem_cons_zero, Act.put, List.setIfInBounds_toArray, List.set_cons_zero, List.set_cons_succ]
            refine wpAnyH_take (i := 16) (oi := _) (v := ?v16u54) rfl (by kernel_rfl) (by kernel_rfl) (by kernel_rfl) (fun _ _ _ h => h) (Or.inl ⟨by rfl, ?y16u54⟩) (by assumption) ?r16u54
            case y16u54 => (intro w hSw; (try dsimp only at hSw); go_simp <;> with_reducible rfl)
            try simp only [List.getElem_toArray, List.getElem_cons_succ, List.getElem_cons_zero, Act.put, List.setIfInBounds_toArray, List.set_cons_zero, List.set_cons_succ]
            refine wpAnyH_take (i := 17) (oi := _) (v := ?v17u55) rfl (by kernel_rfl) (by kernel_rfl) (by kernel_rfl) (fun _ _ _ h => h) (Or.inl ⟨by rfl, ?y17u55⟩) (by assumption) ?r17u55
            case y17u55 => (intro w hSw; (try dsimp only at hSw); go_simp <;> with_reducible rfl)
            try simp only [List.getElem_toArray, List.getElem_cons_succ, List.getElem_cons_zero, Act.put, List.setIfInBounds_toArray, List.set_cons_zero, List.set_cons_succ]
            refine wpAnyH_take (i := 18) (oi := _) (v := ?v18u56) rfl (by kernel_rfl) (by kernel_rfl) (by kernel_rfl) (fun _ _ _ h => h) (Or.inl ⟨by rfl, ?y18u56⟩) (by assumption) ?r18u56
            case y18u56 => (intro w hSw; (try dsimp only at hSw); go_simp <;> with_reducible rfl)
            try simp only [List.getElem_toArray, List.getElem_cons_succ, List.getElem_cons_zero, Act.put, List.setIfInBounds_toArray, List.set_cons_zero, List.set_cons_succ]
            refine wpAnyH_take (i := 19) (oi := _) (v := ?v19u57) rfl (by kernel_rfl) (by kernel_rfl) (by kernel_rfl) (fun _ _ _ h => h) (Or.inl ⟨by rfl, ?y19u57⟩) (by assumption) ?r19u57
            case y19u57 => (intro w hSw; (try dsimp only at hSw); go_simp <;> with_reducible rfl)
            try simp only [List.getElem_toArray, List.getElem_cons_succ, List.getElem_cons_zero, Act.put, List.setIfInBounds_toArray, List.set_cons_zero, List.set_cons_succ]
            refine wpAnyH_take (i := 20) (oi := _) (v := ?v20u58) rfl (by kernel_rfl) (by kernel_rfl) (by kernel_rfl) (fun _ _ _ h => h) (Or.inl ⟨by rfl, ?y20u58⟩) (by assumption) ?r20u58
            case y20u58 => (intro w hSw; (try dsimp only at hSw); go_simp <;> with_reducible rfl)
            try simp only [List.getElem_toArray, List.getElem_cons_succ, List.getElem_cons_zero, Act.put, List.setIfInBounds_toArray, List.set_cons_zero, List.set_cons_succ]
            refine wpAnyH_take (i := 22) (oi := _) (v := ?v22u59) rfl (by kernel_rfl) (by kernel_rfl) (by kernel_rfl) (fun _ _ _ h => h) (Or.inl ⟨by rfl, ?y22u59⟩) (by assumption) ?r22u59
            case y22u59 => (intro w hSw; (try dsimp only at hSw); go_simp <;> with_reducible rfl)
            try simp only [List.getElem_toArray, List.getElem_cons_succ, List.getElem_cons_zero, Act.put, List.setIfInBounds_toArray, List.set_cons_zero, List.set_cons_succ]
            refine wpAnyH_take (i := 23) (oi := _) (v := ?v23u60) rfl (by kernel_rfl) (by kernel_rfl) (by kernel_rfl) (fun _ _ _ h => h) (Or.inl ⟨by rfl, ?y23u60⟩) (by assumption) ?r23u60
            case y23u60 => (intro w hSw; (try dsimp only at hSw); go_simp <;> with_reducible rfl)
            try simp only [List.getElem_toArray, List.getElem_cons_succ, List.getElem_cons_zero, Act.put, List.setIfInBounds_toArray, List.set_cons_zero, List.set_cons_succ]
            refine wpAnyH_ready (rs := [21]) (by kernel_rfl) (by simp) ?_
            refine AllReadyH.cons (o := _) rfl (fun K hK => ?_) AllReadyH.nil
            go_simp
            refine (htm.out _ Hk9.out).mono ?_
            rintro e wz ⟨rfl, rfl⟩
            refine hK.out _ _ (HC.out _ Hk9.out) (fun hHeld2 => ?_)
            clear hK K hHeld
            have hHeld := hHeld2
            clear hHeld2
            try simp only [List.getElem_toArray, List.getElem_cons_succ, List.getElem_cons_zero, Act.put, List.setIfInBounds_toArray, List.set_cons_zero, List.set_cons_succ]
            refine wpAnyH_take (i := 24) (oi := _) (v := ?v24u61) rfl (by kernel_rfl) (by kernel_rfl) (by kernel_rfl) (fun _ _ _ h => h) (Or.inl ⟨by rfl, ?y24u61⟩) (by assumption) ?r24u61
            case y24u61 => (intro w hSw; (try dsimp only at hSw); go_simp <;> with_reducible rfl)
            try simp only [List.getElem_toArray, List.getElem_cons_succ, List.getElem_cons_zero, Act.put, List.setIfInBounds_toArray, List.set_cons_zero, List.set_cons_succ]
            refine wpAnyH_take (i := 25) (oi := _) (v := ?v25u62) rfl (by kernel_rfl) (by kernel_rfl) (by kernel_rfl) (fun _ _ _ h => h) (Or.inl ⟨by rfl, ?y25u62⟩) (by assumption) ?r25u62
            case y25u62 => (intro w hSw; (try dsimp only at hSw); go_simp <;> with_reducible rfl)
            try simp only [List.getElem_toArray, List.getElem_cons_succ, List.getElem_cons_zero, Act.put, List.setIfInBounds_toArray, List.set_cons_zero, List.set_cons_succ]
            refine wpAnyH_take (i := 26) (oi := _) (v := ?v26u63) rfl (by kernel_rfl) (by kernel_rfl) (by kernel_rfl) (fun _ _ _ h => h) (Or.inl ⟨by rfl, ?y26u63⟩) (by assumption) ?r26u63
            case y26u63 => (intro w hSw; (try dsimp only at hSw); go_simp <;> with_reducible rfl)
            try simp only [List.getElem_toArray, List.getElem_cons_succ, List.getElem_cons_zero, Act.put, List.setIfInBounds_toArray, List.set_cons_zero, List.set_cons_succ]
            refine wpAnyH_done (by kernel_rfl) ?_ _
            have HSz := Lib.hid (HSy.out.keep0 Hk9.out); have HAz := Lib.hid (HA6.out.keep Hk9.out (by simp)); have HKz := Lib.hid (HK6.out.trans Hk9.out (by simp))
            clear hlg hhd htm hpm hls HC Hk7 Hk8 Hk9 HSy HA6 HK6 hHeld
            go_wp2_with fail
            go_roundw
            case rel => exact ⟨j + 1, n', Y', ⟨t, x.h, x.log⟩, b', by go_num, by omega, HSz, HVy, HAz, HG6, HKz⟩
            case measure => simp [intOf] <;> omega
      · have hyx : nextA x ⟨ak, t, al⟩ = x := by unfold nextA; rw [if_neg hokk]
        rw [hyx] at HS6 HV6
        rw [show decide (((x.t : Int) ≤ (⟨ak, t, al⟩ : AskD).t) ∧ 1 ≤ (⟨ak, t, al⟩ : AskD).t) = false from decide_eq_false hokk]
        have HSy := HS6; have HVy := HV6; have HLV := HL6
        clear HS6 HV6 HL6 HE6 hyx
        by_cases hle : x.t ≤ t
        · have f1 : decide ((x.t : Int) ≤ (t : Int)) = true := decide_eq_true (by omega)
          have f1n : decide (x.t ≤ t) = true := decide_eq_true hle
          have f2 : decide ((0 : Int) < (t : Int)) = false := decide_eq_false (by omega)
          have f2n : decide (0 < t) = false := decide_eq_false (by omega)
          clear hokk
          have hyok := HSy.out.ok
          try simp only [] at hyok
          have hsm : Hid (x.log.length ≤ 1048576 ∧ ∀ e ∈ x.log, e.ds.length ≤ 1048576) := ⟨Nat.le_trans hyok.2.2.1 (by omega), fun e he => by have := eok_ds8 (hyok.2.2.2 e he); omega⟩
          have hyt : (x.t : Int) ≤ 9223372036854775807 := by have := hyok.1; omega
          clear hyok
          have hlg : Hid (∀ W, Keeps [] w6 W → Calls Tryz.prog 33 #[.pointer (some ⟨s, 0, none⟩)] W fun e w' => EnsPost x.log W e w') := fun W hk => vlog_any (x := x) W (HSy.out.keep0 hk)
          have hhd : Hid (∀ W, Keeps [] w6 W → Calls Tryz.prog 32 #[.pointer (some ⟨s, 0, none⟩)] W fun e w' => e = .returned (.int .i64 x.h) ∧ W = w') := fun W hk => vhad_any (x := x) W (HSy.out.keep0 hk)
          have htm : Hid (∀ W, Keeps [] w6 W → Calls Tryz.prog 31 #[.pointer (some ⟨s, 0, none⟩)] W fun e w' => e = .returned (.int .i64 x.t) ∧ W = w') := fun W hk => vterm_any (x := x) W (HSy.out.keep0 hk)
          have hpm : Hid (∀ W, Keeps [] w6 W → Calls Tryz.prog 36 #[.pointer (some ⟨s, 0, none⟩), .int .i64 x.t] W fun e w' => e = .returned (.bool false) ∧ Keeps [] W w') := fun W hk => by
            refine (vpromise_any s p Y' x d b'.length n' b' W (HSy.out.keep0 hk) x.t hyt m (hkeepm.out W (HK6.out.trans hk (by simp)))).mono ?_
            intro e w' h
            unfold PmPost at h
            rw [if_neg (by simp)] at h
            exact h
          have hls : Hid (∀ W va, Keeps [] w6 W → Ens W [] va x.log → Calls Tryz.prog 38 #[va, .slice A5 x.log.length x.log.length] W fun r w' => r = .returned (.bool true) ∧ Below W.heap.size W w') := fun W va hk hva => rlogs_eq va _ x.log W hva (HLV.out.keep hk (by simp)) hsm.out
          have HC : Hid (∀ W, Keeps [] w6 W → (fun W => W.cell? ⟨ga4, 1, none⟩ = some (.int .i64 t)) W) := fun W hk => (hk.blk HB6.out (by simp)).cell 1
          go_upto_region 13 with (fail)
          refine wp_region_held_drew (S := (fun W => W.cell? ⟨ga4, 1, none⟩ = some (.int .i64 t))) (by kernel_rfl) (HC.out _ (Keeps.refl _ _).drew) (fun hHeld => ?_)
          refine wpAnyH_take (i := 0) (oi := _) (v := ?v0u64) rfl (by kernel_rfl) (by kernel_rfl) (by kernel_rfl) (fun _ _ _ h => h) (Or.inl ⟨by rfl, ?y0u64⟩) (by assumption) ?r0u64
          case y0u64 => (intro w hSw; (try dsimp only at hSw); go_simp <;> with_reducible rfl)
          try simp only [List.getElem_toArray, List.getElem_cons_succ, List.getElem_cons_zero, Act.put, List.setIfInBounds_toArray, List.set_cons_zero, List.set_cons_succ]
          refine wpAnyH_take (i := 2) (oi := _) (v := ?v2u65) rfl (by kernel_rfl) (by kernel_rfl) (by kernel_rfl) (fun _ _ _ h => h) (Or.inl ⟨by rfl, ?y2u65⟩) (by assumption) ?r2u65
          case y2u65 => (intro w hSw; (try dsimp only at hSw); go_simp <;> with_reducible rfl)
          try simp only [List.getElem_toArray, List.getElem_cons_succ, List.getElem_cons_zero, Act.put, List.setIfInBounds_toArray, List.set_cons_zero, List.set_cons_succ]
          refine wpAnyH_ready (rs := [1]) (by kernel_rfl) (by simp) ?_
          refine AllReadyH.cons (o := _) rfl (fun K hK => ?_) AllReadyH.nil
          go_simp
          refine (hlg.out _ (Keeps.refl _ _).drew).mono ?_
          rintro e w7 ⟨A7, rfl, hE7, hk7⟩
          have Hk7 : Hid (Keeps [] w6 w7) := (Keeps.refl _ _).drew.trans hk7 (by simp)
          have HE7 := Lib.hid (hE7 [] (by simp))
          clear hk7 hE7
          refine hK.out _ _ (HC.out _ Hk7.out) (fun hHeld2 => ?_)
          clear hK K hHeld
          have hHeld := hHeld2
          clear hHeld2
          try simp only [List.getElem_toArray, List.getElem_cons_succ, List.getElem_cons_zero, Act.put, List.setIfInBounds_toArray, List.set_cons_zero, List.set_cons_succ]
          refine wpAnyH_ready (rs := [3]) (by kernel_rfl) (by simp) ?_
          refine AllReadyH.cons (o := _) rfl (fun K hK => ?_) AllReadyH.nil
          go_simp
          refine (hls.out _ _ Hk7.out HE7.out).mono ?_
          rintro e w8 ⟨rfl, hb8⟩
          have Hk8 := Lib.hid (Hk7.out.trans (Keeps.of_below (M := []) hb8) (by simp))
          clear hb8 HE7
          refine hK.out _ _ (HC.out _ Hk8.out) (fun hHeld2 => ?_)
          clear hK K hHeld
          have hHeld := hHeld2
          clear hHeld2
          try simp only [List.getElem_toArray, List.getElem_cons_succ, List.getElem_cons_zero, Act.put, List.setIfInBounds_toArray, List.set_cons_zero, List.set_cons_succ]
          refine wpAnyH_take (i := 4) (oi := _) (v := ?v4u66) rfl (by kernel_rfl) (by kernel_rfl) (by kernel_rfl) (fun _ _ _ h => h) (Or.inl ⟨by rfl, ?y4u66⟩) (by assumption) ?r4u66
          case y4u66 => (intro w hSw; (try dsimp only at hSw); go_simp <;> with_reducible rfl)
          try simp only [List.getElem_toArray, List.getElem_cons_succ, List.getElem_cons_zero, Act.put, List.setIfInBounds_toArray, List.set_cons_zero, List.set_cons_succ]
          refine wpAnyH_take (i := 5) (oi := _) (v := ?v5u67) rfl (by kernel_rfl) (by kernel_rfl) (by kernel_rfl) (fun _ _ _ h => h) (Or.inl ⟨by rfl, ?y5u67⟩) (by assumption) ?r5u67
          case y5u67 => (intro w hSw; (try dsimp only at hSw); go_simp <;> with_reducible rfl)
          try simp only [List.getElem_toArray, List.getElem_cons_succ, List.getElem_cons_zero, Act.put, List.setIfInBounds_toArray, List.set_cons_zero, List.set_cons_succ]
          refine wpAnyH_take (i := 6) (oi := _) (v := ?v6u68) rfl (by kernel_rfl) (by kernel_rfl) (by kernel_rfl) (fun _ _ _ h => h) (Or.inl ⟨by rfl, ?y6u68⟩) (by assumption) ?r6u68
          case y6u68 => (intro w hSw; (try dsimp only at hSw); go_simp <;> with_reducible rfl)
          try simp only [List.getElem_toArray, List.getElem_cons_succ, List.getElem_cons_zero, Act.put, List.setIfInBounds_toArray, List.set_cons_zero, List.set_cons_succ]
          refine wpAnyH_take (i := 8) (oi := _) (v := ?v8u69) rfl (by kernel_rfl) (by kernel_rfl) (by kernel_rfl) (fun _ _ _ h => h) (Or.inl ⟨by rfl, ?y8u69⟩) (by assumption) ?r8u69
          case y8u69 => (intro w hSw; (try dsimp only at hSw); go_simp <;> with_reducible rfl)
          try simp only [List.getElem_toArray, List.getElem_cons_succ, List.getElem_cons_zero, Act.put, List.setIfInBounds_toArray, List.set_cons_zero, List.set_cons_succ]
          refine wpAnyH_ready (rs := [7]) (by kernel_rfl) (by simp) ?_
          refine AllReadyH.cons (o := _) rfl (fun K hK => ?_) AllReadyH.nil
          go_simp
          refine (hhd.out _ Hk8.out).mono ?_
          rintro e wz ⟨rfl, rfl⟩
          refine hK.out _ _ (HC.out _ Hk8.out) (fun hHeld2 => ?_)
          clear hK K hHeld
          have hHeld := hHeld2
          clear hHeld2
          try simp only [List.getElem_toArray, List.getElem_cons_succ, List.getElem_cons_zero, Act.put, List.setIfInBounds_toArray, List.set_cons_zero, List.set_cons_succ]
          refine wpAnyH_take (i := 9) (oi := _) (v := ?v9u70) rfl (by kernel_rfl) (by kernel_rfl) (by kernel_rfl) (fun _ _ _ h => h) (Or.inl ⟨by rfl, ?y9u70⟩) (by assumption) ?r9u70
          case y9u70 => (intro w hSw; (try dsimp only at hSw); go_simp <;> with_reducible rfl)
          try simp only [List.getElem_toArray, List.getElem_cons_succ, List.getElem_cons_zero, Act.put, List.setIfInBounds_toArray, List.set_cons_zero, List.set_cons_succ]
          refine wpAnyH_take (i := 10) (oi := _) (v := ?v10u71) rfl (by kernel_rfl) (by kernel_rfl) (by kernel_rfl) (fun _ _ _ h => h) (Or.inl ⟨by rfl, ?y10u71⟩) (by assumption) ?r10u71
          case y10u71 => (intro w hSw; (try dsimp only at hSw); go_simp <;> with_reducible rfl)
          try simp only [List.getElem_toArray, List.getElem_cons_succ, List.getElem_cons_zero, Act.put, List.setIfInBounds_toArray, List.set_cons_zero, List.set_cons_succ]
          refine wpAnyH_take (i := 11) (oi := _) (v := ?v11u72) rfl (by kernel_rfl) (by kernel_rfl) (by kernel_rfl) (fun _ _ _ h => h) (Or.inl ⟨by rfl, ?y11u72⟩) (by assumption) ?r11u72
          case y11u72 => (intro w hSw; (try dsimp only at hSw); go_simp <;> with_reducible rfl)
          try simp only [List.getElem_toArray, List.getElem_cons_succ, List.getElem_cons_zero, Act.put, List.setIfInBounds_toArray, List.set_cons_zero, List.set_cons_succ]
          refine wpAnyH_take (i := 12) (oi := _) (v := ?v12u73) rfl (by kernel_rfl) (by kernel_rfl) (by kernel_rfl) (fun _ _ _ h => h) (Or.inl ⟨by rfl, ?y12u73⟩) (by assumption) ?r12u73
          case y12u73 => (intro w hSw; (try dsimp only at hSw); go_simp <;> with_reducible rfl)
          try simp only [List.getElem_toArray, List.getElem_cons_succ, List.getElem_cons_zero, Act.put, List.setIfInBounds_toArray, List.set_cons_zero, List.set_cons_succ]
          refine wpAnyH_take (i := 13) (oi := _) (v := ?v13u74) rfl (by kernel_rfl) (by kernel_rfl) (by kernel_rfl) (fun _ _ _ h => h) (Or.inl ⟨by rfl, ?y13u74⟩) (by assumption) ?r13u74
          case y13u74 => (intro w hSw; (try dsimp only at hSw); go_simp <;> with_reducible rfl)
          try simp only [List.getElem_toArray, List.getElem_cons_succ, List.getElem_cons_zero, Act.put, List.setIfInBounds_toArray, List.set_cons_zero, List.set_cons_succ]
          refine wpAnyH_ready (rs := [14]) (by kernel_rfl) (by simp) ?_
          refine AllReadyH.cons (o := _) rfl (fun K hK => ?_) AllReadyH.nil
          go_simp
          refine (htm.out _ Hk8.out).mono ?_
          rintro e wz ⟨rfl, rfl⟩
          refine hK.out _ _ (HC.out _ Hk8.out) (fun hHeld2 => ?_)
          clear hK K hHeld
          have hHeld := hHeld2
          clear hHeld2
          try simp only [List.getElem_toArray, List.getElem_cons_succ, List.getElem_cons_zero, Act.put, List.setIfInBounds_toArray, List.set_cons_zero, List.set_cons_succ]
          refine wpAnyH_ready (rs := [15]) (by kernel_rfl) (by simp) ?_
          refine AllReadyH.cons (o := _) rfl (fun K hK => ?_) AllReadyH.nil
          go_simp
          refine (hpm.out _ Hk8.out).mono ?_
          rintro e w9 ⟨rfl, hk9⟩
          have Hk9 := Lib.hid (Hk8.out.trans hk9 (by simp))
          clear hk9
          refine hK.out _ _ (HC.out _ Hk9.out) (fun hHeld2 => ?_)
          clear hK K hHeld
          have hHeld := hHeld2
          clear hHeld2
          try simp only [List.getElem_toArray, List.getElem_cons_succ, List.getElem_cons_zero, Act.put, List.setIfInBounds_toArray, List.set_cons_zero, List.set_cons_succ]
          refine wpAnyH_take (i := 16) (oi := _) (v := ?v16u75) rfl (by kernel_rfl) (by kernel_rfl) (by kernel_rfl) (fun _ _ _ h => h) (Or.inl ⟨by rfl, ?y16u75⟩) (by assumption) ?r16u75
          case y16u75 => (intro w hSw; (try dsimp only at hSw); go_simp <;> with_reducible rfl)
          try simp only [List.getElem_toArray, List.getElem_cons_succ, List.getElem_cons_zero, Act.put, List.setIfInBounds_toArray, List.set_cons_zero, List.set_cons_succ]
          refine wpAnyH_take (i := 17) (oi := _) (v := ?v17u76) rfl (by kernel_rfl) (by kernel_rfl) (by kernel_rfl) (fun _ _ _ h => h) (Or.inl ⟨by rfl, ?y17u76⟩) (by assumption) ?r17u76
          case y17u76 => (intro w hSw; (try dsimp only at hSw); go_simp <;> with_reducible rfl)
          try simp only [List.getElem_toArray, List.getElem_cons_succ, List.getElem_cons_zero, Act.put, List.setIfInBounds_toArray, List.set_cons_zero, List.set_cons_succ]
          refine wpAnyH_take (i := 18) (oi := _) (v := ?v18u77) rfl (by kernel_rfl) (by kernel_rfl) (by kernel_rfl) (fun _ _ _ h => h) (Or.inl ⟨by rfl, ?y18u77⟩) (by assumption) ?r18u77
          case y18u77 => (intro w hSw; (try dsimp only at hSw); go_simp <;> with_reducible rfl)
          try simp only [List.getElem_toArray, List.getElem_cons_succ, List.getElem_cons_zero, Act.put, List.setIfInBounds_toArray, List.set_cons_zero, List.set_cons_succ]
          refine wpAnyH_take (i := 19) (oi := _) (v := ?v19u78) rfl (by kernel_rfl) (by kernel_rfl) (by kernel_rfl) (fun _ _ _ h => h) (Or.inl ⟨by rfl, ?y19u78⟩) (by assumption) ?r19u78
          case y19u78 => (intro w hSw; (try dsimp only at hSw); go_simp <;> with_reducible rfl)
          try simp only [List.getElem_toArray, List.getElem_cons_succ, List.getElem_cons_zero, Act.put, List.setIfInBounds_toArray, List.set_cons_zero, List.set_cons_succ]
          refine wpAnyH_take (i := 20) (oi := _) (v := undef) rfl (by kernel_rfl) (by kernel_rfl) (by kernel_rfl) (fun _ _ _ h => h) (Or.inr ⟨by rfl, rfl⟩) (by assumption) ?_
          try simp only [List.getElem_toArray, List.getElem_cons_succ, List.getElem_cons_zero, Act.put, List.setIfInBounds_toArray, List.set_cons_zero, List.set_cons_succ]
          refine wpAnyH_take (i := 21) (oi := _) (v := undef) rfl (by kernel_rfl) (by kernel_rfl) (by kernel_rfl) (fun _ _ _ h => h) (Or.inr ⟨by rfl, rfl⟩) (by assumption) ?_
          try simp only [List.getElem_toArray, List.getElem_cons_succ, List.getElem_cons_zero, Act.put, List.setIfInBounds_toArray, List.set_cons_zero, List.set_cons_succ]
          refine wpAnyH_take (i := 22) (oi := _) (v := undef) rfl (by kernel_rfl) (by kernel_rfl) (by kernel_rfl) (fun _ _ _ h => h) (Or.inr ⟨by rfl, rfl⟩) (by assumption) ?_
          try simp only [List.getElem_toArray, List.getElem_cons_succ, List.getElem_cons_zero, Act.put, List.setIfInBounds_toArray, List.set_cons_zero, List.set_cons_succ]
          refine wpAnyH_take (i := 23) (oi := _) (v := undef) rfl (by kernel_rfl) (by kernel_rfl) (by kernel_rfl) (fun _ _ _ h => h) (Or.inr ⟨by rfl, rfl⟩) (by assumption) ?_
          try simp only [List.getElem_toArray, List.getElem_cons_succ, List.getElem_cons_zero, Act.put, List.setIfInBounds_toArray, List.set_cons_zero, List.set_cons_succ]
          refine wpAnyH_take (i := 24) (oi := _) (v := undef) rfl (by kernel_rfl) (by kernel_rfl) (by kernel_rfl) (fun _ _ _ h => h) (Or.inr ⟨by rfl, rfl⟩) (by assumption) ?_
          try simp only [List.getElem_toArray, List.getElem_cons_succ, List.getElem_cons_zero, Act.put, List.setIfInBounds_toArray, List.set_cons_zero, List.set_cons_succ]
          refine wpAnyH_take (i := 25) (oi := _) (v := ?v25u79) rfl (by kernel_rfl) (by kernel_rfl) (by kernel_rfl) (fun _ _ _ h => h) (Or.inl ⟨by rfl, ?y25u79⟩) (by assumption) ?r25u79
          case y25u79 => (intro w hSw; (try dsimp only at hSw); go_simp <;> with_reducible rfl)
          try simp only [List.getElem_toArray, List.getElem_cons_succ, List.getElem_cons_zero, Act.put, List.setIfInBounds_toArray, List.set_cons_zero, List.set_cons_succ]
          refine wpAnyH_take (i := 26) (oi := _) (v := ?v26u80) rfl (by kernel_rfl) (by kernel_rfl) (by kernel_rfl) (fun _ _ _ h => h) (Or.inl ⟨by rfl, ?y26u80⟩) (by assumption) ?r26u80
          case y26u80 => (intro w hSw; (try dsimp only at hSw); go_simp <;> with_reducible rfl)
          try simp only [List.getElem_toArray, List.getElem_cons_succ, List.getElem_cons_zero, Act.put, List.setIfInBounds_toArray, List.set_cons_zero, List.set_cons_succ]
          refine wpAnyH_done (by kernel_rfl) ?_ _
          have HSz := Lib.hid (HSy.out.keep0 Hk9.out); have HAz := Lib.hid (HA6.out.keep Hk9.out (by simp)); have HKz := Lib.hid (HK6.out.trans Hk9.out (by simp))
          clear hlg hhd htm hpm hls HC Hk7 Hk8 Hk9 HSy HA6 HK6 hHeld
          go_wp2_with fail
          go_roundw
          case rel => exact ⟨j + 1, n', Y', x, b', by go_num, by omega, HSz, HVy, HAz, HG6, HKz⟩
          case measure => simp [intOf] <;> omega
        · have f1 : decide ((x.t : Int) ≤ (t : Int)) = false := decide_eq_false (by omega)
          have f1n : decide (x.t ≤ t) = false := decide_eq_false hle
          clear hokk
          have hyok := HSy.out.ok
          try simp only [] at hyok
          have hsm : Hid (x.log.length ≤ 1048576 ∧ ∀ e ∈ x.log, e.ds.length ≤ 1048576) := ⟨Nat.le_trans hyok.2.2.1 (by omega), fun e he => by have := eok_ds8 (hyok.2.2.2 e he); omega⟩
          have hyt : (x.t : Int) ≤ 9223372036854775807 := by have := hyok.1; omega
          clear hyok
          have hlg : Hid (∀ W, Keeps [] w6 W → Calls Tryz.prog 33 #[.pointer (some ⟨s, 0, none⟩)] W fun e w' => EnsPost x.log W e w') := fun W hk => vlog_any (x := x) W (HSy.out.keep0 hk)
          have hhd : Hid (∀ W, Keeps [] w6 W → Calls Tryz.prog 32 #[.pointer (some ⟨s, 0, none⟩)] W fun e w' => e = .returned (.int .i64 x.h) ∧ W = w') := fun W hk => vhad_any (x := x) W (HSy.out.keep0 hk)
          have htm : Hid (∀ W, Keeps [] w6 W → Calls Tryz.prog 31 #[.pointer (some ⟨s, 0, none⟩)] W fun e w' => e = .returned (.int .i64 x.t) ∧ W = w') := fun W hk => vterm_any (x := x) W (HSy.out.keep0 hk)
          have hpm : Hid (∀ W, Keeps [] w6 W → Calls Tryz.prog 36 #[.pointer (some ⟨s, 0, none⟩), .int .i64 x.t] W fun e w' => e = .returned (.bool false) ∧ Keeps [] W w') := fun W hk => by
            refine (vpromise_any s p Y' x d b'.length n' b' W (HSy.out.keep0 hk) x.t hyt m (hkeepm.out W (HK6.out.trans hk (by simp)))).mono ?_
            intro e w' h
            unfold PmPost at h
            rw [if_neg (by simp)] at h
            exact h
          have hls : Hid (∀ W va, Keeps [] w6 W → Ens W [] va x.log → Calls Tryz.prog 38 #[va, .slice A5 x.log.length x.log.length] W fun r w' => r = .returned (.bool true) ∧ Below W.heap.size W w') := fun W va hk hva => rlogs_eq va _ x.log W hva (HLV.out.keep hk (by simp)) hsm.out
          have HC : Hid (∀ W, Keeps [] w6 W → (fun W => W.cell? ⟨ga4, 1, none⟩ = some (.int .i64 t)) W) := fun W hk => (hk.blk HB6.out (by simp)).cell 1
          go_upto_region 13 with (fail)
          refine wp_region_held_drew (S := (fun W => W.cell? ⟨ga4, 1, none⟩ = some (.int .i64 t))) (by kernel_rfl) (HC.out _ (Keeps.refl _ _).drew) (fun hHeld => ?_)
          refine wpAnyH_take (i := 0) (oi := _) (v := ?v0u81) rfl (by kernel_rfl) (by kernel_rfl) (by kernel_rfl) (fun _ _ _ h => h) (Or.inl ⟨by rfl, ?y0u81⟩) (by assumption) ?r0u81
          case y0u81 => (intro w hSw; (try dsimp only at hSw); go_simp <;> with_reducible rfl)
          try simp only [List.getElem_toArray, List.getElem_cons_succ, List.getElem_cons_zero, Act.put, List.setIfInBounds_toArray, List.set_cons_zero, List.set_cons_succ]
          refine wpAnyH_take (i := 2) (oi := _) (v := ?v2u82) rfl (by kernel_rfl) (by kernel_rfl) (by kernel_rfl) (fun _ _ _ h => h) (Or.inl ⟨by rfl, ?y2u82⟩) (by assumption) ?r2u82
          case y2u82 => (intro w hSw; (try dsimp only at hSw); go_simp <;> with_reducible rfl)
          try simp only [List.getElem_toArray, List.getElem_cons_succ, List.getElem_cons_zero, Act.put, List.setIfInBounds_toArray, List.set_cons_zero, List.set_cons_succ]
          refine wpAnyH_ready (rs := [1]) (by kernel_rfl) (by simp) ?_
          refine AllReadyH.cons (o := _) rfl (fun K hK => ?_) AllReadyH.nil
          go_simp
          refine (hlg.out _ (Keeps.refl _ _).drew).mono ?_
          rintro e w7 ⟨A7, rfl, hE7, hk7⟩
          have Hk7 : Hid (Keeps [] w6 w7) := (Keeps.refl _ _).drew.trans hk7 (by simp)
          have HE7 := Lib.hid (hE7 [] (by simp))
          clear hk7 hE7
          refine hK.out _ _ (HC.out _ Hk7.out) (fun hHeld2 => ?_)
          clear hK K hHeld
          have hHeld := hHeld2
          clear hHeld2
          try simp only [List.getElem_toArray, List.getElem_cons_succ, List.getElem_cons_zero, Act.put, List.setIfInBounds_toArray, List.set_cons_zero, List.set_cons_succ]
          refine wpAnyH_ready (rs := [3]) (by kernel_rfl) (by simp) ?_
          refine AllReadyH.cons (o := _) rfl (fun K hK => ?_) AllReadyH.nil
          go_simp
          refine (hls.out _ _ Hk7.out HE7.out).mono ?_
          rintro e w8 ⟨rfl, hb8⟩
          have Hk8 := Lib.hid (Hk7.out.trans (Keeps.of_below (M := []) hb8) (by simp))
          clear hb8 HE7
          refine hK.out _ _ (HC.out _ Hk8.out) (fun hHeld2 => ?_)
          clear hK K hHeld
          have hHeld := hHeld2
          clear hHeld2
          try simp only [List.getElem_toArray, List.getElem_cons_succ, List.getElem_cons_zero, Act.put, List.setIfInBounds_toArray, List.set_cons_zero, List.set_cons_succ]
          refine wpAnyH_take (i := 4) (oi := _) (v := ?v4u83) rfl (by kernel_rfl) (by kernel_rfl) (by kernel_rfl) (fun _ _ _ h => h) (Or.inl ⟨by rfl, ?y4u83⟩) (by assumption) ?r4u83
          case y4u83 => (intro w hSw; (try dsimp only at hSw); go_simp <;> with_reducible rfl)
          try simp only [List.getElem_toArray, List.getElem_cons_succ, List.getElem_cons_zero, Act.put, List.setIfInBounds_toArray, List.set_cons_zero, List.set_cons_succ]
          refine wpAnyH_take (i := 5) (oi := _) (v := ?v5u84) rfl (by kernel_rfl) (by kernel_rfl) (by kernel_rfl) (fun _ _ _ h => h) (Or.inl ⟨by rfl, ?y5u84⟩) (by assumption) ?r5u84
          case y5u84 => (intro w hSw; (try dsimp only at hSw); go_simp <;> with_reducible rfl)
          try simp only [List.getElem_toArray, List.getElem_cons_succ, List.getElem_cons_zero, Act.put, List.setIfInBounds_toArray, List.set_cons_zero, List.set_cons_succ]
          refine wpAnyH_take (i := 6) (oi := _) (v := ?v6u85) rfl (by kernel_rfl) (by kernel_rfl) (by kernel_rfl) (fun _ _ _ h => h) (Or.inl ⟨by rfl, ?y6u85⟩) (by assumption) ?r6u85
          case y6u85 => (intro w hSw; (try dsimp only at hSw); go_simp <;> with_reducible rfl)
          try simp only [List.getElem_toArray, List.getElem_cons_succ, List.getElem_cons_zero, Act.put, List.setIfInBounds_toArray, List.set_cons_zero, List.set_cons_succ]
          refine wpAnyH_take (i := 8) (oi := _) (v := ?v8u86) rfl (by kernel_rfl) (by kernel_rfl) (by kernel_rfl) (fun _ _ _ h => h) (Or.inl ⟨by rfl, ?y8u86⟩) (by assumption) ?r8u86
          case y8u86 => (intro w hSw; (try dsimp only at hSw); go_simp <;> with_reducible rfl)
          try simp only [List.getElem_toArray, List.getElem_cons_succ, List.getElem_cons_zero, Act.put, List.setIfInBounds_toArray, List.set_cons_zero, List.set_cons_succ]
          refine wpAnyH_ready (rs := [7]) (by kernel_rfl) (by simp) ?_
          refine AllReadyH.cons (o := _) rfl (fun K hK => ?_) AllReadyH.nil
          go_simp
          refine (hhd.out _ Hk8.out).mono ?_
          rintro e wz ⟨rfl, rfl⟩
          refine hK.out _ _ (HC.out _ Hk8.out) (fun hHeld2 => ?_)
          clear hK K hHeld
          have hHeld := hHeld2
          clear hHeld2
          try simp only [List.getElem_toArray, List.getElem_cons_succ, List.getElem_cons_zero, Act.put, List.setIfInBounds_toArray, List.set_cons_zero, List.set_cons_succ]
          refine wpAnyH_take (i := 9) (oi := _) (v := ?v9u87) rfl (by kernel_rfl) (by kernel_rfl) (by kernel_rfl) (fun _ _ _ h => h) (Or.inl ⟨by rfl, ?y9u87⟩) (by assumption) ?r9u87
          case y9u87 => (intro w hSw; (try dsimp only at hSw); go_simp <;> with_reducible rfl)
          try simp only [List.getElem_toArray, List.getElem_cons_succ, List.getElem_cons_zero, Act.put, List.setIfInBounds_toArray, List.set_cons_zero, List.set_cons_succ]
          refine wpAnyH_take (i := 10) (oi := _) (v := ?v10u88) rfl (by kernel_rfl) (by kernel_rfl) (by kernel_rfl) (fun _ _ _ h => h) (Or.inl ⟨by rfl, ?y10u88⟩) (by assumption) ?r10u88
          case y10u88 => (intro w hSw; (try dsimp only at hSw); go_simp <;> with_reducible rfl)
          try simp only [List.getElem_toArray, List.getElem_cons_succ, List.getElem_cons_zero, Act.put, List.setIfInBounds_toArray, List.set_cons_zero, List.set_cons_succ]
          refine wpAnyH_take (i := 11) (oi := _) (v := ?v11u89) rfl (by kernel_rfl) (by kernel_rfl) (by kernel_rfl) (fun _ _ _ h => h) (Or.inl ⟨by rfl, ?y11u89⟩) (by assumption) ?r11u89
          case y11u89 => (intro w hSw; (try dsimp only at hSw); go_simp <;> with_reducible rfl)
          try simp only [List.getElem_toArray, List.getElem_cons_succ, List.getElem_cons_zero, Act.put, List.setIfInBounds_toArray, List.set_cons_zero, List.set_cons_succ]
          refine wpAnyH_take (i := 12) (oi := _) (v := ?v12u90) rfl (by kernel_rfl) (by kernel_rfl) (by kernel_rfl) (fun _ _ _ h => h) (Or.inl ⟨by rfl, ?y12u90⟩) (by assumption) ?r12u90
          case y12u90 => (intro w hSw; (try dsimp only at hSw); go_simp <;> with_reducible rfl)
          try simp only [List.getElem_toArray, List.getElem_cons_succ, List.getElem_cons_zero, Act.put, List.setIfInBounds_toArray, List.set_cons_zero, List.set_cons_succ]
          refine wpAnyH_take (i := 13) (oi := _) (v := ?v13u91) rfl (by kernel_rfl) (by kernel_rfl) (by kernel_rfl) (fun _ _ _ h => h) (Or.inl ⟨by rfl, ?y13u91⟩) (by assumption) ?r13u91
          case y13u91 => (intro w hSw; (try dsimp only at hSw); go_simp <;> with_reducible rfl)
          try simp only [List.getElem_toArray, List.getElem_cons_succ, List.getElem_cons_zero, Act.put, List.setIfInBounds_toArray, List.set_cons_zero, List.set_cons_succ]
          refine wpAnyH_ready (rs := [14]) (by kernel_rfl) (by simp) ?_
          refine AllReadyH.cons (o := _) rfl (fun K hK => ?_) AllReadyH.nil
          go_simp
          refine (htm.out _ Hk8.out).mono ?_
          rintro e wz ⟨rfl, rfl⟩
          refine hK.out _ _ (HC.out _ Hk8.out) (fun hHeld2 => ?_)
          clear hK K hHeld
          have hHeld := hHeld2
          clear hHeld2
          try simp only [List.getElem_toArray, List.getElem_cons_succ, List.getElem_cons_zero, Act.put, List.setIfInBounds_toArray, List.set_cons_zero, List.set_cons_succ]
          refine wpAnyH_ready (rs := [15]) (by kernel_rfl) (by simp) ?_
          refine AllReadyH.cons (o := _) rfl (fun K hK => ?_) AllReadyH.nil
          go_simp
          refine (hpm.out _ Hk8.out).mono ?_
          rintro e w9 ⟨rfl, hk9⟩
          have Hk9 := Lib.hid (Hk8.out.trans hk9 (by simp))
          clear hk9
          refine hK.out _ _ (HC.out _ Hk9.out) (fun hHeld2 => ?_)
          clear hK K hHeld
          have hHeld := hHeld2
          clear hHeld2
          try simp only [List.getElem_toArray, List.getElem_cons_succ, List.getElem_cons_zero, Act.put, List.setIfInBounds_toArray, List.set_cons_zero, List.set_cons_succ]
          refine wpAnyH_take (i := 16) (oi := _) (v := ?v16u92) rfl (by kernel_rfl) (by kernel_rfl) (by kernel_rfl) (fun _ _ _ h => h) (Or.inl ⟨by rfl, ?y16u92⟩) (by assumption) ?r16u92
          case y16u92 => (intro w hSw; (try dsimp only at hSw); go_simp <;> with_reducible rfl)
          try simp only [List.getElem_toArray, List.getElem_cons_succ, List.getElem_cons_zero, Act.put, List.setIfInBounds_toArray, List.set_cons_zero, List.set_cons_succ]
          refine wpAnyH_take (i := 17) (oi := _) (v := ?v17u93) rfl (by kernel_rfl) (by kernel_rfl) (by kernel_rfl) (fun _ _ _ h => h) (Or.inl ⟨by rfl, ?y17u93⟩) (by assumption) ?r17u93
          case y17u93 => (intro w hSw; (try dsimp only at hSw); go_simp <;> with_reducible rfl)
          try simp only [List.getElem_toArray, List.getElem_cons_succ, List.getElem_cons_zero, Act.put, List.setIfInBounds_toArray, List.set_cons_zero, List.set_cons_succ]
          refine wpAnyH_take (i := 18) (oi := _) (v := ?v18u94) rfl (by kernel_rfl) (by kernel_rfl) (by kernel_rfl) (fun _ _ _ h => h) (Or.inl ⟨by rfl, ?y18u94⟩) (by assumption) ?r18u94
          case y18u94 => (intro w hSw; (try dsimp only at hSw); go_simp <;> with_reducible rfl)
          try simp only [List.getElem_toArray, List.getElem_cons_succ, List.getElem_cons_zero, Act.put, List.setIfInBounds_toArray, List.set_cons_zero, List.set_cons_succ]
          refine wpAnyH_take (i := 19) (oi := _) (v := ?v19u95) rfl (by kernel_rfl) (by kernel_rfl) (by kernel_rfl) (fun _ _ _ h => h) (Or.inl ⟨by rfl, ?y19u95⟩) (by assumption) ?r19u95
          case y19u95 => (intro w hSw; (try dsimp only at hSw); go_simp <;> with_reducible rfl)
          try simp only [List.getElem_toArray, List.getElem_cons_succ, List.getElem_cons_zero, Act.put, List.setIfInBounds_toArray, List.set_cons_zero, List.set_cons_succ]
          refine wpAnyH_take (i := 20) (oi := _) (v := undef) rfl (by kernel_rfl) (by kernel_rfl) (by kernel_rfl) (fun _ _ _ h => h) (Or.inr ⟨by rfl, rfl⟩) (by assumption) ?_
          try simp only [List.getElem_toArray, List.getElem_cons_succ, List.getElem_cons_zero, Act.put, List.setIfInBounds_toArray, List.set_cons_zero, List.set_cons_succ]
          refine wpAnyH_take (i := 21) (oi := _) (v := undef) rfl (by kernel_rfl) (by kernel_rfl) (by kernel_rfl) (fun _ _ _ h => h) (Or.inr ⟨by rfl, rfl⟩) (by assumption) ?_
          try simp only [List.getElem_toArray, List.getElem_cons_succ, List.getElem_cons_zero, Act.put, List.setIfInBounds_toArray, List.set_cons_zero, List.set_cons_succ]
          refine wpAnyH_take (i := 22) (oi := _) (v := undef) rfl (by kernel_rfl) (by kernel_rfl) (by kernel_rfl) (fun _ _ _ h => h) (Or.inr ⟨by rfl, rfl⟩) (by assumption) ?_
          try simp only [List.getElem_toArray, List.getElem_cons_succ, List.getElem_cons_zero, Act.put, List.setIfInBounds_toArray, List.set_cons_zero, List.set_cons_succ]
          refine wpAnyH_take (i := 23) (oi := _) (v := undef) rfl (by kernel_rfl) (by kernel_rfl) (by kernel_rfl) (fun _ _ _ h => h) (Or.inr ⟨by rfl, rfl⟩) (by assumption) ?_
          try simp only [List.getElem_toArray, List.getElem_cons_succ, List.getElem_cons_zero, Act.put, List.setIfInBounds_toArray, List.set_cons_zero, List.set_cons_succ]
          refine wpAnyH_take (i := 24) (oi := _) (v := undef) rfl (by kernel_rfl) (by kernel_rfl) (by kernel_rfl) (fun _ _ _ h => h) (Or.inr ⟨by rfl, rfl⟩) (by assumption) ?_
          try simp only [List.getElem_toArray, List.getElem_cons_succ, List.getElem_cons_zero, Act.put, List.setIfInBounds_toArray, List.set_cons_zero, List.set_cons_succ]
          refine wpAnyH_take (i := 25) (oi := _) (v := ?v25u96) rfl (by kernel_rfl) (by kernel_rfl) (by kernel_rfl) (fun _ _ _ h => h) (Or.inl ⟨by rfl, ?y25u96⟩) (by assumption) ?r25u96
          case y25u96 => (intro w hSw; (try dsimp only at hSw); go_simp <;> with_reducible rfl)
          try simp only [List.getElem_toArray, List.getElem_cons_succ, List.getElem_cons_zero, Act.put, List.setIfInBounds_toArray, List.set_cons_zero, List.set_cons_succ]
          refine wpAnyH_take (i := 26) (oi := _) (v := ?v26u97) rfl (by kernel_rfl) (by kernel_rfl) (by kernel_rfl) (fun _ _ _ h => h) (Or.inl ⟨by rfl, ?y26u97⟩) (by assumption) ?r26u97
          case y26u97 => (intro w hSw; (try dsimp only at hSw); go_simp <;> with_reducible rfl)
          try simp only [List.getElem_toArray, List.getElem_cons_succ, List.getElem_cons_zero, Act.put, List.setIfInBounds_toArray, List.set_cons_zero, List.set_cons_succ]
          refine wpAnyH_done (by kernel_rfl) ?_ _
          have HSz := Lib.hid (HSy.out.keep0 Hk9.out); have HAz := Lib.hid (HA6.out.keep Hk9.out (by simp)); have HKz := Lib.hid (HK6.out.trans Hk9.out (by simp))
          clear hlg hhd htm hpm hls HC Hk7 Hk8 Hk9 HSy HA6 HK6 hHeld
          go_wp2_with fail
          go_roundw
          case rel => exact ⟨j + 1, n', Y', x, b', by go_num, by omega, HSz, HVy, HAz, HG6, HKz⟩
          case measure => simp [intOf] <;> omega
    · obtain rfl : j = asl.length := by omega
      have hji : decide ((asl.length : Int) < (asl.length : Int)) = false := decide_eq_false (by omega)
      have hkn := Lib.hid (vknown_any m wr (hkeepm.out wr HK.out))
      go_wp2_with fail
      refine hkn.out.mono ?_
      rintro e w9 ⟨rfl, hb9⟩
      have hp : Hid (SamePost true w (.returned (.bool true)) w9) := ⟨rfl, (HK.out.trans (Keeps.of_below (M := []) hb9) (by simp)).below⟩
      clear hb9
      go_wp2_with fail
      go_ret
      exact hp.out
end Go.Proofs.YtinnifhnabncfaaGreatDoor.Vi
end
