/- Texts put together: AgM, AgW, AgX, Kn19, TNum0, AgY, AhE, AhI, AgR, JoinP, AhB. -/
import Derived.Deep.DeepCutAuto
import Derived.Test.YtgdooockldgdlaaGreatDoorAK3
import Derived.Test.YtgdooockldgdlaaGreatDoorAK4
import Derived.Test.YtgdooockldgdlaaGreatDoorAK7
import Derived.Test.YtgdooockldgdlaaGreatDoorAK8
import Derived.Test.YtgdooockldgdlaaGreatDoorAK9
import Derived.Test.YtgdooockldgdlaaGreatDoorAK10
import Derived.Test.YtgdooockldgdlaaGreatDoorAK11
set_option linter.unusedVariables false
set_option linter.unusedSimpArgs false
section
namespace Go.Proofs.YtgdooockldgdlaaGreatDoor.Vi
open Go.RowKit Base Mem Go.Shelf Tape
open Go.Maps (Keyed)
open Draw
theorem tryD_bd {A : AgD} (h : AgOk A) (k : Nat) (b : BatD) : 0 ≤ (tryD A k b).1 ∧ (tryD A k b).1 ≤ A.cn := by
 unfold tryD
 cases ht : A.tries k b.seq with
 | none => simp
 | some x =>
  have := h.2.2.2.2.2.2.2.2.1 k b.seq x ht
  exact ⟨this.1, this.2.1⟩
section
variable {w w' : World} {M : List Nat} {tg : Nat → Nat} {a d : Nat} {A : AgD}
set_option maxRecDepth 100000 in
set_option maxHeartbeats 4000000 in
theorem agtick_any (h : AgAt w M tg a d A) (hM : ∀ g ∈ M, g < w.heap.size) (n : Int) (hc : A.cn + 40000 ≤ 1099511627776) (hnow : A.now + 1024 ≤ 1099511627776) :
  Calls Tryz.prog 22 #[.pointer (some ⟨a, 0, none⟩), .int .i64 n] w fun e w' => TkPost M tg a d (agTick A n) w e w' := by
 obtain ⟨N, hN⟩ : ∃ N : Nat, max 0 (min n 1024) = (N : Int) := ⟨(max 0 (min n 1024)).toNat, by omega⟩
 have hN2 : N ≤ 1024 := by omega
 have HT : Hid (agTick A n = ticksC N A []) := by show _ = _; unfold agTick; rw [hN]; rfl
 have HS0 : Hid (TkSt w M tg a d A [] (.slice none 0 0) w M tg) := ⟨h, Ext.refl hM (Nat.le_refl _), Keeps.refl _ _, ⟨[], rfl, World.ownsRow_nil _ _ _ _, by simp⟩, by simp [Value.ownBlock]⟩
 obtain ⟨i0, hi0, hz0, hz1, hz2⟩ := info_parts infoSent
 have Hi0 := Lib.hid hi0; have Hz0 := Lib.hid hz0; have Hz1 := Lib.hid hz1; have Hz2 := Lib.hid hz2
 have hA0 : 0 ≤ A.now := h.1.2.2.2.1.1
 clear h hM hi0 hz0 hz1 hz2
 generalize agTick A n = R at *
 go_enter Tryz.func22, Tryz.ntmps22
 go_wp2_with fail
 go_loopw [5, 15] (fun ov i wr => ∃ (j : Nat) (B : AgD) (out : List SentD) (Mk : List Nat) (tgk : Nat → Nat), i = .int .i64 j ∧ j ≤ N ∧ out.length ≤ 16 * j ∧ B.cn ≤ A.cn + 32 * j ∧ B.now ≤ A.now + j ∧ Hid (TkSt w M tg a d B out ov wr Mk tgk) ∧ Hid (ticksC N A [] = ticksC (N - j) B out)) (fun _ i _ => N - (intOf i).toNat)
 case atStart => exact ⟨0, A, [], M, tg, rfl, by omega, by simp, by omega, by omega, HS0.out, rfl⟩
 case round =>
  obtain ⟨j, B, out, Mk, tgk, rfl, hj, hol, hcn, hnw, HS, HE⟩ := hrel
  by_cases hlt : j < N
  ·have hx1 : (j : Int) < (N : Int) := by omega
   obtain ⟨Cx, Hob, HCx, Hvx⟩ : ∃ Cx, Hid (AgOk B) ∧ Hid (Cx.d = d) ∧ Hid (AgV wr Mk tgk a B Cx) := by obtain ⟨ho, Cx, hC, hv⟩ := HS.out.ag; exact ⟨Cx, ho, hC, hv⟩
   have c4 := (agcells Hvx.out).2.2.2.2.1
   have f4 := Hvx.out.blk.frozen 4
   have hwn : IntKind.i64.wrap (B.now + 1) = B.now + 1 := by have := Hob.out.2.2.2.1.1; rw [IntKind.wrap_i64]; omega
   have HE1 : Hid (ticksC N A [] = ticksC (N - (j + 1)) (queuesC 4 0 (agNow B) out).1 (queuesC 4 0 (agNow B) out).2) := by
    have h9 := HE.out
    rw [show N - j = (N - (j + 1)) + 1 by omega] at h9
    exact h9
   obtain ⟨w4, hw4⟩ : ∃ w4, w4 = wr.setCell ⟨a, 4, none⟩ (.int .i64 (B.now + 1)) := ⟨_, rfl⟩
   have hka : Keeps [a] wr w4 := by rw [hw4]; exact (Keeps.refl _ _).setCell (by simp) _
   have hB4 : Blk w4 a 117 (agCells (agNow B) Cx) := by
    have h9 := Hvx.out.blk.set_ 4 (.int .i64 (B.now + 1))
    rw [hw4]
    show Blk _ a _ #[.int .i64 B.node, .int .i64 B.reps, .pointer (some ⟨Cx.p, 0, none⟩), .pointer (some ⟨Cx.s, 0, none⟩), .int .i64 (B.now + 1), .int .i64 B.tag, .int .i64 B.last, .map (some Cx.tb), .map (some Cx.ab)]
    simpa [agCells] using h9
   have hab : Cx.ab ≠ a := fun h => by have h1 := Hvx.out.tab; have h2 := Hvx.out.ta; rw [h] at h1; omega
   obtain ⟨r1, r2, r3⟩ := Hvx.out.setAs HS.out.x.lt (B := agNow B) ⟨rfl, rfl, rfl, rfl, rfl, rfl⟩ (Nat.le_refl _) hB4 (om_keep Hvx.out.as_ hka (by simpa using hab)) Hvx.out.asD Hvx.out.na (hka.mono (M' := [a, Cx.ab]) (by simp))
   have Hv4 := Lib.hid r1
   have HS4 : Hid (TkSt w M tg a d (agNow B) out u5 w4 Mk tgk) := HS.out.step r2 (r3.sel_mono (by simp)) ⟨agNow_ok Hob.out (by omega), _, by exact HCx.out, r1⟩
   obtain ⟨-, -, -, c3, -⟩ := agcells r1
   obtain ⟨hbo, vs, vc, qb, hbk⟩ := r1.bk
   obtain ⟨-, -, -, q0, q1, q2, q3, -, hslt⟩ := blk8 hbk.blk
   have HQ4 : Hid (∀ j, j < 4 → QuAt w4 Mk tgk (10 + 2 * j) (qb j) (B.bk.q j)) := hbk.q
   have c3' : w4.cell? ⟨a, 3, none⟩ = some (.pointer (some ⟨Cx.s, 0, none⟩)) := c3
   have hBk : Hid ((agNow B).bk = B.bk ∧ (agNow B).now = B.now + 1) := ⟨rfl, rfl⟩
   have hcn4 : (agNow B).cn = B.cn := rfl
   have hHse : Hid (∀ j, j < 4 → ∀ b ∈ (B.bk.q j).l, 1 ≤ b.seq ∧ b.seq ≤ 9223372036854775807 ∧ b.ds.length ≤ 8) := fun j hj b hb => by
    have h9 := (HQ4.out j hj).1
    have h8 := h9.2.2.2.1 b hb
    exact ⟨h8.1, by have := h9.2.2.1; omega, h8.2.2.2.1⟩
   clear hka hB4 r1 r2 r3 hbk hbo c3 hab HS HE HS0 Hvx Hv4
   go_upto_region 5 with (fail)
   rw [← hw4]
   clear hw4 c4 f4
   go_wp2_with fail
   go_loopw [5, 31] (fun ov i wr => ∃ (k : Nat) (B2 : AgD) (out2 : List SentD) (M2 : List Nat) (tg2 : Nat → Nat), i = .int .i64 k ∧ k ≤ 4 ∧ out2.length ≤ out.length + 4 * k ∧ B2.cn ≤ B.cn + 8 * k ∧ Hid (B2.bk = B.bk ∧ B2.now = B.now + 1) ∧ Hid (TkSt w M tg a d B2 out2 ov wr M2 tg2) ∧ Hid (queuesC 4 0 (agNow B) out = queuesC (4 - k) k B2 out2) ∧ Hid (∀ j, j < 4 → QuAt wr M2 tg2 (10 + 2 * j) (qb j) (B.bk.q j))) (fun _ i _ => 4 - (intOf i).toNat)
   case atStart => exact ⟨0, agNow B, out, Mk, tgk, rfl, by omega, by omega, by omega, hBk.out, HS4.out, rfl, HQ4.out⟩
   case round =>
    obtain ⟨k, B2, out2, M2, tg2, rfl, hk, hol2, hcn2, HB2, HS2, HE2, HQ2⟩ := hrel
    by_cases hk4 : k < 4
    ·have hx2 : (k : Int) < 4 := by omega
     have hix := run_qixk (fun j => .pointer (some ⟨qb j, 0, none⟩)) k hk4 wr
     have hfl := Lib.hid (qflight_any (HQ2.out k hk4))
     have HE3 : Hid (queuesC 4 0 (agNow B) out = queuesC (4 - (k + 1)) (k + 1) (flightC B2 k ((B.bk.q k).l.take 4) out2).1 (flightC B2 k ((B.bk.q k).l.take 4) out2).2) := by
      have h9 := HE2.out
      rw [show 4 - k = (4 - (k + 1)) + 1 by omega] at h9
      have h8 := HB2.out.1
      rw [← h8]
      exact h9
     have hHs : Hid (∀ b ∈ (B.bk.q k).l.take 4, 1 ≤ b.seq ∧ b.seq ≤ 9223372036854775807 ∧ b.ds.length ≤ 8) := fun b hb => hHse.out k hk4 b (List.mem_of_mem_take hb)
     have hl4 : ((B.bk.q k).l.take 4).length ≤ 4 := by rw [List.length_take]; omega
     clear HE2
     generalize (B.bk.q k).l.take 4 = l at *
     go_wp2_with fail
     refine hfl.out.mono ?_
     rintro e w5 ⟨Ar, rfl, hbs, hb5⟩
     have Hk5 := Lib.hid (Keeps.of_below (M := []) hb5)
     have HS5 := Lib.hid (HS2.out.keep0 Hk5.out)
     have Hbs5 : Hid (Bats w5 M2 (.slice Ar l.length l.length) l) := hbs M2 HS2.out.x.lt
     have HQ5 : Hid (∀ j, j < 4 → QuAt w5 M2 tg2 (10 + 2 * j) (qb j) (B.bk.q j)) := fun j hj => (HQ2.out j hj).keep0 HS2.out.x.lt Hk5.out
     clear hbs hb5 hfl HS2 HQ2 hix Hk5
     go_wp2_with fail
     go_loopw [5, 38] (fun ov i wr => ∃ (f : Nat) (B3 : AgD) (out3 : List SentD) (M3 : List Nat) (tg3 : Nat → Nat), i = .int .i64 f ∧ f ≤ l.length ∧ out3.length ≤ out2.length + f ∧ B3.cn ≤ B2.cn + 2 * f ∧ Hid (B3.bk = B.bk ∧ B3.now = B.now + 1) ∧ Hid (TkSt w M tg a d B3 out3 ov wr M3 tg3) ∧ Hid (flightC B2 k l out2 = flightC B3 k (l.drop f) out3) ∧ Hid (∀ j, j < 4 → QuAt wr M3 tg3 (10 + 2 * j) (qb j) (B.bk.q j)) ∧ Hid (Bats wr M3 (.slice Ar l.length l.length) l)) (fun _ i _ => l.length - (intOf i).toNat)
     case atStart => exact ⟨0, B2, out2, M2, tg2, rfl, by omega, by omega, by omega, HB2.out, HS5.out, rfl, HQ5.out, Hbs5.out⟩
     case round =>
      obtain ⟨f, B3, out3, M3, tg3, rfl, hf, hol3, hcn3, HB3, HS3, HE4, HQ3, Hbs3⟩ := hrel
      by_cases hfl : f < l.length
      ·have hx3 : (f : Int) < (l.length : Int) := by omega
       obtain ⟨qs, hqs, hr, hd⟩ := Hbs3.out
       have hql : qs.length = l.length := by rw [← hqs, List.length_map]
       obtain ⟨g, off, cap, e, _, hg, hgM, hx⟩ := Rd.at_ bCell 2 (fun _ => rfl) hr (k := f) (by omega)
       obtain rfl : Ar = some ⟨g, off, none⟩ := by injection e
       have p0 := hx 0 _ rfl
       have p1 := hx 1 _ rfl
       rw [Nat.add_zero] at p0
       have hqe : qs[f].1 = l[f] := by subst hqs; simp
       rw [hqe] at p0
       have hdj := hd qs[f] (List.getElem_mem _)
       rw [hqe] at hdj
       obtain ⟨Ad, cd, hdv, _⟩ := hdj.len
       rw [hdv] at p1 hdj
       have hsq := hHs.out l[f] (List.getElem_mem _)
       have HE5 : Hid (flightC B2 k l out2 = flightC B3 k (l[f] :: l.drop (f + 1)) out3) := by
        have h9 := HE4.out
        rw [List.drop_eq_getElem_cons hfl] at h9
        exact h9
       clear hqs hr hd hx hqe hdv hql e hgM hg HE4
       generalize l[f] = bj at *
       obtain ⟨w6, hw6⟩ : ∃ w6, w6 = wr.alloc (.cells #[.int .i64 bj.seq, .slice Ad bj.ds.length cd] 136) := ⟨_, rfl⟩
       have hk6 : Keeps [] wr w6 := by rw [hw6]; exact (Keeps.refl _ _).alloc _
       have hB9 : Blk w6 wr.heap.size 136 #[.int .i64 bj.seq, .slice Ad bj.ds.length cd] := by rw [hw6]; exact Blk.new wr _ _
       obtain ⟨g9, Hg9⟩ : ∃ g9, Hid (g9 = wr.heap.size) := ⟨_, rfl⟩
       rw [← Hg9.out] at hB9
       have HK6 := Lib.hid hk6; have HB9 := Lib.hid hB9; have Hdj := Lib.hid hdj
       clear hk6 hB9 hdj
       obtain ⟨C3, Hv3⟩ : ∃ C3, Hid (AgV wr M3 tg3 a B3 C3) := by obtain ⟨_, C3, _, hv⟩ := HS3.out.ag; exact ⟨C3, hv⟩
       have HS11 : Hid (∀ W, Keeps [] w6 W → W.cell? ⟨a, 0, none⟩ = some (.int .i64 B3.node) ∧ W.cell? ⟨g9, 0, none⟩ = some (.int .i64 bj.seq)) := fun W hk => by
        have h1 := agcells (Hv3.out.keep0 HS3.out.x.lt (HK6.out.trans hk (by simp)))
        have h2 := hk.blk HB9.out (by simp)
        exact ⟨h1.1, h2.cell 0⟩
       go_upto_region 11 with (fail)
       rw [← hw6, ← Hg9.out]
       clear hw6 p0 p1
       refine wp_region_held_drew (S := (fun W => W.cell? ⟨a, 0, none⟩ = some (.int .i64 B3.node) ∧ W.cell? ⟨g9, 0, none⟩ = some (.int .i64 bj.seq))) (by kernel_rfl) (HS11.out _ (Keeps.refl _ _).drew) (fun hHeld => ?_)
       refine wpAnyH_take (i := 0) (oi := _) (v := ?v0u1) rfl (by kernel_rfl) (by kernel_rfl) (by kernel_rfl) (fun _ _ _ h => h) (Or.inl ⟨by rfl, ?y0u1⟩) (by assumption) ?r0u1
       case y0u1 => (intro w hSw; (obtain ⟨hS0, hS1⟩ := hSw); go_simp <;> with_reducible rfl)
       try simp only [List.getElem_toArray, List.getElem_cons_succ, List.getElem_cons_zero, Act.put, List.setIfInBounds_toArray, List.set_cons_zero, List.set_cons_succ]
       refine wpAnyH_take (i := 1) (oi := _) (v := ?v1u2) rfl (by kernel_rfl) (by kernel_rfl) (by kernel_rfl) (fun _ _ _ h => h) (Or.inl ⟨by rfl, ?y1u2⟩) (by assumption) ?r1u2
       case y1u2 => (intro w hSw; (obtain ⟨hS0, hS1⟩ := hSw); go_simp <;> with_reducible rfl)
       try simp only [List.getElem_toArray, List.getElem_cons_succ, List.getElem_cons_zero, Act.put, List.setIfInBounds_toArray, List.set_cons_zero, List.set_cons_succ]
       refine wpAnyH_take (i := 2) (oi := _) (v := ?v2u3) rfl (by kernel_rfl) (by kernel_rfl) (by kernel_rfl) (fun _ _ _ h => h) (Or.inl ⟨by rfl, ?y2u3⟩) (by assumption) ?r2u3
       case y2u3 => (intro w hSw; (obtain ⟨hS0, hS1⟩ := hSw); go_simp <;> with_reducible rfl)
       try simp only [List.getElem_toArray, List.getElem_cons_succ, List.getElem_cons_zero, Act.put, List.setIfInBounds_toArray, List.set_cons_zero, List.set_cons_succ]
       refine wpAnyH_take (i := 3) (oi := _) (v := ?v3u4) rfl (by kernel_rfl) (by kernel_rfl) (by kernel_rfl) (fun _ _ _ h => h) (Or.inl ⟨by rfl, ?y3u4⟩) (by assumption) ?r3u4
       case y3u4 => (intro w hSw; (obtain ⟨hS0, hS1⟩ := hSw); go_simp <;> with_reducible rfl)
       try simp only [List.getElem_toArray, List.getElem_cons_succ, List.getElem_cons_zero, Act.put, List.setIfInBounds_toArray, List.set_cons_zero, List.set_cons_succ]
       refine wpAnyH_take (i := 4) (oi := _) (v := ?v4u5) rfl (by kernel_rfl) (by kernel_rfl) (by kernel_rfl) (fun _ _ _ h => h) (Or.inl ⟨by rfl, ?y4u5⟩) (by assumption) ?r4u5
       case y4u5 => (intro w hSw; (obtain ⟨hS0, hS1⟩ := hSw); go_simp <;> with_reducible rfl)
       try simp only [List.getElem_toArray, List.getElem_cons_succ, List.getElem_cons_zero, Act.put, List.setIfInBounds_toArray, List.set_cons_zero, List.set_cons_succ]
       refine wpAnyH_take (i := 5) (oi := _) (v := ?v5u6) rfl (by kernel_rfl) (by kernel_rfl) (by kernel_rfl) (fun _ _ _ h => h) (Or.inl ⟨by rfl, ?y5u6⟩) (by assumption) ?r5u6
       case y5u6 => (intro w hSw; (obtain ⟨hS0, hS1⟩ := hSw); go_simp <;> with_reducible rfl)
       try simp only [List.getElem_toArray, List.getElem_cons_succ, List.getElem_cons_zero, Act.put, List.setIfInBounds_toArray, List.set_cons_zero, List.set_cons_succ]
       refine wpAnyH_take (i := 6) (oi := _) (v := ?v6u7) rfl (by kernel_rfl) (by kernel_rfl) (by kernel_rfl) (fun _ _ _ h => h) (Or.inl ⟨by rfl, ?y6u7⟩) (by assumption) ?r6u7
       case y6u7 => (intro w hSw; (obtain ⟨hS0, hS1⟩ := hSw); go_simp <;> with_reducible rfl)
       try simp only [List.getElem_toArray, List.getElem_cons_succ, List.getElem_cons_zero, Act.put, List.setIfInBounds_toArray, List.set_cons_zero, List.set_cons_succ]
       refine wpAnyH_take (i := 7) (oi := _) (v := ?v7u8) rfl (by kernel_rfl) (by kernel_rfl) (by kernel_rfl) (fun _ _ _ h => h) (Or.inl ⟨by rfl, ?y7u8⟩) (by assumption) ?r7u8
       case y7u8 => (intro w hSw; (obtain ⟨hS0, hS1⟩ := hSw); go_simp <;> with_reducible rfl)
       try simp only [List.getElem_toArray, List.getElem_cons_succ, List.getElem_cons_zero, Act.put, List.setIfInBounds_toArray, List.set_cons_zero, List.set_cons_succ]
       refine wpAnyH_ready (rs := [8]) (by kernel_rfl) (by simp) ?_
       refine AllReadyH.cons (o := _) rfl (fun K hK => ?_) AllReadyH.nil
       go_simp
       refine hK.out _ _ (HS11.out _ ((Keeps.refl [] w6).drew.alloc _)) (fun hHeld2 => ?_)
       clear hK K hHeld
       have hHeld := hHeld2
       clear hHeld2
       try simp only [List.getElem_toArray, List.getElem_cons_succ, List.getElem_cons_zero, Act.put, List.setIfInBounds_toArray, List.set_cons_zero, List.set_cons_succ]
       refine wpAnyH_ready (rs := [9]) (by kernel_rfl) (by simp) ?_
       refine AllReadyH.cons (o := _) rfl (fun K hK => ?_) AllReadyH.nil
       try simp only [List.getElem_toArray, List.getElem_cons_succ, List.getElem_cons_zero, Act.put, List.setIfInBounds_toArray, List.set_cons_zero, List.set_cons_succ]
       rw [if_pos (by rfl)]
       refine wp_store_blk 30 (.tmp 10) (.tmp 49) rfl w6.heap.size 0 30 _ #[.int .i64 B3.node, .int .i64 k, .int .i64 bj.seq] #[.int .i64 B3.node, .int .i64 k, .int .i64 bj.seq] rfl rfl (show Blk _ w6.drew.heap.size _ _ from Blk.new w6.drew _ _) (by show 0 + 3 ≤ 3; omega) rfl (by kernel_rfl) rfl ?_
       intro w7 hk7 hB10
       have hkc : Keeps [] w6 w7 := ((Keeps.refl [] w6).drew.alloc _).trans hk7 (by intro q hq; simp at hq; right; omega)
       have HK7 := Lib.hid hkc; have HB10 := Lib.hid hB10
       clear hk7 hB10 hkc
       refine hK.out _ _ (HS11.out _ HK7.out) (fun hHeld2 => ?_)
       clear hK K hHeld
       have hHeld := hHeld2
       clear hHeld2
       try simp only [List.getElem_toArray, List.getElem_cons_succ, List.getElem_cons_zero, Act.put, List.setIfInBounds_toArray, List.set_cons_zero, List.set_cons_succ]
       refine wpAnyH_done (by kernel_rfl) ?_ _
       clear hHeld
       obtain ⟨g10, Hg10⟩ : ∃ g10, Hid (g10 = w6.heap.size) := ⟨_, rfl⟩
       rw [← Hg10.out] at HB10
       have HK37 : Hid (Keeps [] wr w7) := HK6.out.trans HK7.out (by simp)
       have HB9 := Lib.hid (HK7.out.blk HB9.out (by simp))
       have ho3 : Hid (AgOk B3) := HS3.out.ag.1
       have hnode : I64 B3.node := ⟨by have := ho3.out.1.1; omega, by have := ho3.out.1.2; omega⟩
       have hk64 : I64 (k : Int) := ⟨by omega, by omega⟩
       have hq64 : I64 bj.seq := ⟨by omega, by omega⟩
       have htv : C3.Dt.atKey (ik B3.node k bj.seq) (.held zTry) = .held (.agg #[.int .i64 (tryD B3 k bj).1, .int .i64 (tryD B3 k bj).2]) := by rw [Hv3.out.trD k bj.seq hk64 hq64, tryV_eq]
       have htb := tryD_bd ho3.out k bj
       have Hdue : Hid (dueB B3 k bj = (decide ((tryD B3 k bj).1 = 0) || decide ((tryD B3 k bj).2 ≤ B3.now))) := rfl
       have HE6 : Hid (flightC B2 k l out2 = if dueB B3 k bj = true then flightC (agSend B3 k bj (tryD B3 k bj).1) k (l.drop (f + 1)) (out3 ++ [sendM B3 k bj (tryD B3 k bj).1]) else flightC B3 k (l.drop (f + 1)) out3) := HE5.out
       clear HE5
       generalize tryD B3 k bj = tt at *
       obtain ⟨tn, ta⟩ := tt
       simp only [] at htv htb Hdue HE6
       have HS12 : Hid (∀ W, Keeps [] w7 W → W.cell? ⟨a, 7, none⟩ = some (.map (some C3.tb)) ∧ W.cell? ⟨g10, 0, none⟩ = some (.int .i64 B3.node) ∧ W.cell? ⟨g10, 1, none⟩ = some (.int .i64 k) ∧ W.cell? ⟨g10, 2, none⟩ = some (.int .i64 bj.seq) ∧ (Instr.lookup 114 (.map (some C3.tb)) (.agg #[.int .i64 B3.node, .int .i64 k, .int .i64 bj.seq]) false).run Tryz.prog W = .ok (.agg #[.int .i64 tn, .int .i64 ta]) W) := fun W hk => by
        have hv := Hv3.out.keep0 HS3.out.x.lt (HK37.out.trans hk (by simp))
        have h2 := hk.blk HB10.out (by simp)
        exact ⟨(agcells hv).2.2.2.2.2.2.2.1, h2.cell 0, h2.cell 1, h2.cell 2, run_look_held hv.tr lawK uMT (zTryV W) (ik_of hnode hk64 hq64) htv⟩
       go_upto_region 12 with (fail)
       rw [← Hg10.out]
       refine wp_region_held_drew (S := (fun W => W.cell? ⟨a, 7, none⟩ = some (.map (some C3.tb)) ∧ W.cell? ⟨g10, 0, none⟩ = some (.int .i64 B3.node) ∧ W.cell? ⟨g10, 1, none⟩ = some (.int .i64 k) ∧ W.cell? ⟨g10, 2, none⟩ = some (.int .i64 bj.seq) ∧ (Instr.lookup 114 (.map (some C3.tb)) (.agg #[.int .i64 B3.node, .int .i64 k, .int .i64 bj.seq]) false).run Tryz.prog W = .ok (.agg #[.int .i64 tn, .int .i64 ta]) W)) (by kernel_rfl) (HS12.out _ (Keeps.refl _ _).drew) (fun hHeld => ?_)
       refine wpAnyH_take (i := 0) (oi := _) (v := ?v0u9) rfl (by kernel_rfl) (by kernel_rfl) (by kernel_rfl) (fun _ _ _ h => h) (Or.inl ⟨by rfl, ?y0u9⟩) (by assumption) ?r0u9
       case y0u9 => (intro w hSw; (obtain ⟨hS0, hS1, hS2, hS3, hS4⟩ := hSw); go_simp <;> with_reducible rfl)
       try simp only [List.getElem_toArray, List.getElem_cons_succ, List.getElem_cons_zero, Act.put, List.setIfInBounds_toArray, List.set_cons_zero, List.set_cons_succ]
       refine wpAnyH_take (i := 1) (oi := _) (v := ?v1u10) rfl (by kernel_rfl) (by kernel_rfl) (by kernel_rfl) (fun _ _ _ h => h) (Or.inl ⟨by rfl, ?y1u10⟩) (by assumption) ?r1u10
       case y1u10 => (intro w hSw; (obtain ⟨hS0, hS1, hS2, hS3, hS4⟩ := hSw); go_simp <;> with_reducible rfl)
       try simp only [List.getElem_toArray, List.getElem_cons_succ, List.getElem_cons_zero, Act.put, List.setIfInBounds_toArray, List.set_cons_zero, List.set_cons_succ]
       refine wpAnyH_take (i := 2) (oi := _) (v := ?v2u11) rfl (by kernel_rfl) (by kernel_rfl) (by kernel_rfl) (fun _ _ _ h => h) (Or.inl ⟨by rfl, ?y2u11⟩) (by assumption) ?r2u11
       case y2u11 => (intro w hSw; (obtain ⟨hS0, hS1, hS2, hS3, hS4⟩ := hSw); go_simp <;> with_reducible rfl)
       try simp only [List.getElem_toArray, List.getElem_cons_succ, List.getElem_cons_zero, Act.put, List.setIfInBounds_toArray, List.set_cons_zero, List.set_cons_succ]
       refine wpAnyH_take (i := 3) (oi := _) (v := ?v3u12) rfl (by kernel_rfl) (by kernel_rfl) (by kernel_rfl) (fun _ _ _ h => h) (Or.inl ⟨by rfl, ?y3u12⟩) (by assumption) ?r3u12
       case y3u12 => (intro w hSw; (obtain ⟨hS0, hS1, hS2, hS3, hS4⟩ := hSw); go_simp <;> with_reducible rfl)
       try simp only [List.getElem_toArray, List.getElem_cons_succ, List.getElem_cons_zero, Act.put, List.setIfInBounds_toArray, List.set_cons_zero, List.set_cons_succ]
       refine wpAnyH_take (i := 4) (oi := _) (v := ?v4u13) rfl (by kernel_rfl) (by kernel_rfl) (by kernel_rfl) (fun _ _ _ h => h) (Or.inl ⟨by rfl, ?y4u13⟩) (by assumption) ?r4u13
       case y4u13 => (intro w hSw; (obtain ⟨hS0, hS1, hS2, hS3, hS4⟩ := hSw); go_simp <;> with_reducible rfl)
       try simp only [List.getElem_toArray, List.getElem_cons_succ, List.getElem_cons_zero, Act.put, List.setIfInBounds_toArray, List.set_cons_zero, List.set_cons_succ]
       refine wpAnyH_take (i := 5) (oi := _) (v := ?v5u14) rfl (by kernel_rfl) (by kernel_rfl) (by kernel_rfl) (fun _ _ _ h => h) (Or.inl ⟨by rfl, ?y5u14⟩) (by assumption) ?r5u14
       case y5u14 => (intro w hSw; (obtain ⟨hS0, hS1, hS2, hS3, hS4⟩ := hSw); go_simp <;> with_reducible rfl)
       try simp only [List.getElem_toArray, List.getElem_cons_succ, List.getElem_cons_zero, Act.put, List.setIfInBounds_toArray, List.set_cons_zero, List.set_cons_succ]
       refine wpAnyH_ready (rs := [6]) (by kernel_rfl) (by simp) ?_
       refine AllReadyH.cons (o := _) rfl (fun K hK => ?_) AllReadyH.nil
       go_simp
       refine hK.out _ _ (HS12.out _ ((Keeps.refl [] w7).drew.alloc _)) (fun hHeld2 => ?_)
       clear hK K hHeld
       have hHeld := hHeld2
       clear hHeld2
       try simp only [List.getElem_toArray, List.getElem_cons_succ, List.getElem_cons_zero, Act.put, List.setIfInBounds_toArray, List.set_cons_zero, List.set_cons_succ]
       refine wpAnyH_ready (rs := [7]) (by kernel_rfl) (by simp) ?_
       refine AllReadyH.cons (o := _) rfl (fun K hK => ?_) AllReadyH.nil
       try simp only [List.getElem_toArray, List.getElem_cons_succ, List.getElem_cons_zero, Act.put, List.setIfInBounds_toArray, List.set_cons_zero, List.set_cons_succ]
       rw [if_pos (by rfl)]
       refine wp_store_blk 138 (.tmp 11) (.tmp 55) rfl w7.heap.size 0 138 _ #[.int .i64 tn, .int .i64 ta] #[.int .i64 tn, .int .i64 ta] rfl rfl (show Blk _ w7.drew.heap.size _ _ from Blk.new w7.drew _ _) (by show 0 + 2 ≤ 2; omega) rfl (by kernel_rfl) rfl ?_
       intro w8 hk8 hB11
       have hkc : Keeps [] w7 w8 := ((Keeps.refl [] w7).drew.alloc _).trans hk8 (by intro q hq; simp at hq; right; omega)
       have HK8 := Lib.hid hkc; have HB11 := Lib.hid hB11
       clear hk8 hB11 hkc
       refine hK.out _ _ (HS12.out _ HK8.out) (fun hHeld2 => ?_)
       clear hK K hHeld
       have hHeld := hHeld2
       clear hHeld2
       try simp only [List.getElem_toArray, List.getElem_cons_succ, List.getElem_cons_zero, Act.put, List.setIfInBounds_toArray, List.set_cons_zero, List.set_cons_succ]
       refine wpAnyH_done (by kernel_rfl) ?_ _
       clear hHeld
       obtain ⟨g11, Hg11⟩ : ∃ g11, Hid (g11 = w7.heap.size) := ⟨_, rfl⟩
       rw [← Hg11.out] at HB11
       have HK38 : Hid (Keeps [] wr w8) := HK37.out.trans HK8.out (by simp)
       have HB9 := Lib.hid (HK8.out.blk HB9.out (by simp)); have HB10 := Lib.hid (HK8.out.blk HB10.out (by simp))
       have d4 : w8.cell? ⟨a, 4, none⟩ = some (.int .i64 B3.now) := (agcells (Hv3.out.keep0 HS3.out.x.lt HK38.out)).2.2.2.2.1
       have e0 : w8.cell? ⟨g11, 0, none⟩ = some (.int .i64 tn) := HB11.out.cell 0
       have e1 : w8.cell? ⟨g11, 1, none⟩ = some (.int .i64 ta) := HB11.out.cell 1
       clear HS11 HS12 htv Hv3
       go_upto_region 13 with (fail)
       rw [← Hg11.out]
       go_cut [67] (fun c W => c = .bool (dueB B3 k bj) ∧ ∃ q, W = w8.drewN q)
       case first =>
        by_cases ht0 : tn = 0
        ·have hd1 : Hid (dueB B3 k bj = true) := by show _ = _; rw [Hdue.out]; simp [ht0]
         have hb1 : (tn == 0) = true := by simp [ht0]
         go_quiet (fail)
         go_wp2_with fail
         go_meet
         exact ⟨by rw [hd1.out], _, rfl⟩
        ·have hb1 : (tn == 0) = false := by simp [ht0]
         have hd1 : Hid (dueB B3 k bj = decide (ta ≤ B3.now)) := by show _ = _; rw [Hdue.out]; simp [ht0]
         go_quiet (fail)
         go_wp2_with fail
         go_meet
         exact ⟨by rw [hd1.out], _, rfl⟩
       case rest =>
       obtain ⟨rfl, q, hwc⟩ := hcut
       have HKc : Hid (Keeps [] wr wc) := by show Keeps _ _ _; rw [hwc]; exact HK38.out.drewN q
       have HB9 : Hid (Blk wc g9 136 #[.int .i64 bj.seq, .slice Ad bj.ds.length cd]) := by show Blk _ _ _ _; rw [hwc]; exact HB9.out
       have HB10 : Hid (Blk wc g10 30 #[.int .i64 B3.node, .int .i64 k, .int .i64 bj.seq]) := by show Blk _ _ _ _; rw [hwc]; exact HB10.out
       have HB11 : Hid (Blk wc g11 138 #[.int .i64 tn, .int .i64 ta]) := by show Blk _ _ _ _; rw [hwc]; exact HB11.out
       clear hwc d4 e0 e1 HK38 HK37 HK8 HK7 HK6
       have HSc := Lib.hid (HS3.out.keep0 HKc.out)
       have HQc : Hid (∀ j, j < 4 → QuAt wc M3 tg3 (10 + 2 * j) (qb j) (B.bk.q j)) := fun j hj => (HQ3.out j hj).keep0 HS3.out.x.lt HKc.out
       have Hbsc := Lib.hid (Hbs3.out.keep HKc.out (by simp))
       have Hdjc := Lib.hid (Hdj.out.keep HKc.out (by simp))
       clear HS3 HQ3 Hbs3 Hdj HKc Hdue
       cases hdu : dueB B3 k bj with
       | false =>
        rw [hdu, if_neg (by simp)] at HE6
        clear hdu
        go_wp2_with fail
        go_roundw
        case rel => exact ⟨f + 1, B3, out3, M3, tg3, by go_num, by omega, by omega, by omega, HB3.out, HSc.out, HE6.out, HQc.out, Hbsc.out⟩
        case measure => simp [intOf]; omega
       | true =>
        rw [hdu, if_pos rfl] at HE6
        have b0 := HB9.out.cell 0; have b1 := HB9.out.cell 1
        have b2 := HB10.out.cell 0; have b3 := HB10.out.cell 1; have b4 := HB10.out.cell 2
        have b5 := HB11.out.cell 0; have b6 := HB11.out.cell 1
        obtain ⟨nds, Hnds⟩ : ∃ nds, Hid (nds = bj.ds.length) := ⟨_, rfl⟩
        rw [← Hnds.out] at b1 hsq
        have hsend := Lib.hid (agsend_any HSc.out.ag HSc.out.x.lt (by omega) k hk4 bj (.slice Ad nds cd) ⟨hsq.1, hsq.2.1⟩ (by rw [Hnds.out]; exact Hdjc.out) (by have h2 := hsq.2.2; have h3 := Hnds.out; omega) tn ta htb)
        have HSD : Hid (∀ e W, SdPost M3 tg3 a d (agSend B3 k bj tn) (sendM B3 k bj tn) wc e W → ∃ Av cv M4 tg4, e = .returned (.agg #[.int .i64 ((B3.last + tn).tmod B3.reps), .int .i64 1, .int .i64 1, .int .i64 B3.node, .int .i64 k, .int .i64 bj.seq, .int .i64 B3.bk.ep, .slice Av nds cv, .string ⟨#[]⟩, .int .i64 B3.node, .int .i64 (B3.tag + 1), .int .i64 0, .int .i64 0, .int .u64 0, .int .i64 0, .int .i64 0, .slice none 0 0, .int .i64 0, .int .i64 0]) ∧ AgAt W M4 tg4 a d (agSend B3 k bj tn) ∧ Ext wc M3 tg3 W M4 tg4 ∧ Keeps (sel M3 tg3 [20, 23, 24]) wc W ∧ ∀ L, (∀ g ∈ L, g < wc.heap.size) → Ds W (L ++ M4) (.slice Av nds cv) bj.ds) := fun e W h => by
         obtain ⟨M4, tg4, dv', h1, h2, h3, h4, h5⟩ := h
         obtain ⟨Av, cv, rfl, _⟩ := (h5 [] (by simp)).len
         have hn : bj.ds.length = nds := Hnds.out.symm
         refine ⟨Av, cv, M4, tg4, ?_, h2, h3, h4, fun L hL => ?_⟩
         ·rw [h1]
          show Ending.returned (.agg #[.int .i64 ((B3.last + tn).tmod B3.reps), .int .i64 1, .int .i64 1, .int .i64 B3.node, .int .i64 k, .int .i64 bj.seq, .int .i64 B3.bk.ep, .slice Av bj.ds.length cv, .string ⟨#[]⟩, .int .i64 B3.node, .int .i64 (B3.tag + 1), .int .i64 0, .int .i64 0, .int .u64 0, .int .i64 0, .int .i64 0, .slice none 0 0, .int .i64 0, .int .i64 0]) = _
          rw [hn]
         ·have h6 := h5 L hL
          rw [← hn]
          exact h6
        go_wp2_with fail
        refine (show Calls Tryz.prog 67 #[.pointer (some ⟨a, 0, none⟩), .agg #[.int .i64 B3.node, .int .i64 k, .int .i64 bj.seq], .agg #[.int .i64 tn, .int .i64 ta], .agg #[.int .i64 bj.seq, .slice Ad nds cd]] wc _ from hsend.out).mono ?_
        intro e w9 hsd
        obtain ⟨Av, cv, M4, tg4, rfl, hag, hxg, hkg, hdg⟩ := HSD.out _ _ hsd
        have HS9 := Lib.hid (HSc.out.step hxg (hkg.sel_mono (by simp)) hag)
        have HQ9 : Hid (∀ j, j < 4 → QuAt w9 M4 tg4 (10 + 2 * j) (qb j) (B.bk.q j)) := fun j hj => (HQc.out j hj).keep hxg hkg (by simp; omega) (by simp; omega)
        have Hbs9 := Lib.hid (bats_more hxg hkg Hbsc.out)
        have Hdg := Lib.hid hdg
        have Hlc : Hid (w.heap.size ≤ wc.heap.size) := HSc.out.k.size
        clear hsd hag hxg hkg hdg hsend HSD HSc HQc Hbsc Hdjc HB9 HB10 HB11 b0 b1 b2 b3 b4 b5 b6
        obtain ⟨qs, hq1, hq2, hq3⟩ := HS9.out.qs
        have Hq1 := Lib.hid hq1; have Hq2 := Lib.hid hq2; have Hq3 := Lib.hid hq3
        clear hq1 hq2 hq3
        have hlo : out3.length ≤ 100000 := by omega
        go_wp2_with (at_builtin; refine wpList_append_any _ rfl (.tmp 68) (.tmp 74) 56 rfl w.heap.size 61 i0 _ 19 192 Tryz.underlying56 Hi0.out Hz0.out Hz1.out Hz2.out rfl (by omega) u5 out3.length (qs.flatMap snCell) rfl (own_below Hq2.out (below_new' w9 _)) (w9.heap.size + 1) (some ⟨w9.heap.size, 0, none⟩) 1 1 [.int .i64 ((B3.last + tn).tmod B3.reps), .int .i64 1, .int .i64 1, .int .i64 B3.node, .int .i64 k, .int .i64 bj.seq, .int .i64 B3.bk.ep, .slice Av nds cv, .string ⟨#[]⟩, .int .i64 B3.node, .int .i64 (B3.tag + 1), .int .i64 0, .int .i64 0, .int .u64 0, .int .i64 0, .int .i64 0, .slice none 0 0, .int .i64 0, .int .i64 0] rfl (reads_new w9 _ 19 1 _ rfl) (by intro u hu; simp only [List.mem_cons, List.not_mem_nil, or_false] at hu; rcases hu with rfl | rfl | rfl | rfl | rfl | rfl | rfl | rfl | rfl | rfl | rfl | rfl | rfl | rfl | rfl | rfl | rfl | rfl | rfl <;> rfl) (by unfold maxLen; omega) (by omega) (by have := HS9.out.k.size; rw [World.size_alloc]; omega) ?_)
        intro v10 w10 hown hg10 hat10
        obtain ⟨M5, tg5, h51, h52, h53⟩ := HS9.out.put (s := sendM B3 k bj tn) (dv := .slice Av nds cv) Hq1.out Hq2.out Hq3.out (fun L hL => Hdg.out L (fun g hg => Nat.lt_of_lt_of_le (hL g hg) Hlc.out)) hg10 (by rw [World.size_alloc]; exact hat10) hown
        have HS10 := Lib.hid h51
        have HQ10 : Hid (∀ j, j < 4 → QuAt w10 M5 tg5 (10 + 2 * j) (qb j) (B.bk.q j)) := fun j hj => (HQ9.out j hj).keep h52 h53 (by simp; omega) (by simp; omega)
        have Hbs10 := Lib.hid (bats_more h52 h53 Hbs9.out)
        have HB5 : Hid ((agSend B3 k bj tn).bk = B.bk ∧ (agSend B3 k bj tn).now = B.now + 1) := HB3.out
        have hcn5 : (agSend B3 k bj tn).cn = B3.cn + 2 := rfl
        have hlo5 : (out3 ++ [sendM B3 k bj tn]).length = out3.length + 1 := by simp
        clear hown hg10 hat10 h51 h52 h53 hdu
        go_wp2_with fail
        go_roundw
        case rel => exact ⟨f + 1, agSend B3 k bj tn, out3 ++ [sendM B3 k bj tn], M5, tg5, by go_num, by omega, by omega, by omega, HB5.out, HS10.out, HE6.out, HQ10.out, Hbs10.out⟩
        case measure => simp [intOf]; omega
      ·have hx3 : decide ((f : Int) < (l.length : Int)) = false := decide_eq_false (by omega)
       have HE5 : Hid (flightC B2 k l out2 = (B3, out3)) := by
        have h9 := HE4.out
        rw [List.drop_of_length_le (by omega)] at h9
        exact h9
       rw [HE5.out] at HE3
       have HE6 : Hid (queuesC 4 0 (agNow B) out = queuesC (4 - (k + 1)) (k + 1) B3 out3) := HE3.out
       clear HE3 HE5 HE4
       go_wp2_with fail
       go_roundw
       case rel => exact ⟨k + 1, B3, out3, M3, tg3, by go_num, by omega, by omega, by omega, HB3.out, HS3.out, HE6.out, HQ3.out⟩
       case measure => simp [intOf]; omega
    ·have hx2 : decide ((k : Int) < 4) = false := decide_eq_false (by omega)
     have hk4' : k = 4 := by omega
     have HE3 : Hid (queuesC 4 0 (agNow B) out = (B2, out2)) := by
      have h9 := HE2.out
      rw [hk4'] at h9
      exact h9
     rw [HE3.out] at HE1
     have HE4 : Hid (ticksC N A [] = ticksC (N - (j + 1)) B2 out2) := HE1.out
     have hnw2 : B2.now ≤ A.now + ((j + 1 : Nat) : Int) := by rw [HB2.out.2]; omega
     clear HE1 HE2 HE3
     go_wp2_with fail
     go_roundw
     case rel => exact ⟨j + 1, B2, out2, M2, tg2, by go_num, by omega, by omega, by omega, hnw2, HS2.out, HE4.out⟩
     case measure => simp [intOf]; omega
  ·have hx1 : decide ((j : Int) < (N : Int)) = false := decide_eq_false (by omega)
   have hP : Hid (TkPost M tg a d R w (.returned u5) wr) := by
    have h9 := HE.out
    rw [show N - j = 0 by omega] at h9
    rw [HT.out, h9]
    exact ⟨_, Mk, tgk, rfl, HS.out⟩
   go_wp2_with fail
   go_ret
   exact hP.out
end
end Go.Proofs.YtgdooockldgdlaaGreatDoor.Vi
end
section
namespace Go.Proofs.YtgdooockldgdlaaGreatDoor.Vi
open Go.RowKit Base Mem Go.Shelf Tape
open Draw
def ag0 : AgD := ⟨0, 0, 0, 0, 0, bk0, fun _ _ => none, [], [], 0, 0, 0⟩
def kD : DeltaD := ⟨⟨#[97, 61, 49]⟩, 5⟩
def kA : AgD := (agNew 3 2 []).getD ag0
def kB : AgD := (agIng kA kD).2
def kC : AgD := (agCutAll kB).1
def kT : AgD × List SentD := agTick kC 1
def kAns (t : Int) : MsgD := ⟨2, ⟨0, 0, 0, 0, 0, [], ⟨#[]⟩, 0, 0⟩, t, 1, 0, 0, 0, [], 0, 0⟩
def kR : Option (Int × Int) × Int × AgD := agRecv kT.1 0 (kAns 4294967297)
def kS : Option (Int × Int) × Int × AgD := agRecv kR.2.2 0 (kAns 4294967297)
theorem k_new : (agNew 3 2 []).isSome = true ∧ (agNew (-1) 2 []).isNone = true := by decide +kernel
theorem k_ing : (agIng kA ⟨⟨#[]⟩, 1⟩).1 = 1 ∧ (agIng kA kD).1 = 0 ∧ kB.bk.sa.length = 1 := by decide +kernel
theorem k_cut : (agCutAll kB).2 = [(3, 0, 1)] := by decide +kernel
theorem k_tick : kT.2.length = 1 ∧ (kT.2.map fun s => (s.dst, s.m.en.tag)) = [(0, 4294967297)] := by decide +kernel
theorem k_recv : kR.1 = some (0, 1) ∧ kR.2.1 = 1 ∧ kS.1 = none ∧ kS.2.1 = 0 := by decide +kernel
theorem k_end : agQueued kS.2.2 = [] ∧ kS.2.2.bk.ep = 1 := by decide +kernel
theorem k_again : (agNew 3 2 kS.2.2.b).isSome = true ∧ ((agNew 3 2 kS.2.2.b).getD ag0).bk.ep = 2 ∧ (agCutAll ((agNew 3 2 kS.2.2.b).getD ag0)).2 = [] := by decide +kernel
def kN : AgD := (agNew 3 2 kS.2.2.b).getD ag0
theorem k_node : kT.1.node = 3 ∧ kR.2.2.node = 3 ∧ kT.1.cn + 1 ≤ 1099511627776 ∧ kR.2.2.cn + 1 ≤ 1099511627776 ∧ kS.2.2.n ≤ kN.b.length ∧ kN.bk.ep = 2 ∧ (agCutAll kN).2 = [] := by decide +kernel
end Go.Proofs.YtgdooockldgdlaaGreatDoor.Vi
end
section
namespace Go.Proofs.YtgdooockldgdlaaGreatDoor.Vi
open Go.RowKit Base Mem Go.Shelf Tape
section
variable {w w' : World} {M : List Nat} {tg : Nat → Nat} {a d : Nat} {A : AgD}
def NbPost (M : List Nat) (tg : Nat → Nat) (a d : Nat) (A B : AgD) (w : World) (e : Ending) (w' : World) : Prop :=
 ∃ M1 tg1 a2 M2 tg2, e = .returned (.pointer (some ⟨a2, 0, none⟩)) ∧ AgAt w' M1 tg1 a d { A with b := B.b, k := B.k } ∧ Ext w M tg w' M1 tg1 ∧ Keeps (sel M tg [21, 22]) w w' ∧ AgAt w' M2 tg2 a2 d B ∧ (∀ g ∈ M2, g ∈ sel M tg [22] ∨ w.heap.size ≤ g) ∧ ∀ g ∈ M2, g < w'.heap.size
theorem agnew_beside (h : AgAt w M tg a d A) (hM : ∀ g ∈ M, g < w.heap.size) (h0 : 0 ∉ M) (node reps m : Int) (hm : w.cell? ⟨0, 0, none⟩ = some (.int .i64 m)) (B : AgD) (hB : agNew node reps A.b = some B) (hn : A.n ≤ B.b.length) :
  Calls Tryz.prog 16 #[.int .i64 node, .int .i64 reps, .pointer (some ⟨d, 0, none⟩)] w fun e w' => NbPost M tg a d A B w e w' := by
 obtain ⟨ho, C, rfl, hv⟩ := h
 have hd : DkAt w C.Y C.d A.b A.k := hv.lg.2.1
 refine (agnew_any hd node reps m (fun hm => h0 (hv.yM 0 hm).1) hm).mono ?_
 rintro e w' ⟨hk, hR⟩
 rw [hB] at hR
 obtain ⟨a2, M2, tg2, he, hag2, hnew, hlt, hY⟩ := hR
 obtain ⟨ho2, C2, hC2, hv2⟩ := id hag2
 have hpw := hM _ hv.pM
 have hp2 : C.p ∉ C2.Y := fun hm => by
  rcases hnew _ (hv2.yM _ hm).1 with h | h
  ·exact hv.lg.2.2.1 h
  ·omega
 have hlg : LgAt w' C.p C2.Y C.d B.b B.k A.n := ⟨hk.blk hv.lg.1 hv.lg.2.2.1, hC2 ▸ hv2.lg.2.1, hp2, hn⟩
 obtain ⟨M1, tg1, r1, r2, r3⟩ := hv.setLg hM hlg (fun g hg => hnew g (hv2.yM g hg).1) (hk.mono (fun g hg => .inl (List.mem_cons_of_mem _ hg)))
 obtain ⟨p1, p2, p3, p4, p5, p6, p7, p8⟩ := ho
 refine ⟨M1, tg1, a2, M2, tg2, he, ⟨⟨p1, p2, p3, p4, p5, p6, p7, p8⟩, _, by rfl, r1⟩, r2, r3, hag2, fun g hg => ?_, hlt⟩
 rcases hnew g hg with h | h
 ·exact .inl (mem_sel.2 ⟨(hv.yM g h).1, by rw [(hv.yM g h).2]; simp⟩)
 ·exact .inr h
end
end Go.Proofs.YtgdooockldgdlaaGreatDoor.Vi
end
section
namespace Go.Proofs.YtgdooockldgdlaaGreatDoor.Vi
open Go.RowKit Base Mem Go.Shelf Tape
open Draw
/-- An agent under way in a law: its blocks are new since the law began. -/
structure KnSt (w W : World) (M : List Nat) (tg : Nat → Nat) (a d : Nat) (A : AgD) : Prop where
 ag : AgAt W M tg a d A
 lt : ∀ g ∈ M, g < W.heap.size
 old : ∀ g ∈ M, w.heap.size ≤ g
 bel : Below w.heap.size w W
section
variable {w W V : World} {M M' : List Nat} {tg tg' : Nat → Nat} {a d : Nat} {A B : AgD} {T : List Nat}
theorem KnSt.step (h : KnSt w W M tg a d A) (x : Ext W M tg V M' tg') (k : Keeps (sel M tg T) W V) (ag : AgAt V M' tg' a d B) : KnSt w V M' tg' a d B :=
 ⟨ag, x.lt, fun g hg => by
  rcases x.new g hg with h1 | h1
  ·exact h.old g h1
  ·exact Nat.le_trans h.bel.size h1, h.bel.trans (k.belowB h.bel.size (fun g hg => h.old g (mem_sel.1 hg).1))⟩
theorem KnSt.keep0 (h : KnSt w W M tg a d A) (k : Keeps [] W V) : KnSt w V M tg a d A :=
 h.step (T := []) (Ext.refl h.lt k.size) (k.to_sel (by simp)) (h.ag.keep0 h.lt k)
theorem KnSt.cell0 (h : KnSt w W M tg a d A) {m : Int} (hm : w.cell? ⟨0, 0, none⟩ = some (.int .i64 m)) : W.cell? ⟨0, 0, none⟩ = some (.int .i64 m) ∧ 0 ∉ M := by
 have hw0 : 0 < w.heap.size := by
  have := World.block_lt_of_cell? w _ hm
  simpa using this
 exact ⟨(h.bel.cell (p := ⟨0, 0, none⟩) hw0).trans hm, fun h1 => by have := h.old 0 h1; omega⟩
theorem kn_new {b : List UInt8} {k : Nat} {Y : List Nat} {e : Ending} (hb : Below w.heap.size w W) (hY : ∀ g ∈ Y, w.heap.size ≤ g) (h : NwPost Y d (some A) W e V) : ∃ a M tg, e = .returned (.pointer (some ⟨a, 0, none⟩)) ∧ KnSt w V M tg a d A := by
 obtain ⟨hk, a, M, tg, he, hag, hn, hlt, _⟩ := h
 exact ⟨a, M, tg, he, hag, hlt, fun g hg => (hn g hg).elim (hY g) (fun h1 => Nat.le_trans hb.size h1), hb.trans (hk.belowB hb.size hY)⟩
theorem kA_eq : agNew 3 2 [] = some kA := by
 have h := k_new.1
 unfold kA
 cases h2 : agNew 3 2 [] with
 | none => rw [h2] at h; cases h
 | some x => rfl
theorem kNo_eq : agNew (-1) 2 [] = none := by
 have h := k_new.2
 cases h2 : agNew (-1) 2 [] with
 | none => rfl
 | some x => rw [h2] at h; cases h
theorem kN_eq : agNew 3 2 kS.2.2.b = some kN := by
 have h := k_again.1
 unfold kN
 cases h2 : agNew 3 2 kS.2.2.b with
 | none => rw [h2] at h; cases h
 | some x => rfl
theorem row_one {base size : Nat} {e : TypeId} {v : Value} {xs : List Value} (h : W.ownsRow base e size v 1 xs) : ∃ g cap, v = .slice (some ⟨g, 0, none⟩) 1 cap ∧ 1 ≤ cap ∧ g < W.heap.size ∧ v.ownBlock = some g ∧ ∀ j u, xs[j]? = some u → W.cell? ⟨g, j, none⟩ = some u := by
 obtain ⟨g, cap, hv, _, hlt⟩ := h.form (by omega)
 obtain ⟨A, c, h1, h2, h3, h4⟩ := Rd.of_own (M := []) h (by simp)
 obtain ⟨g', off, e1, _, _, h5⟩ := h4 (by omega)
 rw [hv] at h1
 injection h1 with h1 _ h6
 rw [e1] at h1
 injection h1 with h1
 injection h1 with h7 h8
 subst h7 h8 h6
 exact ⟨g, cap, hv, h2, hlt, by rw [hv]; rfl, fun j u hu => by have := h5 j u hu; rwa [Nat.zero_add] at this⟩
theorem kept99 {g : Nat} (h : KnSt w W M tg a d A) (hk : Keeps (sel M tg (List.range 30)) W V) (hg : g ∈ M ∧ tg g = 99) (j : Nat) : V.cell? ⟨g, j, none⟩ = W.cell? ⟨g, j, none⟩ :=
 hk.cell (p := ⟨g, j, none⟩) (h.lt g hg.1) (fun hm => by have := (mem_sel.1 hm).2; rw [hg.2] at this; simp at this)
theorem ext99 {g : Nat} (x : Ext W M tg V M' tg') (hg : g ∈ M ∧ tg g = 99) : g ∈ M' ∧ tg' g = 99 := ⟨x.sub g hg.1, by rw [x.tag g (x.old g hg.1)]; exact hg.2⟩
theorem kAns_at (t : Int) (W : World) : MsgAt W [] (kAns t) (.slice none 0 0) (.slice none 0 0) := ⟨Ds.nil _ _, Ens.nil _ _⟩
theorem kAns_short (t : Int) : MShort (kAns t) := ⟨⟨by show (0 : Nat) < _; omega, by simp [kAns], by simp [kAns]⟩, by simp [kAns], by simp [kAns]⟩
set_option maxRecDepth 100000 in
set_option maxHeartbeats 4000000 in
theorem known19_any (m : Int) (w : World) (hm : w.cell? ⟨0, 0, none⟩ = some (.int .i64 m)) :
    Calls Tryz.prog 23 #[] w fun e w' => e = .returned (.bool true) ∧ Below w.heap.size w w' := by
  have Hm := Lib.hid hm
  have hw0 : 0 < w.heap.size := by
    have := World.block_lt_of_cell? w _ hm
    simpa using this
  clear hm
  go_enter Tryz.func23, Tryz.ntmps23
  go_wp2_with fail
  refine (dknew_any w).mono ?_
  rintro e w1 ⟨rfl, hd1, hb1⟩
  obtain ⟨d, Hd⟩ : ∃ d, Hid (d = w.heap.size) := ⟨_, rfl⟩
  rw [← Hd.out] at hd1 ⊢
  have hnw := Lib.hid (agnew_any hd1 3 2 m (by have := Hd.out; simp; omega) ((hb1.cell (p := ⟨0, 0, none⟩) hw0).trans Hm.out))
  have Hb1 := Lib.hid hb1
  clear hd1 hb1
  go_wp2_with fail
  refine hnw.out.mono ?_
  intro e w2 hp
  rw [kA_eq] at hp
  obtain ⟨a, M2, tg2, rfl, hs2⟩ := kn_new (b := []) (k := 0) Hb1.out (by simp [Hd.out]) hp
  have HS2 := Lib.hid hs2
  clear hp hs2 hnw Hb1
  go_wp2_with fail
  refine (dknew_any w2).mono ?_
  rintro e w3 ⟨rfl, hd3, hb3⟩
  have hnn := Lib.hid (agnew_any hd3 (-1) 2 m (by have := HS2.out.bel.size; simp; omega) ((hb3.cell (p := ⟨0, 0, none⟩) (Nat.lt_of_lt_of_le hw0 HS2.out.bel.size)).trans (HS2.out.cell0 Hm.out).1))
  have Hk3 := Lib.hid (Keeps.of_below (M := []) hb3)
  clear hd3 hb3
  go_wp2_with fail
  refine hnn.out.mono ?_
  intro e w4 hp
  rw [kNo_eq] at hp
  obtain ⟨hk4, he⟩ := hp
  have he' : e = .returned (.pointer none) := he
  subst he'
  have HS4 := Lib.hid (HS2.out.keep0 (Hk3.out.trans hk4 (by intro q hq; simp at hq; right; omega)))
  clear hk4 he hnn HS2 Hk3
  have hI0 := Lib.hid (aging_no HS4.out.ag HS4.out.lt ⟨⟨#[]⟩, 1⟩ ⟨by decide, by decide⟩ (by decide) m (HS4.out.cell0 Hm.out).1 (by decide +kernel))
  go_wp2_with fail
  refine hI0.out.mono ?_
  rintro e w5 ⟨rfl, M5, tg5, h1, h2, h3⟩
  have HS5 := Lib.hid (HS4.out.step h2 h3 h1)
  clear h1 h2 h3 hI0 HS4
  have hI1 := Lib.hid (aging_yes HS5.out.ag HS5.out.lt kD ⟨by decide, by decide⟩ (by decide) m (HS5.out.cell0 Hm.out).1 (by decide +kernel))
  go_wp2_with fail
  refine hI1.out.mono ?_
  rintro e w6 ⟨rfl, M6, tg6, h1, h2, h3⟩
  have HS6 : Hid (KnSt w w6 M6 tg6 a d kB) := HS5.out.step h2 h3 h1
  clear h1 h2 h3 hI1 HS5
  have hwt := Lib.hid (agwaits_any HS6.out.ag)
  go_wp2_with fail
  refine hwt.out.mono ?_
  rintro e w7 ⟨rfl, rfl⟩
  have hcu := Lib.hid (agcutall_any HS6.out.ag HS6.out.lt)
  clear hwt
  go_wp2_with fail
  refine hcu.out.mono ?_
  rintro e w7 ⟨v6, rfl, hrow, M7, tg7, h1, h2, h3, hfar⟩
  have HS7 : Hid (KnSt w w7 M7 tg7 a d kC) := HS6.out.step h2 h3 h1
  have Hrow := Lib.hid hrow; have Hfar := Lib.hid hfar
  clear h1 h2 h3 hrow hfar hcu
  have htk := Lib.hid (agtick_any HS7.out.ag HS7.out.lt 1 (by decide +kernel) (by decide +kernel))
  go_wp2_with fail
  refine htk.out.mono ?_
  rintro e w8 ⟨v7, M8, tg8, rfl, hts⟩
  have HTS : Hid (TkSt w7 M7 tg7 a d kT.1 kT.2 v7 w8 M8 tg8) := hts
  clear hts htk
  have hrow7 := Hrow.out
  rw [k_cut] at hrow7
  obtain ⟨gc, cc, rfl, hcc, hgcl, hgo, hcel⟩ := row_one hrow7
  have Hgc7 := Lib.hid (Hfar.out gc hgo)
  have q0 : w7.cell? ⟨gc, 0, none⟩ = some (.int .i64 3) := hcel 0 _ rfl
  have q1 : w7.cell? ⟨gc, 1, none⟩ = some (.int .i64 0) := hcel 1 _ rfl
  have q2 : w7.cell? ⟨gc, 2, none⟩ = some (.int .i64 1) := hcel 2 _ rfl
  obtain ⟨qs, hq1, hq2, _⟩ := HTS.out.qs
  rw [k_tick.1] at hq2
  obtain ⟨gl, cl, rfl, hcl, hgll, hlo, hlel⟩ := row_one hq2
  have Hgl8 := Lib.hid (HTS.out.far gl hlo)
  have hl0 : w8.cell? ⟨gl, 0, none⟩ = some (.int .i64 0) ∧ w8.cell? ⟨gl, 10, none⟩ = some (.int .i64 4294967297) := by
    have h1 : qs.length = 1 := by rw [← List.length_map (f := (·.1)), hq1]; exact k_tick.1
    obtain ⟨q, rfl⟩ := List.length_eq_one_iff.1 h1
    have h2 := k_tick.2
    rw [← hq1] at h2
    simp at h2
    obtain ⟨e1, e2⟩ := h2
    have c0 : ([q].flatMap snCell)[0]? = some (.int .i64 q.1.dst) := rfl
    have c10 : ([q].flatMap snCell)[10]? = some (.int .i64 q.1.m.en.tag) := rfl
    rw [e1] at c0
    rw [e2] at c10
    exact ⟨hlel 0 _ c0, hlel 10 _ c10⟩
  have HS8 : Hid (KnSt w w8 M8 tg8 a d kT.1) := HS7.out.step HTS.out.x HTS.out.k HTS.out.ag
  have Hgc8 := Lib.hid (ext99 HTS.out.x Hgc7.out)
  have Hq8 : Hid (w8.cell? ⟨gc, 0, none⟩ = some (.int .i64 3) ∧ w8.cell? ⟨gc, 1, none⟩ = some (.int .i64 0) ∧ w8.cell? ⟨gc, 2, none⟩ = some (.int .i64 1)) := ⟨(kept99 HS7.out HTS.out.k Hgc7.out 0).trans q0, (kept99 HS7.out HTS.out.k Hgc7.out 1).trans q1, (kept99 HS7.out HTS.out.k Hgc7.out 2).trans q2⟩
  have Hl8 := Lib.hid hl0
  have hrc := Lib.hid (agrecv_any HS8.out.ag HS8.out.lt k_node.2.2.1 0 (kAns 4294967297) _ _ m (kAns_at _ _) (kAns_short _) ⟨by decide, by decide⟩ (HS8.out.cell0 Hm.out).1)
  have hlen : (agCutAll kB).2.length = 1 := by rw [k_cut]; rfl
  have hlen2 : (agTick kC 1).2.length = 1 := k_tick.1
  obtain ⟨-, l10⟩ := hl0
  clear Hrow Hfar hrow7 hcel hgo q0 q1 q2 hq1 hq2 hlo hlel HTS HS7 Hgc7
  go_wp2_with fail
  refine (show Calls Tryz.prog 24 #[.pointer (some ⟨a, 0, none⟩), .int .i64 0, .agg #[.int .i64 2, .int .i64 0, .int .i64 0, .int .i64 0, .int .i64 0, .int .i64 0, .slice none 0 0, .string ⟨#[]⟩, .int .i64 0, .int .i64 0, .int .i64 4294967297, .int .i64 1, .int .u64 0, .int .i64 0, .int .i64 0, .slice none 0 0, .int .i64 0, .int .i64 0]] w8 _ from hrc.out).mono ?_
  rintro e w9 ⟨he, M9, tg9, h1, h2, h3⟩
  have he2 : e = .returned (.tuple #[.agg #[.int .i64 3, .int .i64 0, .int .i64 1], .int .i64 1]) := by
    rw [he]
    show Ending.returned (.tuple #[idV kT.1.node kR.1, .int .i64 kR.2.1]) = _
    rw [k_recv.1, k_recv.2.1, k_node.1]
    rfl
  subst he2
  have HS9 : Hid (KnSt w w9 M9 tg9 a d kR.2.2) := HS8.out.step h2 h3 h1
  have Hgc9 := Lib.hid (ext99 h2 Hgc8.out); have Hgl9 := Lib.hid (ext99 h2 Hgl8.out)
  have Hq9 : Hid (w9.cell? ⟨gc, 0, none⟩ = some (.int .i64 3) ∧ w9.cell? ⟨gc, 1, none⟩ = some (.int .i64 0) ∧ w9.cell? ⟨gc, 2, none⟩ = some (.int .i64 1) ∧ w9.cell? ⟨gl, 0, none⟩ = some (.int .i64 0) ∧ w9.cell? ⟨gl, 10, none⟩ = some (.int .i64 4294967297)) := ⟨(kept99 HS8.out h3 Hgc8.out 0).trans Hq8.out.1, (kept99 HS8.out h3 Hgc8.out 1).trans Hq8.out.2.1, (kept99 HS8.out h3 Hgc8.out 2).trans Hq8.out.2.2, (kept99 HS8.out h3 Hgl8.out 0).trans Hl8.out.1, (kept99 HS8.out h3 Hgl8.out 10).trans Hl8.out.2⟩
  have hgl9 : gl < w9.heap.size := HS9.out.lt _ Hgl9.out.1
  clear he h1 h2 h3 hrc HS8 Hgc8 Hgl8 Hq8 Hl8 l10
  -- the second answer
  obtain ⟨wA, hwA⟩ : ∃ wA, wA = w9.alloc (.cells #[.int .i64 3, .int .i64 0, .int .i64 1] 30) := ⟨_, rfl⟩
  have hkA : Keeps [] w9 wA := by rw [hwA]; exact (Keeps.refl _ _).alloc _
  have HBi := Lib.hid (show Blk wA w9.heap.size 30 #[.int .i64 3, .int .i64 0, .int .i64 1] by rw [hwA]; exact Blk.new w9 _ _)
  have HSA := Lib.hid (HS9.out.keep0 hkA)
  have hqA : Hid (wA.cell? ⟨gc, 0, none⟩ = some (.int .i64 3) ∧ wA.cell? ⟨gc, 1, none⟩ = some (.int .i64 0) ∧ wA.cell? ⟨gc, 2, none⟩ = some (.int .i64 1) ∧ wA.cell? ⟨gl, 0, none⟩ = some (.int .i64 0) ∧ wA.cell? ⟨gl, 10, none⟩ = some (.int .i64 4294967297)) := by
    have f : ∀ g j, g < w9.heap.size → wA.cell? ⟨g, j, none⟩ = w9.cell? ⟨g, j, none⟩ := fun g j hg => hkA.cell (p := ⟨g, j, none⟩) hg (by simp)
    have h5 := HS9.out.lt _ Hgc9.out.1
    obtain ⟨a1, a2, a3, a4, a5⟩ := Hq9.out
    exact ⟨(f _ _ h5).trans a1, (f _ _ h5).trans a2, (f _ _ h5).trans a3, (f _ _ hgl9).trans a4, (f _ _ hgl9).trans a5⟩
  have hrc := Lib.hid (agrecv_any HSA.out.ag HSA.out.lt k_node.2.2.2.1 0 (kAns 4294967297) _ _ m (kAns_at _ _) (kAns_short _) ⟨by decide, by decide⟩ (HSA.out.cell0 Hm.out).1)
  have l10 := hqA.out.2.2.2.2
  have hwA' : w9.alloc (.cells #[.int .i64 3, .int .i64 0, .int .i64 1] 30) = wA := hwA.symm
  clear hwA hkA Hq9
  go_upto_region 12 with (fail)
  try rw [hwA']
  obtain ⟨gi, Hgi⟩ : ∃ gi, Hid (gi = w9.heap.size) := ⟨_, rfl⟩
  rw [← Hgi.out] at HBi ⊢
  have Hni : Hid (gi ∉ M9) := fun hm => by have h1 := HS9.out.lt _ hm; have h2 := Hgi.out; omega
  clear hwA'
  go_wp2_with fail
  refine (show Calls Tryz.prog 24 #[.pointer (some ⟨a, 0, none⟩), .int .i64 0, .agg #[.int .i64 2, .int .i64 0, .int .i64 0, .int .i64 0, .int .i64 0, .int .i64 0, .slice none 0 0, .string ⟨#[]⟩, .int .i64 0, .int .i64 0, .int .i64 4294967297, .int .i64 1, .int .u64 0, .int .i64 0, .int .i64 0, .slice none 0 0, .int .i64 0, .int .i64 0]] wA _ from hrc.out).mono ?_
  rintro e w10 ⟨he, M10, tg10, h1, h2, h3⟩
  have he2 : e = .returned (.tuple #[.agg #[.int .i64 0, .int .i64 0, .int .i64 0], .int .i64 0]) := by
    rw [he]
    show Ending.returned (.tuple #[idV kR.2.2.node kS.1, .int .i64 kS.2.1]) = _
    rw [k_recv.2.2.1, k_recv.2.2.2]
    rfl
  subst he2
  have HS10 : Hid (KnSt w w10 M10 tg10 a d kS.2.2) := HSA.out.step h2 h3 h1
  have Hgc10 := Lib.hid (ext99 h2 Hgc9.out); have Hgl10 := Lib.hid (ext99 h2 Hgl9.out)
  have Hq10 : Hid (w10.cell? ⟨gc, 0, none⟩ = some (.int .i64 3) ∧ w10.cell? ⟨gc, 1, none⟩ = some (.int .i64 0) ∧ w10.cell? ⟨gc, 2, none⟩ = some (.int .i64 1) ∧ w10.cell? ⟨gl, 0, none⟩ = some (.int .i64 0) ∧ w10.cell? ⟨gl, 10, none⟩ = some (.int .i64 4294967297)) := ⟨(kept99 HSA.out h3 Hgc9.out 0).trans hqA.out.1, (kept99 HSA.out h3 Hgc9.out 1).trans hqA.out.2.1, (kept99 HSA.out h3 Hgc9.out 2).trans hqA.out.2.2.1, (kept99 HSA.out h3 Hgl9.out 0).trans hqA.out.2.2.2.1, (kept99 HSA.out h3 Hgl9.out 10).trans hqA.out.2.2.2.2⟩
  have HBi10 := Lib.hid (h3.blk HBi.out (fun hm => Hni.out (mem_sel.1 hm).1))
  have Hni10 : Hid (gi ∉ M10) := fun hm => by
    rcases h2.new _ hm with h | h
    · exact Hni.out h
    · have := HBi.out.lt; omega
  clear he h1 h2 h3 hrc HSA Hgc9 Hgl9 hqA l10 HBi Hni HS9 hgl9
  -- the second agent
  obtain ⟨wB, hwB⟩ : ∃ wB, wB = w10.alloc (.cells #[.int .i64 0, .int .i64 0, .int .i64 0] 30) := ⟨_, rfl⟩
  have hkB : Keeps [] w10 wB := by rw [hwB]; exact (Keeps.refl _ _).alloc _
  have HSB := Lib.hid (HS10.out.keep0 hkB)
  have HkB := Lib.hid hkB
  have HwB' : Hid (w10.alloc (.cells #[.int .i64 0, .int .i64 0, .int .i64 0] 30) = wB) := hwB.symm
  have hnb := Lib.hid (agnew_beside HSB.out.ag HSB.out.lt (HSB.out.cell0 Hm.out).2 3 2 m (HSB.out.cell0 Hm.out).1 kN kN_eq k_node.2.2.2.2.1)
  clear hwB hkB
  go_upto_region 13 with (fail)
  rw [HwB'.out]
  clear HwB'
  go_wp2_with fail
  refine hnb.out.mono ?_
  rintro e w11 ⟨M1, tg1, a2, M2', tg2', rfl, h1, h2, h3, h4, h5, h6⟩
  have hk3 := h3.sel_mono (T' := List.range 30) (by simp)
  have HS11 := Lib.hid (HSB.out.step h2 h3 h1)
  have HT11 : Hid (KnSt w w11 M2' tg2' a2 d kN) := ⟨h4, h6, fun g hg => by
    rcases h5 g hg with h | h
    · exact HSB.out.old g (mem_sel.1 h).1
    · exact Nat.le_trans HSB.out.bel.size h, HS11.out.bel⟩
  have hq11 : w11.cell? ⟨gc, 0, none⟩ = some (.int .i64 3) ∧ w11.cell? ⟨gc, 1, none⟩ = some (.int .i64 0) ∧ w11.cell? ⟨gc, 2, none⟩ = some (.int .i64 1) ∧ w11.cell? ⟨gl, 0, none⟩ = some (.int .i64 0) ∧ w11.cell? ⟨gl, 10, none⟩ = some (.int .i64 4294967297) := by
    have f : ∀ g j, g ∈ M10 ∧ tg10 g = 99 → w11.cell? ⟨g, j, none⟩ = w10.cell? ⟨g, j, none⟩ := fun g j hg => (kept99 HSB.out hk3 hg j).trans (HkB.out.cell (p := ⟨g, j, none⟩) (HS10.out.lt _ hg.1) (by simp))
    obtain ⟨a1, a2, a3, a4, a5⟩ := Hq10.out
    exact ⟨(f _ _ Hgc10.out).trans a1, (f _ _ Hgc10.out).trans a2, (f _ _ Hgc10.out).trans a3, (f _ _ Hgl10.out).trans a4, (f _ _ Hgl10.out).trans a5⟩
  have hBi11 := h3.blk (HkB.out.blk HBi10.out (by simp)) (fun hm => Hni10.out (mem_sel.1 hm).1)
  have j0 := hBi11.cell 0; have j1 := hBi11.cell 1; have j2 := hBi11.cell 2
  simp only [List.getElem?_toArray, List.getElem?_cons_succ, List.getElem?_cons_zero] at j0 j1 j2
  obtain ⟨q0, q1, q2, q3, q4⟩ := hq11
  have x1 : mayB kA.bk ⟨⟨#[]⟩, 1⟩ = 1 := by decide +kernel
  have x2 : (agIng kA kD).1 = 0 := k_ing.2.1
  have x3 : kB.bk.sa.length = 1 := k_ing.2.2
  have hn2 : gc ∉ M2' ∧ gl ∉ M2' ∧ gi ∉ M2' := by
    have hnot : ∀ g, g < wB.heap.size → ¬ (g ∈ M10 ∧ tg10 g = 22) → g ∉ M2' := fun g hg hn hm => by
      rcases h5 g hm with h | h
      · obtain ⟨q1, q2⟩ := mem_sel.1 h
        exact hn ⟨q1, by simpa using q2⟩
      · omega
    have hsz := HkB.out.size
    refine ⟨hnot _ (Nat.lt_of_lt_of_le (HS10.out.lt _ Hgc10.out.1) hsz) (fun h => by have := Hgc10.out.2; omega), hnot _ (Nat.lt_of_lt_of_le (HS10.out.lt _ Hgl10.out.1) hsz) (fun h => by have := Hgl10.out.2; omega), hnot _ (Nat.lt_of_lt_of_le HBi10.out.lt hsz) (fun h => Hni10.out h.1)⟩
  have hlc : gc < w11.heap.size ∧ gl < w11.heap.size := ⟨HS11.out.lt _ (ext99 h2 Hgc10.out).1, HS11.out.lt _ (ext99 h2 Hgl10.out).1⟩
  have HBi11 := Lib.hid hBi11
  have HSS : Hid (∀ W, Keeps (sel M2' tg2' (List.range 30)) w11 W → W.cell? ⟨gc, 0, none⟩ = some (.int .i64 3) ∧ W.cell? ⟨gc, 1, none⟩ = some (.int .i64 0) ∧ W.cell? ⟨gc, 2, none⟩ = some (.int .i64 1) ∧ W.cell? ⟨gl, 0, none⟩ = some (.int .i64 0) ∧ W.cell? ⟨gl, 10, none⟩ = some (.int .i64 4294967297) ∧ W.cell? ⟨gi, 0, none⟩ = some (.int .i64 3) ∧ W.cell? ⟨gi, 1, none⟩ = some (.int .i64 0) ∧ W.cell? ⟨gi, 2, none⟩ = some (.int .i64 1)) := fun W hk => by
    have f : ∀ g j, g < w11.heap.size → g ∉ M2' → W.cell? ⟨g, j, none⟩ = w11.cell? ⟨g, j, none⟩ := fun g j hg hn => hk.cell (p := ⟨g, j, none⟩) hg (fun hm => hn (mem_sel.1 hm).1)
    have hi := hk.blk HBi11.out (fun hm => hn2.2.2 (mem_sel.1 hm).1)
    exact ⟨(f _ _ hlc.1 hn2.1).trans q0, (f _ _ hlc.1 hn2.1).trans q1, (f _ _ hlc.1 hn2.1).trans q2, (f _ _ hlc.2 hn2.2.1).trans q3, (f _ _ hlc.2 hn2.2.1).trans q4, hi.cell 0, hi.cell 1, hi.cell 2⟩
  have hqu : Hid (∀ W, Keeps [] w11 W → Calls Tryz.prog 25 #[.pointer (some ⟨a, 0, none⟩)] W fun e w' => ∃ Aq cq, e = .returned (.slice Aq 0 cq) ∧ Below W.heap.size W w') := fun W hk =>
    (agqueued_any (HS11.out.keep0 hk).ag (HS11.out.keep0 hk).lt).mono fun e w' ⟨v, h1, h2, h3⟩ => by
      obtain ⟨Aq, cq, hv, _⟩ := own_slice2 h2
      have hz : (agQueued { kS.2.2 with b := kN.b, k := kN.k }).length = 0 := by
        show List.length (agQueued kS.2.2) = 0
        rw [k_end.1]; rfl
      rw [hz] at hv
      exact ⟨Aq, cq, by rw [h1, hv], h3⟩
  have hep1 : Hid (∀ W, Keeps [] w11 W → Calls Tryz.prog 32 #[.pointer (some ⟨a, 0, none⟩)] W fun e w' => e = .returned (.int .i64 1) ∧ W = w') := fun W hk =>
    (agepoch_any (HS11.out.keep0 hk).ag).mono fun e w' ⟨h1, h2⟩ => ⟨by rw [h1]; show Ending.returned (.int .i64 kS.2.2.bk.ep) = _; rw [k_end.2], h2⟩
  have hep2 : Hid (∀ W, Keeps [] w11 W → Calls Tryz.prog 32 #[.pointer (some ⟨a2, 0, none⟩)] W fun e w' => e = .returned (.int .i64 2) ∧ W = w') := fun W hk =>
    (agepoch_any (HT11.out.keep0 hk).ag).mono fun e w' ⟨h1, h2⟩ => ⟨by rw [h1, k_node.2.2.2.2.2.1], h2⟩
  have hcut : Hid (∀ W, Keeps [] w11 W → Calls Tryz.prog 20 #[.pointer (some ⟨a2, 0, none⟩)] W fun e w' => ∃ Ac cc, e = .returned (.slice Ac 0 cc) ∧ Keeps (sel M2' tg2' (List.range 30)) w11 w') := fun W hk =>
    (agcutall_any (HT11.out.keep0 hk).ag (HT11.out.keep0 hk).lt).mono fun e w' ⟨v, h1, h2, M9, tg9, h3, h4, h5, _⟩ => by
      obtain ⟨Ac, cc, hv, _⟩ := own_slice2 h2
      rw [k_node.2.2.2.2.2.2] at hv
      exact ⟨Ac, cc, by rw [h1, hv]; rfl, (hk.to_sel (by simp)).trans h5 (fun g hg => .inl hg)⟩
  have Hk0 : Hid (Keeps [] w11 w11) := Keeps.refl _ _
  have HFn : Hid (∀ W, Keeps (sel M2' tg2' (List.range 30)) w11 W → Below w.heap.size w W) := fun W hk => HT11.out.bel.trans (hk.belowB HT11.out.bel.size (fun g hg => HT11.out.old g (mem_sel.1 hg).1))
  clear h1 h2 h3 h4 h5 h6 hk3 hnb HSB HkB HS10 Hgc10 Hgl10 Hq10 HBi10 Hni10 hBi11 HBi11 hn2 hlc q0 q1 q2 q3 q4 j0 j1 j2
  go_upto_region 14 with (fail)
  simp only [List.append]
  go_region_held3 (fun W => W.cell? ⟨gc, 0, none⟩ = some (.int .i64 3) ∧ W.cell? ⟨gc, 1, none⟩ = some (.int .i64 0) ∧ W.cell? ⟨gc, 2, none⟩ = some (.int .i64 1) ∧ W.cell? ⟨gl, 0, none⟩ = some (.int .i64 0) ∧ W.cell? ⟨gl, 10, none⟩ = some (.int .i64 4294967297) ∧ W.cell? ⟨gi, 0, none⟩ = some (.int .i64 3) ∧ W.cell? ⟨gi, 1, none⟩ = some (.int .i64 0) ∧ W.cell? ⟨gi, 2, none⟩ = some (.int .i64 1))
    (first | exact HSS.out _ ((Keeps.refl _ _).drew) | exact HSS.out _ Hk13.out | exact HSS.out _ (Hk12.out.mono (by simp)))
    (first
      | (go_at_call 25
         with_reducible refine (hqu.out _ Hk0.out.drew).mono ?_
         rintro e w12 ⟨Aq, cq, rfl, hb⟩
         have Hk12 : Hid (Keeps [] w11 w12) := (Keeps.refl [] w11).drew.trans (Keeps.of_below (M := []) hb) (by simp)
         clear hb)
      | (go_at_call 32
         with_reducible refine (hep1.out _ Hk12.out).mono ?_
         rintro e w9 ⟨rfl, rfl⟩)
      | (go_at_call 32
         with_reducible refine (hep2.out _ Hk12.out).mono ?_
         rintro e w9 ⟨rfl, rfl⟩)
      | (go_at_call 20
         with_reducible refine (hcut.out _ Hk12.out).mono ?_
         rintro e w13 ⟨Ac, cc2, rfl, hk⟩
         have Hk13 := Lib.hid hk
         clear hk))
  have HF := Lib.hid (HFn.out _ Hk13.out)
  go_wp2
  go_ret
  exact ⟨rfl, HF.out⟩
end
end Go.Proofs.YtgdooockldgdlaaGreatDoor.Vi
end
section
namespace Go.Proofs.YtgdooockldgdlaaGreatDoor.Vi
open Go.RowKit Base Mem Tape
/-- A slice of numbers that came in. -/
def Nums (w : World) (A : Option Addr) (c : Nat) (l : List Int) : Prop := l.length ≤ c ∧ c ≤ 9223372036854775807 ∧ (0 < l.length → ∃ g off, A = some ⟨g, off, none⟩ ∧ g < w.heap.size ∧ ∀ (j : Nat) (x : Int), l[j]? = some x → w.cell? ⟨g, off + j, none⟩ = some (.int .i64 x))
theorem tape_new {w w1 : World} {A : Option Addr} {c : Nat} {l : List Int} (h : Nums w A c l) (hb : Below w.heap.size w w1) :
  TapeAt (w1.alloc (.cells #[.slice A l.length c, .int .i64 0] 49)) w1.heap.size ⟨l, w.heap.size⟩ 0 := by
 obtain ⟨h1, h2, h3⟩ := h
 refine ⟨Nat.zero_le _, Nat.le_trans h1 h2, hb.size, A, c, Blk.new w1 _ _, h1, fun h0 => ?_⟩
 obtain ⟨g, off, e, hg, hx⟩ := h3 h0
 exact ⟨g, off, e, hg, fun j x hj => ((below_new hb _).cell (p := ⟨g, off + j, none⟩) hg).trans (hx j x hj)⟩
end Go.Proofs.YtgdooockldgdlaaGreatDoor.Vi
end
section
namespace Go.Proofs.YtgdooockldgdlaaGreatDoor.Vi
open Go.RowKit Base Mem
open Draw
/-- One batch waits in queue 0; the others are empty. -/
def OneB (A : AgD) (b : BatD) : Prop := (A.bk.q 0).l = [b] ∧ (A.bk.q 1).l = [] ∧ (A.bk.q 2).l = [] ∧ (A.bk.q 3).l = []
theorem queues_one {A : AgD} {b : BatD} (h : OneB A b) (out : List SentD) : queuesC 4 0 A out = if dueB A 0 b = true then (agSend A 0 b (tryD A 0 b).1, out ++ [sendM A 0 b (tryD A 0 b).1]) else (A, out) := by
 obtain ⟨h0, h1, h2, h3⟩ := h
 by_cases hd : dueB A 0 b = true
 ·have e0 : flightC A 0 ((A.bk.q 0).l.take 4) out = (agSend A 0 b (tryD A 0 b).1, out ++ [sendM A 0 b (tryD A 0 b).1]) := by
   rw [h0]
   show (if dueB A 0 b = true then _ else _) = _
   rw [if_pos hd]
   rfl
  have f : ∀ k, (A.bk.q k).l = [] → ∀ o, flightC (agSend A 0 b (tryD A 0 b).1) k (((agSend A 0 b (tryD A 0 b).1).bk.q k).l.take 4) o = (agSend A 0 b (tryD A 0 b).1, o) := fun k hk o => by
   have : ((agSend A 0 b (tryD A 0 b).1).bk.q k).l = [] := hk
   rw [this]
   rfl
  rw [if_pos hd]
  unfold queuesC
  rw [e0]
  unfold queuesC
  rw [f 1 h1]
  unfold queuesC
  rw [f 2 h2]
  unfold queuesC
  rw [f 3 h3]
  rfl
 ·have e0 : flightC A 0 ((A.bk.q 0).l.take 4) out = (A, out) := by
   rw [h0]
   show (if dueB A 0 b = true then _ else _) = _
   rw [if_neg hd]
   rfl
  have f : ∀ k, (A.bk.q k).l = [] → ∀ o, flightC A k ((A.bk.q k).l.take 4) o = (A, o) := fun k hk o => by rw [hk]; rfl
  rw [if_neg hd]
  unfold queuesC
  rw [e0]
  unfold queuesC
  rw [f 1 h1]
  unfold queuesC
  rw [f 2 h2]
  unfold queuesC
  rw [f 3 h3]
  rfl
/-- Behind a sending: how often, and when again. -/
theorem try_send (A : AgD) (k : Nat) (b : BatD) (n : Int) : tryD (agSend A k b n) k b = (n + 1, nextAt A n) := by
 unfold tryD agSend setTr
 simp
/-- A batch that is not answered, tick by tick: it was sent n times, at 'last' for the last time. -/
structure WtSt (A : AgD) (b : BatD) (n last now : Int) : Prop where
 one : OneB A b
 now_ : A.now = now
 reps : A.reps = 3
 last_ : A.last = 0
 n0 : 0 ≤ n
 try0 : n = 0 → (tryD A 0 b).1 = 0
 tryn : 0 < n → (tryD A 0 b).1 = n ∧ last + 4 ≤ (tryD A 0 b).2 ∧ (tryD A 0 b).2 ≤ last + 48
end Go.Proofs.YtgdooockldgdlaaGreatDoor.Vi
end
section
namespace Go.Proofs.YtgdooockldgdlaaGreatDoor.Vi
open Go.RowKit Base Mem Go.Shelf Tape
section
variable {w W V : World} {M M' : List Nat} {tg tg' : Nat → Nat} {a d : Nat} {A B : AgD} {T : List Nat}
theorem KnSt.more (h : KnSt w W M tg a d A) (hk : Keeps [] W V) (L : List Nat) (hL : ∀ g ∈ L, W.heap.size ≤ g ∧ g < V.heap.size) : KnSt w V (L ++ M) (fun x => if x ∈ L then 99 else tg x) a d A := by
 obtain ⟨h1, h2⟩ := h.ag.more h.lt hk L hL
 refine ⟨h1, h2.lt, fun g hg => ?_, h.bel.trans (hk.belowB h.bel.size (by simp))⟩
 rcases List.mem_append.1 hg with h3 | h3
 ·exact Nat.le_trans h.bel.size (hL g h3).1
 ·exact h.old g h3
theorem KnSt.beside (h : KnSt w W M tg a d A) {L : List Nat} (hL : ∀ g ∈ L, g ∈ M ∧ tg g = 99) (hk : Keeps L W V) : KnSt w V M tg a d A :=
 ⟨h.ag.beside h.lt hL hk, fun g hg => Nat.lt_of_lt_of_le (h.lt g hg) hk.size, h.old, h.bel.trans (hk.belowB h.bel.size (fun g hg => h.old g (hL g hg).1))⟩
/-- A tape beside. -/
structure TpBe (w W : World) (M : List Nat) (tg : Nat → Nat) (b : Nat) (l : List Int) (k : Nat) : Prop where
 at_ : TapeAt W b ⟨l, w.heap.size⟩ k
 inM : b ∈ M
 tag : tg b = 99
theorem TpBe.step {b k : Nat} {l : List Int} (h : TpBe w W M tg b l k) (ho : ∀ g ∈ M, w.heap.size ≤ g) (x : Ext W M tg V M' tg') (hk : Keeps (sel M tg (List.range 30)) W V) : TpBe w V M' tg' b l k :=
 ⟨h.at_.keep2 hk (fun g hg => ⟨ho g (mem_sel.1 hg).1, fun e => by have := (mem_sel.1 hg).2; rw [e, h.tag] at this; simp at this⟩), x.sub _ h.inM, by rw [x.tag _ (x.old _ h.inM)]; exact h.tag⟩
theorem TpBe.keep0 {b k : Nat} {l : List Int} (h : TpBe w W M tg b l k) (hk : Keeps [] W V) : TpBe w V M tg b l k := ⟨h.at_.keep2 hk (by simp), h.inM, h.tag⟩
theorem TpBe.other {b k : Nat} {l : List Int} (h : TpBe w W M tg b l k) {L : List Nat} (hk : Keeps L W V) (hL : ∀ g ∈ L, w.heap.size ≤ g ∧ g ≠ b) : TpBe w V M tg b l k := ⟨h.at_.keep2 hk hL, h.inM, h.tag⟩
/-- A tape is laid beside an agent. -/
theorem KnSt.tape (h : KnSt w W M tg a d A) {Av : Option Addr} {c : Nat} {l : List Int} (hN : Nums w Av c l) :
  KnSt w (W.alloc (.cells #[.slice Av l.length c, .int .i64 0] 49)) ([W.heap.size] ++ M) (fun x => if x ∈ [W.heap.size] then 99 else tg x) a d A ∧ TpBe w (W.alloc (.cells #[.slice Av l.length c, .int .i64 0] 49)) ([W.heap.size] ++ M) (fun x => if x ∈ [W.heap.size] then 99 else tg x) W.heap.size l 0 :=
 ⟨h.more ((Keeps.refl _ _).alloc _) [W.heap.size] (by simp), tape_new hN h.bel, by simp, by simp⟩
/-- A series is taken of it. -/
theorem KnSt.series {b k : Nat} {l : List Int} (h : KnSt w W M tg a d A) (t : TpBe w W M tg b l k) :
  Calls Tryz.prog 19 #[.pointer (some ⟨b, 0, none⟩)] W fun e V => ∃ (s : ByteArray) (k' : Nat), e = .returned (.string s) ∧ NameOk s ∧ KnSt w V M tg a d A ∧ TpBe w V M tg b l k' ∧ Keeps [b] W V := by
 refine (series_any b _ k W t.at_).mono ?_
 rintro e V ⟨s, k', rfl, hs, hT, hk⟩
 exact ⟨s, k', rfl, hs, h.beside (by simp; exact ⟨t.inM, t.tag⟩) hk, ⟨hT, t.inM, t.tag⟩, hk⟩
/-- A number is taken of it. -/
theorem KnSt.next {b k : Nat} {l : List Int} (h : KnSt w W M tg a d A) (t : TpBe w W M tg b l k) (n : Int) (hn : 1 ≤ n) :
  Calls Tryz.prog 26 #[.pointer (some ⟨b, 0, none⟩), .int .i64 n] W fun e V => ∃ (v : Int) (k' : Nat), e = .returned (.int .i64 v) ∧ (0 ≤ v ∧ v < n) ∧ KnSt w V M tg a d A ∧ TpBe w V M tg b l k' ∧ Keeps [b] W V := by
 refine (next_any b _ k n W t.at_).mono ?_
 rintro e V ⟨v, k', rfl, h0, h1, hT, hk⟩
 exact ⟨v, k', rfl, ⟨h0, h1 hn⟩, h.beside (by simp; exact ⟨t.inM, t.tag⟩) hk, ⟨hT, t.inM, t.tag⟩, hk⟩
end
/-- What a tick sends: the last message. -/
theorem tk_last {w W : World} {M Mk : List Nat} {tg tgk : Nat → Nat} {a d : Nat} {B : AgD} {out : List SentD} {v : Value} (h : TkSt w M tg a d B out v W Mk tgk) (hne : out ≠ []) :
  ∃ s ∈ out, out.length ≤ maxLen ∧ ∃ g cap, v = .slice (some ⟨g, 0, none⟩) out.length cap ∧ out.length ≤ cap ∧ g ∈ Mk ∧ tgk g = 99 ∧ W.cell? ⟨g, (out.length - 1) * 19, none⟩ = some (.int .i64 s.dst) ∧ W.cell? ⟨g, (out.length - 1) * 19 + 10, none⟩ = some (.int .i64 s.m.en.tag) := by
 obtain ⟨qs, h1, h2, h3⟩ := h.qs
 have hlen : qs.length = out.length := by rw [← h1, List.length_map]
 have hpos : 0 < out.length := by
  rcases Nat.eq_zero_or_pos out.length with h0 | h0
  ·exact absurd (List.length_eq_zero_iff.1 h0) hne
  ·exact h0
 obtain ⟨g, cap, hv, _, hlt⟩ := h2.form hpos
 have hown : v.ownBlock = some g := by rw [hv]; rfl
 have hf := h.far g hown
 have hmax : out.length ≤ maxLen := by
  obtain ⟨_, h5 | ⟨_, _, _, _, _, _, h6, h7, _⟩⟩ := h2
  ·omega
  ·exact Nat.le_trans h6 h7
 rw [← hlen] at h2
 have hr := Rd.of_own (M := []) h2 (by simp)
 have hk : qs.length - 1 < qs.length := by omega
 obtain ⟨g', off, cap', e1, hcap, _, _, hcell⟩ := Rd.at_ snCell 19 (fun _ => rfl) hr hk
 rw [hv] at e1
 injection e1 with e1 _ e2
 injection e1 with e1
 injection e1 with e3 e4
 subst e3 e4 e2
 refine ⟨qs[qs.length - 1].1, ?_, hmax, g, cap, hv, by omega, hf.1, hf.2, ?_, ?_⟩
 ·rw [← h1]
  exact List.mem_map_of_mem (List.getElem_mem hk)
 ·have := hcell 0 _ rfl
  rw [← hlen]
  simpa using this
 ·have := hcell 10 _ rfl
  rw [← hlen]
  simpa using this
theorem tk_none {w W : World} {M Mk : List Nat} {tg tgk : Nat → Nat} {a d : Nat} {B : AgD} {v : Value} (h : TkSt w M tg a d B [] v W Mk tgk) : ∃ Av cap, v = .slice Av 0 cap := by
 obtain ⟨qs, h1, h2, h3⟩ := h.qs
 obtain ⟨Av, cap, hv, _⟩ := own_slice2 h2
 exact ⟨Av, cap, hv⟩
/-- A slice reads these idents. -/
def Idr (w : World) (M : List Nat) (v : Value) (l : List (Int × Int × Int)) : Prop := Rd w M 3 v l.length (l.flatMap idCell)
set_option maxRecDepth 100000 in
theorem idents_any (va vb : Value) (la lb : List (Int × Int × Int)) (w : World) (ha : Idr w [] va la) (hb : Idr w [] vb lb) (hl : la.length ≤ 1000000) (hl2 : lb.length ≤ 1000000) :
  Calls Tryz.prog 33 #[va, vb] w fun e w' => e = .returned (.bool (decide (la = lb))) ∧ ∃ q, w' = w.drewN q := by
 obtain ⟨Aa, ca, rfl, hca, _⟩ := id ha
 obtain ⟨Ab, cb, rfl, hcb, _⟩ := id hb
 have Ha := Lib.hid ha; have Hb := Lib.hid hb
 clear ha hb
 by_cases hlen : la.length = lb.length
 ·have Hlen := Lib.hid hlen
  have hli : (la.length : Int) = (lb.length : Int) := by omega
  clear hlen
  go_enter Tryz.func33, Tryz.ntmps33
  go_wp2_with fail
  clear hli
  go_loopw [13] (fun i wr => ∃ (x q : Nat), i = .int .i64 x ∧ x ≤ la.length ∧ wr = w.drewN q ∧ Hid (la.take x = lb.take x)) (fun i _ => la.length - (intOf i).toNat)
  case atStart => exact ⟨0, 0, rfl, by omega, rfl, (show la.take 0 = lb.take 0 from rfl)⟩
  case round =>
   obtain ⟨x, q, rfl, hx, rfl, HT⟩ := hrel
   by_cases hlt : x < la.length
   ·have hx1 : (x : Int) < (la.length : Int) := by omega
    have hltb : x < lb.length := by have := Hlen.out; omega
    have hx2 : (x : Int) < (lb.length : Int) := by omega
    obtain ⟨g1, o1, _, e1, _, hg1, _, hc1⟩ := Rd.at_ idCell 3 (fun _ => rfl) Ha.out hlt
    obtain ⟨g2, o2, _, e2, _, hg2, _, hc2⟩ := Rd.at_ idCell 3 (fun _ => rfl) Hb.out hltb
    obtain rfl : Aa = some ⟨g1, o1, none⟩ := by injection e1
    obtain rfl : Ab = some ⟨g2, o2, none⟩ := by injection e2
    clear e1 e2
    have HT1 : Hid (la[x] = lb[x] → la.take (x + 1) = lb.take (x + 1)) := fun h => by rw [List.take_succ_eq_append_getElem hlt, List.take_succ_eq_append_getElem hltb, HT.out, h]
    have HN : Hid (la[x] ≠ lb[x] → decide (la = lb) = false) := fun h => decide_eq_false (fun e => h (by subst e; rfl))
    generalize la[x] = p at *
    generalize lb[x] = r at *
    obtain ⟨pa, pb, pc⟩ := p
    obtain ⟨ra, rb, rc⟩ := r
    have p0 := hc1 0 _ rfl; have p1 := hc1 1 _ rfl; have p2 := hc1 2 _ rfl
    have r0 := hc2 0 _ rfl; have r1 := hc2 1 _ rfl; have r2 := hc2 2 _ rfl
    rw [Nat.add_zero] at p0 r0
    clear hc1 hc2 HT
    simp only [] at p0 p1 p2 r0 r1 r2
    by_cases heq : pa = ra ∧ pb = rb ∧ pc = rc
    ·obtain ⟨rfl, rfl, rfl⟩ := heq
     have HT2 := Lib.hid (HT1.out rfl)
     clear HT1 HN
     go_upto_region 6 with (fail)
     go_quiet (fail)
     go_wp2_with fail
     go_roundw
     case rel => exact ⟨x + 1, q + nq, by go_num, by omega, by simp [World.drewN], HT2⟩
     case measure => simp [intOf] <;> omega
    ·have hd := HN.out (fun e => heq (by injection e with e1 e2; injection e2 with e2 e3; exact ⟨e1, e2, e3⟩))
     clear HT1 HN
     by_cases h1 : pa = ra
     ·subst h1
      by_cases h2 : pb = rb
      ·subst h2
       have h3 : ¬ pc = rc := fun h => heq ⟨rfl, rfl, h⟩
       clear heq
       go_upto_region 6 with (fail)
       go_quiet (fail)
       go_wp2
       go_ret
       exact ⟨by rw [hd]; rfl, q + nq, by simp [World.drewN, Nat.add_assoc]⟩
      ·clear heq
       go_upto_region 6 with (fail)
       go_quiet (fail)
       go_wp2
       go_ret
       exact ⟨by rw [hd]; rfl, q + nq, by simp [World.drewN, Nat.add_assoc]⟩
     ·clear heq
      go_upto_region 6 with (fail)
      go_quiet (fail)
      go_wp2
      go_ret
      exact ⟨by rw [hd]; rfl, q + nq, by simp [World.drewN, Nat.add_assoc]⟩
   ·obtain rfl : x = la.length := by omega
    have hd : decide (la = lb) = true := decide_eq_true (by
     have h1 := HT.out
     rw [List.take_length, Hlen.out, List.take_length] at h1
     exact h1)
    have hnl : ¬ la.length < lb.length := by have := Hlen.out; omega
    clear HT
    go_wp2
    go_ret
    exact ⟨by rw [hd]; rfl, q, rfl⟩
 ·have hli : ((la.length : Int) != (lb.length : Int)) = true := by rw [bne_iff_ne]; omega
  have hd : decide (la = lb) = false := decide_eq_false (fun e => hlen (by rw [e]))
  clear hlen
  go_enter Tryz.func33, Tryz.ntmps33
  go_wp2
  go_ret
  exact ⟨by rw [hd]; rfl, 0, rfl⟩
theorem agepoch_cells {w : World} {a s : Nat} {ep : Int} (h1 : w.cell? ⟨a, 3, none⟩ = some (.pointer (some ⟨s, 0, none⟩))) (h2 : w.cell? ⟨s, 0, none⟩ = some (.int .i64 ep)) :
  Calls Tryz.prog 32 #[.pointer (some ⟨a, 0, none⟩)] w fun e w' => e = .returned (.int .i64 ep) ∧ w = w' := by
 go_enter Tryz.func32, Tryz.ntmps32
 go_wp2
 go_ret
 exact ⟨rfl, rfl⟩
end Go.Proofs.YtgdooockldgdlaaGreatDoor.Vi
end
section
namespace Go.Proofs.YtgdooockldgdlaaGreatDoor.Vi
open Go.RowKit Base Mem
theorem takeB_recE (S : BkD) (n : Nat) (h1 : 1 ≤ n) (h2 : n ≤ 1073741824) : takeB S (recE n) = { S with ep := n } := by
 have e1 : numS (recE n) false = (1, Lib.uvarint n, false) := by
  have := numS_put 1 (Lib.uvarint n) (by omega)
  simpa [recE] using this
 have e2 : intS (Lib.uvarint n) false = (n, [], false) := by
  have := intS_put n [] (by omega)
  simpa using this
 unfold takeB
 simp only [e1, e2]
 rw [if_pos trivial, if_pos (by simp [doneR, h1, h2])]
theorem takeB_recS (S : BkD) (d : DeltaD) (hn : NOk d) (hs : d.ser.size < 4294967281) (hm : mayB S d = 0) : takeB S (recS d) = { S with sa := S.sa ++ [d] } := by
 have e1 : numS (recS d) false = (2, [d].flatMap dBytes, false) := numS_put 2 _ (by omega)
 have e2 : getDs 1 ([d].flatMap dBytes) false = ([d], [], false) := by
  have := getDs_put [d] [] (by simpa using hn) (by simpa using hs)
  simpa using this
 unfold takeB
 simp only [e1, e2]
 rw [if_neg (by omega), if_pos trivial, if_pos (by simp only [doneR, Bool.not_false, List.isEmpty_nil, Bool.and_true, Bool.true_and, decide_eq_true_eq]; exact hm)]
 rfl
theorem takeB_recB (S : BkD) (k : Nat) (b : BatD) (hk : k < 4) (h0 : 0 ≤ b.seq) (h1 : b.seq ≤ 9223372036854775807) (hl : b.ds.length ≤ 8) (hn : ∀ d ∈ b.ds, NOk d) (hs : ∀ d ∈ b.ds, d.ser.size < 4294967281) (hg : ∀ d ∈ b.ds, goodD d = true) :
  takeB S (recB k b) = addB S k b := by
 obtain ⟨seq, ds⟩ := b
 obtain ⟨n, rfl⟩ := Int.eq_ofNat_of_zero_le h0
 simp only [] at h1 hl hn hs hg ⊢
 have e1 : numS (recB k ⟨(n : Int), ds⟩) false = (3, Lib.uvarint k ++ (Lib.uvarint n ++ (Lib.uvarint ds.length ++ ds.flatMap dBytes)), false) := by
  have := numS_put 3 (Lib.uvarint k ++ (Lib.uvarint n ++ (Lib.uvarint ds.length ++ ds.flatMap dBytes))) (by omega)
  simpa [recB, List.append_assoc] using this
 have e2 : countS (Lib.uvarint k ++ (Lib.uvarint n ++ (Lib.uvarint ds.length ++ ds.flatMap dBytes))) false 3 = (k, Lib.uvarint n ++ (Lib.uvarint ds.length ++ ds.flatMap dBytes), false) := countS_put k _ 3 (by omega) (by omega)
 have e3 : intS (Lib.uvarint n ++ (Lib.uvarint ds.length ++ ds.flatMap dBytes)) false = (n, Lib.uvarint ds.length ++ ds.flatMap dBytes, false) := intS_put n _ (by omega)
 have e4 : countS (Lib.uvarint ds.length ++ ds.flatMap dBytes) false 8 = (ds.length, ds.flatMap dBytes, false) := countS_put _ _ 8 hl (by omega)
 have e5 : getDs ds.length (ds.flatMap dBytes) false = (ds, [], false) := by
  have := getDs_put ds [] hn hs
  simpa using this
 unfold takeB
 simp only [e1]
 rw [if_neg (by omega), if_neg (by omega), if_neg (by omega), if_pos trivial]
 unfold batchB
 simp only [e2, e3, e4, e5]
 rw [if_neg (by simp), if_pos (by simpa [doneR] using hg)]
theorem takesB_app (S : BkD) (a b : List (List UInt8)) : takesB S (a ++ b) = takesB (takesB S a) b := by simp [takesB]
theorem frames_app (a b : List (List UInt8)) : (a ++ b).flatMap frameL = a.flatMap frameL ++ b.flatMap frameL := List.flatMap_append
/-- A log that was cut off anywhere holds the frames that are whole. -/
theorem scan_take : ∀ (rs : List (List UInt8)) (m : Nat), (∀ l ∈ rs, l.length ≤ 65536) → ∃ j, j ≤ rs.length ∧ scanS ((rs.flatMap frameL).take m) = (rs.take j, ((rs.take j).flatMap frameL).length) ∧ (∀ i, i ≤ rs.length → ((rs.take i).flatMap frameL).length ≤ m → i ≤ j) ∧ ((rs.take j).flatMap frameL).length ≤ m := by
 have main : ∀ (rs : List (List UInt8)) (m : Nat), (∀ l ∈ rs, l.length ≤ 65536) → ∃ j, j ≤ rs.length ∧ (∃ t, (rs.flatMap frameL).take m = (rs.take j).flatMap frameL ++ t ∧ readF t = none) ∧ (∀ i, i ≤ rs.length → ((rs.take i).flatMap frameL).length ≤ m → i ≤ j) ∧ ((rs.take j).flatMap frameL).length ≤ m := by
  intro rs
  induction rs with
  | nil => intro m _; exact ⟨0, by simp, ⟨[], by simp, readF_nil⟩, by simp, by simp⟩
  | cons r rs ih =>
   intro m h
   by_cases hm : (frameL r).length ≤ m
   ·obtain ⟨j, h1, ⟨t, h2, h3⟩, h4, h5⟩ := ih (m - (frameL r).length) (fun l hl => h l (by simp [hl]))
    refine ⟨j + 1, by simpa using h1, ⟨t, ?_, h3⟩, fun i hi hl => ?_, ?_⟩
    ·rw [List.flatMap_cons, List.take_append, List.take_of_length_le hm, h2, List.take_succ_cons, List.flatMap_cons, List.append_assoc]
    ·cases i with
     | zero => omega
     | succ i =>
      rw [List.take_succ_cons, List.flatMap_cons, List.length_append] at hl
      have := h4 i (by simpa using hi) (by omega)
      omega
    ·rw [List.take_succ_cons, List.flatMap_cons, List.length_append]; omega
   ·refine ⟨0, by simp, ⟨(frameL r).take m, ?_, readF_cut r (h r (by simp)) m (by omega)⟩, fun i hi hl => ?_, by simp⟩
    ·rw [List.flatMap_cons, List.take_append_of_le_length (by omega)]; simp
    ·cases i with
     | zero => omega
     | succ i =>
      rw [List.take_succ_cons, List.flatMap_cons, List.length_append] at hl
      omega
 intro rs m h
 obtain ⟨j, h1, ⟨t, h2, h3⟩, h4, h5⟩ := main rs m h
 refine ⟨j, h1, ?_, h4, h5⟩
 have hl : (rs.take j).length ≤ ((rs.flatMap frameL).take m).length := by
  rw [h2, List.length_append]
  have := frames_len (rs.take j)
  omega
 have := scanF_put t h3 (rs.take j) ((rs.flatMap frameL).take m).length (fun l hl => h l (List.mem_of_mem_take hl)) hl
 unfold scanS
 rw [← h2] at this
 exact this
end Go.Proofs.YtgdooockldgdlaaGreatDoor.Vi
end
section
namespace Go.Proofs.YtgdooockldgdlaaGreatDoor.Vi
open Go.RowKit Base Mem Tape
theorem ser_iff (a b : ByteArray) : (a.toList == b.toList) = true ↔ a = b := by
 rw [beq_iff_eq]
 exact ⟨toList_inj, fun h => by rw [h]⟩
theorem ser_ne {a b : ByteArray} (h : a ≠ b) : (a.toList == b.toList) = false := by
 rw [Bool.eq_false_iff]
 exact fun he => h ((ser_iff a b).1 he)
/-- The sum of a series. -/
def sumS (p : List DeltaD) (s : ByteArray) : Nat := (p.map fun d => if (d.ser.toList == s.toList) = true then d.n.toNat else 0).sum
theorem sumS_snoc (p : List DeltaD) (d : DeltaD) (s : ByteArray) : sumS (p ++ [d]) s = sumS p s + if (d.ser.toList == s.toList) = true then d.n.toNat else 0 := by
 unfold sumS
 rw [List.map_append, List.sum_append]
 simp
theorem sumS_none (p : List DeltaD) (s : ByteArray) (h : ∀ d ∈ p, d.ser ≠ s) : sumS p s = 0 := by
 induction p with
 | nil => rfl
 | cons d p ih =>
  have h1 := ih (fun x hx => h x (by simp [hx]))
  unfold sumS at h1 ⊢
  rw [List.map_cons, List.sum_cons, h1, ser_ne (h d (by simp))]
  simp
theorem sumS_le (p : List DeltaD) (s : ByteArray) (h : ∀ d ∈ p, d.n ≤ 65535) : sumS p s ≤ 65535 * p.length := by
 induction p with
 | nil => simp [sumS]
 | cons d p ih =>
  have h1 := ih (fun x hx => h x (by simp [hx]))
  have h2 := h d (by simp)
  unfold sumS at h1 ⊢
  rw [List.map_cons, List.sum_cons, List.length_cons]
  split <;> omega
/-- No two of one series. -/
def Dist (l : List DeltaD) : Prop := (l.map (·.ser)).Pairwise (· ≠ ·)
structure JInv (p acc : List DeltaD) : Prop where
 dist : Dist acc
 sums : ∀ y ∈ acc, y.n = (sumS p y.ser : Nat)
 all : ∀ d ∈ p, ∃ y ∈ acc, y.ser = d.ser
theorem map_set_ser (acc : List DeltaD) (k : Nat) (hk : k < acc.length) (n : Int) : (acc.set k ⟨acc[k].ser, n⟩).map (·.ser) = acc.map (·.ser) := by
 rw [List.map_set]
 apply List.ext_getElem (by simp)
 intro i h1 h2
 rw [List.getElem_set]
 split
 ·subst_vars; simp
 ·rfl
theorem dist_ne {l : List DeltaD} (h : Dist l) {i j : Nat} (hi : i < l.length) (hj : j < l.length) (hij : i ≠ j) : l[i].ser ≠ l[j].ser := by
 have h1 := List.pairwise_iff_getElem.1 h
 rcases Nat.lt_or_gt_of_ne hij with h2 | h2
 ·have := h1 i j (by simpa using hi) (by simpa using hj) h2
  simpa using this
 ·have := h1 j i (by simpa using hj) (by simpa using hi) h2
  intro e
  apply this
  simpa using e.symm
theorem jinv_step {p acc : List DeltaD} {d : DeltaD} (h : JInv p acc) (h0 : 0 ≤ d.n) (h1 : d.n ≤ 65535) (hp : ∀ x ∈ p, x.n ≤ 65535) (hl : p.length ≤ 1000) : JInv (p ++ [d]) (addD acc d) := by
 obtain ⟨hd, hs, ha⟩ := h
 unfold addD
 rcases ixD_cases acc d.ser with ⟨hix, hno⟩ | ⟨k, hk, hix, heq⟩
 ·rw [hix, if_pos (by decide)]
  have hne : ∀ y ∈ acc, y.ser ≠ d.ser := fun y hy e => by have := hno y hy; rw [e] at this; simp at this
  refine ⟨?_, ?_, ?_⟩
  ·unfold Dist
   rw [List.map_append, List.pairwise_append]
   refine ⟨hd, by simp, ?_⟩
   intro a ha' b hb'
   simp at ha' hb'
   obtain ⟨y, hy, rfl⟩ := ha'
   subst hb'
   exact hne y hy
  ·intro y hy
   rw [sumS_snoc]
   rcases List.mem_append.1 hy with hy | hy
   ·rw [ser_ne (fun e => hne y hy e.symm), hs y hy]; simp
   ·simp at hy
    subst hy
    have h0' : sumS p y.ser = 0 := sumS_none p y.ser (fun x hx e => by
     obtain ⟨z, hz, hze⟩ := ha x hx
     exact hne z hz (hze.trans e))
    rw [h0', if_pos (by simp)]
    omega
  ·intro x hx
   rcases List.mem_append.1 hx with hx | hx
   ·obtain ⟨y, hy, e⟩ := ha x hx
    exact ⟨y, List.mem_append_left _ hy, e⟩
   ·simp at hx
    subst hx
    exact ⟨x, by simp, rfl⟩
 ·have hser : acc[k].ser = d.ser := (ser_iff _ _).1 heq
  rw [hix, if_neg (by omega), Int.toNat_natCast, getElem!_pos acc k hk]
  have hnk := hs acc[k] (List.getElem_mem _)
  have hle := sumS_le p acc[k].ser hp
  have hadd : addS acc[k].n.toNat d.n.toNat = sumS p acc[k].ser + d.n.toNat := by
   unfold addS
   rw [hnk, Int.toNat_natCast, if_neg (by omega)]
  rw [hadd]
  refine ⟨?_, ?_, ?_⟩
  ·unfold Dist
   rw [map_set_ser acc k hk]
   exact hd
  ·intro y hy
   rw [sumS_snoc]
   obtain ⟨i, hi, rfl⟩ := List.getElem_of_mem hy
   rw [List.length_set] at hi
   rw [List.getElem_set]
   by_cases hik : k = i
   ·subst hik
    rw [if_pos rfl]
    simp only []
    rw [hser, if_pos (by simp)]
   ·rw [if_neg hik]
    have hne := dist_ne hd hk hi hik
    rw [ser_ne (fun e => hne (hser.trans e)), hs acc[i] (List.getElem_mem _)]
    simp
  ·intro x hx
   have hmem : ∀ s, (∃ y ∈ acc, y.ser = s) → ∃ y ∈ acc.set k ⟨acc[k].ser, (sumS p acc[k].ser + d.n.toNat : Nat)⟩, y.ser = s := by
    rintro s ⟨y, hy, rfl⟩
    have h2 : y.ser ∈ (acc.set k ⟨acc[k].ser, ((sumS p acc[k].ser + d.n.toNat : Nat) : Int)⟩).map (·.ser) := by rw [map_set_ser acc k hk]; exact List.mem_map_of_mem hy
    obtain ⟨z, hz, e⟩ := List.mem_map.1 h2
    exact ⟨z, hz, e⟩
   rcases List.mem_append.1 hx with hx | hx
   ·exact hmem _ (ha x hx)
   ·simp at hx
    subst hx
    exact hmem _ ⟨acc[k], List.getElem_mem _, hser⟩
theorem jinv_fold (l : List DeltaD) : ∀ (p acc : List DeltaD), JInv p acc → (∀ d ∈ p ++ l, 0 ≤ d.n ∧ d.n ≤ 65535) → (p ++ l).length ≤ 1000 → JInv (p ++ l) (l.foldl addD acc) := by
 induction l with
 | nil => intro p acc h _ _; simpa using h
 | cons d l ih =>
  intro p acc h hn hl
  rw [List.foldl_cons]
  have h1 := jinv_step h (hn d (by simp)).1 (hn d (by simp)).2 (fun x hx => (hn x (by simp [hx])).2) (by simp at hl; omega)
  have h2 := ih (p ++ [d]) (addD acc d) h1 (by simpa using hn) (by simpa using hl)
  simpa using h2
theorem join_inv (l : List DeltaD) (hn : ∀ d ∈ l, 0 ≤ d.n ∧ d.n ≤ 65535) (hl : l.length ≤ 1000) : JInv l (joinD l) := by
 have := jinv_fold l [] [] ⟨List.Pairwise.nil, by simp, by simp⟩ (by simpa using hn) (by simpa using hl)
 simpa [joinD] using this
/-- A delta of one of the tape's names. -/
def GdD (d : DeltaD) : Prop := NameOk d.ser ∧ 1 ≤ d.n ∧ d.n < 18446744073709551616
theorem names_good : ∀ l ∈ nameL, serOk ⟨l.toArray⟩ = true ∧ l.length ≤ 15 := by decide +kernel
theorem GdD.ser {d : DeltaD} (h : GdD d) : serOk d.ser = true ∧ d.ser.size ≤ 15 := by
 obtain ⟨⟨l, hl, e⟩, _, _⟩ := h
 obtain ⟨h1, h2⟩ := names_good l hl
 rw [e]
 exact ⟨h1, h2⟩
theorem GdD.good {d : DeltaD} (h : GdD d) : goodD d = true := by
 have h1 := h.ser.1
 have h2 := h.2.1
 unfold goodD
 rw [h1]
 simp
 omega
theorem GdD.n {d : DeltaD} (h : GdD d) : NOk d := ⟨by have := h.2.1; omega, h.2.2⟩
theorem GdD.sa {d : DeltaD} (h : GdD d) : SaOk d := ⟨h.n, by have := h.ser.2; omega⟩
theorem GdD.bytes {d : DeltaD} (h : GdD d) : (dBytes d).length ≤ 35 := by
 have h1 := h.ser.2
 have h2 := h.2.2
 have u1 := Lib.uvarint_length64 (x := d.ser.size) (by omega)
 have u2 := Lib.uvarint_length64 (x := d.n.toNat) (by omega)
 have h3 : (sB d.ser).length = d.ser.size := by unfold sB; simp
 unfold dBytes
 rw [List.length_append, List.length_append, h3]
 omega
theorem flat_bytes : ∀ (l : List DeltaD), (∀ d ∈ l, GdD d) → (l.flatMap dBytes).length ≤ 35 * l.length
 | [], _ => by simp
 | d :: l, h => by
  have h1 := flat_bytes l (fun x hx => h x (by simp [hx]))
  have h2 := (h d (by simp)).bytes
  rw [List.flatMap_cons, List.length_append, List.length_cons]
  omega
theorem frame_bd {l : List UInt8} (h : l.length ≤ 65536) : (frameL l).length ≤ l.length + 14 := by
 rw [frameL_len]
 have := Lib.uvarint_length64 (x := l.length) (by omega)
 omega
theorem recS_len {d : DeltaD} (h : GdD d) : (recS d).length ≤ 45 := by
 have u := Lib.uvarint_length64 (x := 2) (by omega)
 have := flat_bytes [d] (by simpa using h)
 unfold recS
 rw [List.length_append]
 simp at this ⊢
 omega
theorem recB_len {k : Nat} {b : BatD} (hk : k < 4) (h1 : b.seq ≤ 9223372036854775807) (hl : b.ds.length ≤ 8) (h : ∀ d ∈ b.ds, GdD d) : (recB k b).length ≤ 320 := by
 have u := Lib.uvarint_length64 (x := 3) (by omega)
 have u1 := Lib.uvarint_length64 (x := k) (by omega)
 have u2 := Lib.uvarint_length64 (x := b.seq.toNat) (by omega)
 have u3 := Lib.uvarint_length64 (x := b.ds.length) (by omega)
 have := flat_bytes b.ds h
 unfold recB
 simp only [List.length_append, List.flatMap_cons, List.flatMap_nil, List.length_nil]
 omega
/-- A log of frames that come to the book. -/
structure LogI (A : AgD) (rs : List (List UInt8)) (B : Nat) : Prop where
 b : A.b = rs.flatMap frameL
 len : ∀ l ∈ rs, l.length ≤ 65536
 tk : takesB bk0 rs = A.bk
 sa : ∀ d ∈ A.bk.sa, GdD d
 n32 : A.bk.sa.length ≤ 32
 sh : 1 ≤ A.bk.sh ∧ A.bk.sh ≤ 4
 qu : ∀ k, QuOk (A.bk.q k) ∧ (A.bk.q k).last ≤ A.b.length
 size : A.b.length ≤ B
theorem LogI.mono {A : AgD} {rs : List (List UInt8)} {B B' : Nat} (h : LogI A rs B) (hb : B ≤ B') : LogI A rs B' := ⟨h.b, h.len, h.tk, h.sa, h.n32, h.sh, h.qu, Nat.le_trans h.size hb⟩
theorem LogI.ing {A : AgD} {rs : List (List UInt8)} {B : Nat} (h : LogI A rs B) {x : DeltaD} (hx : GdD x) : ∃ rs', LogI (agIng A x).2 rs' (B + 59) ∧ (rs' = rs ∧ (agIng A x).2 = A ∨ rs' = rs ++ [recS x] ∧ (agIng A x).2 = { A with b := A.b ++ frameL (recS x), n := A.n + 1, bk := { A.bk with sa := A.bk.sa ++ [x] } }) := by
 unfold agIng
 by_cases h1 : mayB A.bk x ≠ 0
 ·rw [if_pos h1]
  exact ⟨rs, h.mono (by omega), .inl ⟨rfl, rfl⟩⟩
 ·rw [if_neg h1]
  by_cases h2 : waCode (recS x) A.b ≠ 0
  ·rw [if_pos h2]
   exact ⟨rs, h.mono (by omega), .inl ⟨rfl, rfl⟩⟩
  ·rw [if_neg h2]
   have hm : mayB A.bk x = 0 := by simpa using h1
   have hrl := recS_len hx
   have hfr := frame_bd (l := recS x) (by omega)
   have hroom := may_room hm
   refine ⟨rs ++ [recS x], ⟨?_, fun l hl => ?_, ?_, fun d hd => ?_, ?_, h.sh, fun k => ?_, ?_⟩, .inr ⟨rfl, rfl⟩⟩
   ·show A.b ++ frameL (recS x) = _
    rw [frames_app, h.b]
    simp
   ·rcases List.mem_append.1 hl with h3 | h3
    ·exact h.len l h3
    ·simp at h3; subst h3; omega
   ·rw [takesB_app, h.tk]
    show takeB A.bk (recS x) = _
    rw [takeB_recS A.bk x hx.n (by have := hx.ser.2; omega) hm]
   ·rcases List.mem_append.1 (show d ∈ A.bk.sa ++ [x] from hd) with h3 | h3
    ·exact h.sa d h3
    ·simp at h3; subst h3; exact hx
   ·show (A.bk.sa ++ [x]).length ≤ 32
    simp; omega
   ·obtain ⟨q1, q2⟩ := h.qu k
    refine ⟨q1, ?_⟩
    show (A.bk.q k).last ≤ ((A.b ++ frameL (recS x)).length : Nat)
    rw [List.length_append]; omega
   ·show (A.b ++ frameL (recS x)).length ≤ _
    rw [List.length_append]
    have := h.size; omega
/-- A batch cut. -/
theorem LogI.cut {A : AgD} {rs : List (List UInt8)} {B : Nat} (h : LogI A rs B) {k : Nat} (hk : k < 4) {ds : List DeltaD} (h0 : ds ≠ []) (hl : ds.length ≤ 8) (hd : ∀ d ∈ ds, GdD d) (hB : B ≤ 1000000) :
  (agCut A k ds = (false, A) ∧ 16 ≤ (A.bk.q k).l.length) ∨
  ((agCut A k ds).1 = true ∧ (A.bk.q k).l.length < 16 ∧ (agCut A k ds).2.bk = { A.bk with q := setQ A.bk.q k ⟨(A.bk.q k).l ++ [⟨(A.bk.q k).last + 1, ds⟩], (A.bk.q k).last + 1⟩, sa := A.bk.sa.filter fun d => !inDs ds d, cuts := A.bk.cuts ++ [((k : Int), (A.bk.q k).last + 1)] } ∧ ∃ rs', LogI (agCut A k ds).2 rs' (B + 334) ∧ (∃ t, rs' = rs ++ t)) := by
 obtain ⟨q1, q2⟩ := h.qu k
 have hsz := h.size
 have hne : (A.bk.q k).last ≠ 9223372036854775807 := by omega
 have hrl := recB_len (b := ⟨(A.bk.q k).last + 1, ds⟩) hk (by show (A.bk.q k).last + 1 ≤ _; omega) hl hd
 have hfr := frame_bd (l := recB k ⟨(A.bk.q k).last + 1, ds⟩) (by omega)
 have hfp : 1 ≤ (frameL (recB k ⟨(A.bk.q k).last + 1, ds⟩)).length := by rw [frameL_len]; omega
 have hw : waCode (recB k ⟨(A.bk.q k).last + 1, ds⟩) A.b = 0 := by
  unfold waCode
  rw [if_neg (by omega), if_neg (by omega)]
 unfold agCut
 by_cases h16 : 16 ≤ (A.bk.q k).l.length
 ·left
  rw [if_pos (.inl h16)]
  exact ⟨rfl, h16⟩
 ·right
  rw [if_neg (by rw [hw]; simp [h16, hne])]
  have hlast0 := q1.2.1
  have harg : quArg (A.bk.q k) ⟨(A.bk.q k).last + 1, ds⟩ = false := by
   unfold quArg
   have h9 : ds.length ≠ 0 := fun e => h0 (List.length_eq_zero_iff.1 e)
   simp only [Bool.or_eq_false_iff, decide_eq_false_iff_not]
   refine ⟨⟨⟨?_, ?_⟩, h9⟩, ?_⟩
   ·omega
   ·omega
   ·omega
  have hadd : quAdd (A.bk.q k) ⟨(A.bk.q k).last + 1, ds⟩ = (0, ⟨(A.bk.q k).l ++ [⟨(A.bk.q k).last + 1, ds⟩], (A.bk.q k).last + 1⟩) := by
   unfold quAdd
   rw [if_neg (by rw [harg]; simp), if_neg h16]
  have hbk : addB A.bk k ⟨(A.bk.q k).last + 1, ds⟩ = { A.bk with q := setQ A.bk.q k ⟨(A.bk.q k).l ++ [⟨(A.bk.q k).last + 1, ds⟩], (A.bk.q k).last + 1⟩, sa := A.bk.sa.filter fun d => !inDs ds d, cuts := A.bk.cuts ++ [((k : Int), (A.bk.q k).last + 1)] } := by
   unfold addB
   rw [if_pos (by rw [hadd]), hadd]
  have hqo : QuOk ⟨(A.bk.q k).l ++ [⟨(A.bk.q k).last + 1, ds⟩], (A.bk.q k).last + 1⟩ := by
   have := quAdd_ok (b := ⟨(A.bk.q k).last + 1, ds⟩) q1 (by show (A.bk.q k).last + 1 ≤ _; omega) (fun d hd' => (hd d hd').n)
   rw [hadd] at this
   exact this
  refine ⟨rfl, by omega, hbk, rs ++ [recB k ⟨(A.bk.q k).last + 1, ds⟩], ⟨?_, fun l hl => ?_, ?_, fun d hd' => ?_, ?_, ?_, fun j => ?_, ?_⟩, ⟨_, rfl⟩⟩
  ·show A.b ++ frameL _ = _
   rw [frames_app, h.b]
   simp
  ·rcases List.mem_append.1 hl with h3 | h3
   ·exact h.len l h3
   ·simp at h3; subst h3; omega
  ·rw [takesB_app, h.tk]
   show takeB A.bk (recB k _) = _
   exact takeB_recB A.bk k _ hk (by show 0 ≤ (A.bk.q k).last + 1; omega) (by show (A.bk.q k).last + 1 ≤ _; omega) hl (fun d hd' => (hd d hd').n) (fun d hd' => by have := (hd d hd').ser.2; omega) (fun d hd' => (hd d hd').good)
  ·have h4 : d ∈ (addB A.bk k ⟨(A.bk.q k).last + 1, ds⟩).sa := hd'
   rw [hbk] at h4
   exact h.sa d (List.mem_filter.1 h4).1
  ·show (addB A.bk k ⟨(A.bk.q k).last + 1, ds⟩).sa.length ≤ 32
   rw [hbk]
   exact Nat.le_trans (List.length_filter_le _ _) h.n32
  ·show 1 ≤ (addB A.bk k ⟨(A.bk.q k).last + 1, ds⟩).sh ∧ (addB A.bk k ⟨(A.bk.q k).last + 1, ds⟩).sh ≤ 4
   rw [hbk]
   exact h.sh
  ·show QuOk ((addB A.bk k ⟨(A.bk.q k).last + 1, ds⟩).q j) ∧ ((addB A.bk k ⟨(A.bk.q k).last + 1, ds⟩).q j).last ≤ ((A.b ++ frameL (recB k ⟨(A.bk.q k).last + 1, ds⟩)).length : Nat)
   rw [hbk]
   show QuOk (setQ _ _ _ j) ∧ (setQ A.bk.q k ⟨(A.bk.q k).l ++ [⟨(A.bk.q k).last + 1, ds⟩], (A.bk.q k).last + 1⟩ j).last ≤ _
   rw [List.length_append]
   unfold setQ
   by_cases hj : j = k
   ·rw [if_pos hj]
    refine ⟨hqo, ?_⟩
    show (A.bk.q k).last + 1 ≤ _
    omega
   ·rw [if_neg hj]
    obtain ⟨p1, p2⟩ := h.qu j
    exact ⟨p1, by omega⟩
  ·show (A.b ++ frameL _).length ≤ _
   rw [List.length_append]
   omega
theorem addD_gd {acc : List DeltaD} {x : DeltaD} (h : ∀ y ∈ acc, GdD y) (hx : GdD x) : ∀ y ∈ addD acc x, GdD y := by
 intro y hy
 unfold addD at hy
 split at hy
 ·rcases List.mem_append.1 hy with h1 | h1
  ·exact h y h1
  ·simp at h1; subst h1; exact hx
 ·rename_i hlt
  rcases List.mem_or_eq_of_mem_set hy with h1 | h1
  ·exact h y h1
  ·subst h1
   rcases ixD_cases acc x.ser with ⟨h2, _⟩ | ⟨i, hi, h2, _⟩
   ·rw [h2] at hlt; omega
   ·have hin : (ixD acc x.ser).toNat = i := by rw [h2]; simp
    rw [hin, getElem!_pos acc i hi]
    have h9 := h _ (List.getElem_mem hi)
    have h8 := hx.2.1
    refine ⟨h9.1, ?_, ?_⟩
    ·show (1 : Int) ≤ ((addS _ _ : Nat) : Int)
     unfold addS
     split
     ·omega
     ·omega
    ·have := addS_lt acc[i].n.toNat x.n.toNat
     show ((addS acc[i].n.toNat x.n.toNat : Nat) : Int) < _
     omega
theorem joinD_gd {l : List DeltaD} (h : ∀ y ∈ l, GdD y) : ∀ y ∈ joinD l, GdD y := by
 have : ∀ (l acc : List DeltaD), (∀ y ∈ l, GdD y) → (∀ y ∈ acc, GdD y) → ∀ y ∈ l.foldl addD acc, GdD y := by
  intro l
  induction l with
  | nil => intro acc _ h2; exact h2
  | cons x l ih => intro acc h1 h2; exact ih _ (fun y hy => h1 y (by simp [hy])) (addD_gd h2 (h1 x (by simp)))
 exact this l [] h (by simp)
/-- The chunks of one shard. -/
theorem LogI.chunks {k : Nat} (hk : k < 4) : ∀ (f : Nat) (A : AgD) (rs : List (List UInt8)) (B : Nat) (l : List DeltaD) (out : List (Int × Int × Int)), LogI A rs B → (∀ d ∈ l, GdD d) → B + 334 * f ≤ 1000000 →
  ∃ rs', LogI (chunksC f A k l out).2.1 rs' (B + 334 * f) ∧ (∃ t, rs' = rs ++ t) ∧ ∃ more, (chunksC f A k l out).2.2 = out ++ more ∧ (more = [] → rs' = rs ∧ (chunksC f A k l out).2.1 = A)
 | 0, A, rs, B, l, out, h, hl, hB => ⟨rs, h, ⟨[], by simp⟩, [], by simp [chunksC], fun _ => ⟨rfl, rfl⟩⟩
 | f + 1, A, rs, B, l, out, h, hl, hB => by
  unfold chunksC
  by_cases h0 : l.length = 0
  ·rw [if_pos h0]
   exact ⟨rs, h.mono (by omega), ⟨[], by simp⟩, [], by simp, fun _ => ⟨rfl, rfl⟩⟩
  ·rw [if_neg h0]
   have hne : l.take 8 ≠ [] := fun e => by
    have := congrArg List.length e
    simp at this
    rw [this] at h0
    simp at h0
   rcases h.cut hk hne (by simp; omega) (fun d hd => hl d (List.mem_of_mem_take hd)) (by omega) with ⟨e, _⟩ | ⟨e1, _, _, rs1, hL, ⟨t1, ht1⟩⟩
   ·rw [e, if_neg (by simp)]
    exact ⟨rs, h.mono (by omega), ⟨[], by simp⟩, [], by simp, fun _ => ⟨rfl, rfl⟩⟩
   ·rw [if_pos e1]
    obtain ⟨rs', h1, ⟨t2, ht2⟩, more, h2, h3⟩ := LogI.chunks hk f _ rs1 (B + 334) (l.drop 8) (out ++ [(A.node, (k : Int), ((agCut A k (l.take 8)).2.bk.q k).last)]) hL (fun d hd => hl d (List.mem_of_mem_drop hd)) (by omega)
    refine ⟨rs', h1.mono (by omega), ⟨t1 ++ t2, by rw [ht2, ht1, List.append_assoc]⟩, (A.node, (k : Int), ((agCut A k (l.take 8)).2.bk.q k).last) :: more, by rw [h2]; simp, fun e => by cases e⟩
set_option maxRecDepth 100000 in
theorem LogI.all : ∀ (j k : Nat) (A : AgD) (rs : List (List UInt8)) (B : Nat) (out : List (Int × Int × Int)), LogI A rs B → k + j ≤ 4 → B + 2672 * j ≤ 1000000 →
  ∃ rs', LogI (cutAll j k A out).1 rs' (B + 2672 * j) ∧ (∃ t, rs' = rs ++ t) ∧ ∃ more, (cutAll j k A out).2 = out ++ more ∧ (more = [] → rs' = rs ∧ (cutAll j k A out).1 = A)
 | 0, k, A, rs, B, out, h, hk, hB => ⟨rs, h, ⟨[], by simp⟩, [], by simp [cutAll], fun _ => ⟨rfl, rfl⟩⟩
 | j + 1, k, A, rs, B, out, h, hk, hB => by
  obtain ⟨rs1, h1, ⟨t1, ht1⟩, m1, h2, h3⟩ := LogI.chunks (k := k) (by omega) 8 A rs B (joinD (shardL A k)) out h (joinD_gd (fun y hy => h.sa y (List.mem_filter.1 hy).1)) (by omega)
  unfold cutAll
  by_cases hc : (chunksC 8 A k (joinD (shardL A k)) out).1 = true
  ·rw [if_pos hc]
   exact ⟨rs1, h1.mono (by omega), ⟨t1, ht1⟩, m1, h2, h3⟩
  ·rw [if_neg hc]
   obtain ⟨rs2, g1, ⟨t2, ht2⟩, m2, g2, g3⟩ := LogI.all j (k + 1) _ rs1 (B + 2672) (chunksC 8 A k (joinD (shardL A k)) out).2.2 (h1.mono (by omega)) (by omega) (by omega)
   refine ⟨rs2, g1.mono (by omega), ⟨t1 ++ t2, by rw [ht2, ht1, List.append_assoc]⟩, m1 ++ m2, by rw [g2, h2, List.append_assoc], fun e => ?_⟩
   obtain ⟨e1, e2⟩ := List.append_eq_nil_iff.1 e
   obtain ⟨a1, a2⟩ := h3 e1
   obtain ⟨b1, b2⟩ := g3 e2
   exact ⟨by rw [b1, a1], by rw [b2, a2]⟩
end Go.Proofs.YtgdooockldgdlaaGreatDoor.Vi
end
