/- Texts put together: RpK, RpL. -/
import Derived.Test.YtdaceeijifjpeaaGreatDoorRA12
set_option linter.unusedVariables false
set_option linter.unusedSimpArgs false
section
namespace Go.Proofs.YtdaceeijifjpeaaGreatDoor.Vi
open Go.RowKit Base Mem Go.Shelf Tape
open Lead (VoteD VoteAt promiseS wonS accS medS termS newVote)
section
variable {w w' : World} {M : List Nat} {tg : Nat → Nat} {r d : Nat} {R : RpD} {C : RpC}
set_option maxRecDepth 100000 in
set_option maxHeartbeats 8000000 in
theorem rpacc_any (h : RpAt w M tg r d R) (hM : ∀ g ∈ M, g < w.heap.size) (h0 : 0 ∉ M) (hap : R.ap = R.com) (fr : Int) (m : MsgD) (dv lv : Value) (hma : MsgAt w [] m dv lv) (hs : ∀ e ∈ m.log, Short e ∧ Wf e) (ht : m.term ≤ 9223372036854775807) (mx : Int) (hm : w.cell? ⟨0, 0, none⟩ = some (.int .i64 mx)) :
  Calls Tryz.prog 43 #[.pointer (some ⟨r, 0, none⟩), .int .i64 fr, .agg (mCell m dv lv).toArray] w fun e' w' => ROPost M tg r d (rpAcc R fr m) w e' w' := by
 have hw0 : 0 < w.heap.size := by
  have := World.block_lt_of_cell? w _ hm
  simpa using this
 obtain ⟨Aa, na, rfl, _⟩ := hma.1.len
 obtain ⟨Ba, ka, rfl, _⟩ := hma.2.len
 obtain ⟨ho, C, hC, hV⟩ := h
 have HTs := Lib.hid (rpTake_same R m.term m.log)
 have HTo := Lib.hid (rpTake_ok ho m.term m.log)
 have HD : Hid (rpAcc R fr m = if (rpTake R m.term m.log).1 = true then ((rpApply (if (((rpTake R m.term m.log).2.v.map (·.term)).getD m.term ≠ m.term) then rpDown (rpTake R m.term m.log).2 else (rpTake R m.term m.log).2) m.commit).1, [⟨fr, acceptedM m.term (rpApply (if (((rpTake R m.term m.log).2.v.map (·.term)).getD m.term ≠ m.term) then rpDown (rpTake R m.term m.log).2 else (rpTake R m.term m.log).2) m.commit).1.x.log.length⟩]) else (R, [])) := rfl
 have HA : Hid (∀ W, Keeps [] w W → Calls Tryz.prog 71 #[.pointer (some ⟨C.s, 0, none⟩), .int .i64 m.term, .slice Ba m.log.length ka] W fun e w' => RwPost M tg r C (rpTake R m.term m.log) W e w') := fun W hk => rptake_any (hV.keep0 hM hk) (fun g hg => Nat.lt_of_lt_of_le (hM g hg) hk.size) m.term ht _ m.log (hma.2.keep hk (by simp)) hs mx ((hk.cell (p := ⟨0, 0, none⟩) hw0 (by simp)).trans hm)
 have HMl := Lib.hid hM; have HC := Lib.hid hC; have HV := Lib.hid hV; have H0 := Lib.hid h0; have Hap := Lib.hid hap; have Hm := Lib.hid hm
 obtain ⟨mm, Hmm⟩ : ∃ mm, Hid (mm = m) := ⟨m, rfl⟩
 have HPd : Hid (∀ e' w', ROPost M tg r d (rpAcc R fr mm) w e' w' → ROPost M tg r d (rpAcc R fr m) w e' w') := fun _ _ h => by rw [Hmm.out] at h; exact h
 rw [← Hmm.out] at HD
 have hmt : mm.term = m.term ∧ mm.log = m.log ∧ mm.commit = m.commit := by rw [Hmm.out]; exact ⟨rfl, rfl, rfl⟩
 rw [hmt.1, hmt.2.1, hmt.2.2] at HD
 generalize rpTake R m.term m.log = T at *
 obtain ⟨tb, R1⟩ := T
 simp only [] at HTs HTo HD
 clear ho hV hM hm hC ht h0 hap hs hma hmt
 obtain ⟨kd, ⟨kind, ag, sh, seq, ep, ds, ser, efr, etg⟩, tag, code, nn, term, had, log, commit, len⟩ := m
 simp only [] at HD HA
 simp only [mCell, eCell, List.cons_append, List.nil_append]
 obtain ⟨w0, hw0'⟩ : ∃ w0, w0 = w.alloc (.cells #[.int .i64 kd, .int .i64 kind, .int .i64 ag, .int .i64 sh, .int .i64 seq, .int .i64 ep, .slice Aa ds.length na, .string ser, .int .i64 efr, .int .i64 etg, .int .i64 tag, .int .i64 code, .int .u64 nn, .int .i64 term, .int .i64 had, .slice Ba log.length ka, .int .i64 commit, .int .i64 len] 37) := ⟨_, rfl⟩
 have hk0 : Keeps [] w w0 := by rw [hw0']; exact (Keeps.refl _ _).alloc _
 have hB0 : Blk w0 w.heap.size 37 #[.int .i64 kd, .int .i64 kind, .int .i64 ag, .int .i64 sh, .int .i64 seq, .int .i64 ep, .slice Aa ds.length na, .string ser, .int .i64 efr, .int .i64 etg, .int .i64 tag, .int .i64 code, .int .u64 nn, .int .i64 term, .int .i64 had, .slice Ba log.length ka, .int .i64 commit, .int .i64 len] := by rw [hw0']; exact Blk.new w _ _
 obtain ⟨g5, Hg5⟩ : ∃ g5, Hid (g5 = w.heap.size) := ⟨_, rfl⟩
 rw [← Hg5.out] at hB0
 have Hk0 := Lib.hid hk0; have HB0 := Lib.hid hB0
 have hgM : g5 ∉ M := fun hm => by have := HMl.out _ hm; have := Hg5.out; omega
 obtain ⟨Cs, hcs⟩ : ∃ Cs, Cs = C.s := ⟨_, rfl⟩
 have HS : Hid (∀ W, Keeps [] w0 W → W.cell? ⟨r, 2, none⟩ = some (.pointer (some ⟨Cs, 0, none⟩)) ∧ W.cell? ⟨g5, 13, none⟩ = some (.int .i64 term) ∧ W.cell? ⟨g5, 15, none⟩ = some (.slice Ba log.length ka)) := fun W hk => by
  obtain ⟨-, -, d2, -⟩ := rpcells (HV.out.keep0 HMl.out (Hk0.out.trans hk (by simp)))
  have h2 := hk.blk HB0.out (by simp)
  exact ⟨by rw [hcs]; exact d2, h2.cell 13, h2.cell 15⟩
 rw [← hcs] at HA
 have hr0 := Lib.hid (Nat.lt_of_lt_of_le HV.out.blk.lt hk0.size)
 clear hk0 hB0 hcs
 go_enter Tryz.func43, Tryz.ntmps43
 go_upto_region 1 with (fail)
 rw [← hw0', ← Hg5.out]
 clear hw0'
 refine wp_region_held_drew (S := (fun W => W.cell? ⟨r, 2, none⟩ = some (.pointer (some ⟨Cs, 0, none⟩)) ∧ W.cell? ⟨g5, 13, none⟩ = some (.int .i64 term) ∧ W.cell? ⟨g5, 15, none⟩ = some (.slice Ba log.length ka))) (by kernel_rfl) (HS.out _ (Keeps.refl _ _).drew) (fun hHeld => ?_)
 refine wpAnyH_take (i := 0) (oi := _) (v := ?v0u1) rfl (by kernel_rfl) (by kernel_rfl) (by kernel_rfl) (fun _ _ _ h => h) (Or.inl ⟨by rfl, ?y0u1⟩) (by assumption) ?r0u1
 case y0u1 => (intro w hSw; (obtain ⟨hS0, hS1, hS2⟩ := hSw); go_simp <;> with_reducible rfl)
 try simp only [List.getElem_toArray, List.getElem_cons_succ, List.getElem_cons_zero, Act.put, List.setIfInBounds_toArray, List.set_cons_zero, List.set_cons_succ]
 refine wpAnyH_take (i := 1) (oi := _) (v := ?v1u2) rfl (by kernel_rfl) (by kernel_rfl) (by kernel_rfl) (fun _ _ _ h => h) (Or.inl ⟨by rfl, ?y1u2⟩) (by assumption) ?r1u2
 case y1u2 => (intro w hSw; (obtain ⟨hS0, hS1, hS2⟩ := hSw); go_simp <;> with_reducible rfl)
 try simp only [List.getElem_toArray, List.getElem_cons_succ, List.getElem_cons_zero, Act.put, List.setIfInBounds_toArray, List.set_cons_zero, List.set_cons_succ]
 refine wpAnyH_take (i := 2) (oi := _) (v := ?v2u3) rfl (by kernel_rfl) (by kernel_rfl) (by kernel_rfl) (fun _ _ _ h => h) (Or.inl ⟨by rfl, ?y2u3⟩) (by assumption) ?r2u3
 case y2u3 => (intro w hSw; (obtain ⟨hS0, hS1, hS2⟩ := hSw); go_simp <;> with_reducible rfl)
 try simp only [List.getElem_toArray, List.getElem_cons_succ, List.getElem_cons_zero, Act.put, List.setIfInBounds_toArray, List.set_cons_zero, List.set_cons_succ]
 refine wpAnyH_take (i := 3) (oi := _) (v := ?v3u4) rfl (by kernel_rfl) (by kernel_rfl) (by kernel_rfl) (fun _ _ _ h => h) (Or.inl ⟨by rfl, ?y3u4⟩) (by assumption) ?r3u4
 case y3u4 => (intro w hSw; (obtain ⟨hS0, hS1, hS2⟩ := hSw); go_simp <;> with_reducible rfl)
 try simp only [List.getElem_toArray, List.getElem_cons_succ, List.getElem_cons_zero, Act.put, List.setIfInBounds_toArray, List.set_cons_zero, List.set_cons_succ]
 refine wpAnyH_take (i := 4) (oi := _) (v := ?v4u5) rfl (by kernel_rfl) (by kernel_rfl) (by kernel_rfl) (fun _ _ _ h => h) (Or.inl ⟨by rfl, ?y4u5⟩) (by assumption) ?r4u5
 case y4u5 => (intro w hSw; (obtain ⟨hS0, hS1, hS2⟩ := hSw); go_simp <;> with_reducible rfl)
 try simp only [List.getElem_toArray, List.getElem_cons_succ, List.getElem_cons_zero, Act.put, List.setIfInBounds_toArray, List.set_cons_zero, List.set_cons_succ]
 refine wpAnyH_take (i := 5) (oi := _) (v := ?v5u6) rfl (by kernel_rfl) (by kernel_rfl) (by kernel_rfl) (fun _ _ _ h => h) (Or.inl ⟨by rfl, ?y5u6⟩) (by assumption) ?r5u6
 case y5u6 => (intro w hSw; (obtain ⟨hS0, hS1, hS2⟩ := hSw); go_simp <;> with_reducible rfl)
 try simp only [List.getElem_toArray, List.getElem_cons_succ, List.getElem_cons_zero, Act.put, List.setIfInBounds_toArray, List.set_cons_zero, List.set_cons_succ]
 refine wpAnyH_take (i := 6) (oi := _) (v := ?v6u7) rfl (by kernel_rfl) (by kernel_rfl) (by kernel_rfl) (fun _ _ _ h => h) (Or.inl ⟨by rfl, ?y6u7⟩) (by assumption) ?r6u7
 case y6u7 => (intro w hSw; (obtain ⟨hS0, hS1, hS2⟩ := hSw); go_simp <;> with_reducible rfl)
 try simp only [List.getElem_toArray, List.getElem_cons_succ, List.getElem_cons_zero, Act.put, List.setIfInBounds_toArray, List.set_cons_zero, List.set_cons_succ]
 refine wpAnyH_take (i := 7) (oi := _) (v := ?v7u8) rfl (by kernel_rfl) (by kernel_rfl) (by kernel_rfl) (fun _ _ _ h => h) (Or.inl ⟨by rfl, ?y7u8⟩) (by assumption) ?r7u8
 case y7u8 => (intro w hSw; (obtain ⟨hS0, hS1, hS2⟩ := hSw); go_simp <;> with_reducible rfl)
 try simp only [List.getElem_toArray, List.getElem_cons_succ, List.getElem_cons_zero, Act.put, List.setIfInBounds_toArray, List.set_cons_zero, List.set_cons_succ]
 refine wpAnyH_ready (rs := [8]) (by kernel_rfl) (by simp) ?_
 refine AllReadyH.cons (o := _) rfl (fun K hK => ?_) AllReadyH.nil
 go_simp
 refine (HA.out _ Hk0.out.drew).mono ?_
 rintro e w1 ⟨rfl, M1, tg1, Y1, hV1, hx1, hk1⟩
 have HV1 := Lib.hid hV1
 have HX1 : Hid (Ext w M tg w1 M1 tg1 ∧ Keeps (sel M tg (List.range 30)) w w1) := ⟨(Ext.refl HMl.out Hk0.out.drew.size).trans hx1 Hk0.out.drew.size, Ext.keeps (Ext.refl HMl.out Hk0.out.drew.size) (Hk0.out.drew.to_sel (by simp)) (hk1.sel_mono (by simp))⟩
 have HB1 := Lib.hid (hk1.blk (show Blk w0.drew g5 _ _ from HB0.out) (fun hm => hgM (mem_sel.1 hm).1))
 have hg1 : g5 ∉ M1 := fun hm => by
  rcases hx1.new _ hm with h1 | h1
  ·exact hgM h1
  ·have h2 : g5 < w0.drew.heap.size := HB0.out.lt
   omega
 have hnr : r ∉ sel M tg [2, 3, 4] := fun hm => by
  have h1 := (mem_sel.1 hm).2
  rw [HV.out.tr] at h1
  simp at h1
 have HS1 : Hid (w1.cell? ⟨r, 2, none⟩ = some (.pointer (some ⟨Cs, 0, none⟩)) ∧ w1.cell? ⟨g5, 13, none⟩ = some (.int .i64 term) ∧ w1.cell? ⟨g5, 15, none⟩ = some (.slice Ba log.length ka)) := ⟨(hk1.cell (p := ⟨r, 2, none⟩) hr0.out hnr).trans (HS.out _ (Keeps.refl _ _).drew).1, HB1.out.cell 13, HB1.out.cell 15⟩
 clear hV1 hx1 hk1 hnr
 refine hK.out _ _ HS1.out (fun hHeld2 => ?_)
 clear hK K hHeld
 have hHeld := hHeld2
 clear hHeld2
 try simp only [List.getElem_toArray, List.getElem_cons_succ, List.getElem_cons_zero, Act.put, List.setIfInBounds_toArray, List.set_cons_zero, List.set_cons_succ]
 refine wpAnyH_take (i := 9) (oi := _) (v := ?v9u9) rfl (by kernel_rfl) (by kernel_rfl) (by kernel_rfl) (fun _ _ _ h => h) (Or.inl ⟨by rfl, ?y9u9⟩) (by assumption) ?r9u9
 case y9u9 => (intro w hSw; (obtain ⟨hS0, hS1, hS2⟩ := hSw); go_simp <;> with_reducible rfl)
 try simp only [List.getElem_toArray, List.getElem_cons_succ, List.getElem_cons_zero, Act.put, List.setIfInBounds_toArray, List.set_cons_zero, List.set_cons_succ]
 refine wpAnyH_done (by kernel_rfl) ?_ _
 clear hHeld
 simp only [] at HV1
 clear HS HS1 HA HB0
 have HRA : Hid (RpAt w1 M1 tg1 r d R1) := ⟨HTo.out, _, (by exact HC.out), HV1.out⟩
 cases tb with
 | false =>
  obtain rfl : R1 = R := HTs.out.2.2.2.2.2.2.2.2 rfl
  have HP : Hid (ROPost M tg r d (rpAcc R1 fr mm) w (.returned (.slice none 0 0)) w1) := by
   rw [HD.out]
   simp only [Bool.false_eq_true, if_false]
   exact ROPost.nil HRA.out HX1.out.1 HX1.out.2
  have HPP := Lib.hid (HPd.out _ _ HP.out)
  clear HP HPd HTs HD
  go_wp2_with fail
  go_ret
  exact HPP.out
 | true =>
  have hap1 : R1.ap = R1.com := by rw [HTs.out.2.2.2.2.2.2.1, HTs.out.2.2.2.2.2.1]; exact Hap.out
  have h01 : 0 ∉ M1 := fun hm => by
   rcases HX1.out.1.new 0 hm with h1 | h1
   ·exact H0.out h1
   ·omega
  obtain ⟨-, -, -, -, -, d5, -⟩ := rpcells HV1.out
  cases hv : R1.v with
  | none =>
   rw [hv] at d5
   have HD2 : Hid (rpAcc R fr mm = ((rpApply R1 commit).1, [⟨fr, acceptedM term (rpApply R1 commit).1.x.log.length⟩])) := by
    show _ = _
    rw [HD.out]
    simp only [if_true, hv, Option.map_none, Option.getD_none, ne_eq, not_true_eq_false, if_false]
   go_upto_region 3 with (fail)
   refine wp_region_held_drew (S := (fun W => W.cell? ⟨r, 5, none⟩ = some (.pointer none) ∧ W.cell? ⟨g5, 13, none⟩ = some (.int .i64 term))) (by kernel_rfl) ⟨d5, HB1.out.cell 13⟩ (fun hHeld => ?_)
   refine wpAnyH_take (i := 0) (oi := _) (v := ?v0u10) rfl (by kernel_rfl) (by kernel_rfl) (by kernel_rfl) (fun _ _ _ h => h) (Or.inl ⟨by rfl, ?y0u10⟩) (by assumption) ?r0u10
   case y0u10 => (intro w hSw; (obtain ⟨hS0, hS1⟩ := hSw); go_simp <;> with_reducible rfl)
   try simp only [List.getElem_toArray, List.getElem_cons_succ, List.getElem_cons_zero, Act.put, List.setIfInBounds_toArray, List.set_cons_zero, List.set_cons_succ]
   refine wpAnyH_take (i := 1) (oi := _) (v := ?v1u11) rfl (by kernel_rfl) (by kernel_rfl) (by kernel_rfl) (fun _ _ _ h => h) (Or.inl ⟨by rfl, ?y1u11⟩) (by assumption) ?r1u11
   case y1u11 => (intro w hSw; (obtain ⟨hS0, hS1⟩ := hSw); go_simp <;> with_reducible rfl)
   try simp only [List.getElem_toArray, List.getElem_cons_succ, List.getElem_cons_zero, Act.put, List.setIfInBounds_toArray, List.set_cons_zero, List.set_cons_succ]
   refine wpAnyH_take (i := 2) (oi := _) (v := ?v2u12) rfl (by kernel_rfl) (by kernel_rfl) (by kernel_rfl) (fun _ _ _ h => h) (Or.inl ⟨by rfl, ?y2u12⟩) (by assumption) ?r2u12
   case y2u12 => (intro w hSw; (obtain ⟨hS0, hS1⟩ := hSw); go_simp <;> with_reducible rfl)
   try simp only [List.getElem_toArray, List.getElem_cons_succ, List.getElem_cons_zero, Act.put, List.setIfInBounds_toArray, List.set_cons_zero, List.set_cons_succ]
   refine wpAnyH_take (i := 3) (oi := _) (v := ?v3u13) rfl (by kernel_rfl) (by kernel_rfl) (by kernel_rfl) (fun _ _ _ h => h) (Or.inl ⟨by rfl, ?y3u13⟩) (by assumption) ?r3u13
   case y3u13 => (intro w hSw; (obtain ⟨hS0, hS1⟩ := hSw); go_simp <;> with_reducible rfl)
   try simp only [List.getElem_toArray, List.getElem_cons_succ, List.getElem_cons_zero, Act.put, List.setIfInBounds_toArray, List.set_cons_zero, List.set_cons_succ]
   refine wpAnyH_take (i := 4) (oi := _) (v := ?v4u14) rfl (by kernel_rfl) (by kernel_rfl) (by kernel_rfl) (fun _ _ _ h => h) (Or.inl ⟨by rfl, ?y4u14⟩) (by assumption) ?r4u14
   case y4u14 => (intro w hSw; (obtain ⟨hS0, hS1⟩ := hSw); go_simp <;> with_reducible rfl)
   try simp only [List.getElem_toArray, List.getElem_cons_succ, List.getElem_cons_zero, Act.put, List.setIfInBounds_toArray, List.set_cons_zero, List.set_cons_succ]
   refine wpAnyH_take (i := 5) (oi := _) (v := ?v5u15) rfl (by kernel_rfl) (by kernel_rfl) (by kernel_rfl) (fun _ _ _ h => h) (Or.inl ⟨by rfl, ?y5u15⟩) (by assumption) ?r5u15
   case y5u15 => (intro w hSw; (obtain ⟨hS0, hS1⟩ := hSw); go_simp <;> with_reducible rfl)
   try simp only [List.getElem_toArray, List.getElem_cons_succ, List.getElem_cons_zero, Act.put, List.setIfInBounds_toArray, List.set_cons_zero, List.set_cons_succ]
   refine wpAnyH_take (i := 6) (oi := _) (v := undef) rfl (by kernel_rfl) (by kernel_rfl) (by kernel_rfl) (fun _ _ _ h => h) (Or.inr ⟨by rfl, rfl⟩) (by assumption) ?_
   try simp only [List.getElem_toArray, List.getElem_cons_succ, List.getElem_cons_zero, Act.put, List.setIfInBounds_toArray, List.set_cons_zero, List.set_cons_succ]
   refine wpAnyH_take (i := 7) (oi := _) (v := undef) rfl (by kernel_rfl) (by kernel_rfl) (by kernel_rfl) (fun _ _ _ h => h) (Or.inr ⟨by rfl, rfl⟩) (by assumption) ?_
   try simp only [List.getElem_toArray, List.getElem_cons_succ, List.getElem_cons_zero, Act.put, List.setIfInBounds_toArray, List.set_cons_zero, List.set_cons_succ]
   refine wpAnyH_take (i := 8) (oi := _) (v := undef) rfl (by kernel_rfl) (by kernel_rfl) (by kernel_rfl) (fun _ _ _ h => h) (Or.inr ⟨by rfl, rfl⟩) (by assumption) ?_
   try simp only [List.getElem_toArray, List.getElem_cons_succ, List.getElem_cons_zero, Act.put, List.setIfInBounds_toArray, List.set_cons_zero, List.set_cons_succ]
   refine wpAnyH_take (i := 9) (oi := _) (v := undef) rfl (by kernel_rfl) (by kernel_rfl) (by kernel_rfl) (fun _ _ _ h => h) (Or.inr ⟨by rfl, rfl⟩) (by assumption) ?_
   try simp only [List.getElem_toArray, List.getElem_cons_succ, List.getElem_cons_zero, Act.put, List.setIfInBounds_toArray, List.set_cons_zero, List.set_cons_succ]
   refine wpAnyH_take (i := 10) (oi := _) (v := undef) rfl (by kernel_rfl) (by kernel_rfl) (by kernel_rfl) (fun _ _ _ h => h) (Or.inr ⟨by rfl, rfl⟩) (by assumption) ?_
   try simp only [List.getElem_toArray, List.getElem_cons_succ, List.getElem_cons_zero, Act.put, List.setIfInBounds_toArray, List.set_cons_zero, List.set_cons_succ]
   refine wpAnyH_take (i := 11) (oi := _) (v := undef) rfl (by kernel_rfl) (by kernel_rfl) (by kernel_rfl) (fun _ _ _ h => h) (Or.inr ⟨by rfl, rfl⟩) (by assumption) ?_
   try simp only [List.getElem_toArray, List.getElem_cons_succ, List.getElem_cons_zero, Act.put, List.setIfInBounds_toArray, List.set_cons_zero, List.set_cons_succ]
   refine wpAnyH_take (i := 12) (oi := _) (v := undef) rfl (by kernel_rfl) (by kernel_rfl) (by kernel_rfl) (fun _ _ _ h => h) (Or.inr ⟨by rfl, rfl⟩) (by assumption) ?_
   try simp only [List.getElem_toArray, List.getElem_cons_succ, List.getElem_cons_zero, Act.put, List.setIfInBounds_toArray, List.set_cons_zero, List.set_cons_succ]
   refine wpAnyH_take (i := 13) (oi := _) (v := undef) rfl (by kernel_rfl) (by kernel_rfl) (by kernel_rfl) (fun _ _ _ h => h) (Or.inr ⟨by rfl, rfl⟩) (by assumption) ?_
   try simp only [List.getElem_toArray, List.getElem_cons_succ, List.getElem_cons_zero, Act.put, List.setIfInBounds_toArray, List.set_cons_zero, List.set_cons_succ]
   refine wpAnyH_take (i := 14) (oi := _) (v := ?v14u16) rfl (by kernel_rfl) (by kernel_rfl) (by kernel_rfl) (fun _ _ _ h => h) (Or.inl ⟨by rfl, ?y14u16⟩) (by assumption) ?r14u16
   case y14u16 => (intro w hSw; (obtain ⟨hS0, hS1⟩ := hSw); go_simp <;> with_reducible rfl)
   try simp only [List.getElem_toArray, List.getElem_cons_succ, List.getElem_cons_zero, Act.put, List.setIfInBounds_toArray, List.set_cons_zero, List.set_cons_succ]
   refine wpAnyH_done (by kernel_rfl) ?_ _
   clear hHeld
   have HRb := Lib.hid (HRA.out.keep0 HX1.out.1.lt ((Keeps.refl [] w1).drew))
   have HXb : Hid (Ext w M tg w1.drew M1 tg1 ∧ Keeps (sel M tg (List.range 30)) w w1.drew) := ⟨HX1.out.1.later (Nat.le_refl _), HX1.out.2.drew⟩
   have HBb : Hid (Blk w1.drew g5 37 #[.int .i64 kd, .int .i64 kind, .int .i64 ag, .int .i64 sh, .int .i64 seq, .int .i64 ep, .slice Aa ds.length na, .string ser, .int .i64 efr, .int .i64 etg, .int .i64 tag, .int .i64 code, .int .u64 nn, .int .i64 term, .int .i64 had, .slice Ba log.length ka, .int .i64 commit, .int .i64 len]) := HB1.out
   obtain ⟨R2, HR2⟩ : ∃ R2, Hid (R2 = R1) := ⟨R1, rfl⟩
   have hapb : R2.ap = R2.com := by rw [HR2.out]; exact hap1
   rw [← HR2.out] at HD2 HRb
   clear HD d5 hv
   go_upto_region 5 with (fail)
   generalize w1.drew = wB at *
   have q16 := HBb.out.cell 16
   simp only [List.getElem?_toArray, List.getElem?_cons_succ, List.getElem?_cons_zero] at q16
   have hmb : wB.cell? ⟨0, 0, none⟩ = some (.int .i64 mx) := (HXb.out.2.cell (p := ⟨0, 0, none⟩) hw0 (fun hm => H0.out (mem_sel.1 hm).1)).trans Hm.out
   have hapl := Lib.hid (rpapply_any HRb.out HXb.out.1.lt h01 hapb commit mx hmb)
   clear hmb
   generalize rpApply R2 commit = PA at *
   obtain ⟨R3, outA⟩ := PA
   simp only [] at HD2
   go_wp2_with fail
   refine hapl.out.mono ?_
   rintro e5 wD ⟨vA, MA, tgA, rfl, hro⟩
   have HXd : Hid (Ext w M tg wD MA tgA ∧ Keeps (sel M tg (List.range 30)) w wD) := ⟨HXb.out.1.trans hro.x HXb.out.2.size, Ext.keeps HXb.out.1 HXb.out.2 hro.k⟩
   have HRd : Hid (RpAt wD MA tgA r d R3) := hro.ag
   have HBd : Hid (Blk wD g5 37 #[.int .i64 kd, .int .i64 kind, .int .i64 ag, .int .i64 sh, .int .i64 seq, .int .i64 ep, .slice Aa ds.length na, .string ser, .int .i64 efr, .int .i64 etg, .int .i64 tag, .int .i64 code, .int .u64 nn, .int .i64 term, .int .i64 had, .slice Ba log.length ka, .int .i64 commit, .int .i64 len]) := hro.k.blk HBb.out (fun hm => hg1 (mem_sel.1 hm).1)
   obtain ⟨Cd, hvd⟩ : ∃ Cd, RpV wD MA tgA r R3 Cd := by obtain ⟨_, Cd, _, hv⟩ := hro.ag; exact ⟨Cd, hv⟩
   have HVd := Lib.hid hvd
   obtain ⟨-, -, e2, -⟩ := rpcells hvd
   obtain ⟨Cb, hcb⟩ : ∃ Cb, Cb = Cd.s := ⟨_, rfl⟩
   rw [← hcb] at e2
   have HLn : Hid (Calls Tryz.prog 72 #[.pointer (some ⟨Cb, 0, none⟩)] wD.drew fun e w' => e = .returned (.int .i64 R3.x.log.length) ∧ wD.drew = w') := by
    rw [hcb]
    exact vlen_any wD.drew ((HVd.out.keep0 HXd.out.1.lt ((Keeps.refl [] wD).drew)).st.st)
   have HS6 : Hid (∀ W, Keeps [] wD W → W.cell? ⟨g5, 13, none⟩ = some (.int .i64 term) ∧ W.cell? ⟨r, 2, none⟩ = some (.pointer (some ⟨Cb, 0, none⟩))) := fun W hk => ⟨(hk.blk HBd.out (by simp)).cell 13, (hk.cell (p := ⟨r, 2, none⟩) HVd.out.blk.lt (by simp)).trans e2⟩
   have HFin : Hid (ROPost M tg r d (rpAcc R fr mm) w (.returned (.slice (some ⟨wD.drew.heap.size, 0, none⟩) 1 1)) (wD.drew.alloc (.cells #[.int .i64 fr, .int .i64 6, .int .i64 0, .int .i64 0, .int .i64 0, .int .i64 0, .int .i64 0, .slice none 0 0, .string ⟨#[]⟩, .int .i64 0, .int .i64 0, .int .i64 0, .int .i64 0, .int .u64 0, .int .i64 term, .int .i64 0, .slice none 0 0, .int .i64 0, .int .i64 R3.x.log.length] 39))) := by
    rw [HD2.out]
    exact ROPost.base (RoSt.oneV HRd.out HXd.out.1.lt (Keeps.refl [] wD).drew ⟨fr, acceptedM term R3.x.log.length⟩ (.slice none 0 0) (.slice none 0 0) (fun L hL => ⟨Ds.nil _ _, Ens.nil _ _⟩)) HXd.out.1 HXd.out.2
   have HPP := Lib.hid (HPd.out _ _ HFin.out)
   clear hro hapl q16 hvd e2 hcb HFin HPd HD2 HBb HXb HRb
   go_upto_region 6 with (fail)
   refine wp_region_held_drew (S := (fun W => W.cell? ⟨g5, 13, none⟩ = some (.int .i64 term) ∧ W.cell? ⟨r, 2, none⟩ = some (.pointer (some ⟨Cb, 0, none⟩)))) (by kernel_rfl) (HS6.out _ (Keeps.refl _ _).drew) (fun hHeld => ?_)
   refine wpAnyH_take (i := 0) (oi := _) (v := ?v0u45) rfl (by kernel_rfl) (by kernel_rfl) (by kernel_rfl) (fun _ _ _ h => h) (Or.inl ⟨by rfl, ?y0u45⟩) (by assumption) ?r0u45
   case y0u45 => (intro w hSw; (obtain ⟨hS0, hS1⟩ := hSw); go_simp <;> with_reducible rfl)
   try simp only [List.getElem_toArray, List.getElem_cons_succ, List.getElem_cons_zero, Act.put, List.setIfInBounds_toArray, List.set_cons_zero, List.set_cons_succ]
   refine wpAnyH_take (i := 1) (oi := _) (v := ?v1u46) rfl (by kernel_rfl) (by kernel_rfl) (by kernel_rfl) (fun _ _ _ h => h) (Or.inl ⟨by rfl, ?y1u46⟩) (by assumption) ?r1u46
   case y1u46 => (intro w hSw; (obtain ⟨hS0, hS1⟩ := hSw); go_simp <;> with_reducible rfl)
   try simp only [List.getElem_toArray, List.getElem_cons_succ, List.getElem_cons_zero, Act.put, List.setIfInBounds_toArray, List.set_cons_zero, List.set_cons_succ]
   refine wpAnyH_take (i := 2) (oi := _) (v := ?v2u47) rfl (by kernel_rfl) (by kernel_rfl) (by kernel_rfl) (fun _ _ _ h => h) (Or.inl ⟨by rfl, ?y2u47⟩) (by assumption) ?r2u47
   case y2u47 => (intro w hSw; (obtain ⟨hS0, hS1⟩ := hSw); go_simp <;> with_reducible rfl)
   try simp only [List.getElem_toArray, List.getElem_cons_succ, List.getElem_cons_zero, Act.put, List.setIfInBounds_toArray, List.set_cons_zero, List.set_cons_succ]
   refine wpAnyH_take (i := 3) (oi := _) (v := ?v3u48) rfl (by kernel_rfl) (by kernel_rfl) (by kernel_rfl) (fun _ _ _ h => h) (Or.inl ⟨by rfl, ?y3u48⟩) (by assumption) ?r3u48
   case y3u48 => (intro w hSw; (obtain ⟨hS0, hS1⟩ := hSw); go_simp <;> with_reducible rfl)
   try simp only [List.getElem_toArray, List.getElem_cons_succ, List.getElem_cons_zero, Act.put, List.setIfInBounds_toArray, List.set_cons_zero, List.set_cons_succ]
   refine wpAnyH_take (i := 4) (oi := _) (v := ?v4u49) rfl (by kernel_rfl) (by kernel_rfl) (by kernel_rfl) (fun _ _ _ h => h) (Or.inl ⟨by rfl, ?y4u49⟩) (by assumption) ?r4u49
   case y4u49 => (intro w hSw; (obtain ⟨hS0, hS1⟩ := hSw); go_simp <;> with_reducible rfl)
   try simp only [List.getElem_toArray, List.getElem_cons_succ, List.getElem_cons_zero, Act.put, List.setIfInBounds_toArray, List.set_cons_zero, List.set_cons_succ]
   refine wpAnyH_take (i := 5) (oi := _) (v := ?v5u50) rfl (by kernel_rfl) (by kernel_rfl) (by kernel_rfl) (fun _ _ _ h => h) (Or.inl ⟨by rfl, ?y5u50⟩) (by assumption) ?r5u50
   case y5u50 => (intro w hSw; (obtain ⟨hS0, hS1⟩ := hSw); go_simp <;> with_reducible rfl)
   try simp only [List.getElem_toArray, List.getElem_cons_succ, List.getElem_cons_zero, Act.put, List.setIfInBounds_toArray, List.set_cons_zero, List.set_cons_succ]
   refine wpAnyH_take (i := 6) (oi := _) (v := ?v6u51) rfl (by kernel_rfl) (by kernel_rfl) (by kernel_rfl) (fun _ _ _ h => h) (Or.inl ⟨by rfl, ?y6u51⟩) (by assumption) ?r6u51
   case y6u51 => (intro w hSw; (obtain ⟨hS0, hS1⟩ := hSw); go_simp <;> with_reducible rfl)
   try simp only [List.getElem_toArray, List.getElem_cons_succ, List.getElem_cons_zero, Act.put, List.setIfInBounds_toArray, List.set_cons_zero, List.set_cons_succ]
   refine wpAnyH_ready (rs := [7]) (by kernel_rfl) (by simp) ?_
   refine AllReadyH.cons (o := _) rfl (fun K hK => ?_) AllReadyH.nil
   go_simp
   refine HLn.out.mono ?_
   rintro e wl ⟨rfl, rfl⟩
   refine hK.out _ _ (HS6.out _ (Keeps.refl _ _).drew) (fun hHeld2 => ?_)
   clear hK K hHeld
   have hHeld := hHeld2
   clear hHeld2
   try simp only [List.getElem_toArray, List.getElem_cons_succ, List.getElem_cons_zero, Act.put, List.setIfInBounds_toArray, List.set_cons_zero, List.set_cons_succ]
   refine wpAnyH_take (i := 8) (oi := _) (v := ?v8u52) rfl (by kernel_rfl) (by kernel_rfl) (by kernel_rfl) (fun _ _ _ h => h) (Or.inl ⟨by rfl, ?y8u52⟩) (by assumption) ?r8u52
   case y8u52 => (intro w hSw; (obtain ⟨hS0, hS1⟩ := hSw); go_simp <;> with_reducible rfl)
   try simp only [List.getElem_toArray, List.getElem_cons_succ, List.getElem_cons_zero, Act.put, List.setIfInBounds_toArray, List.set_cons_zero, List.set_cons_succ]
   refine wpAnyH_take (i := 9) (oi := _) (v := ?v9u53) rfl (by kernel_rfl) (by kernel_rfl) (by kernel_rfl) (fun _ _ _ h => h) (Or.inl ⟨by rfl, ?y9u53⟩) (by assumption) ?r9u53
   case y9u53 => (intro w hSw; (obtain ⟨hS0, hS1⟩ := hSw); go_simp <;> with_reducible rfl)
   try simp only [List.getElem_toArray, List.getElem_cons_succ, List.getElem_cons_zero, Act.put, List.setIfInBounds_toArray, List.set_cons_zero, List.set_cons_succ]
   refine wpAnyH_ready (rs := [10]) (by kernel_rfl) (by simp) ?_
   refine AllReadyH.cons (o := _) rfl (fun K hK => ?_) AllReadyH.nil
   go_simp
   refine hK.out _ _ (HS6.out _ ((Keeps.refl _ _).drew.alloc _)) (fun hHeld2 => ?_)
   clear hK K hHeld
   have hHeld := hHeld2
   clear hHeld2
   try simp only [List.getElem_toArray, List.getElem_cons_succ, List.getElem_cons_zero, Act.put, List.setIfInBounds_toArray, List.set_cons_zero, List.set_cons_succ]
   refine wpAnyH_take (i := 11) (oi := _) (v := ?v11u54) rfl (by kernel_rfl) (by kernel_rfl) (by kernel_rfl) (fun _ _ _ h => h) (Or.inl ⟨by rfl, ?y11u54⟩) (by assumption) ?r11u54
   case y11u54 => (intro w hSw; (obtain ⟨hS0, hS1⟩ := hSw); go_simp <;> with_reducible rfl)
   try simp only [List.getElem_toArray, List.getElem_cons_succ, List.getElem_cons_zero, Act.put, List.setIfInBounds_toArray, List.set_cons_zero, List.set_cons_succ]
   refine wpAnyH_done (by kernel_rfl) ?_ _
   clear hHeld
   go_wp2_with fail
   go_ret
   exact HPP.out
  | some v =>
   rw [hv] at d5
   have d5 : w1.cell? ⟨r, 5, none⟩ = some (.pointer (some ⟨C.vb, 0, none⟩)) := d5
   have HT : Hid (Calls Tryz.prog 41 #[.pointer (some ⟨C.vb, 0, none⟩)] w1.drew fun e w' => e = .returned (.int .i64 v.term) ∧ w1.drew = w') := Lead.vterm_any M1 C.vb v w1.drew ((HV1.out.keep0 HX1.out.1.lt ((Keeps.refl [] w1).drew)).vt v hv).1
   by_cases hte : v.term = term
   ·have HD2 : Hid (rpAcc R fr mm = ((rpApply R1 commit).1, [⟨fr, acceptedM term (rpApply R1 commit).1.x.log.length⟩])) := by
     show _ = _
     rw [HD.out]
     simp only [if_true, hv, Option.map_some, Option.getD_some, hte, ne_eq, not_true_eq_false, if_false]
    have hteb : (v.term != term) = false := by simp [hte]
    clear HD hte
    go_upto_region 3 with (fail)
    refine wp_region_held_drew (S := (fun W => W.cell? ⟨r, 5, none⟩ = some (.pointer (some ⟨C.vb, 0, none⟩)) ∧ W.cell? ⟨g5, 13, none⟩ = some (.int .i64 term))) (by kernel_rfl) ⟨d5, HB1.out.cell 13⟩ (fun hHeld => ?_)
    refine wpAnyH_take (i := 0) (oi := _) (v := ?v0u17) rfl (by kernel_rfl) (by kernel_rfl) (by kernel_rfl) (fun _ _ _ h => h) (Or.inl ⟨by rfl, ?y0u17⟩) (by assumption) ?r0u17
    case y0u17 => (intro w hSw; (obtain ⟨hS0, hS1⟩ := hSw); go_simp <;> with_reducible rfl)
    try simp only [List.getElem_toArray, List.getElem_cons_succ, List.getElem_cons_zero, Act.put, List.setIfInBounds_toArray, List.set_cons_zero, List.set_cons_succ]
    refine wpAnyH_take (i := 1) (oi := _) (v := ?v1u18) rfl (by kernel_rfl) (by kernel_rfl) (by kernel_rfl) (fun _ _ _ h => h) (Or.inl ⟨by rfl, ?y1u18⟩) (by assumption) ?r1u18
    case y1u18 => (intro w hSw; (obtain ⟨hS0, hS1⟩ := hSw); go_simp <;> with_reducible rfl)
    try simp only [List.getElem_toArray, List.getElem_cons_succ, List.getElem_cons_zero, Act.put, List.setIfInBounds_toArray, List.set_cons_zero, List.set_cons_succ]
    refine wpAnyH_take (i := 2) (oi := _) (v := ?v2u19) rfl (by kernel_rfl) (by kernel_rfl) (by kernel_rfl) (fun _ _ _ h => h) (Or.inl ⟨by rfl, ?y2u19⟩) (by assumption) ?r2u19
    case y2u19 => (intro w hSw; (obtain ⟨hS0, hS1⟩ := hSw); go_simp <;> with_reducible rfl)
    try simp only [List.getElem_toArray, List.getElem_cons_succ, List.getElem_cons_zero, Act.put, List.setIfInBounds_toArray, List.set_cons_zero, List.set_cons_succ]
    refine wpAnyH_take (i := 3) (oi := _) (v := ?v3u20) rfl (by kernel_rfl) (by kernel_rfl) (by kernel_rfl) (fun _ _ _ h => h) (Or.inl ⟨by rfl, ?y3u20⟩) (by assumption) ?r3u20
    case y3u20 => (intro w hSw; (obtain ⟨hS0, hS1⟩ := hSw); go_simp <;> with_reducible rfl)
    try simp only [List.getElem_toArray, List.getElem_cons_succ, List.getElem_cons_zero, Act.put, List.setIfInBounds_toArray, List.set_cons_zero, List.set_cons_succ]
    refine wpAnyH_take (i := 4) (oi := _) (v := ?v4u21) rfl (by kernel_rfl) (by kernel_rfl) (by kernel_rfl) (fun _ _ _ h => h) (Or.inl ⟨by rfl, ?y4u21⟩) (by assumption) ?r4u21
    case y4u21 => (intro w hSw; (obtain ⟨hS0, hS1⟩ := hSw); go_simp <;> with_reducible rfl)
    try simp only [List.getElem_toArray, List.getElem_cons_succ, List.getElem_cons_zero, Act.put, List.setIfInBounds_toArray, List.set_cons_zero, List.set_cons_succ]
    refine wpAnyH_take (i := 5) (oi := _) (v := ?v5u22) rfl (by kernel_rfl) (by kernel_rfl) (by kernel_rfl) (fun _ _ _ h => h) (Or.inl ⟨by rfl, ?y5u22⟩) (by assumption) ?r5u22
    case y5u22 => (intro w hSw; (obtain ⟨hS0, hS1⟩ := hSw); go_simp <;> with_reducible rfl)
    try simp only [List.getElem_toArray, List.getElem_cons_succ, List.getElem_cons_zero, Act.put, List.setIfInBounds_toArray, List.set_cons_zero, List.set_cons_succ]
    refine wpAnyH_take (i := 6) (oi := _) (v := ?v6u23) rfl (by kernel_rfl) (by kernel_rfl) (by kernel_rfl) (fun _ _ _ h => h) (Or.inl ⟨by rfl, ?y6u23⟩) (by assumption) ?r6u23
    case y6u23 => (intro w hSw; (obtain ⟨hS0, hS1⟩ := hSw); go_simp <;> with_reducible rfl)
    try simp only [List.getElem_toArray, List.getElem_cons_succ, List.getElem_cons_zero, Act.put, List.setIfInBounds_toArray, List.set_cons_zero, List.set_cons_succ]
    refine wpAnyH_take (i := 7) (oi := _) (v := ?v7u24) rfl (by kernel_rfl) (by kernel_rfl) (by kernel_rfl) (fun _ _ _ h => h) (Or.inl ⟨by rfl, ?y7u24⟩) (by assumption) ?r7u24
    case y7u24 => (intro w hSw; (obtain ⟨hS0, hS1⟩ := hSw); go_simp <;> with_reducible rfl)
    try simp only [List.getElem_toArray, List.getElem_cons_succ, List.getElem_cons_zero, Act.put, List.setIfInBounds_toArray, List.set_cons_zero, List.set_cons_succ]
    refine wpAnyH_take (i := 8) (oi := _) (v := ?v8u25) rfl (by kernel_rfl) (by kernel_rfl) (by kernel_rfl) (fun _ _ _ h => h) (Or.inl ⟨by rfl, ?y8u25⟩) (by assumption) ?r8u25
    case y8u25 => (intro w hSw; (obtain ⟨hS0, hS1⟩ := hSw); go_simp <;> with_reducible rfl)
    try simp only [List.getElem_toArray, List.getElem_cons_succ, List.getElem_cons_zero, Act.put, List.setIfInBounds_toArray, List.set_cons_zero, List.set_cons_succ]
    refine wpAnyH_take (i := 9) (oi := _) (v := ?v9u26) rfl (by kernel_rfl) (by kernel_rfl) (by kernel_rfl) (fun _ _ _ h => h) (Or.inl ⟨by rfl, ?y9u26⟩) (by assumption) ?r9u26
    case y9u26 => (intro w hSw; (obtain ⟨hS0, hS1⟩ := hSw); go_simp <;> with_reducible rfl)
    try simp only [List.getElem_toArray, List.getElem_cons_succ, List.getElem_cons_zero, Act.put, List.setIfInBounds_toArray, List.set_cons_zero, List.set_cons_succ]
    refine wpAnyH_take (i := 11) (oi := _) (v := ?v11u27) rfl (by kernel_rfl) (by kernel_rfl) (by kernel_rfl) (fun _ _ _ h => h) (Or.inl ⟨by rfl, ?y11u27⟩) (by assumption) ?r11u27
    case y11u27 => (intro w hSw; (obtain ⟨hS0, hS1⟩ := hSw); go_simp <;> with_reducible rfl)
    try simp only [List.getElem_toArray, List.getElem_cons_succ, List.getElem_cons_zero, Act.put, List.setIfInBounds_toArray, List.set_cons_zero, List.set_cons_succ]
    refine wpAnyH_take (i := 12) (oi := _) (v := ?v12u28) rfl (by kernel_rfl) (by kernel_rfl) (by kernel_rfl) (fun _ _ _ h => h) (Or.inl ⟨by rfl, ?y12u28⟩) (by assumption) ?r12u28
    case y12u28 => (intro w hSw; (obtain ⟨hS0, hS1⟩ := hSw); go_simp <;> with_reducible rfl)
    try simp only [List.getElem_toArray, List.getElem_cons_succ, List.getElem_cons_zero, Act.put, List.setIfInBounds_toArray, List.set_cons_zero, List.set_cons_succ]
    refine wpAnyH_ready (rs := [10]) (by kernel_rfl) (by simp) ?_
    refine AllReadyH.cons (o := _) rfl (fun K hK => ?_) AllReadyH.nil
    go_simp
    refine HT.out.mono ?_
    rintro e wl ⟨rfl, rfl⟩
    refine hK.out _ _ ⟨d5, HB1.out.cell 13⟩ (fun hHeld2 => ?_)
    clear hK K hHeld
    have hHeld := hHeld2
    clear hHeld2
    try simp only [List.getElem_toArray, List.getElem_cons_succ, List.getElem_cons_zero, Act.put, List.setIfInBounds_toArray, List.set_cons_zero, List.set_cons_succ]
    refine wpAnyH_take (i := 13) (oi := _) (v := ?v13u29) rfl (by kernel_rfl) (by kernel_rfl) (by kernel_rfl) (fun _ _ _ h => h) (Or.inl ⟨by rfl, ?y13u29⟩) (by assumption) ?r13u29
    case y13u29 => (intro w hSw; (obtain ⟨hS0, hS1⟩ := hSw); go_simp <;> with_reducible rfl)
    try simp only [List.getElem_toArray, List.getElem_cons_succ, List.getElem_cons_zero, Act.put, List.setIfInBounds_toArray, List.set_cons_zero, List.set_cons_succ]
    refine wpAnyH_take (i := 14) (oi := _) (v := ?v14u30) rfl (by kernel_rfl) (by kernel_rfl) (by kernel_rfl) (fun _ _ _ h => h) (Or.inl ⟨by rfl, ?y14u30⟩) (by assumption) ?r14u30
    case y14u30 => (intro w hSw; (obtain ⟨hS0, hS1⟩ := hSw); go_simp <;> with_reducible rfl)
    try simp only [List.getElem_toArray, List.getElem_cons_succ, List.getElem_cons_zero, Act.put, List.setIfInBounds_toArray, List.set_cons_zero, List.set_cons_succ]
    refine wpAnyH_done (by kernel_rfl) ?_ _
    clear hHeld
    have HRb := Lib.hid (HRA.out.keep0 HX1.out.1.lt ((Keeps.refl [] w1).drew))
    have HXb : Hid (Ext w M tg w1.drew M1 tg1 ∧ Keeps (sel M tg (List.range 30)) w w1.drew) := ⟨HX1.out.1.later (Nat.le_refl _), HX1.out.2.drew⟩
    have HBb : Hid (Blk w1.drew g5 37 #[.int .i64 kd, .int .i64 kind, .int .i64 ag, .int .i64 sh, .int .i64 seq, .int .i64 ep, .slice Aa ds.length na, .string ser, .int .i64 efr, .int .i64 etg, .int .i64 tag, .int .i64 code, .int .u64 nn, .int .i64 term, .int .i64 had, .slice Ba log.length ka, .int .i64 commit, .int .i64 len]) := HB1.out
    obtain ⟨R2, HR2⟩ : ∃ R2, Hid (R2 = R1) := ⟨R1, rfl⟩
    have hapb : R2.ap = R2.com := by rw [HR2.out]; exact hap1
    rw [← HR2.out] at HD2 HRb
    clear d5 hv HT hteb
    go_upto_region 5 with (fail)
    generalize w1.drew = wB at *
    have q16 := HBb.out.cell 16
    simp only [List.getElem?_toArray, List.getElem?_cons_succ, List.getElem?_cons_zero] at q16
    have hmb : wB.cell? ⟨0, 0, none⟩ = some (.int .i64 mx) := (HXb.out.2.cell (p := ⟨0, 0, none⟩) hw0 (fun hm => H0.out (mem_sel.1 hm).1)).trans Hm.out
    have hapl := Lib.hid (rpapply_any HRb.out HXb.out.1.lt h01 hapb commit mx hmb)
    clear hmb
    generalize rpApply R2 commit = PA at *
    obtain ⟨R3, outA⟩ := PA
    simp only [] at HD2
    go_wp2_with fail
    refine hapl.out.mono ?_
    rintro e5 wD ⟨vA, MA, tgA, rfl, hro⟩
    have HXd : Hid (Ext w M tg wD MA tgA ∧ Keeps (sel M tg (List.range 30)) w wD) := ⟨HXb.out.1.trans hro.x HXb.out.2.size, Ext.keeps HXb.out.1 HXb.out.2 hro.k⟩
    have HRd : Hid (RpAt wD MA tgA r d R3) := hro.ag
    have HBd : Hid (Blk wD g5 37 #[.int .i64 kd, .int .i64 kind, .int .i64 ag, .int .i64 sh, .int .i64 seq, .int .i64 ep, .slice Aa ds.length na, .string ser, .int .i64 efr, .int .i64 etg, .int .i64 tag, .int .i64 code, .int .u64 nn, .int .i64 term, .int .i64 had, .slice Ba log.length ka, .int .i64 commit, .int .i64 len]) := hro.k.blk HBb.out (fun hm => hg1 (mem_sel.1 hm).1)
    obtain ⟨Cd, hvd⟩ : ∃ Cd, RpV wD MA tgA r R3 Cd := by obtain ⟨_, Cd, _, hv⟩ := hro.ag; exact ⟨Cd, hv⟩
    have HVd := Lib.hid hvd
    obtain ⟨-, -, e2, -⟩ := rpcells hvd
    obtain ⟨Cb, hcb⟩ : ∃ Cb, Cb = Cd.s := ⟨_, rfl⟩
    rw [← hcb] at e2
    have HLn : Hid (Calls Tryz.prog 72 #[.pointer (some ⟨Cb, 0, none⟩)] wD.drew fun e w' => e = .returned (.int .i64 R3.x.log.length) ∧ wD.drew = w') := by
     rw [hcb]
     exact vlen_any wD.drew ((HVd.out.keep0 HXd.out.1.lt ((Keeps.refl [] wD).drew)).st.st)
    have HS6 : Hid (∀ W, Keeps [] wD W → W.cell? ⟨g5, 13, none⟩ = some (.int .i64 term) ∧ W.cell? ⟨r, 2, none⟩ = some (.pointer (some ⟨Cb, 0, none⟩))) := fun W hk => ⟨(hk.blk HBd.out (by simp)).cell 13, (hk.cell (p := ⟨r, 2, none⟩) HVd.out.blk.lt (by simp)).trans e2⟩
    have HFin : Hid (ROPost M tg r d (rpAcc R fr mm) w (.returned (.slice (some ⟨wD.drew.heap.size, 0, none⟩) 1 1)) (wD.drew.alloc (.cells #[.int .i64 fr, .int .i64 6, .int .i64 0, .int .i64 0, .int .i64 0, .int .i64 0, .int .i64 0, .slice none 0 0, .string ⟨#[]⟩, .int .i64 0, .int .i64 0, .int .i64 0, .int .i64 0, .int .u64 0, .int .i64 term, .int .i64 0, .slice none 0 0, .int .i64 0, .int .i64 R3.x.log.length] 39))) := by
     rw [HD2.out]
     exact ROPost.base (RoSt.oneV HRd.out HXd.out.1.lt (Keeps.refl [] wD).drew ⟨fr, acceptedM term R3.x.log.length⟩ (.slice none 0 0) (.slice none 0 0) (fun L hL => ⟨Ds.nil _ _, Ens.nil _ _⟩)) HXd.out.1 HXd.out.2
    have HPP := Lib.hid (HPd.out _ _ HFin.out)
    clear hro hapl q16 hvd e2 hcb HFin HPd HD2 HBb HXb HRb
    go_upto_region 6 with (fail)
    refine wp_region_held_drew (S := (fun W => W.cell? ⟨g5, 13, none⟩ = some (.int .i64 term) ∧ W.cell? ⟨r, 2, none⟩ = some (.pointer (some ⟨Cb, 0, none⟩)))) (by kernel_rfl) (HS6.out _ (Keeps.refl _ _).drew) (fun hHeld => ?_)
    refine wpAnyH_take (i := 0) (oi := _) (v := ?v0u55) rfl (by kernel_rfl) (by kernel_rfl) (by kernel_rfl) (fun _ _ _ h => h) (Or.inl ⟨by rfl, ?y0u55⟩) (by assumption) ?r0u55
    case y0u55 => (intro w hSw; (obtain ⟨hS0, hS1⟩ := hSw); go_simp <;> with_reducible rfl)
    try simp only [List.getElem_toArray, List.getElem_cons_succ, List.getElem_cons_zero, Act.put, List.setIfInBounds_toArray, List.set_cons_zero, List.set_cons_succ]
    refine wpAnyH_take (i := 1) (oi := _) (v := ?v1u56) rfl (by kernel_rfl) (by kernel_rfl) (by kernel_rfl) (fun _ _ _ h => h) (Or.inl ⟨by rfl, ?y1u56⟩) (by assumption) ?r1u56
    case y1u56 => (intro w hSw; (obtain ⟨hS0, hS1⟩ := hSw); go_simp <;> with_reducible rfl)
    try simp only [List.getElem_toArray, List.getElem_cons_succ, List.getElem_cons_zero, Act.put, List.setIfInBounds_toArray, List.set_cons_zero, List.set_cons_succ]
    refine wpAnyH_take (i := 2) (oi := _) (v := ?v2u57) rfl (by kernel_rfl) (by kernel_rfl) (by kernel_rfl) (fun _ _ _ h => h) (Or.inl ⟨by rfl, ?y2u57⟩) (by assumption) ?r2u57
    case y2u57 => (intro w hSw; (obtain ⟨hS0, hS1⟩ := hSw); go_simp <;> with_reducible rfl)
    try simp only [List.getElem_toArray, List.getElem_cons_succ, List.getElem_cons_zero, Act.put, List.setIfInBounds_toArray, List.set_cons_zero, List.set_cons_succ]
    refine wpAnyH_take (i := 3) (oi := _) (v := ?v3u58) rfl (by kernel_rfl) (by kernel_rfl) (by kernel_rfl) (fun _ _ _ h => h) (Or.inl ⟨by rfl, ?y3u58⟩) (by assumption) ?r3u58
    case y3u58 => (intro w hSw; (obtain ⟨hS0, hS1⟩ := hSw); go_simp <;> with_reducible rfl)
    try simp only [List.getElem_toArray, List.getElem_cons_succ, List.getElem_cons_zero, Act.put, List.setIfInBounds_toArray, List.set_cons_zero, List.set_cons_succ]
    refine wpAnyH_take (i := 4) (oi := _) (v := ?v4u59) rfl (by kernel_rfl) (by kernel_rfl) (by kernel_rfl) (fun _ _ _ h => h) (Or.inl ⟨by rfl, ?y4u59⟩) (by assumption) ?r4u59
    case y4u59 => (intro w hSw; (obtain ⟨hS0, hS1⟩ := hSw); go_simp <;> with_reducible rfl)
    try simp only [List.getElem_toArray, List.getElem_cons_succ, List.getElem_cons_zero, Act.put, List.setIfInBounds_toArray, List.set_cons_zero, List.set_cons_succ]
    refine wpAnyH_take (i := 5) (oi := _) (v := ?v5u60) rfl (by kernel_rfl) (by kernel_rfl) (by kernel_rfl) (fun _ _ _ h => h) (Or.inl ⟨by rfl, ?y5u60⟩) (by assumption) ?r5u60
    case y5u60 => (intro w hSw; (obtain ⟨hS0, hS1⟩ := hSw); go_simp <;> with_reducible rfl)
    try simp only [List.getElem_toArray, List.getElem_cons_succ, List.getElem_cons_zero, Act.put, List.setIfInBounds_toArray, List.set_cons_zero, List.set_cons_succ]
    refine wpAnyH_take (i := 6) (oi := _) (v := ?v6u61) rfl (by kernel_rfl) (by kernel_rfl) (by kernel_rfl) (fun _ _ _ h => h) (Or.inl ⟨by rfl, ?y6u61⟩) (by assumption) ?r6u61
    case y6u61 => (intro w hSw; (obtain ⟨hS0, hS1⟩ := hSw); go_simp <;> with_reducible rfl)
    try simp only [List.getElem_toArray, List.getElem_cons_succ, List.getElem_cons_zero, Act.put, List.setIfInBounds_toArray, List.set_cons_zero, List.set_cons_succ]
    refine wpAnyH_ready (rs := [7]) (by kernel_rfl) (by simp) ?_
    refine AllReadyH.cons (o := _) rfl (fun K hK => ?_) AllReadyH.nil
    go_simp
    refine HLn.out.mono ?_
    rintro e wl ⟨rfl, rfl⟩
    refine hK.out _ _ (HS6.out _ (Keeps.refl _ _).drew) (fun hHeld2 => ?_)
    clear hK K hHeld
    have hHeld := hHeld2
    clear hHeld2
    try simp only [List.getElem_toArray, List.getElem_cons_succ, List.getElem_cons_zero, Act.put, List.setIfInBounds_toArray, List.set_cons_zero, List.set_cons_succ]
    refine wpAnyH_take (i := 8) (oi := _) (v := ?v8u62) rfl (by kernel_rfl) (by kernel_rfl) (by kernel_rfl) (fun _ _ _ h => h) (Or.inl ⟨by rfl, ?y8u62⟩) (by assumption) ?r8u62
    case y8u62 => (intro w hSw; (obtain ⟨hS0, hS1⟩ := hSw); go_simp <;> with_reducible rfl)
    try simp only [List.getElem_toArray, List.getElem_cons_succ, List.getElem_cons_zero, Act.put, List.setIfInBounds_toArray, List.set_cons_zero, List.set_cons_succ]
    refine wpAnyH_take (i := 9) (oi := _) (v := ?v9u63) rfl (by kernel_rfl) (by kernel_rfl) (by kernel_rfl) (fun _ _ _ h => h) (Or.inl ⟨by rfl, ?y9u63⟩) (by assumption) ?r9u63
    case y9u63 => (intro w hSw; (obtain ⟨hS0, hS1⟩ := hSw); go_simp <;> with_reducible rfl)
    try simp only [List.getElem_toArray, List.getElem_cons_succ, List.getElem_cons_zero, Act.put, List.setIfInBounds_toArray, List.set_cons_zero, List.set_cons_succ]
    refine wpAnyH_ready (rs := [10]) (by kernel_rfl) (by simp) ?_
    refine AllReadyH.cons (o := _) rfl (fun K hK => ?_) AllReadyH.nil
    go_simp
    refine hK.out _ _ (HS6.out _ ((Keeps.refl _ _).drew.alloc _)) (fun hHeld2 => ?_)
    clear hK K hHeld
    have hHeld := hHeld2
    clear hHeld2
    try simp only [List.getElem_toArray, List.getElem_cons_succ, List.getElem_cons_zero, Act.put, List.setIfInBounds_toArray, List.set_cons_zero, List.set_cons_succ]
    refine wpAnyH_take (i := 11) (oi := _) (v := ?v11u64) rfl (by kernel_rfl) (by kernel_rfl) (by kernel_rfl) (fun _ _ _ h => h) (Or.inl ⟨by rfl, ?y11u64⟩) (by assumption) ?r11u64
    case y11u64 => (intro w hSw; (obtain ⟨hS0, hS1⟩ := hSw); go_simp <;> with_reducible rfl)
    try simp only [List.getElem_toArray, List.getElem_cons_succ, List.getElem_cons_zero, Act.put, List.setIfInBounds_toArray, List.set_cons_zero, List.set_cons_succ]
    refine wpAnyH_done (by kernel_rfl) ?_ _
    clear hHeld
    go_wp2_with fail
    go_ret
    exact HPP.out
   ·have HD2 : Hid (rpAcc R fr mm = ((rpApply (rpDown R1) commit).1, [⟨fr, acceptedM term (rpApply (rpDown R1) commit).1.x.log.length⟩])) := by
     show _ = _
     rw [HD.out]
     simp only [if_true, hv, Option.map_some, Option.getD_some, hte, ne_eq, not_false_eq_true]
    have hteb : (v.term != term) = true := by simp [hte]
    have hdn := Lib.hid (rpdown_any (HRA.out.keep0 HX1.out.1.lt ((Keeps.refl [] w1).drew)) HX1.out.1.lt)
    clear HD hte
    go_upto_region 3 with (fail)
    refine wp_region_held_drew (S := (fun W => W.cell? ⟨r, 5, none⟩ = some (.pointer (some ⟨C.vb, 0, none⟩)) ∧ W.cell? ⟨g5, 13, none⟩ = some (.int .i64 term))) (by kernel_rfl) ⟨d5, HB1.out.cell 13⟩ (fun hHeld => ?_)
    refine wpAnyH_take (i := 0) (oi := _) (v := ?v0u31) rfl (by kernel_rfl) (by kernel_rfl) (by kernel_rfl) (fun _ _ _ h => h) (Or.inl ⟨by rfl, ?y0u31⟩) (by assumption) ?r0u31
    case y0u31 => (intro w hSw; (obtain ⟨hS0, hS1⟩ := hSw); go_simp <;> with_reducible rfl)
    try simp only [List.getElem_toArray, List.getElem_cons_succ, List.getElem_cons_zero, Act.put, List.setIfInBounds_toArray, List.set_cons_zero, List.set_cons_succ]
    refine wpAnyH_take (i := 1) (oi := _) (v := ?v1u32) rfl (by kernel_rfl) (by kernel_rfl) (by kernel_rfl) (fun _ _ _ h => h) (Or.inl ⟨by rfl, ?y1u32⟩) (by assumption) ?r1u32
    case y1u32 => (intro w hSw; (obtain ⟨hS0, hS1⟩ := hSw); go_simp <;> with_reducible rfl)
    try simp only [List.getElem_toArray, List.getElem_cons_succ, List.getElem_cons_zero, Act.put, List.setIfInBounds_toArray, List.set_cons_zero, List.set_cons_succ]
    refine wpAnyH_take (i := 2) (oi := _) (v := ?v2u33) rfl (by kernel_rfl) (by kernel_rfl) (by kernel_rfl) (fun _ _ _ h => h) (Or.inl ⟨by rfl, ?y2u33⟩) (by assumption) ?r2u33
    case y2u33 => (intro w hSw; (obtain ⟨hS0, hS1⟩ := hSw); go_simp <;> with_reducible rfl)
    try simp only [List.getElem_toArray, List.getElem_cons_succ, List.getElem_cons_zero, Act.put, List.setIfInBounds_toArray, List.set_cons_zero, List.set_cons_succ]
    refine wpAnyH_take (i := 3) (oi := _) (v := ?v3u34) rfl (by kernel_rfl) (by kernel_rfl) (by kernel_rfl) (fun _ _ _ h => h) (Or.inl ⟨by rfl, ?y3u34⟩) (by assumption) ?r3u34
    case y3u34 => (intro w hSw; (obtain ⟨hS0, hS1⟩ := hSw); go_simp <;> with_reducible rfl)
    try simp only [List.getElem_toArray, List.getElem_cons_succ, List.getElem_cons_zero, Act.put, List.setIfInBounds_toArray, List.set_cons_zero, List.set_cons_succ]
    refine wpAnyH_take (i := 4) (oi := _) (v := ?v4u35) rfl (by kernel_rfl) (by kernel_rfl) (by kernel_rfl) (fun _ _ _ h => h) (Or.inl ⟨by rfl, ?y4u35⟩) (by assumption) ?r4u35
    case y4u35 => (intro w hSw; (obtain ⟨hS0, hS1⟩ := hSw); go_simp <;> with_reducible rfl)
    try simp only [List.getElem_toArray, List.getElem_cons_succ, List.getElem_cons_zero, Act.put, List.setIfInBounds_toArray, List.set_cons_zero, List.set_cons_succ]
    refine wpAnyH_take (i := 5) (oi := _) (v := ?v5u36) rfl (by kernel_rfl) (by kernel_rfl) (by kernel_rfl) (fun _ _ _ h => h) (Or.inl ⟨by rfl, ?y5u36⟩) (by assumption) ?r5u36
    case y5u36 => (intro w hSw; (obtain ⟨hS0, hS1⟩ := hSw); go_simp <;> with_reducible rfl)
    try simp only [List.getElem_toArray, List.getElem_cons_succ, List.getElem_cons_zero, Act.put, List.setIfInBounds_toArray, List.set_cons_zero, List.set_cons_succ]
    refine wpAnyH_take (i := 6) (oi := _) (v := ?v6u37) rfl (by kernel_rfl) (by kernel_rfl) (by kernel_rfl) (fun _ _ _ h => h) (Or.inl ⟨by rfl, ?y6u37⟩) (by assumption) ?r6u37
    case y6u37 => (intro w hSw; (obtain ⟨hS0, hS1⟩ := hSw); go_simp <;> with_reducible rfl)
    try simp only [List.getElem_toArray, List.getElem_cons_succ, List.getElem_cons_zero, Act.put, List.setIfInBounds_toArray, List.set_cons_zero, List.set_cons_succ]
    refine wpAnyH_take (i := 7) (oi := _) (v := ?v7u38) rfl (by kernel_rfl) (by kernel_rfl) (by kernel_rfl) (fun _ _ _ h => h) (Or.inl ⟨by rfl, ?y7u38⟩) (by assumption) ?r7u38
    case y7u38 => (intro w hSw; (obtain ⟨hS0, hS1⟩ := hSw); go_simp <;> with_reducible rfl)
    try simp only [List.getElem_toArray, List.getElem_cons_succ, List.getElem_cons_zero, Act.put, List.setIfInBounds_toArray, List.set_cons_zero, List.set_cons_succ]
    refine wpAnyH_take (i := 8) (oi := _) (v := ?v8u39) rfl (by kernel_rfl) (by kernel_rfl) (by kernel_rfl) (fun _ _ _ h => h) (Or.inl ⟨by rfl, ?y8u39⟩) (by assumption) ?r8u39
    case y8u39 => (intro w hSw; (obtain ⟨hS0, hS1⟩ := hSw); go_simp <;> with_reducible rfl)
    try simp only [List.getElem_toArray, List.getElem_cons_succ, List.getElem_cons_zero, Act.put, List.setIfInBounds_toArray, List.set_cons_zero, List.set_cons_succ]
    refine wpAnyH_take (i := 9) (oi := _) (v := ?v9u40) rfl (by kernel_rfl) (by kernel_rfl) (by kernel_rfl) (fun _ _ _ h => h) (Or.inl ⟨by rfl, ?y9u40⟩) (by assumption) ?r9u40
    case y9u40 => (intro w hSw; (obtain ⟨hS0, hS1⟩ := hSw); go_simp <;> with_reducible rfl)
    try simp only [List.getElem_toArray, List.getElem_cons_succ, List.getElem_cons_zero, Act.put, List.setIfInBounds_toArray, List.set_cons_zero, List.set_cons_succ]
    refine wpAnyH_take (i := 11) (oi := _) (v := ?v11u41) rfl (by kernel_rfl) (by kernel_rfl) (by kernel_rfl) (fun _ _ _ h => h) (Or.inl ⟨by rfl, ?y11u41⟩) (by assumption) ?r11u41
    case y11u41 => (intro w hSw; (obtain ⟨hS0, hS1⟩ := hSw); go_simp <;> with_reducible rfl)
    try simp only [List.getElem_toArray, List.getElem_cons_succ, List.getElem_cons_zero, Act.put, List.setIfInBounds_toArray, List.set_cons_zero, List.set_cons_succ]
    refine wpAnyH_take (i := 12) (oi := _) (v := ?v12u42) rfl (by kernel_rfl) (by kernel_rfl) (by kernel_rfl) (fun _ _ _ h => h) (Or.inl ⟨by rfl, ?y12u42⟩) (by assumption) ?r12u42
    case y12u42 => (intro w hSw; (obtain ⟨hS0, hS1⟩ := hSw); go_simp <;> with_reducible rfl)
    try simp only [List.getElem_toArray, List.getElem_cons_succ, List.getElem_cons_zero, Act.put, List.setIfInBounds_toArray, List.set_cons_zero, List.set_cons_succ]
    refine wpAnyH_ready (rs := [10]) (by kernel_rfl) (by simp) ?_
    refine AllReadyH.cons (o := _) rfl (fun K hK => ?_) AllReadyH.nil
    go_simp
    refine HT.out.mono ?_
    rintro e wl ⟨rfl, rfl⟩
    refine hK.out _ _ ⟨d5, HB1.out.cell 13⟩ (fun hHeld2 => ?_)
    clear hK K hHeld
    have hHeld := hHeld2
    clear hHeld2
    try simp only [List.getElem_toArray, List.getElem_cons_succ, List.getElem_cons_zero, Act.put, List.setIfInBounds_toArray, List.set_cons_zero, List.set_cons_succ]
    refine wpAnyH_take (i := 13) (oi := _) (v := ?v13u43) rfl (by kernel_rfl) (by kernel_rfl) (by kernel_rfl) (fun _ _ _ h => h) (Or.inl ⟨by rfl, ?y13u43⟩) (by assumption) ?r13u43
    case y13u43 => (intro w hSw; (obtain ⟨hS0, hS1⟩ := hSw); go_simp <;> with_reducible rfl)
    try simp only [List.getElem_toArray, List.getElem_cons_succ, List.getElem_cons_zero, Act.put, List.setIfInBounds_toArray, List.set_cons_zero, List.set_cons_succ]
    refine wpAnyH_take (i := 14) (oi := _) (v := ?v14u44) rfl (by kernel_rfl) (by kernel_rfl) (by kernel_rfl) (fun _ _ _ h => h) (Or.inl ⟨by rfl, ?y14u44⟩) (by assumption) ?r14u44
    case y14u44 => (intro w hSw; (obtain ⟨hS0, hS1⟩ := hSw); go_simp <;> with_reducible rfl)
    try simp only [List.getElem_toArray, List.getElem_cons_succ, List.getElem_cons_zero, Act.put, List.setIfInBounds_toArray, List.set_cons_zero, List.set_cons_succ]
    refine wpAnyH_done (by kernel_rfl) ?_ _
    clear hHeld
    clear d5 hv HT hteb
    go_wp2_with fail
    refine hdn.out.mono ?_
    rintro e4 wB ⟨rfl, h1, h2, h3⟩
    have HRb := Lib.hid h1
    have hx1d : Ext w M tg w1.drew M1 tg1 := HX1.out.1.later (Nat.le_refl _)
    have hk1d : Keeps (sel M tg (List.range 30)) w w1.drew := HX1.out.2.drew
    have HXb : Hid (Ext w M tg wB M1 tg1 ∧ Keeps (sel M tg (List.range 30)) w wB) := ⟨hx1d.trans h2 hk1d.size, Ext.keeps hx1d hk1d (h3.sel_mono (by simp))⟩
    clear hx1d hk1d
    have HBb : Hid (Blk wB g5 37 #[.int .i64 kd, .int .i64 kind, .int .i64 ag, .int .i64 sh, .int .i64 seq, .int .i64 ep, .slice Aa ds.length na, .string ser, .int .i64 efr, .int .i64 etg, .int .i64 tag, .int .i64 code, .int .u64 nn, .int .i64 term, .int .i64 had, .slice Ba log.length ka, .int .i64 commit, .int .i64 len]) := h3.blk (show Blk w1.drew g5 _ _ from HB1.out) (fun hm => hg1 (mem_sel.1 hm).1)
    obtain ⟨R2, HR2⟩ : ∃ R2, Hid (R2 = rpDown R1) := ⟨_, rfl⟩
    have hapb : R2.ap = R2.com := by rw [HR2.out]; exact hap1
    rw [← HR2.out] at HD2 HRb
    clear h1 h2 h3 hdn
    go_upto_region 5 with (fail)
    have q16 := HBb.out.cell 16
    simp only [List.getElem?_toArray, List.getElem?_cons_succ, List.getElem?_cons_zero] at q16
    have hmb : wB.cell? ⟨0, 0, none⟩ = some (.int .i64 mx) := (HXb.out.2.cell (p := ⟨0, 0, none⟩) hw0 (fun hm => H0.out (mem_sel.1 hm).1)).trans Hm.out
    have hapl := Lib.hid (rpapply_any HRb.out HXb.out.1.lt h01 hapb commit mx hmb)
    clear hmb
    generalize rpApply R2 commit = PA at *
    obtain ⟨R3, outA⟩ := PA
    simp only [] at HD2
    go_wp2_with fail
    refine hapl.out.mono ?_
    rintro e5 wD ⟨vA, MA, tgA, rfl, hro⟩
    have HXd : Hid (Ext w M tg wD MA tgA ∧ Keeps (sel M tg (List.range 30)) w wD) := ⟨HXb.out.1.trans hro.x HXb.out.2.size, Ext.keeps HXb.out.1 HXb.out.2 hro.k⟩
    have HRd : Hid (RpAt wD MA tgA r d R3) := hro.ag
    have HBd : Hid (Blk wD g5 37 #[.int .i64 kd, .int .i64 kind, .int .i64 ag, .int .i64 sh, .int .i64 seq, .int .i64 ep, .slice Aa ds.length na, .string ser, .int .i64 efr, .int .i64 etg, .int .i64 tag, .int .i64 code, .int .u64 nn, .int .i64 term, .int .i64 had, .slice Ba log.length ka, .int .i64 commit, .int .i64 len]) := hro.k.blk HBb.out (fun hm => hg1 (mem_sel.1 hm).1)
    obtain ⟨Cd, hvd⟩ : ∃ Cd, RpV wD MA tgA r R3 Cd := by obtain ⟨_, Cd, _, hv⟩ := hro.ag; exact ⟨Cd, hv⟩
    have HVd := Lib.hid hvd
    obtain ⟨-, -, e2, -⟩ := rpcells hvd
    obtain ⟨Cb, hcb⟩ : ∃ Cb, Cb = Cd.s := ⟨_, rfl⟩
    rw [← hcb] at e2
    have HLn : Hid (Calls Tryz.prog 72 #[.pointer (some ⟨Cb, 0, none⟩)] wD.drew fun e w' => e = .returned (.int .i64 R3.x.log.length) ∧ wD.drew = w') := by
     rw [hcb]
     exact vlen_any wD.drew ((HVd.out.keep0 HXd.out.1.lt ((Keeps.refl [] wD).drew)).st.st)
    have HS6 : Hid (∀ W, Keeps [] wD W → W.cell? ⟨g5, 13, none⟩ = some (.int .i64 term) ∧ W.cell? ⟨r, 2, none⟩ = some (.pointer (some ⟨Cb, 0, none⟩))) := fun W hk => ⟨(hk.blk HBd.out (by simp)).cell 13, (hk.cell (p := ⟨r, 2, none⟩) HVd.out.blk.lt (by simp)).trans e2⟩
    have HFin : Hid (ROPost M tg r d (rpAcc R fr mm) w (.returned (.slice (some ⟨wD.drew.heap.size, 0, none⟩) 1 1)) (wD.drew.alloc (.cells #[.int .i64 fr, .int .i64 6, .int .i64 0, .int .i64 0, .int .i64 0, .int .i64 0, .int .i64 0, .slice none 0 0, .string ⟨#[]⟩, .int .i64 0, .int .i64 0, .int .i64 0, .int .i64 0, .int .u64 0, .int .i64 term, .int .i64 0, .slice none 0 0, .int .i64 0, .int .i64 R3.x.log.length] 39))) := by
     rw [HD2.out]
     exact ROPost.base (RoSt.oneV HRd.out HXd.out.1.lt (Keeps.refl [] wD).drew ⟨fr, acceptedM term R3.x.log.length⟩ (.slice none 0 0) (.slice none 0 0) (fun L hL => ⟨Ds.nil _ _, Ens.nil _ _⟩)) HXd.out.1 HXd.out.2
    have HPP := Lib.hid (HPd.out _ _ HFin.out)
    clear hro hapl q16 hvd e2 hcb HFin HPd HD2 HBb HXb HRb
    go_upto_region 6 with (fail)
    refine wp_region_held_drew (S := (fun W => W.cell? ⟨g5, 13, none⟩ = some (.int .i64 term) ∧ W.cell? ⟨r, 2, none⟩ = some (.pointer (some ⟨Cb, 0, none⟩)))) (by kernel_rfl) (HS6.out _ (Keeps.refl _ _).drew) (fun hHeld => ?_)
    refine wpAnyH_take (i := 0) (oi := _) (v := ?v0u65) rfl (by kernel_rfl) (by kernel_rfl) (by kernel_rfl) (fun _ _ _ h => h) (Or.inl ⟨by rfl, ?y0u65⟩) (by assumption) ?r0u65
    case y0u65 => (intro w hSw; (obtain ⟨hS0, hS1⟩ := hSw); go_simp <;> with_reducible rfl)
    try simp only [List.getElem_toArray, List.getElem_cons_succ, List.getElem_cons_zero, Act.put, List.setIfInBounds_toArray, List.set_cons_zero, List.set_cons_succ]
    refine wpAnyH_take (i := 1) (oi := _) (v := ?v1u66) rfl (by kernel_rfl) (by kernel_rfl) (by kernel_rfl) (fun _ _ _ h => h) (Or.inl ⟨by rfl, ?y1u66⟩) (by assumption) ?r1u66
    case y1u66 => (intro w hSw; (obtain ⟨hS0, hS1⟩ := hSw); go_simp <;> with_reducible rfl)
    try simp only [List.getElem_toArray, List.getElem_cons_succ, List.getElem_cons_zero, Act.put, List.setIfInBounds_toArray, List.set_cons_zero, List.set_cons_succ]
    refine wpAnyH_take (i := 2) (oi := _) (v := ?v2u67) rfl (by kernel_rfl) (by kernel_rfl) (by kernel_rfl) (fun _ _ _ h => h) (Or.inl ⟨by rfl, ?y2u67⟩) (by assumption) ?r2u67
    case y2u67 => (intro w hSw; (obtain ⟨hS0, hS1⟩ := hSw); go_simp <;> with_reducible rfl)
    try simp only [List.getElem_toArray, List.getElem_cons_succ, List.getElem_cons_zero, Act.put, List.setIfInBounds_toArray, List.set_cons_zero, List.set_cons_succ]
    refine wpAnyH_take (i := 3) (oi := _) (v := ?v3u68) rfl (by kernel_rfl) (by kernel_rfl) (by kernel_rfl) (fun _ _ _ h => h) (Or.inl ⟨by rfl, ?y3u68⟩) (by assumption) ?r3u68
    case y3u68 => (intro w hSw; (obtain ⟨hS0, hS1⟩ := hSw); go_simp <;> with_reducible rfl)
    try simp only [List.getElem_toArray, List.getElem_cons_succ, List.getElem_cons_zero, Act.put, List.setIfInBounds_toArray, List.set_cons_zero, List.set_cons_succ]
    refine wpAnyH_take (i := 4) (oi := _) (v := ?v4u69) rfl (by kernel_rfl) (by kernel_rfl) (by kernel_rfl) (fun _ _ _ h => h) (Or.inl ⟨by rfl, ?y4u69⟩) (by assumption) ?r4u69
    case y4u69 => (intro w hSw; (obtain ⟨hS0, hS1⟩ := hSw); go_simp <;> with_reducible rfl)
    try simp only [List.getElem_toArray, List.getElem_cons_succ, List.getElem_cons_zero, Act.put, List.setIfInBounds_toArray, List.set_cons_zero, List.set_cons_succ]
    refine wpAnyH_take (i := 5) (oi := _) (v := ?v5u70) rfl (by kernel_rfl) (by kernel_rfl) (by kernel_rfl) (fun _ _ _ h => h) (Or.inl ⟨by rfl, ?y5u70⟩) (by assumption) ?r5u70
    case y5u70 => (intro w hSw; (obtain ⟨hS0, hS1⟩ := hSw); go_simp <;> with_reducible rfl)
    try simp only [List.getElem_toArray, List.getElem_cons_succ, List.getElem_cons_zero, Act.put, List.setIfInBounds_toArray, List.set_cons_zero, List.set_cons_succ]
    refine wpAnyH_take (i := 6) (oi := _) (v := ?v6u71) rfl (by kernel_rfl) (by kernel_rfl) (by kernel_rfl) (fun _ _ _ h => h) (Or.inl ⟨by rfl, ?y6u71⟩) (by assumption) ?r6u71
    case y6u71 => (intro w hSw; (obtain ⟨hS0, hS1⟩ := hSw); go_simp <;> with_reducible rfl)
    try simp only [List.getElem_toArray, List.getElem_cons_succ, List.getElem_cons_zero, Act.put, List.setIfInBounds_toArray, List.set_cons_zero, List.set_cons_succ]
    refine wpAnyH_ready (rs := [7]) (by kernel_rfl) (by simp) ?_
    refine AllReadyH.cons (o := _) rfl (fun K hK => ?_) AllReadyH.nil
    go_simp
    refine HLn.out.mono ?_
    rintro e wl ⟨rfl, rfl⟩
    refine hK.out _ _ (HS6.out _ (Keeps.refl _ _).drew) (fun hHeld2 => ?_)
    clear hK K hHeld
    have hHeld := hHeld2
    clear hHeld2
    try simp only [List.getElem_toArray, List.getElem_cons_succ, List.getElem_cons_zero, Act.put, List.setIfInBounds_toArray, List.set_cons_zero, List.set_cons_succ]
    refine wpAnyH_take (i := 8) (oi := _) (v := ?v8u72) rfl (by kernel_rfl) (by kernel_rfl) (by kernel_rfl) (fun _ _ _ h => h) (Or.inl ⟨by rfl, ?y8u72⟩) (by assumption) ?r8u72
    case y8u72 => (intro w hSw; (obtain ⟨hS0, hS1⟩ := hSw); go_simp <;> with_reducible rfl)
    try simp only [List.getElem_toArray, List.getElem_cons_succ, List.getElem_cons_zero, Act.put, List.setIfInBounds_toArray, List.set_cons_zero, List.set_cons_succ]
    refine wpAnyH_take (i := 9) (oi := _) (v := ?v9u73) rfl (by kernel_rfl) (by kernel_rfl) (by kernel_rfl) (fun _ _ _ h => h) (Or.inl ⟨by rfl, ?y9u73⟩) (by assumption) ?r9u73
    case y9u73 => (intro w hSw; (obtain ⟨hS0, hS1⟩ := hSw); go_simp <;> with_reducible rfl)
    try simp only [List.getElem_toArray, List.getElem_cons_succ, List.getElem_cons_zero, Act.put, List.setIfInBounds_toArray, List.set_cons_zero, List.set_cons_succ]
    refine wpAnyH_ready (rs := [10]) (by kernel_rfl) (by simp) ?_
    refine AllReadyH.cons (o := _) rfl (fun K hK => ?_) AllReadyH.nil
    go_simp
    refine hK.out _ _ (HS6.out _ ((Keeps.refl _ _).drew.alloc _)) (fun hHeld2 => ?_)
    clear hK K hHeld
    have hHeld := hHeld2
    clear hHeld2
    try simp only [List.getElem_toArray, List.getElem_cons_succ, List.getElem_cons_zero, Act.put, List.setIfInBounds_toArray, List.set_cons_zero, List.set_cons_succ]
    refine wpAnyH_take (i := 11) (oi := _) (v := ?v11u74) rfl (by kernel_rfl) (by kernel_rfl) (by kernel_rfl) (fun _ _ _ h => h) (Or.inl ⟨by rfl, ?y11u74⟩) (by assumption) ?r11u74
    case y11u74 => (intro w hSw; (obtain ⟨hS0, hS1⟩ := hSw); go_simp <;> with_reducible rfl)
    try simp only [List.getElem_toArray, List.getElem_cons_succ, List.getElem_cons_zero, Act.put, List.setIfInBounds_toArray, List.set_cons_zero, List.set_cons_succ]
    refine wpAnyH_done (by kernel_rfl) ?_ _
    clear hHeld
    go_wp2_with fail
    go_ret
    exact HPP.out
end
end Go.Proofs.YtdaceeijifjpeaaGreatDoor.Vi
end
section
namespace Go.Proofs.YtdaceeijifjpeaaGreatDoor.Vi
open Go.RowKit Base Mem Go.Shelf Tape
open Lead (VoteD VoteAt promiseS wonS accS medS termS newVote taken)
section
variable {w w' : World} {M : List Nat} {tg : Nat → Nat} {r d : Nat} {R : RpD} {C : RpC}
theorem RpV.newV (h : RpV w M tg r R C) (hM : ∀ g ∈ M, g < w.heap.size) {w1 w2 : World} {b : Nat} {nv : VoteD} (hb : w.heap.size ≤ b) (hb1 : b < w1.heap.size) (hk1 : Keeps [] w w1) (hk2 : Keeps [r] w1 w2) (hva : ∀ M, VoteAt w1 M b nv) (hblk : Blk w2 r 72 (rpCells { R with v := some nv } { C with vb := b })) :
  RpV w2 ([b] ++ M) (fun x => if x ∈ [b] then 6 else tg x) r { R with v := some nv } { C with vb := b } ∧ Ext w M tg w2 ([b] ++ M) (fun x => if x ∈ [b] then 6 else tg x) ∧ Keeps (sel M tg [1]) w w2 := by
 have hr := h.rM
 have hbM : b ∉ M := fun hm => by have := hM b hm; omega
 have hk : Keeps [r] w w2 := (hk1.mono (M' := [r]) (by simp)).trans hk2 (fun g hg => .inl hg)
 have hx : Ext w M tg w2 ([b] ++ M) (fun x => if x ∈ [b] then 6 else tg x) := ⟨fun g hg => List.mem_append_right _ hg, fun g hg => by
  rcases List.mem_append.1 hg with h1 | h1
  ·simp at h1; subst h1; exact .inr hb
  ·exact .inl h1, fun g hg => by
  show (if g ∈ [b] then 6 else tg g) = tg g
  rw [if_neg (by simp; omega)], hM, fun g hg => by
  rcases List.mem_append.1 hg with h1 | h1
  ·simp at h1; subst h1; exact Nat.lt_of_lt_of_le hb1 hk2.size
  ·exact Nat.lt_of_lt_of_le (hM g h1) hk.size⟩
 have hn : ∀ g t, tg g = t → t ≠ 1 → g ∉ [r] := fun g t h1 h2 hm => by simp at hm; subst hm; exact h2 (h1 ▸ h.tr)
 have hmt : ∀ g t, g ∈ M ∧ tg g = t → g ∈ [b] ++ M ∧ (fun x => if x ∈ [b] then 6 else tg x) g = t := fun g t h1 => ⟨hx.sub g h1.1, (hx.tag g (hM g h1.1)).trans h1.2⟩
 refine ⟨⟨hblk, ?_, h.mc.keep hk (fun x hx' => hn x _ (h.xM x hx').2 (by omega)), fun v hv => ?_, (hmt _ _ ⟨h.rM, h.tr⟩).1, (hmt _ _ ⟨h.rM, h.tr⟩).2, (hmt _ _ ⟨h.sM, h.ts⟩).1, (hmt _ _ ⟨h.sM, h.ts⟩).2, (hmt _ _ ⟨h.pM, h.tp⟩).1, (hmt _ _ ⟨h.pM, h.tp⟩).2, fun g hg => hmt _ _ (h.yM g hg), fun g hg => hmt _ _ (h.xM g hg), h.nN⟩, hx, hk.to_sel (fun g hg => by simp at hg; subst hg; exact .inl ⟨h.rM, by rw [h.tr]; simp⟩)⟩
 ·refine (h.st.more (Z' := [b] ++ M) hx.new).keepZ hk (fun g hg => by simp at hg; subst hg; exact .inl (List.mem_append_right _ h.rM)) (fun g hg => ?_)
  rcases List.mem_cons.1 hg with rfl | hg
  ·exact hn _ _ h.ts (by omega)
  ·rcases List.mem_cons.1 hg with rfl | hg
   ·exact hn _ _ h.tp (by omega)
   ·exact hn _ _ (h.yM g hg).2 (by omega)
 ·injection hv with hv
  subst hv
  exact ⟨(hva _).keep hk2 (by simp; intro e; exact hbM (e ▸ hr)) (fun g hg => by simp at hg; subst hg; exact .inl (List.mem_append_right _ h.rM)), by simp, by simp⟩
theorem count_set {l : List Bool} : ∀ {i : Nat}, i < l.length → l.getD i false = false → (l.set i true).count true = l.count true + 1 := by
 induction l with
 | nil => intro i h _; simp at h
 | cons x l ih =>
  intro i h h2
  cases i with
  | zero => simp at h2; subst h2; simp
  | succ i =>
   simp at h h2
   have := ih (i := i) h (by simpa using h2)
   cases x <;> simp [this]
theorem promise_vt {nodes : Int} {v : VoteD} (h : VtOk nodes v) (h8 : nodes ≤ 8) (hl : v.prom.length = 8) (fr had : Int) (l : List EntryD) (hle : l.length ≤ 128) (hok : ∀ e ∈ l, EOk e) : VtOk nodes (promiseS v fr had l).2 := by
 obtain ⟨h1, h2, h3, h4, h5, h6⟩ := h
 unfold promiseS
 split
 ·rename_i hc
  have ht : VtOk nodes (taken v fr.toNat) := ⟨h1, h2, h3, h4, h5, by
   show v.n + 1 = ((v.prom.set fr.toNat true).count true : Nat)
   rw [count_set (by rw [hl]; omega) hc.2.2, h6]
   omega⟩
  split
  ·exact ht
  ·split
   ·exact ⟨ht.1, ht.2.1, ht.2.2.1, hle, hok, ht.2.2.2.2.2⟩
   ·exact ht
 ·exact ⟨h1, h2, h3, h4, h5, h6⟩
theorem new_vt {term nodes : Int} (h0 : 0 ≤ term) (h1 : term ≤ 9223372036854775807) : VtOk nodes (newVote term nodes) := ⟨rfl, h0, h1, by simp [newVote], by simp [newVote], by simp [newVote]⟩
theorem vt_n {nodes : Int} {v : VoteD} (h : VtOk nodes v) (hl : v.prom.length = 8) : 0 ≤ v.n ∧ v.n ≤ 8 := by
 have := List.count_le_length (a := true) (l := v.prom)
 rw [h.2.2.2.2.2]
 omega
/-- Messages to all, beside a replica. -/
theorem AllPost.ro {out : List SentD} {e : Ending} (h : RpAt w M tg r d R) (hM : ∀ g ∈ M, g < w.heap.size) (hp : AllPost out w e w') : ROPost M tg r d (R, out) w e w' := by
 obtain ⟨ov, qs, rfl, hq, hs, hb⟩ := hp
 have hsr := hs M hM
 have hk : Keeps [] w w' := Keeps.of_below (M := []) hb
 obtain ⟨ho, C, hC, hv⟩ := h
 have hx := Ext.add (tg := tg) hM hk.size ov.ownBlock 99 (fun g hg => ⟨.inr (hsr.row.lt g hg).1, (hsr.row.lt g hg).2⟩)
 refine ⟨ov, _, _, rfl, ⟨ho, C, hC, hv.keepT (T := []) hx (hk.to_sel (by simp)) (by simp)⟩, hx, hk.to_sel (by simp), ⟨qs, hq, by rw [← hq, List.length_map]; exact hsr.row, fun q hq' L hL => hsr.val q hq' _ (fun g hg => ?_)⟩, fun g hg => ⟨List.mem_append_left _ (by simpa using hg), by simp [hg]⟩⟩
 rcases List.mem_append.1 hg with h1 | h1
 ·exact .inl (hL g h1)
 ·rcases List.mem_append.1 h1 with h2 | h2
  ·exact .inr (.inr (by simpa using h2))
  ·exact .inr (.inl h2)
theorem wok_small {x : WordD} (h : WOk x) : Lead.Small x.log := ⟨by have := h.2.2.1; omega, fun e he => by have := eok_ds8 (h.2.2.2 e he); omega⟩
theorem wok_own {x : WordD} (h : WOk x) : x.log.length ≤ 128 ∧ ∀ e ∈ x.log, EOk e := ⟨h.2.2.1, h.2.2.2⟩
set_option maxRecDepth 100000 in
set_option maxHeartbeats 1600000 in
theorem rplead_any (h : RpAt w M tg r d R) (hM : ∀ g ∈ M, g < w.heap.size) (h0 : 0 ∉ M) (hap : R.ap = R.com) (mx : Int) (hm : w.cell? ⟨0, 0, none⟩ = some (.int .i64 mx)) :
  Calls Tryz.prog 9 #[.pointer (some ⟨r, 0, none⟩)] w fun e' w' => ROPost M tg r d (rpLead R) w e' w' := by
 have hw0 : 0 < w.heap.size := by
  have := World.block_lt_of_cell? w _ hm
  simpa using this
 obtain ⟨ho, C, hC, hV⟩ := h
 have htb : termS R.x.t R.node R.nodes = 0 ∨ 0 ≤ termS R.x.t R.node R.nodes ∧ termS R.x.t R.node R.nodes ≤ 9223372036854775807 := by
  by_cases hk : Lead.okTerm R.x.t R.node R.nodes
  ·obtain ⟨h1, h2, -⟩ := Lead.term_plain hk
   unfold Lead.okTerm at hk
   right; omega
  ·left; exact if_neg hk
 have HD : Hid (rpLead R = if (rpPromise R (termS R.x.t R.node R.nodes)).1 = true then (if (promiseS (newVote (termS R.x.t R.node R.nodes) R.nodes) R.node (rpDown (rpPromise R (termS R.x.t R.node R.nodes)).2).x.h (rpDown (rpPromise R (termS R.x.t R.node R.nodes)).2).x.log).1 = true then rpWon { rpDown (rpPromise R (termS R.x.t R.node R.nodes)).2 with v := some (promiseS (newVote (termS R.x.t R.node R.nodes) R.nodes) R.node (rpDown (rpPromise R (termS R.x.t R.node R.nodes)).2).x.h (rpDown (rpPromise R (termS R.x.t R.node R.nodes)).2).x.log).2 } (promiseS (newVote (termS R.x.t R.node R.nodes) R.nodes) R.node (rpDown (rpPromise R (termS R.x.t R.node R.nodes)).2).x.h (rpDown (rpPromise R (termS R.x.t R.node R.nodes)).2).x.log).2 else ({ rpDown (rpPromise R (termS R.x.t R.node R.nodes)).2 with v := some (promiseS (newVote (termS R.x.t R.node R.nodes) R.nodes) R.node (rpDown (rpPromise R (termS R.x.t R.node R.nodes)).2).x.h (rpDown (rpPromise R (termS R.x.t R.node R.nodes)).2).x.log).2 }, rpAll (rpDown (rpPromise R (termS R.x.t R.node R.nodes)).2) (prepareM (termS R.x.t R.node R.nodes)))) else (R, [])) := rfl
 have HLT : Hid (∀ W, Calls Tryz.prog 28 #[.int .i64 R.x.t, .int .i64 R.node, .int .i64 R.nodes] W fun e w' => e = .returned (.int .i64 (termS R.x.t R.node R.nodes)) ∧ W = w') := fun W => Lead.term_any _ _ _ W
 obtain ⟨term, Hterm⟩ : ∃ t, Hid (t = termS R.x.t R.node R.nodes) := ⟨_, rfl⟩
 rw [← Hterm.out] at HD HLT htb
 have HMl := Lib.hid hM; have HC := Lib.hid hC; have HV := Lib.hid hV; have H0 := Lib.hid h0; have Hap := Lib.hid hap; have Hm := Lib.hid hm; have Hho := Lib.hid ho
 have HS : Hid (∀ W, Keeps [] w W → W.cell? ⟨r, 2, none⟩ = some (.pointer (some ⟨C.s, 0, none⟩)) ∧ W.cell? ⟨r, 0, none⟩ = some (.int .i64 R.node) ∧ W.cell? ⟨r, 1, none⟩ = some (.int .i64 R.nodes)) := fun W hk => by
  obtain ⟨d0, d1, d2, -⟩ := rpcells (hV.keep0 hM hk)
  exact ⟨d2, d0, d1⟩
 have HVT : Hid (∀ W, Keeps [] w W → Calls Tryz.prog 29 #[.pointer (some ⟨C.s, 0, none⟩)] W fun e w' => e = .returned (.int .i64 R.x.t) ∧ W = w') := fun W hk => vterm_any W ((hV.keep0 hM hk).st.st)
 have hpr := Lib.hid (rppromise_any (hV.keep0 hM ((Keeps.refl [] w).drew)) hM term (by omega) mx hm)
 have HTs := Lib.hid (rpPromise_same R term)
 have HTo := Lib.hid (rpPromise_ok ho term)
 generalize rpPromise R term = T at *
 obtain ⟨tb, R1⟩ := T
 simp only [] at HTs HTo HD
 clear ho hV hM hm hC h0 hap
 go_enter Tryz.func9, Tryz.ntmps9
 go_upto_region 1 with (fail)
 refine wp_region_held_drew (S := (fun W => W.cell? ⟨r, 2, none⟩ = some (.pointer (some ⟨C.s, 0, none⟩)) ∧ W.cell? ⟨r, 0, none⟩ = some (.int .i64 R.node) ∧ W.cell? ⟨r, 1, none⟩ = some (.int .i64 R.nodes))) (by kernel_rfl) (HS.out _ (Keeps.refl _ _).drew) (fun hHeld => ?_)
 refine wpAnyH_take (i := 0) (oi := _) (v := ?v0u1) rfl (by kernel_rfl) (by kernel_rfl) (by kernel_rfl) (fun _ _ _ h => h) (Or.inl ⟨by rfl, ?y0u1⟩) (by assumption) ?r0u1
 case y0u1 => (intro w hSw; (obtain ⟨hS0, hS1, hS2⟩ := hSw); go_simp <;> with_reducible rfl)
 try simp only [List.getElem_toArray, List.getElem_cons_succ, List.getElem_cons_zero, Act.put, List.setIfInBounds_toArray, List.set_cons_zero, List.set_cons_succ]
 refine wpAnyH_take (i := 1) (oi := _) (v := ?v1u2) rfl (by kernel_rfl) (by kernel_rfl) (by kernel_rfl) (fun _ _ _ h => h) (Or.inl ⟨by rfl, ?y1u2⟩) (by assumption) ?r1u2
 case y1u2 => (intro w hSw; (obtain ⟨hS0, hS1, hS2⟩ := hSw); go_simp <;> with_reducible rfl)
 try simp only [List.getElem_toArray, List.getElem_cons_succ, List.getElem_cons_zero, Act.put, List.setIfInBounds_toArray, List.set_cons_zero, List.set_cons_succ]
 refine wpAnyH_take (i := 2) (oi := _) (v := ?v2u3) rfl (by kernel_rfl) (by kernel_rfl) (by kernel_rfl) (fun _ _ _ h => h) (Or.inl ⟨by rfl, ?y2u3⟩) (by assumption) ?r2u3
 case y2u3 => (intro w hSw; (obtain ⟨hS0, hS1, hS2⟩ := hSw); go_simp <;> with_reducible rfl)
 try simp only [List.getElem_toArray, List.getElem_cons_succ, List.getElem_cons_zero, Act.put, List.setIfInBounds_toArray, List.set_cons_zero, List.set_cons_succ]
 refine wpAnyH_take (i := 3) (oi := _) (v := ?v3u4) rfl (by kernel_rfl) (by kernel_rfl) (by kernel_rfl) (fun _ _ _ h => h) (Or.inl ⟨by rfl, ?y3u4⟩) (by assumption) ?r3u4
 case y3u4 => (intro w hSw; (obtain ⟨hS0, hS1, hS2⟩ := hSw); go_simp <;> with_reducible rfl)
 try simp only [List.getElem_toArray, List.getElem_cons_succ, List.getElem_cons_zero, Act.put, List.setIfInBounds_toArray, List.set_cons_zero, List.set_cons_succ]
 refine wpAnyH_take (i := 5) (oi := _) (v := ?v5u5) rfl (by kernel_rfl) (by kernel_rfl) (by kernel_rfl) (fun _ _ _ h => h) (Or.inl ⟨by rfl, ?y5u5⟩) (by assumption) ?r5u5
 case y5u5 => (intro w hSw; (obtain ⟨hS0, hS1, hS2⟩ := hSw); go_simp <;> with_reducible rfl)
 try simp only [List.getElem_toArray, List.getElem_cons_succ, List.getElem_cons_zero, Act.put, List.setIfInBounds_toArray, List.set_cons_zero, List.set_cons_succ]
 refine wpAnyH_take (i := 6) (oi := _) (v := ?v6u6) rfl (by kernel_rfl) (by kernel_rfl) (by kernel_rfl) (fun _ _ _ h => h) (Or.inl ⟨by rfl, ?y6u6⟩) (by assumption) ?r6u6
 case y6u6 => (intro w hSw; (obtain ⟨hS0, hS1, hS2⟩ := hSw); go_simp <;> with_reducible rfl)
 try simp only [List.getElem_toArray, List.getElem_cons_succ, List.getElem_cons_zero, Act.put, List.setIfInBounds_toArray, List.set_cons_zero, List.set_cons_succ]
 refine wpAnyH_take (i := 7) (oi := _) (v := ?v7u7) rfl (by kernel_rfl) (by kernel_rfl) (by kernel_rfl) (fun _ _ _ h => h) (Or.inl ⟨by rfl, ?y7u7⟩) (by assumption) ?r7u7
 case y7u7 => (intro w hSw; (obtain ⟨hS0, hS1, hS2⟩ := hSw); go_simp <;> with_reducible rfl)
 try simp only [List.getElem_toArray, List.getElem_cons_succ, List.getElem_cons_zero, Act.put, List.setIfInBounds_toArray, List.set_cons_zero, List.set_cons_succ]
 refine wpAnyH_take (i := 8) (oi := _) (v := ?v8u8) rfl (by kernel_rfl) (by kernel_rfl) (by kernel_rfl) (fun _ _ _ h => h) (Or.inl ⟨by rfl, ?y8u8⟩) (by assumption) ?r8u8
 case y8u8 => (intro w hSw; (obtain ⟨hS0, hS1, hS2⟩ := hSw); go_simp <;> with_reducible rfl)
 try simp only [List.getElem_toArray, List.getElem_cons_succ, List.getElem_cons_zero, Act.put, List.setIfInBounds_toArray, List.set_cons_zero, List.set_cons_succ]
 refine wpAnyH_take (i := 9) (oi := _) (v := ?v9u9) rfl (by kernel_rfl) (by kernel_rfl) (by kernel_rfl) (fun _ _ _ h => h) (Or.inl ⟨by rfl, ?y9u9⟩) (by assumption) ?r9u9
 case y9u9 => (intro w hSw; (obtain ⟨hS0, hS1, hS2⟩ := hSw); go_simp <;> with_reducible rfl)
 try simp only [List.getElem_toArray, List.getElem_cons_succ, List.getElem_cons_zero, Act.put, List.setIfInBounds_toArray, List.set_cons_zero, List.set_cons_succ]
 refine wpAnyH_take (i := 10) (oi := _) (v := ?v10u10) rfl (by kernel_rfl) (by kernel_rfl) (by kernel_rfl) (fun _ _ _ h => h) (Or.inl ⟨by rfl, ?y10u10⟩) (by assumption) ?r10u10
 case y10u10 => (intro w hSw; (obtain ⟨hS0, hS1, hS2⟩ := hSw); go_simp <;> with_reducible rfl)
 try simp only [List.getElem_toArray, List.getElem_cons_succ, List.getElem_cons_zero, Act.put, List.setIfInBounds_toArray, List.set_cons_zero, List.set_cons_succ]
 refine wpAnyH_take (i := 11) (oi := _) (v := ?v11u11) rfl (by kernel_rfl) (by kernel_rfl) (by kernel_rfl) (fun _ _ _ h => h) (Or.inl ⟨by rfl, ?y11u11⟩) (by assumption) ?r11u11
 case y11u11 => (intro w hSw; (obtain ⟨hS0, hS1, hS2⟩ := hSw); go_simp <;> with_reducible rfl)
 try simp only [List.getElem_toArray, List.getElem_cons_succ, List.getElem_cons_zero, Act.put, List.setIfInBounds_toArray, List.set_cons_zero, List.set_cons_succ]
 refine wpAnyH_take (i := 12) (oi := _) (v := ?v12u12) rfl (by kernel_rfl) (by kernel_rfl) (by kernel_rfl) (fun _ _ _ h => h) (Or.inl ⟨by rfl, ?y12u12⟩) (by assumption) ?r12u12
 case y12u12 => (intro w hSw; (obtain ⟨hS0, hS1, hS2⟩ := hSw); go_simp <;> with_reducible rfl)
 try simp only [List.getElem_toArray, List.getElem_cons_succ, List.getElem_cons_zero, Act.put, List.setIfInBounds_toArray, List.set_cons_zero, List.set_cons_succ]
 refine wpAnyH_ready (rs := [4]) (by kernel_rfl) (by simp) ?_
 refine AllReadyH.cons (o := _) rfl (fun K hK => ?_) AllReadyH.nil
 go_simp
 refine (HVT.out _ (Keeps.refl _ _).drew).mono ?_
 rintro e wl ⟨rfl, rfl⟩
 refine hK.out _ _ (HS.out _ (Keeps.refl _ _).drew) (fun hHeld2 => ?_)
 clear hK K hHeld
 have hHeld := hHeld2
 clear hHeld2
 try simp only [List.getElem_toArray, List.getElem_cons_succ, List.getElem_cons_zero, Act.put, List.setIfInBounds_toArray, List.set_cons_zero, List.set_cons_succ]
 refine wpAnyH_ready (rs := [13]) (by kernel_rfl) (by simp) ?_
 refine AllReadyH.cons (o := _) rfl (fun K hK => ?_) AllReadyH.nil
 go_simp
 refine (HLT.out _).mono ?_
 rintro e wl ⟨rfl, rfl⟩
 refine hK.out _ _ (HS.out _ (Keeps.refl _ _).drew) (fun hHeld2 => ?_)
 clear hK K hHeld
 have hHeld := hHeld2
 clear hHeld2
 try simp only [List.getElem_toArray, List.getElem_cons_succ, List.getElem_cons_zero, Act.put, List.setIfInBounds_toArray, List.set_cons_zero, List.set_cons_succ]
 refine wpAnyH_take (i := 14) (oi := _) (v := ?v14u13) rfl (by kernel_rfl) (by kernel_rfl) (by kernel_rfl) (fun _ _ _ h => h) (Or.inl ⟨by rfl, ?y14u13⟩) (by assumption) ?r14u13
 case y14u13 => (intro w hSw; (obtain ⟨hS0, hS1, hS2⟩ := hSw); go_simp <;> with_reducible rfl)
 try simp only [List.getElem_toArray, List.getElem_cons_succ, List.getElem_cons_zero, Act.put, List.setIfInBounds_toArray, List.set_cons_zero, List.set_cons_succ]
 refine wpAnyH_done (by kernel_rfl) ?_ _
 clear hHeld
 have c2 : w.drew.cell? ⟨r, 2, none⟩ = some (.pointer (some ⟨C.s, 0, none⟩)) := (HS.out _ (Keeps.refl _ _).drew).1
 clear HS HVT HLT
 go_wp2_with fail
 refine hpr.out.mono ?_
 rintro e1 w1 ⟨rfl, M1, tg1, Y1, hV1, hx1, hk1⟩
 simp only [] at hV1
 have HX1 : Hid (Ext w M tg w1 M1 tg1 ∧ Keeps (sel M tg (List.range 30)) w w1) := ⟨(show Ext w M tg w.drew M tg from Ext.refl HMl.out (Nat.le_refl _)).trans hx1 (Nat.le_refl _), ((Keeps.refl (sel M tg (List.range 30)) w).drew).trans (hk1.sel_mono (by simp)) (fun g hg => .inl hg)⟩
 have HRA : Hid (RpAt w1 M1 tg1 r d R1) := ⟨HTo.out, _, (by exact HC.out), hV1⟩
 clear hV1 hx1 hk1 hpr c2
 cases tb with
 | false =>
  obtain rfl : R1 = R := HTs.out.2.2.2.2.2.2.2.2.2.2 rfl
  have HP : Hid (ROPost M tg r d (rpLead R1) w (.returned (.slice none 0 0)) w1) := by
   rw [HD.out]
   simp only [Bool.false_eq_true, if_false]
   exact ROPost.nil HRA.out HX1.out.1 HX1.out.2
  clear HTs HD
  go_wp2_with fail
  go_ret
  exact HP.out
 | true =>
  simp only [if_true] at HD
  have hdn := Lib.hid (rpdown_any HRA.out HX1.out.1.lt)
  go_wp2_with fail
  refine hdn.out.mono ?_
  rintro e2 w2 ⟨rfl, h1, h2, h3⟩
  have HX2 : Hid (Ext w M tg w2 M1 tg1 ∧ Keeps (sel M tg (List.range 30)) w w2) := ⟨HX1.out.1.trans h2 HX1.out.2.size, Ext.keeps HX1.out.1 HX1.out.2 (h3.sel_mono (by simp))⟩
  have HR2 := Lib.hid h1
  obtain ⟨C2, HV2⟩ : ∃ C2, Hid (C2.d = d ∧ RpV w2 M1 tg1 r (rpDown R1) C2) := by obtain ⟨_, C2, h4, hv⟩ := h1; exact ⟨C2, h4, hv⟩
  have hnn := Lib.hid HR2.out.1.1
  have Hne : Hid (R1.node = R.node ∧ R1.nodes = R.nodes) := ⟨HTs.out.1, HTs.out.2.1⟩
  have hap2 := Lib.hid (show R1.ap = R1.com by rw [HTs.out.2.2.2.2.2.2.1, HTs.out.2.2.2.2.2.1]; exact Hap.out)
  have d1 : w2.cell? ⟨r, 1, none⟩ = some (.int .i64 R.nodes) := by rw [← Hne.out.2]; exact (rpcells HV2.out.2).2.1
  have hnw := Lib.hid (Lead.new_yes term R.nodes w2 (by rw [← Hne.out.2]; exact hnn.out.1) (by rw [← Hne.out.2]; exact hnn.out.2))
  have f5 := HV2.out.2.blk.frozen 5
  have hrl2 := HV2.out.2.blk.lt
  clear h1 h2 h3 hdn HX1 HRA
  go_wp2_with fail
  with_reducible refine hnw.out.mono ?_
  rintro e3 w3 ⟨rfl, hva, hb3, hlt3⟩
  have hk3 : Keeps [] w2 w3 := Keeps.of_below (M := []) hb3
  obtain ⟨vb, Hvb⟩ : ∃ vb, Hid (vb = w2.heap.size) := ⟨_, rfl⟩
  rw [← Hvb.out] at hva hlt3 ⊢
  have hblk3 := hk3.blk HV2.out.2.blk (by simp)
  have e5 : w3.cell? ⟨r, 5, none⟩ = some (.pointer none) := hblk3.cell 5
  have f53 := hblk3.frozen 5
  have hC2d := HV2.out.1
  have Hva := Lib.hid hva; have Hk3 := Lib.hid hk3; have Hblk3 := Lib.hid hblk3
  clear hva hb3 hk3 hblk3 hnw d1 f5
  go_upto_region 6 with (fail)
  obtain ⟨w4, hw4⟩ : ∃ w4, w4 = w3.setCell ⟨r, 5, none⟩ (.pointer (some ⟨vb, 0, none⟩)) := ⟨_, rfl⟩
  rw [← hw4]
  have hk4 : Keeps [r] w3 w4 := by rw [hw4]; exact (Keeps.refl _ _).setCell (by simp) _
  have hb4 : Blk w4 r 72 (rpCells { rpDown R1 with v := some (newVote term R.nodes) } { C2 with vb := vb }) := by
   rw [hw4]
   simpa [rpCells, rpDown] using Hblk3.out.set_ 5 (.pointer (some ⟨vb, 0, none⟩))
  obtain ⟨a1, a2, a3⟩ := HV2.out.2.newV HX2.out.1.lt (by rw [Hvb.out]; exact Nat.le_refl _) hlt3 Hk3.out hk4 Hva.out hb4
  have HX4 : Hid (Ext w M tg w4 ([vb] ++ M1) (fun x => if x ∈ [vb] then 6 else tg1 x) ∧ Keeps (sel M tg (List.range 30)) w w4) := ⟨HX2.out.1.trans a2 HX2.out.2.size, Ext.keeps HX2.out.1 HX2.out.2 (a3.sel_mono (by simp))⟩
  have hvt := new_vt (term := term) (nodes := R.nodes) (by omega) (by omega)
  have HV4 := Lib.hid a1
  have hlp : (newVote term R.nodes).prom.length = 8 := by simp [newVote]
  have Hvt := Lib.hid hvt
  have hwk := Lib.hid (HV2.out.2.st.ok)
  have HPv : Hid (VtOk R.nodes (promiseS (newVote term R.nodes) R.node R1.x.h R1.x.log).2) := promise_vt hvt (by rw [← Hne.out.2]; exact hnn.out.2) hlp R.node R1.x.h R1.x.log (wok_own hwk.out).1 (wok_own hwk.out).2
  clear hw4 hk4 hb4 a1 a2 a3 e5 f53 Hblk3 Hva hvt hlt3
  generalize ([vb] ++ M1) = M4 at *
  generalize (fun x => if x ∈ [vb] then 6 else tg1 x) = tg4 at *
  obtain ⟨R4, HR4⟩ : ∃ R4 : RpD, Hid (R4 = { rpDown R1 with v := some (newVote term R.nodes) }) := ⟨_, rfl⟩
  rw [← HR4.out] at HV4
  have Hn4 : Hid (R4.node = R.node ∧ R4.nodes = R.nodes ∧ R4.x = R1.x ∧ R4.v = some (newVote term R.nodes)) := by show _ ∧ _; rw [HR4.out]; exact ⟨Hne.out.1, Hne.out.2, rfl, rfl⟩
  have hva4 := (HV4.out.vt _ Hn4.out.2.2.2).1
  have g0 : w4.cell? ⟨r, 0, none⟩ = some (.int .i64 R.node) := by rw [← Hn4.out.1]; exact (rpcells HV4.out).1
  have g5 : w4.cell? ⟨r, 5, none⟩ = some (.pointer (some ⟨vb, 0, none⟩)) := by
   have h9 := (rpcells HV4.out).2.2.2.2.2.1
   rw [Hn4.out.2.2.2] at h9
   exact h9
  obtain ⟨Cs, hcs⟩ : ∃ Cs, Cs = C2.s := ⟨_, rfl⟩
  have g2 : w4.cell? ⟨r, 2, none⟩ = some (.pointer (some ⟨Cs, 0, none⟩)) := by rw [hcs]; exact (rpcells HV4.out).2.2.1
  have HS6 : Hid (∀ W, Keeps [] w4 W → W.cell? ⟨r, 5, none⟩ = some (.pointer (some ⟨vb, 0, none⟩)) ∧ W.cell? ⟨r, 0, none⟩ = some (.int .i64 R.node) ∧ W.cell? ⟨r, 2, none⟩ = some (.pointer (some ⟨Cs, 0, none⟩))) := fun W hk => ⟨(hk.cell (p := ⟨r, 5, none⟩) HV4.out.blk.lt (by simp)).trans g5, (hk.cell (p := ⟨r, 0, none⟩) HV4.out.blk.lt (by simp)).trans g0, (hk.cell (p := ⟨r, 2, none⟩) HV4.out.blk.lt (by simp)).trans g2⟩
  have HH : Hid (∀ W, Keeps [] w4 W → Calls Tryz.prog 34 #[.pointer (some ⟨Cs, 0, none⟩)] W fun e w' => e = .returned (.int .i64 R1.x.h) ∧ W = w') := fun W hk => by rw [hcs, ← Hn4.out.2.2.1]; exact vhad_any W (HV4.out.st.st.keep0 hk)
  have HL : Hid (∀ W, Keeps [] w4 W → Calls Tryz.prog 35 #[.pointer (some ⟨Cs, 0, none⟩)] W fun e w' => EnsPost R1.x.log W e w') := fun W hk => by rw [hcs, ← Hn4.out.2.2.1]; exact vlog_any W (HV4.out.st.st.keep0 hk)
  have hvb4 : vb ∈ M4 ∧ tg4 vb = 6 := (HV4.out.vt _ Hn4.out.2.2.2).2
  have hrvb : r ≠ vb := fun e => by have h1 := HV4.out.tr; rw [e, hvb4.2] at h1; omega
  have HPm : Hid (∀ W lv, Keeps [] w4 W → Ens W (vb :: M4) lv R1.x.log → Calls Tryz.prog 33 #[.pointer (some ⟨vb, 0, none⟩), .int .i64 R.node, .int .i64 R1.x.h, lv] W fun e w' => e = .returned (.bool (promiseS (newVote term R.nodes) R.node R1.x.h R1.x.log).1) ∧ VoteAt w' M4 vb (promiseS (newVote term R.nodes) R.node R1.x.h R1.x.log).2 ∧ Keeps [vb] W w') := fun W lv hk he => by
   exact Lead.promise_any M4 vb _ R.node R1.x.h lv R1.x.log W (hva4.keep hk (by simp) (by simp)) (fun g hg => Nat.lt_of_lt_of_le (HX4.out.1.lt g hg) hk.size) he (wok_small hwk.out) (by show R.nodes ≤ 8; rw [← Hne.out.2]; exact hnn.out.2) (vt_n Hvt.out hlp).1 (vt_n Hvt.out hlp).2
  have HD4 : Hid (rpLead R = if (promiseS (newVote term R.nodes) R.node R1.x.h R1.x.log).1 = true then rpWon { R4 with v := some (promiseS (newVote term R.nodes) R.node R1.x.h R1.x.log).2 } (promiseS (newVote term R.nodes) R.node R1.x.h R1.x.log).2 else ({ R4 with v := some (promiseS (newVote term R.nodes) R.node R1.x.h R1.x.log).2 }, toAll R4.node (prepareM term) R4.nodes.toNat)) := by
   show _ = _
   rw [HD.out, HR4.out]
   rfl
  have hap4 : R4.ap = R4.com := by rw [HR4.out]; exact hap2.out
  have hok4 : RpOk R4 := by rw [HR4.out]; exact ⟨HR2.out.1.1, HR2.out.1.2.1, HR2.out.1.2.2.1, HR2.out.1.2.2.2.1, HR2.out.1.2.2.2.2.1, fun x hx => (by injection hx with hx; subst hx; show VtOk R1.nodes _; rw [Hne.out.2]; exact Hvt.out), fun hl => (nomatch hl)⟩
  have Hok4 := Lib.hid hok4
  clear HD HTs HTo hva4 g0 g2 g5 hcs hap2 hok4 HR2 HV2
  generalize promiseS (newVote term R.nodes) R.node R1.x.h R1.x.log = PP at *
  obtain ⟨pb, pv⟩ := PP
  simp only [] at HD4 HPv
  refine wp_region_held_drew (S := (fun W => W.cell? ⟨r, 5, none⟩ = some (.pointer (some ⟨vb, 0, none⟩)) ∧ W.cell? ⟨r, 0, none⟩ = some (.int .i64 R.node) ∧ W.cell? ⟨r, 2, none⟩ = some (.pointer (some ⟨Cs, 0, none⟩)))) (by kernel_rfl) (HS6.out _ (Keeps.refl _ _).drew) (fun hHeld => ?_)
  refine wpAnyH_take (i := 0) (oi := _) (v := ?v0u14) rfl (by kernel_rfl) (by kernel_rfl) (by kernel_rfl) (fun _ _ _ h => h) (Or.inl ⟨by rfl, ?y0u14⟩) (by assumption) ?r0u14
  case y0u14 => (intro w hSw; (obtain ⟨hS0, hS1, hS2⟩ := hSw); go_simp <;> with_reducible rfl)
  try simp only [List.getElem_toArray, List.getElem_cons_succ, List.getElem_cons_zero, Act.put, List.setIfInBounds_toArray, List.set_cons_zero, List.set_cons_succ]
  refine wpAnyH_take (i := 1) (oi := _) (v := ?v1u15) rfl (by kernel_rfl) (by kernel_rfl) (by kernel_rfl) (fun _ _ _ h => h) (Or.inl ⟨by rfl, ?y1u15⟩) (by assumption) ?r1u15
  case y1u15 => (intro w hSw; (obtain ⟨hS0, hS1, hS2⟩ := hSw); go_simp <;> with_reducible rfl)
  try simp only [List.getElem_toArray, List.getElem_cons_succ, List.getElem_cons_zero, Act.put, List.setIfInBounds_toArray, List.set_cons_zero, List.set_cons_succ]
  refine wpAnyH_take (i := 2) (oi := _) (v := ?v2u16) rfl (by kernel_rfl) (by kernel_rfl) (by kernel_rfl) (fun _ _ _ h => h) (Or.inl ⟨by rfl, ?y2u16⟩) (by assumption) ?r2u16
  case y2u16 => (intro w hSw; (obtain ⟨hS0, hS1, hS2⟩ := hSw); go_simp <;> with_reducible rfl)
  try simp only [List.getElem_toArray, List.getElem_cons_succ, List.getElem_cons_zero, Act.put, List.setIfInBounds_toArray, List.set_cons_zero, List.set_cons_succ]
  refine wpAnyH_take (i := 3) (oi := _) (v := ?v3u17) rfl (by kernel_rfl) (by kernel_rfl) (by kernel_rfl) (fun _ _ _ h => h) (Or.inl ⟨by rfl, ?y3u17⟩) (by assumption) ?r3u17
  case y3u17 => (intro w hSw; (obtain ⟨hS0, hS1, hS2⟩ := hSw); go_simp <;> with_reducible rfl)
  try simp only [List.getElem_toArray, List.getElem_cons_succ, List.getElem_cons_zero, Act.put, List.setIfInBounds_toArray, List.set_cons_zero, List.set_cons_succ]
  refine wpAnyH_take (i := 4) (oi := _) (v := ?v4u18) rfl (by kernel_rfl) (by kernel_rfl) (by kernel_rfl) (fun _ _ _ h => h) (Or.inl ⟨by rfl, ?y4u18⟩) (by assumption) ?r4u18
  case y4u18 => (intro w hSw; (obtain ⟨hS0, hS1, hS2⟩ := hSw); go_simp <;> with_reducible rfl)
  try simp only [List.getElem_toArray, List.getElem_cons_succ, List.getElem_cons_zero, Act.put, List.setIfInBounds_toArray, List.set_cons_zero, List.set_cons_succ]
  refine wpAnyH_take (i := 5) (oi := _) (v := ?v5u19) rfl (by kernel_rfl) (by kernel_rfl) (by kernel_rfl) (fun _ _ _ h => h) (Or.inl ⟨by rfl, ?y5u19⟩) (by assumption) ?r5u19
  case y5u19 => (intro w hSw; (obtain ⟨hS0, hS1, hS2⟩ := hSw); go_simp <;> with_reducible rfl)
  try simp only [List.getElem_toArray, List.getElem_cons_succ, List.getElem_cons_zero, Act.put, List.setIfInBounds_toArray, List.set_cons_zero, List.set_cons_succ]
  refine wpAnyH_take (i := 6) (oi := _) (v := ?v6u20) rfl (by kernel_rfl) (by kernel_rfl) (by kernel_rfl) (fun _ _ _ h => h) (Or.inl ⟨by rfl, ?y6u20⟩) (by assumption) ?r6u20
  case y6u20 => (intro w hSw; (obtain ⟨hS0, hS1, hS2⟩ := hSw); go_simp <;> with_reducible rfl)
  try simp only [List.getElem_toArray, List.getElem_cons_succ, List.getElem_cons_zero, Act.put, List.setIfInBounds_toArray, List.set_cons_zero, List.set_cons_succ]
  refine wpAnyH_take (i := 7) (oi := _) (v := ?v7u21) rfl (by kernel_rfl) (by kernel_rfl) (by kernel_rfl) (fun _ _ _ h => h) (Or.inl ⟨by rfl, ?y7u21⟩) (by assumption) ?r7u21
  case y7u21 => (intro w hSw; (obtain ⟨hS0, hS1, hS2⟩ := hSw); go_simp <;> with_reducible rfl)
  try simp only [List.getElem_toArray, List.getElem_cons_succ, List.getElem_cons_zero, Act.put, List.setIfInBounds_toArray, List.set_cons_zero, List.set_cons_succ]
  refine wpAnyH_take (i := 8) (oi := _) (v := ?v8u22) rfl (by kernel_rfl) (by kernel_rfl) (by kernel_rfl) (fun _ _ _ h => h) (Or.inl ⟨by rfl, ?y8u22⟩) (by assumption) ?r8u22
  case y8u22 => (intro w hSw; (obtain ⟨hS0, hS1, hS2⟩ := hSw); go_simp <;> with_reducible rfl)
  try simp only [List.getElem_toArray, List.getElem_cons_succ, List.getElem_cons_zero, Act.put, List.setIfInBounds_toArray, List.set_cons_zero, List.set_cons_succ]
  refine wpAnyH_take (i := 9) (oi := _) (v := ?v9u23) rfl (by kernel_rfl) (by kernel_rfl) (by kernel_rfl) (fun _ _ _ h => h) (Or.inl ⟨by rfl, ?y9u23⟩) (by assumption) ?r9u23
  case y9u23 => (intro w hSw; (obtain ⟨hS0, hS1, hS2⟩ := hSw); go_simp <;> with_reducible rfl)
  try simp only [List.getElem_toArray, List.getElem_cons_succ, List.getElem_cons_zero, Act.put, List.setIfInBounds_toArray, List.set_cons_zero, List.set_cons_succ]
  refine wpAnyH_take (i := 10) (oi := _) (v := ?v10u24) rfl (by kernel_rfl) (by kernel_rfl) (by kernel_rfl) (fun _ _ _ h => h) (Or.inl ⟨by rfl, ?y10u24⟩) (by assumption) ?r10u24
  case y10u24 => (intro w hSw; (obtain ⟨hS0, hS1, hS2⟩ := hSw); go_simp <;> with_reducible rfl)
  try simp only [List.getElem_toArray, List.getElem_cons_succ, List.getElem_cons_zero, Act.put, List.setIfInBounds_toArray, List.set_cons_zero, List.set_cons_succ]
  refine wpAnyH_take (i := 11) (oi := _) (v := ?v11u25) rfl (by kernel_rfl) (by kernel_rfl) (by kernel_rfl) (fun _ _ _ h => h) (Or.inl ⟨by rfl, ?y11u25⟩) (by assumption) ?r11u25
  case y11u25 => (intro w hSw; (obtain ⟨hS0, hS1, hS2⟩ := hSw); go_simp <;> with_reducible rfl)
  try simp only [List.getElem_toArray, List.getElem_cons_succ, List.getElem_cons_zero, Act.put, List.setIfInBounds_toArray, List.set_cons_zero, List.set_cons_succ]
  refine wpAnyH_take (i := 13) (oi := _) (v := ?v13u26) rfl (by kernel_rfl) (by kernel_rfl) (by kernel_rfl) (fun _ _ _ h => h) (Or.inl ⟨by rfl, ?y13u26⟩) (by assumption) ?r13u26
  case y13u26 => (intro w hSw; (obtain ⟨hS0, hS1, hS2⟩ := hSw); go_simp <;> with_reducible rfl)
  try simp only [List.getElem_toArray, List.getElem_cons_succ, List.getElem_cons_zero, Act.put, List.setIfInBounds_toArray, List.set_cons_zero, List.set_cons_succ]
  refine wpAnyH_take (i := 14) (oi := _) (v := ?v14u27) rfl (by kernel_rfl) (by kernel_rfl) (by kernel_rfl) (fun _ _ _ h => h) (Or.inl ⟨by rfl, ?y14u27⟩) (by assumption) ?r14u27
  case y14u27 => (intro w hSw; (obtain ⟨hS0, hS1, hS2⟩ := hSw); go_simp <;> with_reducible rfl)
  try simp only [List.getElem_toArray, List.getElem_cons_succ, List.getElem_cons_zero, Act.put, List.setIfInBounds_toArray, List.set_cons_zero, List.set_cons_succ]
  refine wpAnyH_take (i := 15) (oi := _) (v := ?v15u28) rfl (by kernel_rfl) (by kernel_rfl) (by kernel_rfl) (fun _ _ _ h => h) (Or.inl ⟨by rfl, ?y15u28⟩) (by assumption) ?r15u28
  case y15u28 => (intro w hSw; (obtain ⟨hS0, hS1, hS2⟩ := hSw); go_simp <;> with_reducible rfl)
  try simp only [List.getElem_toArray, List.getElem_cons_succ, List.getElem_cons_zero, Act.put, List.setIfInBounds_toArray, List.set_cons_zero, List.set_cons_succ]
  refine wpAnyH_take (i := 16) (oi := _) (v := ?v16u29) rfl (by kernel_rfl) (by kernel_rfl) (by kernel_rfl) (fun _ _ _ h => h) (Or.inl ⟨by rfl, ?y16u29⟩) (by assumption) ?r16u29
  case y16u29 => (intro w hSw; (obtain ⟨hS0, hS1, hS2⟩ := hSw); go_simp <;> with_reducible rfl)
  try simp only [List.getElem_toArray, List.getElem_cons_succ, List.getElem_cons_zero, Act.put, List.setIfInBounds_toArray, List.set_cons_zero, List.set_cons_succ]
  refine wpAnyH_ready (rs := [12]) (by kernel_rfl) (by simp) ?_
  refine AllReadyH.cons (o := _) rfl (fun K hK => ?_) AllReadyH.nil
  go_simp
  refine (HH.out _ (Keeps.refl _ _).drew).mono ?_
  rintro e wl ⟨rfl, rfl⟩
  refine hK.out _ _ (HS6.out _ (Keeps.refl _ _).drew) (fun hHeld2 => ?_)
  clear hK K hHeld
  have hHeld := hHeld2
  clear hHeld2
  try simp only [List.getElem_toArray, List.getElem_cons_succ, List.getElem_cons_zero, Act.put, List.setIfInBounds_toArray, List.set_cons_zero, List.set_cons_succ]
  refine wpAnyH_ready (rs := [17]) (by kernel_rfl) (by simp) ?_
  refine AllReadyH.cons (o := _) rfl (fun K hK => ?_) AllReadyH.nil
  go_simp
  refine (HL.out _ (Keeps.refl _ _).drew).mono ?_
  rintro e w5 ⟨A8, rfl, hE5, hk5⟩
  have Hk5 : Hid (Keeps [] w4 w5) := ((Keeps.refl [] w4).drew).trans hk5 (by simp)
  have HE5 := Lib.hid (hE5 (vb :: M4) (fun g hg => by
   rcases List.mem_cons.1 hg with rfl | hg
   ·exact HX4.out.1.lt _ hvb4.1
   ·exact HX4.out.1.lt _ hg))
  clear hE5 hk5
  refine hK.out _ _ (HS6.out _ Hk5.out) (fun hHeld2 => ?_)
  clear hK K hHeld
  have hHeld := hHeld2
  clear hHeld2
  try simp only [List.getElem_toArray, List.getElem_cons_succ, List.getElem_cons_zero, Act.put, List.setIfInBounds_toArray, List.set_cons_zero, List.set_cons_succ]
  refine wpAnyH_ready (rs := [18]) (by kernel_rfl) (by simp) ?_
  refine AllReadyH.cons (o := _) rfl (fun K hK => ?_) AllReadyH.nil
  go_simp
  with_reducible refine (HPm.out _ _ Hk5.out HE5.out).mono ?_
  rintro e w6 ⟨rfl, hva6, hk6⟩
  have Hva6 := Lib.hid hva6; have Hk6 := Lib.hid hk6
  have HS66 : Hid (w6.cell? ⟨r, 5, none⟩ = some (.pointer (some ⟨vb, 0, none⟩)) ∧ w6.cell? ⟨r, 0, none⟩ = some (.int .i64 R.node) ∧ w6.cell? ⟨r, 2, none⟩ = some (.pointer (some ⟨Cs, 0, none⟩))) := by
   have h1 := HS6.out _ Hk5.out
   have hr5 := Nat.lt_of_lt_of_le HV4.out.blk.lt Hk5.out.size
   exact ⟨(hk6.cell (p := ⟨r, 5, none⟩) hr5 (by simp; exact hrvb)).trans h1.1, (hk6.cell (p := ⟨r, 0, none⟩) hr5 (by simp; exact hrvb)).trans h1.2.1, (hk6.cell (p := ⟨r, 2, none⟩) hr5 (by simp; exact hrvb)).trans h1.2.2⟩
  clear hva6 hk6
  refine hK.out _ _ HS66.out (fun hHeld2 => ?_)
  clear hK K hHeld
  have hHeld := hHeld2
  clear hHeld2
  try simp only [List.getElem_toArray, List.getElem_cons_succ, List.getElem_cons_zero, Act.put, List.setIfInBounds_toArray, List.set_cons_zero, List.set_cons_succ]
  refine wpAnyH_done (by kernel_rfl) ?_ _
  clear hHeld
  have hM5 : ∀ g ∈ M4, g < w5.heap.size := fun g hg => Nat.lt_of_lt_of_le (HX4.out.1.lt g hg) Hk5.out.size
  obtain ⟨C4, HC4, HV4c⟩ : ∃ C4 : RpC, Hid (C4.d = d ∧ C4.vb = vb) ∧ Hid (RpV w4 M4 tg4 r R4 C4) := ⟨_, ⟨(by exact hC2d), rfl⟩, HV4.out⟩
  have hb6 : VoteAt w6 M4 C4.vb pv := by rw [HC4.out.2]; exact Hva6.out
  obtain ⟨a1, a2, a3⟩ := (HV4c.out.keep0 HX4.out.1.lt Hk5.out).setV hM5 Hn4.out.2.2.2 (by rw [HC4.out.2]; exact Hk6.out) hb6
  have hok6 : RpOk { R4 with v := some pv } := ⟨Hok4.out.1, Hok4.out.2.1, Hok4.out.2.2.1, Hok4.out.2.2.2.1, Hok4.out.2.2.2.2.1, fun x hx => (by injection hx with hx; subst hx; show VtOk R4.nodes _; rw [Hn4.out.2.1]; exact HPv.out), fun _ => rfl⟩
  have hRA6 : RpAt w6 M4 tg4 r d { R4 with v := some pv } := ⟨hok6, C4, HC4.out.1, a1⟩
  have HX6 : Hid (Ext w M tg w6 M4 tg4 ∧ Keeps (sel M tg (List.range 30)) w w6) := ⟨(HX4.out.1.later Hk5.out.size).trans a2 (HX4.out.2.trans (Hk5.out.mono (M' := sel M tg (List.range 30)) (by simp)) (fun g hg => .inl hg)).size, Ext.keeps (HX4.out.1.later Hk5.out.size) (HX4.out.2.trans (Hk5.out.mono (M' := sel M tg (List.range 30)) (by simp)) (fun g hg => .inl hg)) (a3.sel_mono (by simp))⟩
  have hm6 : w6.cell? ⟨0, 0, none⟩ = some (.int .i64 mx) := (HX6.out.2.cell (p := ⟨0, 0, none⟩) hw0 (fun hm => H0.out (mem_sel.1 hm).1)).trans Hm.out
  have h06 : 0 ∉ M4 := fun hm => by
   rcases HX6.out.1.new 0 hm with h1 | h1
   ·exact H0.out h1
   ·omega
  have HRA6 := Lib.hid hRA6; have Hm6 := Lib.hid hm6; have H06 := Lib.hid h06
  have Hn6 : Hid (R4.node = R.node ∧ R4.nodes = R.nodes) := ⟨Hn4.out.1, Hn4.out.2.1⟩
  have Hap6 := Lib.hid hap4
  clear a1 a2 a3 hok6 hRA6 hm6 h06 hb6 HS6 HS66 HH HL HPm Hva6 HE5 hM5 hap4 hwk hvb4 hrvb
  cases pb with
  | true =>
   have hwo := Lib.hid (rpwon_any HRA6.out HX6.out.1.lt H06.out Hap6.out pv rfl mx Hm6.out)
   have HP : Hid (∀ e w', ROPost M4 tg4 r d (rpWon { R4 with v := some pv } pv) w6 e w' → ROPost M tg r d (rpLead R) w e w') := fun e w' hp => by
    rw [HD4.out]
    simp only [if_true]
    exact ROPost.base hp HX6.out.1 HX6.out.2
   clear HD4
   go_wp2_with fail
   with_reducible refine hwo.out.mono ?_
   intro e w7 hp
   obtain ⟨x, rfl⟩ : ∃ x, e = .returned x := by obtain ⟨x, _, _, h1, _⟩ := hp; exact ⟨x, h1⟩
   have Hp := Lib.hid (HP.out _ _ hp)
   clear hp
   go_wp2_with fail
   go_ret
   exact Hp.out
  | false =>
   obtain ⟨C6, hv6⟩ : ∃ C6, RpV w6 M4 tg4 r { R4 with v := some pv } C6 := by obtain ⟨_, C6, _, hv⟩ := HRA6.out; exact ⟨C6, hv⟩
   have hn0 := HRA6.out.1.1
   have hal : Hid (Calls Tryz.prog 37 #[.pointer (some ⟨r, 0, none⟩), .agg #[.int .i64 3, .int .i64 0, .int .i64 0, .int .i64 0, .int .i64 0, .int .i64 0, .slice none 0 0, .string ⟨#[]⟩, .int .i64 0, .int .i64 0, .int .i64 0, .int .i64 0, .int .u64 0, .int .i64 term, .int .i64 0, .slice none 0 0, .int .i64 0, .int .i64 0]] w6 (AllPost (toAll R4.node (prepareM term) R4.nodes.toNat) w6)) := Lib.hid (rpall_any r R4.node R4.nodes.toNat (prepareM term) (.slice none 0 0) (.slice none 0 0) w6 (rpcells hv6).1 (by rw [Int.toNat_of_nonneg (by have : (1 : Int) ≤ R4.nodes := hn0.1; omega)]; exact (rpcells hv6).2.1) hv6.blk.lt (by have : R4.nodes ≤ 8 := hn0.2; omega) ⟨Ds.nil _ _, Ens.nil _ _⟩ (by show (0 : Nat) ≤ _; omega) (by show (0 : Nat) ≤ _; omega) (fun e he => (nomatch he)))
   have HP : Hid (∀ e w', AllPost (toAll R4.node (prepareM term) R4.nodes.toNat) w6 e w' → ROPost M tg r d (rpLead R) w e w') := fun e w' hp => by
    rw [HD4.out]
    simp only [Bool.false_eq_true, if_false]
    exact ROPost.base (AllPost.ro HRA6.out HX6.out.1.lt hp) HX6.out.1 HX6.out.2
   clear HD4 hv6 hn0
   go_wp2_with fail
   with_reducible refine hal.out.mono ?_
   intro e w7 hp
   obtain ⟨x, rfl⟩ : ∃ x, e = .returned x := by obtain ⟨x, _, h1, _⟩ := hp; exact ⟨x, h1⟩
   have Hp := Lib.hid (HP.out _ _ hp)
   clear hp
   go_wp2_with fail
   go_ret
   exact Hp.out
end
end Go.Proofs.YtdaceeijifjpeaaGreatDoor.Vi
end
