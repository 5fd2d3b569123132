/- Texts put together: RpN, RpO, RpQ. -/
import Derived.Test.YtdaceeijifjpeaaGreatDoorRA8
import Derived.Test.YtdaceeijifjpeaaGreatDoorRA13
set_option linter.unusedVariables false
set_option linter.unusedSimpArgs false
section
namespace Go.Proofs.YtdaceeijifjpeaaGreatDoor.Vi
open Go.RowKit Base Mem Go.Shelf Tape
open Lead (VoteD VoteAt promiseS wonS accS medS termS newVote)
section
variable {w w' : World} {M : List Nat} {tg : Nat → Nat} {r d : Nat} {R : RpD} {C : RpC}
set_option maxRecDepth 100000 in
set_option maxHeartbeats 2000000 in
theorem rprecv_any (h : RpAt w M tg r d R) (hM : ∀ g ∈ M, g < w.heap.size) (h0 : 0 ∉ M) (hap : R.ap = R.com) (fr : Int) (m : MsgD) (dv lv : Value) (hma : MsgAt w M m dv lv) (hs : MShort m) (hwe : Wf m.en) (hwf : ∀ e ∈ m.log, Wf e) (hdl : m.en.ds.length ≤ 1048576) (ht : m.term ≤ 9223372036854775807) (mx : Int) (hm : w.cell? ⟨0, 0, none⟩ = some (.int .i64 mx)) :
  Calls Tryz.prog 10 #[.pointer (some ⟨r, 0, none⟩), .int .i64 fr, .agg (mCell m dv lv).toArray] w fun e' w' => ROPost M tg r d (rpRecv R fr m) w e' w' := by
 have hw0 : 0 < w.heap.size := by
  have := World.block_lt_of_cell? w _ hm
  simpa using this
 obtain ⟨Aa, na, rfl, _⟩ := hma.1.len
 obtain ⟨Ba, ka, rfl, _⟩ := hma.2.len
 obtain ⟨mm, Hmm⟩ : ∃ mm, Hid (mm = m) := ⟨m, rfl⟩
 have HMs := Lib.hid (fun W (hk : Keeps [] w W) => hma.keep hk (by simp))
 have HMe := Lib.hid (fun W (hk : Keeps [] w W) => (HMs.out W hk).avoid (M' := []) (by simp))
 have HRi := Lib.hid (fun W (hk : Keeps [] w W) => mright_any m _ _ mx W (HMe.out W hk) hs ((hk.cell (p := ⟨0, 0, none⟩) hw0 (by simp)).trans hm))
 have HRP := Lib.hid (fun W (hk : Keeps [] w W) => h.keep0 hM hk)
 have HLt : Hid (∀ W, Keeps [] w W → ∀ g ∈ M, g < W.heap.size) := fun W hk g hg => Nat.lt_of_lt_of_le (hM g hg) hk.size
 have HX : Hid (∀ W, Keeps [] w W → Ext w M tg W M tg ∧ Keeps (sel M tg (List.range 30)) w W) := fun W hk => ⟨Ext.refl hM hk.size, hk.to_sel (by simp)⟩
 have Hmx : Hid (∀ W, Keeps [] w W → W.cell? ⟨0, 0, none⟩ = some (.int .i64 mx)) := fun W hk => (hk.cell (p := ⟨0, 0, none⟩) hw0 (by simp)).trans hm
 have HFin : Hid (∀ W, Keeps [] w W → ∀ P e w', ROPost M tg r d P W e w' → ROPost M tg r d P w e w') := fun W hk P e w' hp => ROPost.base hp (HX.out W hk).1 (HX.out W hk).2
 have HNil : Hid (∀ W, Keeps [] w W → rpRecv R fr mm = (R, []) → ROPost M tg r d (rpRecv R fr mm) w (.returned (.slice none 0 0)) W) := fun W hk he => by
  rw [he]
  exact ROPost.nil (HRP.out W hk) (HX.out W hk).1 (HX.out W hk).2
 have HPd : Hid (∀ e' w', ROPost M tg r d (rpRecv R fr mm) w e' w' → ROPost M tg r d (rpRecv R fr m) w e' w') := fun _ _ h => by rw [Hmm.out] at h; exact h
 have HAsk := Lib.hid (fun W (hk : Keeps [] w W) => rpask_any (HRP.out W hk) (HLt.out W hk) h0 hap fr m.en _ (HMe.out W hk).1 ⟨hs.1, hwe⟩ hdl mx (Hmx.out W hk))
 have HPrep := Lib.hid (fun W (hk : Keeps [] w W) => rpprep_any (HRP.out W hk) (HLt.out W hk) fr m.term ht mx (Hmx.out W hk))
 have HAcc := Lib.hid (fun W (hk : Keeps [] w W) => rpacc_any (HRP.out W hk) (HLt.out W hk) h0 hap fr m _ _ (HMe.out W hk) (fun e he => ⟨hs.2.2 e he, hwf e he⟩) ht mx (Hmx.out W hk))
 have HCnt : Hid (∀ W, Keeps [] w W → ∀ v, R.v = some v → Calls Tryz.prog 44 #[.pointer (some ⟨r, 0, none⟩), .int .i64 fr, .int .i64 m.len] W fun e w' => ROPost M tg r d (rpCounted R v fr m.len) W e w') := fun W hk v hv => rpcounted_any (HRP.out W hk) (HLt.out W hk) h0 hap v hv fr m.len mx (Hmx.out W hk)
 have HD : Hid (rpRecv R fr mm = rpRecv R fr m) := by show _ = _; rw [Hmm.out]
 obtain ⟨rr, Hrr⟩ : ∃ rr, Hid (rr = mrightS m) := ⟨_, rfl⟩
 have HU : Hid (rpRecv R fr m = if rr ≠ 0 then (R, []) else if m.kd = 1 then rpAsk R fr m.en else if fr < 0 ∨ R.nodes ≤ fr ∨ fr = R.node then (R, []) else if m.kd = 3 then rpPrep R fr m.term else if m.kd = 4 then
  match R.v with
  | some v => if v.term = m.term ∧ wonS v = false then (if (promiseS v fr m.had m.log).1 = true then rpWon { R with v := some (promiseS v fr m.had m.log).2 } (promiseS v fr m.had m.log).2 else ({ R with v := some (promiseS v fr m.had m.log).2 }, [])) else (R, [])
  | none => (R, [])
  else if m.kd = 5 then rpAcc R fr m else if m.kd = 6 then
  match R.leads, R.v with
  | true, some v => if v.term = m.term then rpCounted R v fr m.len else (R, [])
  | _, _ => (R, [])
  else (R, [])) := by show _ = _; rw [Hrr.out]; rfl
 have HLg : Hid (rr = 0 → m.kd ≠ 1 → m.log.length ≤ 128 ∧ ∀ e ∈ m.log, EOk e) := fun h1 h2 => by
  rw [Hrr.out] at h1
  unfold mrightS at h1
  split at h1
  ·exact absurd h1 (by decide)
  split at h1
  ·exact absurd h1 (by decide)
  split at h1
  ·exact absurd h1 (by decide)
  rename_i h3
  exact ⟨by omega, fun e he => ⟨logRight_all h1 e he, hs.2.2 e he, hwf e he⟩⟩
 rw [← Hrr.out] at HRi
 have Hs := Lib.hid hs; have Hwf := Lib.hid hwf
 have HV0 := Lib.hid h; have H0 := Lib.hid h0; have Hap := Lib.hid hap; have HMl := Lib.hid hM
 clear h hM h0 hap hma hs hwe hwf hdl ht hm
 obtain ⟨kd, ⟨kind, ag, sh, seq, ep, ds, ser, efr, etg⟩, tag, code, nn, term, had, log, commit, len⟩ := m
 simp only [] at HU HMs HMe HPrep HCnt HLg
 simp only [mCell, eCell, List.cons_append, List.nil_append] at HRi HAsk HAcc
 simp only [mCell, eCell, List.cons_append, List.nil_append]
 obtain ⟨w0, hw0'⟩ : ∃ w0, w0 = w.alloc (.cells #[.int .i64 kd, .int .i64 kind, .int .i64 ag, .int .i64 sh, .int .i64 seq, .int .i64 ep, .slice Aa ds.length na, .string ser, .int .i64 efr, .int .i64 etg, .int .i64 tag, .int .i64 code, .int .u64 nn, .int .i64 term, .int .i64 had, .slice Ba log.length ka, .int .i64 commit, .int .i64 len] 37) := ⟨_, rfl⟩
 have hk0 : Keeps [] w w0 := by rw [hw0']; exact (Keeps.refl _ _).alloc _
 have hB0 : Blk w0 w.heap.size 37 #[.int .i64 kd, .int .i64 kind, .int .i64 ag, .int .i64 sh, .int .i64 seq, .int .i64 ep, .slice Aa ds.length na, .string ser, .int .i64 efr, .int .i64 etg, .int .i64 tag, .int .i64 code, .int .u64 nn, .int .i64 term, .int .i64 had, .slice Ba log.length ka, .int .i64 commit, .int .i64 len] := by rw [hw0']; exact Blk.new w _ _
 obtain ⟨g5, Hg5⟩ : ∃ g5, Hid (g5 = w.heap.size) := ⟨_, rfl⟩
 rw [← Hg5.out] at hB0
 have Hk0 := Lib.hid hk0; have HB0 := Lib.hid hB0
 clear hk0 hB0
 show Calls Tryz.prog 10 #[.pointer (some ⟨r, 0, none⟩), .int .i64 fr, .agg #[.int .i64 kd, .int .i64 kind, .int .i64 ag, .int .i64 sh, .int .i64 seq, .int .i64 ep, .slice Aa ds.length na, .string ser, .int .i64 efr, .int .i64 etg, .int .i64 tag, .int .i64 code, .int .u64 nn, .int .i64 term, .int .i64 had, .slice Ba log.length ka, .int .i64 commit, .int .i64 len]] w _
 go_enter Tryz.func10, Tryz.ntmps10
 go_upto_region 1 with (fail)
 rw [← hw0', ← Hg5.out]
 clear hw0'
 have hmr := Lib.hid (HRi.out w0 Hk0.out)
 clear HRi
 go_wp2_with (refine wpList_load_g (by rfl) 37 (.tmp 5) rfl g5 0 rfl [.int .i64 kd, .int .i64 kind, .int .i64 ag, .int .i64 sh, .int .i64 seq, .int .i64 ep, .slice Aa ds.length na, .string ser, .int .i64 efr, .int .i64 etg, .int .i64 tag, .int .i64 code, .int .u64 nn, .int .i64 term, .int .i64 had, .slice Ba log.length ka, .int .i64 commit, .int .i64 len] _ (blk_range HB0.out) Tryz.underlying37 rfl (by kernel_rfl) ?_)
 refine hmr.out.mono ?_
 rintro e w1 ⟨rfl, hb1⟩
 have hk1 := Keeps.of_below (M := []) hb1
 have Hk1 : Hid (Keeps [] w w1) := Hk0.out.trans hk1 (by simp)
 have HB1 := Lib.hid (hk1.blk HB0.out (by simp))
 clear hk1 hb1 hmr HB0 Hk0
 have c0 := HB1.out.cell 0
 have c13 := HB1.out.cell 13
 have c17 := HB1.out.cell 17
 have f0 := HB1.out.frozen 0
 have hr1 := (rpcells HV0.out.2.choose_spec.2).1
 have hrg : w1.rangeAt g5 1 [.int .i64 kind, .int .i64 ag, .int .i64 sh, .int .i64 seq, .int .i64 ep, .slice Aa ds.length na, .string ser, .int .i64 efr, .int .i64 etg] := fun j v hj => by
  rw [HB1.out.cell (1 + j)]
  have hj9 : j < 9 := by have := (List.getElem?_eq_some_iff.1 hj).1; simpa using this
  obtain rfl | rfl | rfl | rfl | rfl | rfl | rfl | rfl | rfl := (by omega : j = 0 ∨ j = 1 ∨ j = 2 ∨ j = 3 ∨ j = 4 ∨ j = 5 ∨ j = 6 ∨ j = 7 ∨ j = 8) <;> simpa using hj
 have Hrg := Lib.hid hrg
 clear hrg hr1
 obtain ⟨C, HC, HV1⟩ : ∃ C, Hid (C.d = d) ∧ Hid (RpV w1 M tg r R C) := by obtain ⟨_, C, h1, h2⟩ := HRP.out _ Hk1.out; exact ⟨C, h1, h2⟩
 by_cases hr : rr = 0
 ·have hrd : ((rr : Int) != 0) = false := by simp [hr]
  have HU1 := Lib.hid <| HD.out.trans (HU.out.trans (if_neg (fun h => h hr)))
  clear HU HD
  by_cases hk1 : kd = 1
  ·have hb1 : (kd == 1) = true := by simp [hk1]
   have HP : Hid (∀ e w', ROPost M tg r d (rpAsk R fr ⟨kind, ag, sh, seq, ep, ds, ser, efr, etg⟩) w1 e w' → ROPost M tg r d (rpRecv R fr ⟨kd, ⟨kind, ag, sh, seq, ep, ds, ser, efr, etg⟩, tag, code, nn, term, had, log, commit, len⟩) w e w') := fun e w' hp => by
    refine HPd.out _ _ ?_
    rw [HU1.out, if_pos hk1]
    exact HFin.out _ Hk1.out _ _ _ hp
   have hc := Lib.hid (HAsk.out _ Hk1.out)
   clear HU1 hk1
   go_wp2_with (refine wpList_load_g (by rfl) 33 (.tmp 15) rfl g5 1 rfl [.int .i64 kind, .int .i64 ag, .int .i64 sh, .int .i64 seq, .int .i64 ep, .slice Aa ds.length na, .string ser, .int .i64 efr, .int .i64 etg] _ Hrg.out Tryz.underlying33 rfl (by kernel_rfl) ?_)
   with_reducible refine hc.out.mono ?_
   intro e w2 hp
   obtain ⟨x, rfl⟩ : ∃ x, e = .returned x := by obtain ⟨x, _, _, h1, _⟩ := hp; exact ⟨x, h1⟩
   have Hp := Lib.hid (HP.out _ _ hp)
   clear hp
   go_wp2_with fail
   go_ret
   exact Hp.out
  ·have hb1 : (kd == 1) = false := by simp [hk1]
   have HU2 := Lib.hid (HU1.out.trans (if_neg hk1))
   clear HU1 hk1
   have d0 := (rpcells HV1.out).1
   have d1 := (rpcells HV1.out).2.1
   have fr0 := HV1.out.blk.frozen 0
   by_cases hf1 : fr < 0
   ·have hx1 : decide (fr < 0) = true := decide_eq_true hf1
    have hP := Lib.hid (HPd.out _ _ (HNil.out _ Hk1.out (by rw [HU2.out, if_pos (.inl hf1)])))
    go_wp2_with fail
    go_ret
    exact hP.out
   by_cases hf2 : R.nodes ≤ fr
   ·have hx1 : decide (fr < 0) = false := decide_eq_false hf1
    have hx2 : decide (R.nodes ≤ fr) = true := decide_eq_true hf2
    have hP := Lib.hid (HPd.out _ _ (HNil.out _ Hk1.out (by rw [HU2.out, if_pos (.inr (.inl hf2))])))
    go_wp2_with fail
    go_ret
    exact hP.out
   by_cases hf3 : fr = R.node
   ·have hx1 : decide (fr < 0) = false := decide_eq_false hf1
    have hx2 : decide (R.nodes ≤ fr) = false := decide_eq_false hf2
    have hx3 : (fr == R.node) = true := by simp [hf3]
    have Hf3 := Lib.hid hf3
    clear hf3
    have hP := Lib.hid (HPd.out _ _ (HNil.out _ Hk1.out (by rw [HU2.out, if_pos (.inr (.inr Hf3.out))])))
    go_wp2_with fail
    go_ret
    exact hP.out
   have hx1 : decide (fr < 0) = false := decide_eq_false hf1
   have hx2 : decide (R.nodes ≤ fr) = false := decide_eq_false hf2
   have hx3 : (fr == R.node) = false := by simp [hf3]
   have HU3 := Lib.hid (HU2.out.trans (if_neg (fun h => h.elim hf1 (fun h => h.elim hf2 hf3))))
   clear HU2
   by_cases hk3 : kd = 3
   ·have hb3 : (kd == 3) = true := by simp [hk3]
    have HP : Hid (∀ e w', ROPost M tg r d (rpPrep R fr term) w1 e w' → ROPost M tg r d (rpRecv R fr ⟨kd, ⟨kind, ag, sh, seq, ep, ds, ser, efr, etg⟩, tag, code, nn, term, had, log, commit, len⟩) w e w') := fun e w' hp => by
     refine HPd.out _ _ ?_
     rw [HU3.out, if_pos hk3]
     exact HFin.out _ Hk1.out _ _ _ hp
    have hc := Lib.hid (HPrep.out _ Hk1.out)
    clear HU3 hk3
    go_wp2_with fail
    with_reducible refine hc.out.mono ?_
    intro e w2 hp
    obtain ⟨x, rfl⟩ : ∃ x, e = .returned x := by obtain ⟨x, _, _, h1, _⟩ := hp; exact ⟨x, h1⟩
    have Hp := Lib.hid (HP.out _ _ hp)
    clear hp
    go_wp2_with fail
    go_ret
    exact Hp.out
   have hb3 : (kd == 3) = false := by simp [hk3]
   have HU4 := Lib.hid (HU3.out.trans (if_neg hk3))
   clear HU3 hk3
   by_cases hk4 : kd = 4
   ·have hb4 : (kd == 4) = true := by simp [hk4]
    have HU5 := Lib.hid (HU4.out.trans (if_pos hk4))
    have Hlg := Lib.hid (HLg.out hr (by omega))
    clear HU4 hk4
    have d5 := (rpcells HV1.out).2.2.2.2.2.1
    cases hv : R.v with
    | none =>
     rw [hv] at d5
     have d5 : w1.cell? ⟨r, 5, none⟩ = some (.pointer none) := d5
     have HP : Hid (ROPost M tg r d (rpRecv R fr ⟨kd, ⟨kind, ag, sh, seq, ep, ds, ser, efr, etg⟩, tag, code, nn, term, had, log, commit, len⟩) w (.returned (.slice none 0 0)) w1.drew) := HPd.out _ _ (HNil.out _ Hk1.out.drew (by rw [HU5.out, hv]))
     go_upto_region 11 with (fail)
     refine wp_region_held_drew (S := (fun W => W.cell? ⟨r, 5, none⟩ = some (.pointer none))) (by kernel_rfl) d5 (fun hHeld => ?_)
     refine wpAnyH_take (i := 0) (oi := _) (v := ?v0u33) rfl (by kernel_rfl) (by kernel_rfl) (by kernel_rfl) (fun _ _ _ h => h) (Or.inl ⟨by rfl, ?y0u33⟩) (by assumption) ?r0u33
     case y0u33 => (intro w hSw; (have hS0 := hSw); go_simp <;> with_reducible rfl)
     try simp only [List.getElem_toArray, List.getElem_cons_succ, List.getElem_cons_zero, Act.put, List.setIfInBounds_toArray, List.set_cons_zero, List.set_cons_succ]
     refine wpAnyH_take (i := 1) (oi := _) (v := ?v1u34) rfl (by kernel_rfl) (by kernel_rfl) (by kernel_rfl) (fun _ _ _ h => h) (Or.inl ⟨by rfl, ?y1u34⟩) (by assumption) ?r1u34
     case y1u34 => (intro w hSw; (have hS0 := hSw); go_simp <;> with_reducible rfl)
     try simp only [List.getElem_toArray, List.getElem_cons_succ, List.getElem_cons_zero, Act.put, List.setIfInBounds_toArray, List.set_cons_zero, List.set_cons_succ]
     refine wpAnyH_take (i := 2) (oi := _) (v := ?v2u35) rfl (by kernel_rfl) (by kernel_rfl) (by kernel_rfl) (fun _ _ _ h => h) (Or.inl ⟨by rfl, ?y2u35⟩) (by assumption) ?r2u35
     case y2u35 => (intro w hSw; (have hS0 := hSw); go_simp <;> with_reducible rfl)
     try simp only [List.getElem_toArray, List.getElem_cons_succ, List.getElem_cons_zero, Act.put, List.setIfInBounds_toArray, List.set_cons_zero, List.set_cons_succ]
     refine wpAnyH_take (i := 3) (oi := _) (v := ?v3u36) rfl (by kernel_rfl) (by kernel_rfl) (by kernel_rfl) (fun _ _ _ h => h) (Or.inl ⟨by rfl, ?y3u36⟩) (by assumption) ?r3u36
     case y3u36 => (intro w hSw; (have hS0 := hSw); go_simp <;> with_reducible rfl)
     try simp only [List.getElem_toArray, List.getElem_cons_succ, List.getElem_cons_zero, Act.put, List.setIfInBounds_toArray, List.set_cons_zero, List.set_cons_succ]
     refine wpAnyH_take (i := 4) (oi := _) (v := ?v4u37) rfl (by kernel_rfl) (by kernel_rfl) (by kernel_rfl) (fun _ _ _ h => h) (Or.inl ⟨by rfl, ?y4u37⟩) (by assumption) ?r4u37
     case y4u37 => (intro w hSw; (have hS0 := hSw); go_simp <;> with_reducible rfl)
     try simp only [List.getElem_toArray, List.getElem_cons_succ, List.getElem_cons_zero, Act.put, List.setIfInBounds_toArray, List.set_cons_zero, List.set_cons_succ]
     refine wpAnyH_take (i := 5) (oi := _) (v := ?v5u38) rfl (by kernel_rfl) (by kernel_rfl) (by kernel_rfl) (fun _ _ _ h => h) (Or.inl ⟨by rfl, ?y5u38⟩) (by assumption) ?r5u38
     case y5u38 => (intro w hSw; (have hS0 := hSw); go_simp <;> with_reducible rfl)
     try simp only [List.getElem_toArray, List.getElem_cons_succ, List.getElem_cons_zero, Act.put, List.setIfInBounds_toArray, List.set_cons_zero, List.set_cons_succ]
     refine wpAnyH_take (i := 6) (oi := _) (v := undef) rfl (by kernel_rfl) (by kernel_rfl) (by kernel_rfl) (fun _ _ _ h => h) (Or.inr ⟨by rfl, rfl⟩) (by assumption) ?_
     try simp only [List.getElem_toArray, List.getElem_cons_succ, List.getElem_cons_zero, Act.put, List.setIfInBounds_toArray, List.set_cons_zero, List.set_cons_succ]
     refine wpAnyH_take (i := 7) (oi := _) (v := undef) rfl (by kernel_rfl) (by kernel_rfl) (by kernel_rfl) (fun _ _ _ h => h) (Or.inr ⟨by rfl, rfl⟩) (by assumption) ?_
     try simp only [List.getElem_toArray, List.getElem_cons_succ, List.getElem_cons_zero, Act.put, List.setIfInBounds_toArray, List.set_cons_zero, List.set_cons_succ]
     refine wpAnyH_take (i := 8) (oi := _) (v := undef) rfl (by kernel_rfl) (by kernel_rfl) (by kernel_rfl) (fun _ _ _ h => h) (Or.inr ⟨by rfl, rfl⟩) (by assumption) ?_
     try simp only [List.getElem_toArray, List.getElem_cons_succ, List.getElem_cons_zero, Act.put, List.setIfInBounds_toArray, List.set_cons_zero, List.set_cons_succ]
     refine wpAnyH_take (i := 9) (oi := _) (v := undef) rfl (by kernel_rfl) (by kernel_rfl) (by kernel_rfl) (fun _ _ _ h => h) (Or.inr ⟨by rfl, rfl⟩) (by assumption) ?_
     try simp only [List.getElem_toArray, List.getElem_cons_succ, List.getElem_cons_zero, Act.put, List.setIfInBounds_toArray, List.set_cons_zero, List.set_cons_succ]
     refine wpAnyH_take (i := 10) (oi := _) (v := undef) rfl (by kernel_rfl) (by kernel_rfl) (by kernel_rfl) (fun _ _ _ h => h) (Or.inr ⟨by rfl, rfl⟩) (by assumption) ?_
     try simp only [List.getElem_toArray, List.getElem_cons_succ, List.getElem_cons_zero, Act.put, List.setIfInBounds_toArray, List.set_cons_zero, List.set_cons_succ]
     refine wpAnyH_take (i := 11) (oi := _) (v := undef) rfl (by kernel_rfl) (by kernel_rfl) (by kernel_rfl) (fun _ _ _ h => h) (Or.inr ⟨by rfl, rfl⟩) (by assumption) ?_
     try simp only [List.getElem_toArray, List.getElem_cons_succ, List.getElem_cons_zero, Act.put, List.setIfInBounds_toArray, List.set_cons_zero, List.set_cons_succ]
     refine wpAnyH_take (i := 12) (oi := _) (v := undef) rfl (by kernel_rfl) (by kernel_rfl) (by kernel_rfl) (fun _ _ _ h => h) (Or.inr ⟨by rfl, rfl⟩) (by assumption) ?_
     try simp only [List.getElem_toArray, List.getElem_cons_succ, List.getElem_cons_zero, Act.put, List.setIfInBounds_toArray, List.set_cons_zero, List.set_cons_succ]
     refine wpAnyH_take (i := 13) (oi := _) (v := undef) rfl (by kernel_rfl) (by kernel_rfl) (by kernel_rfl) (fun _ _ _ h => h) (Or.inr ⟨by rfl, rfl⟩) (by assumption) ?_
     try simp only [List.getElem_toArray, List.getElem_cons_succ, List.getElem_cons_zero, Act.put, List.setIfInBounds_toArray, List.set_cons_zero, List.set_cons_succ]
     refine wpAnyH_take (i := 14) (oi := _) (v := ?v14u39) rfl (by kernel_rfl) (by kernel_rfl) (by kernel_rfl) (fun _ _ _ h => h) (Or.inl ⟨by rfl, ?y14u39⟩) (by assumption) ?r14u39
     case y14u39 => (intro w hSw; (have hS0 := hSw); go_simp <;> with_reducible rfl)
     try simp only [List.getElem_toArray, List.getElem_cons_succ, List.getElem_cons_zero, Act.put, List.setIfInBounds_toArray, List.set_cons_zero, List.set_cons_succ]
     refine wpAnyH_take (i := 15) (oi := _) (v := ?v15u40) rfl (by kernel_rfl) (by kernel_rfl) (by kernel_rfl) (fun _ _ _ h => h) (Or.inl ⟨by rfl, ?y15u40⟩) (by assumption) ?r15u40
     case y15u40 => (intro w hSw; (have hS0 := hSw); go_simp <;> with_reducible rfl)
     try simp only [List.getElem_toArray, List.getElem_cons_succ, List.getElem_cons_zero, Act.put, List.setIfInBounds_toArray, List.set_cons_zero, List.set_cons_succ]
     refine wpAnyH_take (i := 16) (oi := _) (v := undef) rfl (by kernel_rfl) (by kernel_rfl) (by kernel_rfl) (fun _ _ _ h => h) (Or.inr ⟨by rfl, rfl⟩) (by assumption) ?_
     try simp only [List.getElem_toArray, List.getElem_cons_succ, List.getElem_cons_zero, Act.put, List.setIfInBounds_toArray, List.set_cons_zero, List.set_cons_succ]
     refine wpAnyH_take (i := 17) (oi := _) (v := undef) rfl (by kernel_rfl) (by kernel_rfl) (by kernel_rfl) (fun _ _ _ h => h) (Or.inr ⟨by rfl, rfl⟩) (by assumption) ?_
     try simp only [List.getElem_toArray, List.getElem_cons_succ, List.getElem_cons_zero, Act.put, List.setIfInBounds_toArray, List.set_cons_zero, List.set_cons_succ]
     refine wpAnyH_take (i := 18) (oi := _) (v := undef) rfl (by kernel_rfl) (by kernel_rfl) (by kernel_rfl) (fun _ _ _ h => h) (Or.inr ⟨by rfl, rfl⟩) (by assumption) ?_
     try simp only [List.getElem_toArray, List.getElem_cons_succ, List.getElem_cons_zero, Act.put, List.setIfInBounds_toArray, List.set_cons_zero, List.set_cons_succ]
     refine wpAnyH_take (i := 19) (oi := _) (v := undef) rfl (by kernel_rfl) (by kernel_rfl) (by kernel_rfl) (fun _ _ _ h => h) (Or.inr ⟨by rfl, rfl⟩) (by assumption) ?_
     try simp only [List.getElem_toArray, List.getElem_cons_succ, List.getElem_cons_zero, Act.put, List.setIfInBounds_toArray, List.set_cons_zero, List.set_cons_succ]
     refine wpAnyH_take (i := 20) (oi := _) (v := undef) rfl (by kernel_rfl) (by kernel_rfl) (by kernel_rfl) (fun _ _ _ h => h) (Or.inr ⟨by rfl, rfl⟩) (by assumption) ?_
     try simp only [List.getElem_toArray, List.getElem_cons_succ, List.getElem_cons_zero, Act.put, List.setIfInBounds_toArray, List.set_cons_zero, List.set_cons_succ]
     refine wpAnyH_take (i := 21) (oi := _) (v := undef) rfl (by kernel_rfl) (by kernel_rfl) (by kernel_rfl) (fun _ _ _ h => h) (Or.inr ⟨by rfl, rfl⟩) (by assumption) ?_
     try simp only [List.getElem_toArray, List.getElem_cons_succ, List.getElem_cons_zero, Act.put, List.setIfInBounds_toArray, List.set_cons_zero, List.set_cons_succ]
     refine wpAnyH_take (i := 22) (oi := _) (v := ?v22u41) rfl (by kernel_rfl) (by kernel_rfl) (by kernel_rfl) (fun _ _ _ h => h) (Or.inl ⟨by rfl, ?y22u41⟩) (by assumption) ?r22u41
     case y22u41 => (intro w hSw; (have hS0 := hSw); go_simp <;> with_reducible rfl)
     try simp only [List.getElem_toArray, List.getElem_cons_succ, List.getElem_cons_zero, Act.put, List.setIfInBounds_toArray, List.set_cons_zero, List.set_cons_succ]
     refine wpAnyH_take (i := 23) (oi := _) (v := ?v23u42) rfl (by kernel_rfl) (by kernel_rfl) (by kernel_rfl) (fun _ _ _ h => h) (Or.inl ⟨by rfl, ?y23u42⟩) (by assumption) ?r23u42
     case y23u42 => (intro w hSw; (have hS0 := hSw); go_simp <;> with_reducible rfl)
     try simp only [List.getElem_toArray, List.getElem_cons_succ, List.getElem_cons_zero, Act.put, List.setIfInBounds_toArray, List.set_cons_zero, List.set_cons_succ]
     refine wpAnyH_take (i := 24) (oi := _) (v := undef) rfl (by kernel_rfl) (by kernel_rfl) (by kernel_rfl) (fun _ _ _ h => h) (Or.inr ⟨by rfl, rfl⟩) (by assumption) ?_
     try simp only [List.getElem_toArray, List.getElem_cons_succ, List.getElem_cons_zero, Act.put, List.setIfInBounds_toArray, List.set_cons_zero, List.set_cons_succ]
     refine wpAnyH_take (i := 25) (oi := _) (v := undef) rfl (by kernel_rfl) (by kernel_rfl) (by kernel_rfl) (fun _ _ _ h => h) (Or.inr ⟨by rfl, rfl⟩) (by assumption) ?_
     try simp only [List.getElem_toArray, List.getElem_cons_succ, List.getElem_cons_zero, Act.put, List.setIfInBounds_toArray, List.set_cons_zero, List.set_cons_succ]
     refine wpAnyH_take (i := 26) (oi := _) (v := undef) rfl (by kernel_rfl) (by kernel_rfl) (by kernel_rfl) (fun _ _ _ h => h) (Or.inr ⟨by rfl, rfl⟩) (by assumption) ?_
     try simp only [List.getElem_toArray, List.getElem_cons_succ, List.getElem_cons_zero, Act.put, List.setIfInBounds_toArray, List.set_cons_zero, List.set_cons_succ]
     refine wpAnyH_take (i := 27) (oi := _) (v := undef) rfl (by kernel_rfl) (by kernel_rfl) (by kernel_rfl) (fun _ _ _ h => h) (Or.inr ⟨by rfl, rfl⟩) (by assumption) ?_
     try simp only [List.getElem_toArray, List.getElem_cons_succ, List.getElem_cons_zero, Act.put, List.setIfInBounds_toArray, List.set_cons_zero, List.set_cons_succ]
     refine wpAnyH_take (i := 28) (oi := _) (v := undef) rfl (by kernel_rfl) (by kernel_rfl) (by kernel_rfl) (fun _ _ _ h => h) (Or.inr ⟨by rfl, rfl⟩) (by assumption) ?_
     try simp only [List.getElem_toArray, List.getElem_cons_succ, List.getElem_cons_zero, Act.put, List.setIfInBounds_toArray, List.set_cons_zero, List.set_cons_succ]
     refine wpAnyH_take (i := 29) (oi := _) (v := undef) rfl (by kernel_rfl) (by kernel_rfl) (by kernel_rfl) (fun _ _ _ h => h) (Or.inr ⟨by rfl, rfl⟩) (by assumption) ?_
     try simp only [List.getElem_toArray, List.getElem_cons_succ, List.getElem_cons_zero, Act.put, List.setIfInBounds_toArray, List.set_cons_zero, List.set_cons_succ]
     refine wpAnyH_take (i := 30) (oi := _) (v := undef) rfl (by kernel_rfl) (by kernel_rfl) (by kernel_rfl) (fun _ _ _ h => h) (Or.inr ⟨by rfl, rfl⟩) (by assumption) ?_
     try simp only [List.getElem_toArray, List.getElem_cons_succ, List.getElem_cons_zero, Act.put, List.setIfInBounds_toArray, List.set_cons_zero, List.set_cons_succ]
     refine wpAnyH_take (i := 31) (oi := _) (v := undef) rfl (by kernel_rfl) (by kernel_rfl) (by kernel_rfl) (fun _ _ _ h => h) (Or.inr ⟨by rfl, rfl⟩) (by assumption) ?_
     try simp only [List.getElem_toArray, List.getElem_cons_succ, List.getElem_cons_zero, Act.put, List.setIfInBounds_toArray, List.set_cons_zero, List.set_cons_succ]
     refine wpAnyH_take (i := 32) (oi := _) (v := undef) rfl (by kernel_rfl) (by kernel_rfl) (by kernel_rfl) (fun _ _ _ h => h) (Or.inr ⟨by rfl, rfl⟩) (by assumption) ?_
     try simp only [List.getElem_toArray, List.getElem_cons_succ, List.getElem_cons_zero, Act.put, List.setIfInBounds_toArray, List.set_cons_zero, List.set_cons_succ]
     refine wpAnyH_take (i := 33) (oi := _) (v := undef) rfl (by kernel_rfl) (by kernel_rfl) (by kernel_rfl) (fun _ _ _ h => h) (Or.inr ⟨by rfl, rfl⟩) (by assumption) ?_
     try simp only [List.getElem_toArray, List.getElem_cons_succ, List.getElem_cons_zero, Act.put, List.setIfInBounds_toArray, List.set_cons_zero, List.set_cons_succ]
     refine wpAnyH_take (i := 34) (oi := _) (v := ?v34u43) rfl (by kernel_rfl) (by kernel_rfl) (by kernel_rfl) (fun _ _ _ h => h) (Or.inl ⟨by rfl, ?y34u43⟩) (by assumption) ?r34u43
     case y34u43 => (intro w hSw; (have hS0 := hSw); go_simp <;> with_reducible rfl)
     try simp only [List.getElem_toArray, List.getElem_cons_succ, List.getElem_cons_zero, Act.put, List.setIfInBounds_toArray, List.set_cons_zero, List.set_cons_succ]
     refine wpAnyH_done (by kernel_rfl) ?_ _
     clear hHeld
     clear d5 hv
     go_wp2_with fail
     go_ret
     exact HP.out
    | some v =>
     rw [hv] at d5
     have d5 : w1.cell? ⟨r, 5, none⟩ = some (.pointer (some ⟨C.vb, 0, none⟩)) := d5
     obtain ⟨vb, hvb⟩ : ∃ vb, vb = C.vb := ⟨_, rfl⟩
     rw [← hvb] at d5
     have Hva : Hid (VoteAt w1 M vb v ∧ vb ∈ M ∧ tg vb = 6) := by rw [hvb]; exact HV1.out.vt v hv
     have Hvo := Lib.hid (HV0.out.1.2.2.2.2.2.1 v hv)
     have Hn8 := Lib.hid HV0.out.1.1
     have HVn := Lib.hid (vt_n Hvo.out Hva.out.1.l1)
     have HT : Hid (∀ W, Keeps [] w1 W → Calls Tryz.prog 41 #[.pointer (some ⟨vb, 0, none⟩)] W fun e w' => e = .returned (.int .i64 v.term) ∧ W = w') := fun W hk => Lead.vterm_any M vb v W (Hva.out.1.keep hk (by simp) (by simp))
     obtain ⟨wb, Hwb⟩ : ∃ wb, Hid (wb = wonS v) := ⟨_, rfl⟩
     have HWn : Hid (∀ W, Keeps [] w1 W → Calls Tryz.prog 42 #[.pointer (some ⟨vb, 0, none⟩)] W fun e w' => e = .returned (.bool wb) ∧ ∃ n, w' = W.drewN n) := fun W hk => by rw [Hwb.out]; exact Lead.won_any M vb v W (Hva.out.1.keep hk (by simp) (by simp)) HVn.out.1 (by have := HVn.out.2; omega)
     have HPm : Hid (∀ W, Keeps [] w1 W → Calls Tryz.prog 33 #[.pointer (some ⟨vb, 0, none⟩), .int .i64 fr, .int .i64 had, .slice Ba log.length ka] W fun e w' => e = .returned (.bool (promiseS v fr had log).1) ∧ VoteAt w' M vb (promiseS v fr had log).2 ∧ Keeps [vb] W w') := fun W hk => by
      have hk2 : Keeps [] w W := Hk1.out.trans hk (by simp)
      exact Lead.promise_any M vb v fr had _ log W (Hva.out.1.keep hk (by simp) (by simp)) (HLt.out W hk2) ((HMs.out W hk2).2.avoid (fun g hg => by rcases List.mem_cons.1 hg with rfl | hg; exact .inl Hva.out.2.1; exact .inl hg)) ⟨by have := Hlg.out.1; omega, fun e he => by have := eok_ds8 (Hlg.out.2 e he); omega⟩ (by rw [Hvo.out.1]; exact Hn8.out.2) HVn.out.1 HVn.out.2
     have HPv : Hid (VtOk R.nodes (promiseS v fr had log).2) := promise_vt Hvo.out Hn8.out.2 Hva.out.1.l1 fr had log Hlg.out.1 Hlg.out.2
     have HS11 : Hid (∀ W, Keeps [] w1 W → W.cell? ⟨r, 5, none⟩ = some (.pointer (some ⟨vb, 0, none⟩)) ∧ W.cell? ⟨g5, 13, none⟩ = some (.int .i64 term) ∧ W.cell? ⟨g5, 14, none⟩ = some (.int .i64 had) ∧ W.cell? ⟨g5, 15, none⟩ = some (.slice Ba log.length ka)) := fun W hk => ⟨(hk.cell (p := ⟨r, 5, none⟩) HV1.out.blk.lt (by simp)).trans d5, (hk.cell (p := ⟨g5, 13, none⟩) HB1.out.lt (by simp)).trans c13, (hk.cell (p := ⟨g5, 14, none⟩) HB1.out.lt (by simp)).trans (HB1.out.cell 14), (hk.cell (p := ⟨g5, 15, none⟩) HB1.out.lt (by simp)).trans (HB1.out.cell 15)⟩
     have HU8 : Hid (rpRecv R fr mm = if v.term = term ∧ wb = false then (if (promiseS v fr had log).1 = true then rpWon { R with v := some (promiseS v fr had log).2 } (promiseS v fr had log).2 else ({ R with v := some (promiseS v fr had log).2 }, [])) else (R, [])) := by show _ = _; rw [HU5.out, hv, Hwb.out]
     have Hvv := Lib.hid hv
     have Hvb := Lib.hid hvb
     clear hvb d5 hv HU5 Hlg HVn
     by_cases hte : v.term = term
     ·have hbt : (v.term == term) = true := by simp [hte]
      have Hte := Lib.hid hte
      clear hte
      cases wb with
      | true =>
       have HP : Hid (∀ W, Keeps [] w1 W → ROPost M tg r d (rpRecv R fr ⟨kd, ⟨kind, ag, sh, seq, ep, ds, ser, efr, etg⟩, tag, code, nn, term, had, log, commit, len⟩) w (.returned (.slice none 0 0)) W) := fun W hk => HPd.out _ _ (HNil.out _ (Hk1.out.trans hk (by simp)) (HU8.out.trans (if_neg (fun h => nomatch h.2))))
       clear HU8 HPm HPv
       go_upto_region 11 with (fail)
       refine wp_region_held_drew (S := (fun W => W.cell? ⟨r, 5, none⟩ = some (.pointer (some ⟨vb, 0, none⟩)) ∧ W.cell? ⟨g5, 13, none⟩ = some (.int .i64 term) ∧ W.cell? ⟨g5, 14, none⟩ = some (.int .i64 had) ∧ W.cell? ⟨g5, 15, none⟩ = some (.slice Ba log.length ka))) (by kernel_rfl) (HS11.out _ (Keeps.refl _ _).drew) (fun hHeld => ?_)
       refine wpAnyH_take (i := 0) (oi := _) (v := ?v0u62) rfl (by kernel_rfl) (by kernel_rfl) (by kernel_rfl) (fun _ _ _ h => h) (Or.inl ⟨by rfl, ?y0u62⟩) (by assumption) ?r0u62
       case y0u62 => (intro w hSw; (obtain ⟨hS0, hS1, hS2, hS3⟩ := hSw); go_simp <;> with_reducible rfl)
       try simp only [List.getElem_toArray, List.getElem_cons_succ, List.getElem_cons_zero, Act.put, List.setIfInBounds_toArray, List.set_cons_zero, List.set_cons_succ]
       refine wpAnyH_take (i := 1) (oi := _) (v := ?v1u63) rfl (by kernel_rfl) (by kernel_rfl) (by kernel_rfl) (fun _ _ _ h => h) (Or.inl ⟨by rfl, ?y1u63⟩) (by assumption) ?r1u63
       case y1u63 => (intro w hSw; (obtain ⟨hS0, hS1, hS2, hS3⟩ := hSw); go_simp <;> with_reducible rfl)
       try simp only [List.getElem_toArray, List.getElem_cons_succ, List.getElem_cons_zero, Act.put, List.setIfInBounds_toArray, List.set_cons_zero, List.set_cons_succ]
       refine wpAnyH_take (i := 2) (oi := _) (v := ?v2u64) rfl (by kernel_rfl) (by kernel_rfl) (by kernel_rfl) (fun _ _ _ h => h) (Or.inl ⟨by rfl, ?y2u64⟩) (by assumption) ?r2u64
       case y2u64 => (intro w hSw; (obtain ⟨hS0, hS1, hS2, hS3⟩ := hSw); go_simp <;> with_reducible rfl)
       try simp only [List.getElem_toArray, List.getElem_cons_succ, List.getElem_cons_zero, Act.put, List.setIfInBounds_toArray, List.set_cons_zero, List.set_cons_succ]
       refine wpAnyH_take (i := 3) (oi := _) (v := ?v3u65) rfl (by kernel_rfl) (by kernel_rfl) (by kernel_rfl) (fun _ _ _ h => h) (Or.inl ⟨by rfl, ?y3u65⟩) (by assumption) ?r3u65
       case y3u65 => (intro w hSw; (obtain ⟨hS0, hS1, hS2, hS3⟩ := hSw); go_simp <;> with_reducible rfl)
       try simp only [List.getElem_toArray, List.getElem_cons_succ, List.getElem_cons_zero, Act.put, List.setIfInBounds_toArray, List.set_cons_zero, List.set_cons_succ]
       refine wpAnyH_take (i := 4) (oi := _) (v := ?v4u66) rfl (by kernel_rfl) (by kernel_rfl) (by kernel_rfl) (fun _ _ _ h => h) (Or.inl ⟨by rfl, ?y4u66⟩) (by assumption) ?r4u66
       case y4u66 => (intro w hSw; (obtain ⟨hS0, hS1, hS2, hS3⟩ := hSw); go_simp <;> with_reducible rfl)
       try simp only [List.getElem_toArray, List.getElem_cons_succ, List.getElem_cons_zero, Act.put, List.setIfInBounds_toArray, List.set_cons_zero, List.set_cons_succ]
       refine wpAnyH_take (i := 5) (oi := _) (v := ?v5u67) rfl (by kernel_rfl) (by kernel_rfl) (by kernel_rfl) (fun _ _ _ h => h) (Or.inl ⟨by rfl, ?y5u67⟩) (by assumption) ?r5u67
       case y5u67 => (intro w hSw; (obtain ⟨hS0, hS1, hS2, hS3⟩ := hSw); go_simp <;> with_reducible rfl)
       try simp only [List.getElem_toArray, List.getElem_cons_succ, List.getElem_cons_zero, Act.put, List.setIfInBounds_toArray, List.set_cons_zero, List.set_cons_succ]
       refine wpAnyH_take (i := 6) (oi := _) (v := ?v6u68) rfl (by kernel_rfl) (by kernel_rfl) (by kernel_rfl) (fun _ _ _ h => h) (Or.inl ⟨by rfl, ?y6u68⟩) (by assumption) ?r6u68
       case y6u68 => (intro w hSw; (obtain ⟨hS0, hS1, hS2, hS3⟩ := hSw); go_simp <;> with_reducible rfl)
       try simp only [List.getElem_toArray, List.getElem_cons_succ, List.getElem_cons_zero, Act.put, List.setIfInBounds_toArray, List.set_cons_zero, List.set_cons_succ]
       refine wpAnyH_take (i := 7) (oi := _) (v := ?v7u69) rfl (by kernel_rfl) (by kernel_rfl) (by kernel_rfl) (fun _ _ _ h => h) (Or.inl ⟨by rfl, ?y7u69⟩) (by assumption) ?r7u69
       case y7u69 => (intro w hSw; (obtain ⟨hS0, hS1, hS2, hS3⟩ := hSw); go_simp <;> with_reducible rfl)
       try simp only [List.getElem_toArray, List.getElem_cons_succ, List.getElem_cons_zero, Act.put, List.setIfInBounds_toArray, List.set_cons_zero, List.set_cons_succ]
       refine wpAnyH_take (i := 8) (oi := _) (v := ?v8u70) rfl (by kernel_rfl) (by kernel_rfl) (by kernel_rfl) (fun _ _ _ h => h) (Or.inl ⟨by rfl, ?y8u70⟩) (by assumption) ?r8u70
       case y8u70 => (intro w hSw; (obtain ⟨hS0, hS1, hS2, hS3⟩ := hSw); go_simp <;> with_reducible rfl)
       try simp only [List.getElem_toArray, List.getElem_cons_succ, List.getElem_cons_zero, Act.put, List.setIfInBounds_toArray, List.set_cons_zero, List.set_cons_succ]
       refine wpAnyH_take (i := 9) (oi := _) (v := ?v9u71) rfl (by kernel_rfl) (by kernel_rfl) (by kernel_rfl) (fun _ _ _ h => h) (Or.inl ⟨by rfl, ?y9u71⟩) (by assumption) ?r9u71
       case y9u71 => (intro w hSw; (obtain ⟨hS0, hS1, hS2, hS3⟩ := hSw); go_simp <;> with_reducible rfl)
       try simp only [List.getElem_toArray, List.getElem_cons_succ, List.getElem_cons_zero, Act.put, List.setIfInBounds_toArray, List.set_cons_zero, List.set_cons_succ]
       refine wpAnyH_take (i := 11) (oi := _) (v := ?v11u72) rfl (by kernel_rfl) (by kernel_rfl) (by kernel_rfl) (fun _ _ _ h => h) (Or.inl ⟨by rfl, ?y11u72⟩) (by assumption) ?r11u72
       case y11u72 => (intro w hSw; (obtain ⟨hS0, hS1, hS2, hS3⟩ := hSw); go_simp <;> with_reducible rfl)
       try simp only [List.getElem_toArray, List.getElem_cons_succ, List.getElem_cons_zero, Act.put, List.setIfInBounds_toArray, List.set_cons_zero, List.set_cons_succ]
       refine wpAnyH_take (i := 12) (oi := _) (v := ?v12u73) rfl (by kernel_rfl) (by kernel_rfl) (by kernel_rfl) (fun _ _ _ h => h) (Or.inl ⟨by rfl, ?y12u73⟩) (by assumption) ?r12u73
       case y12u73 => (intro w hSw; (obtain ⟨hS0, hS1, hS2, hS3⟩ := hSw); go_simp <;> with_reducible rfl)
       try simp only [List.getElem_toArray, List.getElem_cons_succ, List.getElem_cons_zero, Act.put, List.setIfInBounds_toArray, List.set_cons_zero, List.set_cons_succ]
       refine wpAnyH_ready (rs := [10]) (by kernel_rfl) (by simp) ?_
       refine AllReadyH.cons (o := _) rfl (fun K hK => ?_) AllReadyH.nil
       go_simp
       refine (HT.out _ (Keeps.refl _ _).drew).mono ?_
       rintro e wl ⟨rfl, rfl⟩
       refine hK.out _ _ (HS11.out _ (Keeps.refl _ _).drew) (fun hHeld2 => ?_)
       clear hK K hHeld
       have hHeld := hHeld2
       clear hHeld2
       try simp only [List.getElem_toArray, List.getElem_cons_succ, List.getElem_cons_zero, Act.put, List.setIfInBounds_toArray, List.set_cons_zero, List.set_cons_succ]
       refine wpAnyH_take (i := 13) (oi := _) (v := ?v13u74) rfl (by kernel_rfl) (by kernel_rfl) (by kernel_rfl) (fun _ _ _ h => h) (Or.inl ⟨by rfl, ?y13u74⟩) (by assumption) ?r13u74
       case y13u74 => (intro w hSw; (obtain ⟨hS0, hS1, hS2, hS3⟩ := hSw); go_simp <;> with_reducible rfl)
       try simp only [List.getElem_toArray, List.getElem_cons_succ, List.getElem_cons_zero, Act.put, List.setIfInBounds_toArray, List.set_cons_zero, List.set_cons_succ]
       refine wpAnyH_take (i := 14) (oi := _) (v := ?v14u75) rfl (by kernel_rfl) (by kernel_rfl) (by kernel_rfl) (fun _ _ _ h => h) (Or.inl ⟨by rfl, ?y14u75⟩) (by assumption) ?r14u75
       case y14u75 => (intro w hSw; (obtain ⟨hS0, hS1, hS2, hS3⟩ := hSw); go_simp <;> with_reducible rfl)
       try simp only [List.getElem_toArray, List.getElem_cons_succ, List.getElem_cons_zero, Act.put, List.setIfInBounds_toArray, List.set_cons_zero, List.set_cons_succ]
       refine wpAnyH_take (i := 15) (oi := _) (v := ?v15u76) rfl (by kernel_rfl) (by kernel_rfl) (by kernel_rfl) (fun _ _ _ h => h) (Or.inl ⟨by rfl, ?y15u76⟩) (by assumption) ?r15u76
       case y15u76 => (intro w hSw; (obtain ⟨hS0, hS1, hS2, hS3⟩ := hSw); go_simp <;> with_reducible rfl)
       try simp only [List.getElem_toArray, List.getElem_cons_succ, List.getElem_cons_zero, Act.put, List.setIfInBounds_toArray, List.set_cons_zero, List.set_cons_succ]
       refine wpAnyH_take (i := 16) (oi := _) (v := ?v16u77) rfl (by kernel_rfl) (by kernel_rfl) (by kernel_rfl) (fun _ _ _ h => h) (Or.inl ⟨by rfl, ?y16u77⟩) (by assumption) ?r16u77
       case y16u77 => (intro w hSw; (obtain ⟨hS0, hS1, hS2, hS3⟩ := hSw); go_simp <;> with_reducible rfl)
       try simp only [List.getElem_toArray, List.getElem_cons_succ, List.getElem_cons_zero, Act.put, List.setIfInBounds_toArray, List.set_cons_zero, List.set_cons_succ]
       refine wpAnyH_take (i := 17) (oi := _) (v := ?v17u78) rfl (by kernel_rfl) (by kernel_rfl) (by kernel_rfl) (fun _ _ _ h => h) (Or.inl ⟨by rfl, ?y17u78⟩) (by assumption) ?r17u78
       case y17u78 => (intro w hSw; (obtain ⟨hS0, hS1, hS2, hS3⟩ := hSw); go_simp <;> with_reducible rfl)
       try simp only [List.getElem_toArray, List.getElem_cons_succ, List.getElem_cons_zero, Act.put, List.setIfInBounds_toArray, List.set_cons_zero, List.set_cons_succ]
       refine wpAnyH_take (i := 18) (oi := _) (v := ?v18u79) rfl (by kernel_rfl) (by kernel_rfl) (by kernel_rfl) (fun _ _ _ h => h) (Or.inl ⟨by rfl, ?y18u79⟩) (by assumption) ?r18u79
       case y18u79 => (intro w hSw; (obtain ⟨hS0, hS1, hS2, hS3⟩ := hSw); go_simp <;> with_reducible rfl)
       try simp only [List.getElem_toArray, List.getElem_cons_succ, List.getElem_cons_zero, Act.put, List.setIfInBounds_toArray, List.set_cons_zero, List.set_cons_succ]
       refine wpAnyH_take (i := 19) (oi := _) (v := ?v19u80) rfl (by kernel_rfl) (by kernel_rfl) (by kernel_rfl) (fun _ _ _ h => h) (Or.inl ⟨by rfl, ?y19u80⟩) (by assumption) ?r19u80
       case y19u80 => (intro w hSw; (obtain ⟨hS0, hS1, hS2, hS3⟩ := hSw); go_simp <;> with_reducible rfl)
       try simp only [List.getElem_toArray, List.getElem_cons_succ, List.getElem_cons_zero, Act.put, List.setIfInBounds_toArray, List.set_cons_zero, List.set_cons_succ]
       refine wpAnyH_ready (rs := [20]) (by kernel_rfl) (by simp) ?_
       refine AllReadyH.cons (o := _) rfl (fun K hK => ?_) AllReadyH.nil
       go_simp
       refine (HWn.out _ (Keeps.refl _ _).drew).mono ?_
       rintro e wl ⟨rfl, n9, hwl⟩
       have Hkw : Hid (Keeps [] w1 wl) := by rw [hwl]; exact (Keeps.refl _ _).drew.drewN _
       clear hwl
       refine hK.out _ _ (HS11.out _ Hkw.out) (fun hHeld2 => ?_)
       clear hK K hHeld
       have hHeld := hHeld2
       clear hHeld2
       try simp only [List.getElem_toArray, List.getElem_cons_succ, List.getElem_cons_zero, Act.put, List.setIfInBounds_toArray, List.set_cons_zero, List.set_cons_succ]
       refine wpAnyH_take (i := 21) (oi := _) (v := ?v21u81) rfl (by kernel_rfl) (by kernel_rfl) (by kernel_rfl) (fun _ _ _ h => h) (Or.inl ⟨by rfl, ?y21u81⟩) (by assumption) ?r21u81
       case y21u81 => (intro w hSw; (obtain ⟨hS0, hS1, hS2, hS3⟩ := hSw); go_simp <;> with_reducible rfl)
       try simp only [List.getElem_toArray, List.getElem_cons_succ, List.getElem_cons_zero, Act.put, List.setIfInBounds_toArray, List.set_cons_zero, List.set_cons_succ]
       refine wpAnyH_take (i := 22) (oi := _) (v := ?v22u82) rfl (by kernel_rfl) (by kernel_rfl) (by kernel_rfl) (fun _ _ _ h => h) (Or.inl ⟨by rfl, ?y22u82⟩) (by assumption) ?r22u82
       case y22u82 => (intro w hSw; (obtain ⟨hS0, hS1, hS2, hS3⟩ := hSw); go_simp <;> with_reducible rfl)
       try simp only [List.getElem_toArray, List.getElem_cons_succ, List.getElem_cons_zero, Act.put, List.setIfInBounds_toArray, List.set_cons_zero, List.set_cons_succ]
       refine wpAnyH_take (i := 23) (oi := _) (v := ?v23u83) rfl (by kernel_rfl) (by kernel_rfl) (by kernel_rfl) (fun _ _ _ h => h) (Or.inl ⟨by rfl, ?y23u83⟩) (by assumption) ?r23u83
       case y23u83 => (intro w hSw; (obtain ⟨hS0, hS1, hS2, hS3⟩ := hSw); go_simp <;> with_reducible rfl)
       try simp only [List.getElem_toArray, List.getElem_cons_succ, List.getElem_cons_zero, Act.put, List.setIfInBounds_toArray, List.set_cons_zero, List.set_cons_succ]
       refine wpAnyH_take (i := 24) (oi := _) (v := undef) rfl (by kernel_rfl) (by kernel_rfl) (by kernel_rfl) (fun _ _ _ h => h) (Or.inr ⟨by rfl, rfl⟩) (by assumption) ?_
       try simp only [List.getElem_toArray, List.getElem_cons_succ, List.getElem_cons_zero, Act.put, List.setIfInBounds_toArray, List.set_cons_zero, List.set_cons_succ]
       refine wpAnyH_take (i := 25) (oi := _) (v := undef) rfl (by kernel_rfl) (by kernel_rfl) (by kernel_rfl) (fun _ _ _ h => h) (Or.inr ⟨by rfl, rfl⟩) (by assumption) ?_
       try simp only [List.getElem_toArray, List.getElem_cons_succ, List.getElem_cons_zero, Act.put, List.setIfInBounds_toArray, List.set_cons_zero, List.set_cons_succ]
       refine wpAnyH_take (i := 26) (oi := _) (v := undef) rfl (by kernel_rfl) (by kernel_rfl) (by kernel_rfl) (fun _ _ _ h => h) (Or.inr ⟨by rfl, rfl⟩) (by assumption) ?_
       try simp only [List.getElem_toArray, List.getElem_cons_succ, List.getElem_cons_zero, Act.put, List.setIfInBounds_toArray, List.set_cons_zero, List.set_cons_succ]
       refine wpAnyH_take (i := 27) (oi := _) (v := undef) rfl (by kernel_rfl) (by kernel_rfl) (by kernel_rfl) (fun _ _ _ h => h) (Or.inr ⟨by rfl, rfl⟩) (by assumption) ?_
       try simp only [List.getElem_toArray, List.getElem_cons_succ, List.getElem_cons_zero, Act.put, List.setIfInBounds_toArray, List.set_cons_zero, List.set_cons_succ]
       refine wpAnyH_take (i := 28) (oi := _) (v := undef) rfl (by kernel_rfl) (by kernel_rfl) (by kernel_rfl) (fun _ _ _ h => h) (Or.inr ⟨by rfl, rfl⟩) (by assumption) ?_
       try simp only [List.getElem_toArray, List.getElem_cons_succ, List.getElem_cons_zero, Act.put, List.setIfInBounds_toArray, List.set_cons_zero, List.set_cons_succ]
       refine wpAnyH_take (i := 29) (oi := _) (v := undef) rfl (by kernel_rfl) (by kernel_rfl) (by kernel_rfl) (fun _ _ _ h => h) (Or.inr ⟨by rfl, rfl⟩) (by assumption) ?_
       try simp only [List.getElem_toArray, List.getElem_cons_succ, List.getElem_cons_zero, Act.put, List.setIfInBounds_toArray, List.set_cons_zero, List.set_cons_succ]
       refine wpAnyH_take (i := 30) (oi := _) (v := undef) rfl (by kernel_rfl) (by kernel_rfl) (by kernel_rfl) (fun _ _ _ h => h) (Or.inr ⟨by rfl, rfl⟩) (by assumption) ?_
       try simp only [List.getElem_toArray, List.getElem_cons_succ, List.getElem_cons_zero, Act.put, List.setIfInBounds_toArray, List.set_cons_zero, List.set_cons_succ]
       refine wpAnyH_take (i := 31) (oi := _) (v := undef) rfl (by kernel_rfl) (by kernel_rfl) (by kernel_rfl) (fun _ _ _ h => h) (Or.inr ⟨by rfl, rfl⟩) (by assumption) ?_
       try simp only [List.getElem_toArray, List.getElem_cons_succ, List.getElem_cons_zero, Act.put, List.setIfInBounds_toArray, List.set_cons_zero, List.set_cons_succ]
       refine wpAnyH_take (i := 32) (oi := _) (v := undef) rfl (by kernel_rfl) (by kernel_rfl) (by kernel_rfl) (fun _ _ _ h => h) (Or.inr ⟨by rfl, rfl⟩) (by assumption) ?_
       try simp only [List.getElem_toArray, List.getElem_cons_succ, List.getElem_cons_zero, Act.put, List.setIfInBounds_toArray, List.set_cons_zero, List.set_cons_succ]
       refine wpAnyH_take (i := 33) (oi := _) (v := undef) rfl (by kernel_rfl) (by kernel_rfl) (by kernel_rfl) (fun _ _ _ h => h) (Or.inr ⟨by rfl, rfl⟩) (by assumption) ?_
       try simp only [List.getElem_toArray, List.getElem_cons_succ, List.getElem_cons_zero, Act.put, List.setIfInBounds_toArray, List.set_cons_zero, List.set_cons_succ]
       refine wpAnyH_take (i := 34) (oi := _) (v := ?v34u84) rfl (by kernel_rfl) (by kernel_rfl) (by kernel_rfl) (fun _ _ _ h => h) (Or.inl ⟨by rfl, ?y34u84⟩) (by assumption) ?r34u84
       case y34u84 => (intro w hSw; (obtain ⟨hS0, hS1, hS2, hS3⟩ := hSw); go_simp <;> with_reducible rfl)
       try simp only [List.getElem_toArray, List.getElem_cons_succ, List.getElem_cons_zero, Act.put, List.setIfInBounds_toArray, List.set_cons_zero, List.set_cons_succ]
       refine wpAnyH_done (by kernel_rfl) ?_ _
       clear hHeld
       go_wp2_with fail
       go_ret
       exact HP.out _ Hkw.out
      | false =>
       have HU9 := Lib.hid (HU8.out.trans (if_pos ⟨Hte.out, rfl⟩))
       clear HU8
       generalize promiseS v fr had log = PP at *
       obtain ⟨pb, pv⟩ := PP
       simp only [] at HU9 HPv HPm
       go_upto_region 11 with (fail)
       refine wp_region_held_drew (S := (fun W => W.cell? ⟨r, 5, none⟩ = some (.pointer (some ⟨vb, 0, none⟩)) ∧ W.cell? ⟨g5, 13, none⟩ = some (.int .i64 term) ∧ W.cell? ⟨g5, 14, none⟩ = some (.int .i64 had) ∧ W.cell? ⟨g5, 15, none⟩ = some (.slice Ba log.length ka))) (by kernel_rfl) (HS11.out _ (Keeps.refl _ _).drew) (fun hHeld => ?_)
       refine wpAnyH_take (i := 0) (oi := _) (v := ?v0u85) rfl (by kernel_rfl) (by kernel_rfl) (by kernel_rfl) (fun _ _ _ h => h) (Or.inl ⟨by rfl, ?y0u85⟩) (by assumption) ?r0u85
       case y0u85 => (intro w hSw; (obtain ⟨hS0, hS1, hS2, hS3⟩ := hSw); go_simp <;> with_reducible rfl)
       try simp only [List.getElem_toArray, List.getElem_cons_succ, List.getElem_cons_zero, Act.put, List.setIfInBounds_toArray, List.set_cons_zero, List.set_cons_succ]
       refine wpAnyH_take (i := 1) (oi := _) (v := ?v1u86) rfl (by kernel_rfl) (by kernel_rfl) (by kernel_rfl) (fun _ _ _ h => h) (Or.inl ⟨by rfl, ?y1u86⟩) (by assumption) ?r1u86
       case y1u86 => (intro w hSw; (obtain ⟨hS0, hS1, hS2, hS3⟩ := hSw); go_simp <;> with_reducible rfl)
       try simp only [List.getElem_toArray, List.getElem_cons_succ, List.getElem_cons_zero, Act.put, List.setIfInBounds_toArray, List.set_cons_zero, List.set_cons_succ]
       refine wpAnyH_take (i := 2) (oi := _) (v := ?v2u87) rfl (by kernel_rfl) (by kernel_rfl) (by kernel_rfl) (fun _ _ _ h => h) (Or.inl ⟨by rfl, ?y2u87⟩) (by assumption) ?r2u87
       case y2u87 => (intro w hSw; (obtain ⟨hS0, hS1, hS2, hS3⟩ := hSw); go_simp <;> with_reducible rfl)
       try simp only [List.getElem_toArray, List.getElem_cons_succ, List.getElem_cons_zero, Act.put, List.setIfInBounds_toArray, List.set_cons_zero, List.set_cons_succ]
       refine wpAnyH_take (i := 3) (oi := _) (v := ?v3u88) rfl (by kernel_rfl) (by kernel_rfl) (by kernel_rfl) (fun _ _ _ h => h) (Or.inl ⟨by rfl, ?y3u88⟩) (by assumption) ?r3u88
       case y3u88 => (intro w hSw; (obtain ⟨hS0, hS1, hS2, hS3⟩ := hSw); go_simp <;> with_reducible rfl)
       try simp only [List.getElem_toArray, List.getElem_cons_succ, List.getElem_cons_zero, Act.put, List.setIfInBounds_toArray, List.set_cons_zero, List.set_cons_succ]
       refine wpAnyH_take (i := 4) (oi := _) (v := ?v4u89) rfl (by kernel_rfl) (by kernel_rfl) (by kernel_rfl) (fun _ _ _ h => h) (Or.inl ⟨by rfl, ?y4u89⟩) (by assumption) ?r4u89
       case y4u89 => (intro w hSw; (obtain ⟨hS0, hS1, hS2, hS3⟩ := hSw); go_simp <;> with_reducible rfl)
       try simp only [List.getElem_toArray, List.getElem_cons_succ, List.getElem_cons_zero, Act.put, List.setIfInBounds_toArray, List.set_cons_zero, List.set_cons_succ]
       refine wpAnyH_take (i := 5) (oi := _) (v := ?v5u90) rfl (by kernel_rfl) (by kernel_rfl) (by kernel_rfl) (fun _ _ _ h => h) (Or.inl ⟨by rfl, ?y5u90⟩) (by assumption) ?r5u90
       case y5u90 => (intro w hSw; (obtain ⟨hS0, hS1, hS2, hS3⟩ := hSw); go_simp <;> with_reducible rfl)
       try simp only [List.getElem_toArray, List.getElem_cons_succ, List.getElem_cons_zero, Act.put, List.setIfInBounds_toArray, List.set_cons_zero, List.set_cons_succ]
       refine wpAnyH_take (i := 6) (oi := _) (v := ?v6u91) rfl (by kernel_rfl) (by kernel_rfl) (by kernel_rfl) (fun _ _ _ h => h) (Or.inl ⟨by rfl, ?y6u91⟩) (by assumption) ?r6u91
       case y6u91 => (intro w hSw; (obtain ⟨hS0, hS1, hS2, hS3⟩ := hSw); go_simp <;> with_reducible rfl)
       try simp only [List.getElem_toArray, List.getElem_cons_succ, List.getElem_cons_zero, Act.put, List.setIfInBounds_toArray, List.set_cons_zero, List.set_cons_succ]
       refine wpAnyH_take (i := 7) (oi := _) (v := ?v7u92) rfl (by kernel_rfl) (by kernel_rfl) (by kernel_rfl) (fun _ _ _ h => h) (Or.inl ⟨by rfl, ?y7u92⟩) (by assumption) ?r7u92
       case y7u92 => (intro w hSw; (obtain ⟨hS0, hS1, hS2, hS3⟩ := hSw); go_simp <;> with_reducible rfl)
       try simp only [List.getElem_toArray, List.getElem_cons_succ, List.getElem_cons_zero, Act.put, List.setIfInBounds_toArray, List.set_cons_zero, List.set_cons_succ]
       refine wpAnyH_take (i := 8) (oi := _) (v := ?v8u93) rfl (by kernel_rfl) (by kernel_rfl) (by kernel_rfl) (fun _ _ _ h => h) (Or.inl ⟨by rfl, ?y8u93⟩) (by assumption) ?r8u93
       case y8u93 => (intro w hSw; (obtain ⟨hS0, hS1, hS2, hS3⟩ := hSw); go_simp <;> with_reducible rfl)
       try simp only [List.getElem_toArray, List.getElem_cons_succ, List.getElem_cons_zero, Act.put, List.setIfInBounds_toArray, List.set_cons_zero, List.set_cons_succ]
       refine wpAnyH_take (i := 9) (oi := _) (v := ?v9u94) rfl (by kernel_rfl) (by kernel_rfl) (by kernel_rfl) (fun _ _ _ h => h) (Or.inl ⟨by rfl, ?y9u94⟩) (by assumption) ?r9u94
       case y9u94 => (intro w hSw; (obtain ⟨hS0, hS1, hS2, hS3⟩ := hSw); go_simp <;> with_reducible rfl)
       try simp only [List.getElem_toArray, List.getElem_cons_succ, List.getElem_cons_zero, Act.put, List.setIfInBounds_toArray, List.set_cons_zero, List.set_cons_succ]
       refine wpAnyH_take (i := 11) (oi := _) (v := ?v11u95) rfl (by kernel_rfl) (by kernel_rfl) (by kernel_rfl) (fun _ _ _ h => h) (Or.inl ⟨by rfl, ?y11u95⟩) (by assumption) ?r11u95
       case y11u95 => (intro w hSw; (obtain ⟨hS0, hS1, hS2, hS3⟩ := hSw); go_simp <;> with_reducible rfl)
       try simp only [List.getElem_toArray, List.getElem_cons_succ, List.getElem_cons_zero, Act.put, List.setIfInBounds_toArray, List.set_cons_zero, List.set_cons_succ]
       refine wpAnyH_take (i := 12) (oi := _) (v := ?v12u96) rfl (by kernel_rfl) (by kernel_rfl) (by kernel_rfl) (fun _ _ _ h => h) (Or.inl ⟨by rfl, ?y12u96⟩) (by assumption) ?r12u96
       case y12u96 => (intro w hSw; (obtain ⟨hS0, hS1, hS2, hS3⟩ := hSw); go_simp <;> with_reducible rfl)
       try simp only [List.getElem_toArray, List.getElem_cons_succ, List.getElem_cons_zero, Act.put, List.setIfInBounds_toArray, List.set_cons_zero, List.set_cons_succ]
       refine wpAnyH_ready (rs := [10]) (by kernel_rfl) (by simp) ?_
       refine AllReadyH.cons (o := _) rfl (fun K hK => ?_) AllReadyH.nil
       go_simp
       refine (HT.out _ (Keeps.refl _ _).drew).mono ?_
       rintro e wl ⟨rfl, rfl⟩
       refine hK.out _ _ (HS11.out _ (Keeps.refl _ _).drew) (fun hHeld2 => ?_)
       clear hK K hHeld
       have hHeld := hHeld2
       clear hHeld2
       try simp only [List.getElem_toArray, List.getElem_cons_succ, List.getElem_cons_zero, Act.put, List.setIfInBounds_toArray, List.set_cons_zero, List.set_cons_succ]
       refine wpAnyH_take (i := 13) (oi := _) (v := ?v13u97) rfl (by kernel_rfl) (by kernel_rfl) (by kernel_rfl) (fun _ _ _ h => h) (Or.inl ⟨by rfl, ?y13u97⟩) (by assumption) ?r13u97
       case y13u97 => (intro w hSw; (obtain ⟨hS0, hS1, hS2, hS3⟩ := hSw); go_simp <;> with_reducible rfl)
       try simp only [List.getElem_toArray, List.getElem_cons_succ, List.getElem_cons_zero, Act.put, List.setIfInBounds_toArray, List.set_cons_zero, List.set_cons_succ]
       refine wpAnyH_take (i := 14) (oi := _) (v := ?v14u98) rfl (by kernel_rfl) (by kernel_rfl) (by kernel_rfl) (fun _ _ _ h => h) (Or.inl ⟨by rfl, ?y14u98⟩) (by assumption) ?r14u98
       case y14u98 => (intro w hSw; (obtain ⟨hS0, hS1, hS2, hS3⟩ := hSw); go_simp <;> with_reducible rfl)
       try simp only [List.getElem_toArray, List.getElem_cons_succ, List.getElem_cons_zero, Act.put, List.setIfInBounds_toArray, List.set_cons_zero, List.set_cons_succ]
       refine wpAnyH_take (i := 15) (oi := _) (v := ?v15u99) rfl (by kernel_rfl) (by kernel_rfl) (by kernel_rfl) (fun _ _ _ h => h) (Or.inl ⟨by rfl, ?y15u99⟩) (by assumption) ?r15u99
       case y15u99 => (intro w hSw; (obtain ⟨hS0, hS1, hS2, hS3⟩ := hSw); go_simp <;> with_reducible rfl)
       try simp only [List.getElem_toArray, List.getElem_cons_succ, List.getElem_cons_zero, Act.put, List.setIfInBounds_toArray, List.set_cons_zero, List.set_cons_succ]
       refine wpAnyH_take (i := 16) (oi := _) (v := ?v16u100) rfl (by kernel_rfl) (by kernel_rfl) (by kernel_rfl) (fun _ _ _ h => h) (Or.inl ⟨by rfl, ?y16u100⟩) (by assumption) ?r16u100
       case y16u100 => (intro w hSw; (obtain ⟨hS0, hS1, hS2, hS3⟩ := hSw); go_simp <;> with_reducible rfl)
       try simp only [List.getElem_toArray, List.getElem_cons_succ, List.getElem_cons_zero, Act.put, List.setIfInBounds_toArray, List.set_cons_zero, List.set_cons_succ]
       refine wpAnyH_take (i := 17) (oi := _) (v := ?v17u101) rfl (by kernel_rfl) (by kernel_rfl) (by kernel_rfl) (fun _ _ _ h => h) (Or.inl ⟨by rfl, ?y17u101⟩) (by assumption) ?r17u101
       case y17u101 => (intro w hSw; (obtain ⟨hS0, hS1, hS2, hS3⟩ := hSw); go_simp <;> with_reducible rfl)
       try simp only [List.getElem_toArray, List.getElem_cons_succ, List.getElem_cons_zero, Act.put, List.setIfInBounds_toArray, List.set_cons_zero, List.set_cons_succ]
       refine wpAnyH_take (i := 18) (oi := _) (v := ?v18u102) rfl (by kernel_rfl) (by kernel_rfl) (by kernel_rfl) (fun _ _ _ h => h) (Or.inl ⟨by rfl, ?y18u102⟩) (by assumption) ?r18u102
       case y18u102 => (intro w hSw; (obtain ⟨hS0, hS1, hS2, hS3⟩ := hSw); go_simp <;> with_reducible rfl)
       try simp only [List.getElem_toArray, List.getElem_cons_succ, List.getElem_cons_zero, Act.put, List.setIfInBounds_toArray, List.set_cons_zero, List.set_cons_succ]
       refine wpAnyH_take (i := 19) (oi := _) (v := ?v19u103) rfl (by kernel_rfl) (by kernel_rfl) (by kernel_rfl) (fun _ _ _ h => h) (Or.inl ⟨by rfl, ?y19u103⟩) (by assumption) ?r19u103
       case y19u103 => (intro w hSw; (obtain ⟨hS0, hS1, hS2, hS3⟩ := hSw); go_simp <;> with_reducible rfl)
       try simp only [List.getElem_toArray, List.getElem_cons_succ, List.getElem_cons_zero, Act.put, List.setIfInBounds_toArray, List.set_cons_zero, List.set_cons_succ]
       refine wpAnyH_ready (rs := [20]) (by kernel_rfl) (by simp) ?_
       refine AllReadyH.cons (o := _) rfl (fun K hK => ?_) AllReadyH.nil
       go_simp
       refine (HWn.out _ (Keeps.refl _ _).drew).mono ?_
       rintro e wl ⟨rfl, n9, hwl⟩
       have Hkw : Hid (Keeps [] w1 wl) := by rw [hwl]; exact (Keeps.refl _ _).drew.drewN _
       clear hwl
       refine hK.out _ _ (HS11.out _ Hkw.out) (fun hHeld2 => ?_)
       clear hK K hHeld
       have hHeld := hHeld2
       clear hHeld2
       try simp only [List.getElem_toArray, List.getElem_cons_succ, List.getElem_cons_zero, Act.put, List.setIfInBounds_toArray, List.set_cons_zero, List.set_cons_succ]
       refine wpAnyH_take (i := 21) (oi := _) (v := ?v21u104) rfl (by kernel_rfl) (by kernel_rfl) (by kernel_rfl) (fun _ _ _ h => h) (Or.inl ⟨by rfl, ?y21u104⟩) (by assumption) ?r21u104
       case y21u104 => (intro w hSw; (obtain ⟨hS0, hS1, hS2, hS3⟩ := hSw); go_simp <;> with_reducible rfl)
       try simp only [List.getElem_toArray, List.getElem_cons_succ, List.getElem_cons_zero, Act.put, List.setIfInBounds_toArray, List.set_cons_zero, List.set_cons_succ]
       refine wpAnyH_take (i := 22) (oi := _) (v := ?v22u105) rfl (by kernel_rfl) (by kernel_rfl) (by kernel_rfl) (fun _ _ _ h => h) (Or.inl ⟨by rfl, ?y22u105⟩) (by assumption) ?r22u105
       case y22u105 => (intro w hSw; (obtain ⟨hS0, hS1, hS2, hS3⟩ := hSw); go_simp <;> with_reducible rfl)
       try simp only [List.getElem_toArray, List.getElem_cons_succ, List.getElem_cons_zero, Act.put, List.setIfInBounds_toArray, List.set_cons_zero, List.set_cons_succ]
       refine wpAnyH_take (i := 23) (oi := _) (v := ?v23u106) rfl (by kernel_rfl) (by kernel_rfl) (by kernel_rfl) (fun _ _ _ h => h) (Or.inl ⟨by rfl, ?y23u106⟩) (by assumption) ?r23u106
       case y23u106 => (intro w hSw; (obtain ⟨hS0, hS1, hS2, hS3⟩ := hSw); go_simp <;> with_reducible rfl)
       try simp only [List.getElem_toArray, List.getElem_cons_succ, List.getElem_cons_zero, Act.put, List.setIfInBounds_toArray, List.set_cons_zero, List.set_cons_succ]
       refine wpAnyH_take (i := 24) (oi := _) (v := ?v24u107) rfl (by kernel_rfl) (by kernel_rfl) (by kernel_rfl) (fun _ _ _ h => h) (Or.inl ⟨by rfl, ?y24u107⟩) (by assumption) ?r24u107
       case y24u107 => (intro w hSw; (obtain ⟨hS0, hS1, hS2, hS3⟩ := hSw); go_simp <;> with_reducible rfl)
       try simp only [List.getElem_toArray, List.getElem_cons_succ, List.getElem_cons_zero, Act.put, List.setIfInBounds_toArray, List.set_cons_zero, List.set_cons_succ]
       refine wpAnyH_take (i := 25) (oi := _) (v := ?v25u108) rfl (by kernel_rfl) (by kernel_rfl) (by kernel_rfl) (fun _ _ _ h => h) (Or.inl ⟨by rfl, ?y25u108⟩) (by assumption) ?r25u108
       case y25u108 => (intro w hSw; (obtain ⟨hS0, hS1, hS2, hS3⟩ := hSw); go_simp <;> with_reducible rfl)
       try simp only [List.getElem_toArray, List.getElem_cons_succ, List.getElem_cons_zero, Act.put, List.setIfInBounds_toArray, List.set_cons_zero, List.set_cons_succ]
       refine wpAnyH_take (i := 26) (oi := _) (v := ?v26u109) rfl (by kernel_rfl) (by kernel_rfl) (by kernel_rfl) (fun _ _ _ h => h) (Or.inl ⟨by rfl, ?y26u109⟩) (by assumption) ?r26u109
       case y26u109 => (intro w hSw; (obtain ⟨hS0, hS1, hS2, hS3⟩ := hSw); go_simp <;> with_reducible rfl)
       try simp only [List.getElem_toArray, List.getElem_cons_succ, List.getElem_cons_zero, Act.put, List.setIfInBounds_toArray, List.set_cons_zero, List.set_cons_succ]
       refine wpAnyH_take (i := 27) (oi := _) (v := ?v27u110) rfl (by kernel_rfl) (by kernel_rfl) (by kernel_rfl) (fun _ _ _ h => h) (Or.inl ⟨by rfl, ?y27u110⟩) (by assumption) ?r27u110
       case y27u110 => (intro w hSw; (obtain ⟨hS0, hS1, hS2, hS3⟩ := hSw); go_simp <;> with_reducible rfl)
       try simp only [List.getElem_toArray, List.getElem_cons_succ, List.getElem_cons_zero, Act.put, List.setIfInBounds_toArray, List.set_cons_zero, List.set_cons_succ]
       refine wpAnyH_take (i := 28) (oi := _) (v := ?v28u111) rfl (by kernel_rfl) (by kernel_rfl) (by kernel_rfl) (fun _ _ _ h => h) (Or.inl ⟨by rfl, ?y28u111⟩) (by assumption) ?r28u111
       case y28u111 => (intro w hSw; (obtain ⟨hS0, hS1, hS2, hS3⟩ := hSw); go_simp <;> with_reducible rfl)
       try simp only [List.getElem_toArray, List.getElem_cons_succ, List.getElem_cons_zero, Act.put, List.setIfInBounds_toArray, List.set_cons_zero, List.set_cons_succ]
       refine wpAnyH_take (i := 29) (oi := _) (v := ?v29u112) rfl (by kernel_rfl) (by kernel_rfl) (by kernel_rfl) (fun _ _ _ h => h) (Or.inl ⟨by rfl, ?y29u112⟩) (by assumption) ?r29u112
       case y29u112 => (intro w hSw; (obtain ⟨hS0, hS1, hS2, hS3⟩ := hSw); go_simp <;> with_reducible rfl)
       try simp only [List.getElem_toArray, List.getElem_cons_succ, List.getElem_cons_zero, Act.put, List.setIfInBounds_toArray, List.set_cons_zero, List.set_cons_succ]
       refine wpAnyH_take (i := 30) (oi := _) (v := ?v30u113) rfl (by kernel_rfl) (by kernel_rfl) (by kernel_rfl) (fun _ _ _ h => h) (Or.inl ⟨by rfl, ?y30u113⟩) (by assumption) ?r30u113
       case y30u113 => (intro w hSw; (obtain ⟨hS0, hS1, hS2, hS3⟩ := hSw); go_simp <;> with_reducible rfl)
       try simp only [List.getElem_toArray, List.getElem_cons_succ, List.getElem_cons_zero, Act.put, List.setIfInBounds_toArray, List.set_cons_zero, List.set_cons_succ]
       refine wpAnyH_take (i := 31) (oi := _) (v := ?v31u114) rfl (by kernel_rfl) (by kernel_rfl) (by kernel_rfl) (fun _ _ _ h => h) (Or.inl ⟨by rfl, ?y31u114⟩) (by assumption) ?r31u114
       case y31u114 => (intro w hSw; (obtain ⟨hS0, hS1, hS2, hS3⟩ := hSw); go_simp <;> with_reducible rfl)
       try simp only [List.getElem_toArray, List.getElem_cons_succ, List.getElem_cons_zero, Act.put, List.setIfInBounds_toArray, List.set_cons_zero, List.set_cons_succ]
       refine wpAnyH_take (i := 32) (oi := _) (v := ?v32u115) rfl (by kernel_rfl) (by kernel_rfl) (by kernel_rfl) (fun _ _ _ h => h) (Or.inl ⟨by rfl, ?y32u115⟩) (by assumption) ?r32u115
       case y32u115 => (intro w hSw; (obtain ⟨hS0, hS1, hS2, hS3⟩ := hSw); go_simp <;> with_reducible rfl)
       try simp only [List.getElem_toArray, List.getElem_cons_succ, List.getElem_cons_zero, Act.put, List.setIfInBounds_toArray, List.set_cons_zero, List.set_cons_succ]
       refine wpAnyH_ready (rs := [33]) (by kernel_rfl) (by simp) ?_
       refine AllReadyH.cons (o := _) rfl (fun K hK => ?_) AllReadyH.nil
       go_simp
       refine (HPm.out _ Hkw.out).mono ?_
       rintro e w2 ⟨rfl, hva2, hk2⟩
       have Hva2 := Lib.hid hva2; have Hk2 := Lib.hid hk2
       have hne : r ≠ vb := fun e => by have h1 := HV1.out.tr; rw [e, Hva.out.2.2] at h1; omega
       have hge : g5 ≠ vb := fun e => by have h1 := HMl.out vb Hva.out.2.1; have h2 := Hg5.out; omega
       have HS12 : Hid (w2.cell? ⟨r, 5, none⟩ = some (.pointer (some ⟨vb, 0, none⟩)) ∧ w2.cell? ⟨g5, 13, none⟩ = some (.int .i64 term) ∧ w2.cell? ⟨g5, 14, none⟩ = some (.int .i64 had) ∧ w2.cell? ⟨g5, 15, none⟩ = some (.slice Ba log.length ka)) := by
        have h1 := HS11.out _ Hkw.out
        have hr5 := Nat.lt_of_lt_of_le HV1.out.blk.lt Hkw.out.size
        have hg5 := Nat.lt_of_lt_of_le HB1.out.lt Hkw.out.size
        exact ⟨(hk2.cell (p := ⟨r, 5, none⟩) hr5 (by simp; exact hne)).trans h1.1, (hk2.cell (p := ⟨g5, 13, none⟩) hg5 (by simp; exact hge)).trans h1.2.1, (hk2.cell (p := ⟨g5, 14, none⟩) hg5 (by simp; exact hge)).trans h1.2.2.1, (hk2.cell (p := ⟨g5, 15, none⟩) hg5 (by simp; exact hge)).trans h1.2.2.2⟩
       clear hva2 hk2 hne hge
       refine hK.out _ _ HS12.out (fun hHeld2 => ?_)
       clear hK K hHeld
       have hHeld := hHeld2
       clear hHeld2
       try simp only [List.getElem_toArray, List.getElem_cons_succ, List.getElem_cons_zero, Act.put, List.setIfInBounds_toArray, List.set_cons_zero, List.set_cons_succ]
       refine wpAnyH_take (i := 34) (oi := _) (v := ?v34u116) rfl (by kernel_rfl) (by kernel_rfl) (by kernel_rfl) (fun _ _ _ h => h) (Or.inl ⟨by rfl, ?y34u116⟩) (by assumption) ?r34u116
       case y34u116 => (intro w hSw; (obtain ⟨hS0, hS1, hS2, hS3⟩ := hSw); go_simp <;> with_reducible rfl)
       try simp only [List.getElem_toArray, List.getElem_cons_succ, List.getElem_cons_zero, Act.put, List.setIfInBounds_toArray, List.set_cons_zero, List.set_cons_succ]
       refine wpAnyH_done (by kernel_rfl) ?_ _
       clear hHeld
       obtain ⟨a1, a2, a3⟩ := (HV1.out.keep0 (HLt.out _ Hk1.out) Hkw.out).setV (HLt.out _ (Hk1.out.trans Hkw.out (by simp))) Hvv.out (by rw [← Hvb.out]; exact Hk2.out) (by rw [← Hvb.out]; exact Hva2.out)
       have hok2 : RpOk { R with v := some pv } := ⟨HV0.out.1.1, HV0.out.1.2.1, HV0.out.1.2.2.1, HV0.out.1.2.2.2.1, HV0.out.1.2.2.2.2.1, fun x hx => (by injection hx with hx; subst hx; exact HPv.out), fun _ => rfl⟩
       have HRA2 : Hid (RpAt w2 M tg r d { R with v := some pv }) := ⟨hok2, C, HC.out, a1⟩
       have hkw : Keeps [] w wl := Hk1.out.trans Hkw.out (by simp)
       have HX2 : Hid (Ext w M tg w2 M tg ∧ Keeps (sel M tg (List.range 30)) w w2) := ⟨(HX.out _ hkw).1.trans a2 hkw.size, Ext.keeps (HX.out _ hkw).1 (HX.out _ hkw).2 (a3.sel_mono (by simp))⟩
       have Hm2 : Hid (w2.cell? ⟨0, 0, none⟩ = some (.int .i64 mx)) := (HX2.out.2.cell (p := ⟨0, 0, none⟩) hw0 (fun hm => H0.out (mem_sel.1 hm).1)).trans (Hmx.out _ (Keeps.refl _ _))
       clear a1 a2 a3 hok2 hkw
       cases pb with
       | true =>
        have hc := Lib.hid (rpwon_any HRA2.out HX2.out.1.lt H0.out (show R.ap = R.com from Hap.out) pv rfl mx Hm2.out)
        have HP : Hid (∀ e w', ROPost M tg r d (rpWon { R with v := some pv } pv) w2 e w' → ROPost M tg r d (rpRecv R fr ⟨kd, ⟨kind, ag, sh, seq, ep, ds, ser, efr, etg⟩, tag, code, nn, term, had, log, commit, len⟩) w e w') := fun e w' hp => by
         refine HPd.out _ _ ?_
         rw [HU9.out]
         simp only [if_true]
         exact ROPost.base hp HX2.out.1 HX2.out.2
        clear HU9
        go_wp2_with fail
        with_reducible refine hc.out.mono ?_
        intro e w3 hp
        obtain ⟨x, rfl⟩ : ∃ x, e = .returned x := by obtain ⟨x, _, _, h1, _⟩ := hp; exact ⟨x, h1⟩
        have Hp := Lib.hid (HP.out _ _ hp)
        clear hp
        go_wp2_with fail
        go_ret
        exact Hp.out
       | false =>
        have HP : Hid (ROPost M tg r d (rpRecv R fr ⟨kd, ⟨kind, ag, sh, seq, ep, ds, ser, efr, etg⟩, tag, code, nn, term, had, log, commit, len⟩) w (.returned (.slice none 0 0)) w2) := by
         refine HPd.out _ _ ?_
         rw [HU9.out]
         simp only [Bool.false_eq_true, if_false]
         exact ROPost.nil HRA2.out HX2.out.1 HX2.out.2
        clear HU9
        go_wp2_with fail
        go_ret
        exact HP.out
     ·have hbt : (v.term == term) = false := by simp [hte]
      have HP : Hid (ROPost M tg r d (rpRecv R fr ⟨kd, ⟨kind, ag, sh, seq, ep, ds, ser, efr, etg⟩, tag, code, nn, term, had, log, commit, len⟩) w (.returned (.slice none 0 0)) w1.drew) := HPd.out _ _ (HNil.out _ Hk1.out.drew (HU8.out.trans (if_neg (fun h => hte h.1))))
      clear HU8 hte HPm HPv
      go_upto_region 11 with (fail)
      refine wp_region_held_drew (S := (fun W => W.cell? ⟨r, 5, none⟩ = some (.pointer (some ⟨vb, 0, none⟩)) ∧ W.cell? ⟨g5, 13, none⟩ = some (.int .i64 term) ∧ W.cell? ⟨g5, 14, none⟩ = some (.int .i64 had) ∧ W.cell? ⟨g5, 15, none⟩ = some (.slice Ba log.length ka))) (by kernel_rfl) (HS11.out _ (Keeps.refl _ _).drew) (fun hHeld => ?_)
      refine wpAnyH_take (i := 0) (oi := _) (v := ?v0u44) rfl (by kernel_rfl) (by kernel_rfl) (by kernel_rfl) (fun _ _ _ h => h) (Or.inl ⟨by rfl, ?y0u44⟩) (by assumption) ?r0u44
      case y0u44 => (intro w hSw; (obtain ⟨hS0, hS1, hS2, hS3⟩ := hSw); go_simp <;> with_reducible rfl)
      try simp only [List.getElem_toArray, List.getElem_cons_succ, List.getElem_cons_zero, Act.put, List.setIfInBounds_toArray, List.set_cons_zero, List.set_cons_succ]
      refine wpAnyH_take (i := 1) (oi := _) (v := ?v1u45) rfl (by kernel_rfl) (by kernel_rfl) (by kernel_rfl) (fun _ _ _ h => h) (Or.inl ⟨by rfl, ?y1u45⟩) (by assumption) ?r1u45
      case y1u45 => (intro w hSw; (obtain ⟨hS0, hS1, hS2, hS3⟩ := hSw); go_simp <;> with_reducible rfl)
      try simp only [List.getElem_toArray, List.getElem_cons_succ, List.getElem_cons_zero, Act.put, List.setIfInBounds_toArray, List.set_cons_zero, List.set_cons_succ]
      refine wpAnyH_take (i := 2) (oi := _) (v := ?v2u46) rfl (by kernel_rfl) (by kernel_rfl) (by kernel_rfl) (fun _ _ _ h => h) (Or.inl ⟨by rfl, ?y2u46⟩) (by assumption) ?r2u46
      case y2u46 => (intro w hSw; (obtain ⟨hS0, hS1, hS2, hS3⟩ := hSw); go_simp <;> with_reducible rfl)
      try simp only [List.getElem_toArray, List.getElem_cons_succ, List.getElem_cons_zero, Act.put, List.setIfInBounds_toArray, List.set_cons_zero, List.set_cons_succ]
      refine wpAnyH_take (i := 3) (oi := _) (v := ?v3u47) rfl (by kernel_rfl) (by kernel_rfl) (by kernel_rfl) (fun _ _ _ h => h) (Or.inl ⟨by rfl, ?y3u47⟩) (by assumption) ?r3u47
      case y3u47 => (intro w hSw; (obtain ⟨hS0, hS1, hS2, hS3⟩ := hSw); go_simp <;> with_reducible rfl)
      try simp only [List.getElem_toArray, List.getElem_cons_succ, List.getElem_cons_zero, Act.put, List.setIfInBounds_toArray, List.set_cons_zero, List.set_cons_succ]
      refine wpAnyH_take (i := 4) (oi := _) (v := ?v4u48) rfl (by kernel_rfl) (by kernel_rfl) (by kernel_rfl) (fun _ _ _ h => h) (Or.inl ⟨by rfl, ?y4u48⟩) (by assumption) ?r4u48
      case y4u48 => (intro w hSw; (obtain ⟨hS0, hS1, hS2, hS3⟩ := hSw); go_simp <;> with_reducible rfl)
      try simp only [List.getElem_toArray, List.getElem_cons_succ, List.getElem_cons_zero, Act.put, List.setIfInBounds_toArray, List.set_cons_zero, List.set_cons_succ]
      refine wpAnyH_take (i := 5) (oi := _) (v := ?v5u49) rfl (by kernel_rfl) (by kernel_rfl) (by kernel_rfl) (fun _ _ _ h => h) (Or.inl ⟨by rfl, ?y5u49⟩) (by assumption) ?r5u49
      case y5u49 => (intro w hSw; (obtain ⟨hS0, hS1, hS2, hS3⟩ := hSw); go_simp <;> with_reducible rfl)
      try simp only [List.getElem_toArray, List.getElem_cons_succ, List.getElem_cons_zero, Act.put, List.setIfInBounds_toArray, List.set_cons_zero, List.set_cons_succ]
      refine wpAnyH_take (i := 6) (oi := _) (v := ?v6u50) rfl (by kernel_rfl) (by kernel_rfl) (by kernel_rfl) (fun _ _ _ h => h) (Or.inl ⟨by rfl, ?y6u50⟩) (by assumption) ?r6u50
      case y6u50 => (intro w hSw; (obtain ⟨hS0, hS1, hS2, hS3⟩ := hSw); go_simp <;> with_reducible rfl)
      try simp only [List.getElem_toArray, List.getElem_cons_succ, List.getElem_cons_zero, Act.put, List.setIfInBounds_toArray, List.set_cons_zero, List.set_cons_succ]
      refine wpAnyH_take (i := 7) (oi := _) (v := ?v7u51) rfl (by kernel_rfl) (by kernel_rfl) (by kernel_rfl) (fun _ _ _ h => h) (Or.inl ⟨by rfl, ?y7u51⟩) (by assumption) ?r7u51
      case y7u51 => (intro w hSw; (obtain ⟨hS0, hS1, hS2, hS3⟩ := hSw); go_simp <;> with_reducible rfl)
      try simp only [List.getElem_toArray, List.getElem_cons_succ, List.getElem_cons_zero, Act.put, List.setIfInBounds_toArray, List.set_cons_zero, List.set_cons_succ]
      refine wpAnyH_take (i := 8) (oi := _) (v := ?v8u52) rfl (by kernel_rfl) (by kernel_rfl) (by kernel_rfl) (fun _ _ _ h => h) (Or.inl ⟨by rfl, ?y8u52⟩) (by assumption) ?r8u52
      case y8u52 => (intro w hSw; (obtain ⟨hS0, hS1, hS2, hS3⟩ := hSw); go_simp <;> with_reducible rfl)
      try simp only [List.getElem_toArray, List.getElem_cons_succ, List.getElem_cons_zero, Act.put, List.setIfInBounds_toArray, List.set_cons_zero, List.set_cons_succ]
      refine wpAnyH_take (i := 9) (oi := _) (v := ?v9u53) rfl (by kernel_rfl) (by kernel_rfl) (by kernel_rfl) (fun _ _ _ h => h) (Or.inl ⟨by rfl, ?y9u53⟩) (by assumption) ?r9u53
      case y9u53 => (intro w hSw; (obtain ⟨hS0, hS1, hS2, hS3⟩ := hSw); go_simp <;> with_reducible rfl)
      try simp only [List.getElem_toArray, List.getElem_cons_succ, List.getElem_cons_zero, Act.put, List.setIfInBounds_toArray, List.set_cons_zero, List.set_cons_succ]
      refine wpAnyH_take (i := 11) (oi := _) (v := ?v11u54) rfl (by kernel_rfl) (by kernel_rfl) (by kernel_rfl) (fun _ _ _ h => h) (Or.inl ⟨by rfl, ?y11u54⟩) (by assumption) ?r11u54
      case y11u54 => (intro w hSw; (obtain ⟨hS0, hS1, hS2, hS3⟩ := hSw); go_simp <;> with_reducible rfl)
      try simp only [List.getElem_toArray, List.getElem_cons_succ, List.getElem_cons_zero, Act.put, List.setIfInBounds_toArray, List.set_cons_zero, List.set_cons_succ]
      refine wpAnyH_take (i := 12) (oi := _) (v := ?v12u55) rfl (by kernel_rfl) (by kernel_rfl) (by kernel_rfl) (fun _ _ _ h => h) (Or.inl ⟨by rfl, ?y12u55⟩) (by assumption) ?r12u55
      case y12u55 => (intro w hSw; (obtain ⟨hS0, hS1, hS2, hS3⟩ := hSw); go_simp <;> with_reducible rfl)
      try simp only [List.getElem_toArray, List.getElem_cons_succ, List.getElem_cons_zero, Act.put, List.setIfInBounds_toArray, List.set_cons_zero, List.set_cons_succ]
      refine wpAnyH_ready (rs := [10]) (by kernel_rfl) (by simp) ?_
      refine AllReadyH.cons (o := _) rfl (fun K hK => ?_) AllReadyH.nil
      go_simp
      refine (HT.out _ (Keeps.refl _ _).drew).mono ?_
      rintro e wl ⟨rfl, rfl⟩
      refine hK.out _ _ (HS11.out _ (Keeps.refl _ _).drew) (fun hHeld2 => ?_)
      clear hK K hHeld
      have hHeld := hHeld2
      clear hHeld2
      try simp only [List.getElem_toArray, List.getElem_cons_succ, List.getElem_cons_zero, Act.put, List.setIfInBounds_toArray, List.set_cons_zero, List.set_cons_succ]
      refine wpAnyH_take (i := 13) (oi := _) (v := ?v13u56) rfl (by kernel_rfl) (by kernel_rfl) (by kernel_rfl) (fun _ _ _ h => h) (Or.inl ⟨by rfl, ?y13u56⟩) (by assumption) ?r13u56
      case y13u56 => (intro w hSw; (obtain ⟨hS0, hS1, hS2, hS3⟩ := hSw); go_simp <;> with_reducible rfl)
      try simp only [List.getElem_toArray, List.getElem_cons_succ, List.getElem_cons_zero, Act.put, List.setIfInBounds_toArray, List.set_cons_zero, List.set_cons_succ]
      refine wpAnyH_take (i := 14) (oi := _) (v := ?v14u57) rfl (by kernel_rfl) (by kernel_rfl) (by kernel_rfl) (fun _ _ _ h => h) (Or.inl ⟨by rfl, ?y14u57⟩) (by assumption) ?r14u57
      case y14u57 => (intro w hSw; (obtain ⟨hS0, hS1, hS2, hS3⟩ := hSw); go_simp <;> with_reducible rfl)
      try simp only [List.getElem_toArray, List.getElem_cons_succ, List.getElem_cons_zero, Act.put, List.setIfInBounds_toArray, List.set_cons_zero, List.set_cons_succ]
      refine wpAnyH_take (i := 15) (oi := _) (v := ?v15u58) rfl (by kernel_rfl) (by kernel_rfl) (by kernel_rfl) (fun _ _ _ h => h) (Or.inl ⟨by rfl, ?y15u58⟩) (by assumption) ?r15u58
      case y15u58 => (intro w hSw; (obtain ⟨hS0, hS1, hS2, hS3⟩ := hSw); go_simp <;> with_reducible rfl)
      try simp only [List.getElem_toArray, List.getElem_cons_succ, List.getElem_cons_zero, Act.put, List.setIfInBounds_toArray, List.set_cons_zero, List.set_cons_succ]
      refine wpAnyH_take (i := 16) (oi := _) (v := undef) rfl (by kernel_rfl) (by kernel_rfl) (by kernel_rfl) (fun _ _ _ h => h) (Or.inr ⟨by rfl, rfl⟩) (by assumption) ?_
      try simp only [List.getElem_toArray, List.getElem_cons_succ, List.getElem_cons_zero, Act.put, List.setIfInBounds_toArray, List.set_cons_zero, List.set_cons_succ]
      refine wpAnyH_take (i := 17) (oi := _) (v := undef) rfl (by kernel_rfl) (by kernel_rfl) (by kernel_rfl) (fun _ _ _ h => h) (Or.inr ⟨by rfl, rfl⟩) (by assumption) ?_
      try simp only [List.getElem_toArray, List.getElem_cons_succ, List.getElem_cons_zero, Act.put, List.setIfInBounds_toArray, List.set_cons_zero, List.set_cons_succ]
      refine wpAnyH_take (i := 18) (oi := _) (v := undef) rfl (by kernel_rfl) (by kernel_rfl) (by kernel_rfl) (fun _ _ _ h => h) (Or.inr ⟨by rfl, rfl⟩) (by assumption) ?_
      try simp only [List.getElem_toArray, List.getElem_cons_succ, List.getElem_cons_zero, Act.put, List.setIfInBounds_toArray, List.set_cons_zero, List.set_cons_succ]
      refine wpAnyH_take (i := 19) (oi := _) (v := undef) rfl (by kernel_rfl) (by kernel_rfl) (by kernel_rfl) (fun _ _ _ h => h) (Or.inr ⟨by rfl, rfl⟩) (by assumption) ?_
      try simp only [List.getElem_toArray, List.getElem_cons_succ, List.getElem_cons_zero, Act.put, List.setIfInBounds_toArray, List.set_cons_zero, List.set_cons_succ]
      refine wpAnyH_take (i := 20) (oi := _) (v := undef) rfl (by kernel_rfl) (by kernel_rfl) (by kernel_rfl) (fun _ _ _ h => h) (Or.inr ⟨by rfl, rfl⟩) (by assumption) ?_
      try simp only [List.getElem_toArray, List.getElem_cons_succ, List.getElem_cons_zero, Act.put, List.setIfInBounds_toArray, List.set_cons_zero, List.set_cons_succ]
      refine wpAnyH_take (i := 21) (oi := _) (v := undef) rfl (by kernel_rfl) (by kernel_rfl) (by kernel_rfl) (fun _ _ _ h => h) (Or.inr ⟨by rfl, rfl⟩) (by assumption) ?_
      try simp only [List.getElem_toArray, List.getElem_cons_succ, List.getElem_cons_zero, Act.put, List.setIfInBounds_toArray, List.set_cons_zero, List.set_cons_succ]
      refine wpAnyH_take (i := 22) (oi := _) (v := ?v22u59) rfl (by kernel_rfl) (by kernel_rfl) (by kernel_rfl) (fun _ _ _ h => h) (Or.inl ⟨by rfl, ?y22u59⟩) (by assumption) ?r22u59
      case y22u59 => (intro w hSw; (obtain ⟨hS0, hS1, hS2, hS3⟩ := hSw); go_simp <;> with_reducible rfl)
      try simp only [List.getElem_toArray, List.getElem_cons_succ, List.getElem_cons_zero, Act.put, List.setIfInBounds_toArray, List.set_cons_zero, List.set_cons_succ]
      refine wpAnyH_take (i := 23) (oi := _) (v := ?v23u60) rfl (by kernel_rfl) (by kernel_rfl) (by kernel_rfl) (fun _ _ _ h => h) (Or.inl ⟨by rfl, ?y23u60⟩) (by assumption) ?r23u60
      case y23u60 => (intro w hSw; (obtain ⟨hS0, hS1, hS2, hS3⟩ := hSw); go_simp <;> with_reducible rfl)
      try simp only [List.getElem_toArray, List.getElem_cons_succ, List.getElem_cons_zero, Act.put, List.setIfInBounds_toArray, List.set_cons_zero, List.set_cons_succ]
      refine wpAnyH_take (i := 24) (oi := _) (v := undef) rfl (by kernel_rfl) (by kernel_rfl) (by kernel_rfl) (fun _ _ _ h => h) (Or.inr ⟨by rfl, rfl⟩) (by assumption) ?_
      try simp only [List.getElem_toArray, List.getElem_cons_succ, List.getElem_cons_zero, Act.put, List.setIfInBounds_toArray, List.set_cons_zero, List.set_cons_succ]
      refine wpAnyH_take (i := 25) (oi := _) (v := undef) rfl (by kernel_rfl) (by kernel_rfl) (by kernel_rfl) (fun _ _ _ h => h) (Or.inr ⟨by rfl, rfl⟩) (by assumption) ?_
      try simp only [List.getElem_toArray, List.getElem_cons_succ, List.getElem_cons_zero, Act.put, List.setIfInBounds_toArray, List.set_cons_zero, List.set_cons_succ]
      refine wpAnyH_take (i := 26) (oi := _) (v := undef) rfl (by kernel_rfl) (by kernel_rfl) (by kernel_rfl) (fun _ _ _ h => h) (Or.inr ⟨by rfl, rfl⟩) (by assumption) ?_
      try simp only [List.getElem_toArray, List.getElem_cons_succ, List.getElem_cons_zero, Act.put, List.setIfInBounds_toArray, List.set_cons_zero, List.set_cons_succ]
      refine wpAnyH_take (i := 27) (oi := _) (v := undef) rfl (by kernel_rfl) (by kernel_rfl) (by kernel_rfl) (fun _ _ _ h => h) (Or.inr ⟨by rfl, rfl⟩) (by assumption) ?_
      try simp only [List.getElem_toArray, List.getElem_cons_succ, List.getElem_cons_zero, Act.put, List.setIfInBounds_toArray, List.set_cons_zero, List.set_cons_succ]
      refine wpAnyH_take (i := 28) (oi := _) (v := undef) rfl (by kernel_rfl) (by kernel_rfl) (by kernel_rfl) (fun _ _ _ h => h) (Or.inr ⟨by rfl, rfl⟩) (by assumption) ?_
      try simp only [List.getElem_toArray, List.getElem_cons_succ, List.getElem_cons_zero, Act.put, List.setIfInBounds_toArray, List.set_cons_zero, List.set_cons_succ]
      refine wpAnyH_take (i := 29) (oi := _) (v := undef) rfl (by kernel_rfl) (by kernel_rfl) (by kernel_rfl) (fun _ _ _ h => h) (Or.inr ⟨by rfl, rfl⟩) (by assumption) ?_
      try simp only [List.getElem_toArray, List.getElem_cons_succ, List.getElem_cons_zero, Act.put, List.setIfInBounds_toArray, List.set_cons_zero, List.set_cons_succ]
      refine wpAnyH_take (i := 30) (oi := _) (v := undef) rfl (by kernel_rfl) (by kernel_rfl) (by kernel_rfl) (fun _ _ _ h => h) (Or.inr ⟨by rfl, rfl⟩) (by assumption) ?_
      try simp only [List.getElem_toArray, List.getElem_cons_succ, List.getElem_cons_zero, Act.put, List.setIfInBounds_toArray, List.set_cons_zero, List.set_cons_succ]
      refine wpAnyH_take (i := 31) (oi := _) (v := undef) rfl (by kernel_rfl) (by kernel_rfl) (by kernel_rfl) (fun _ _ _ h => h) (Or.inr ⟨by rfl, rfl⟩) (by assumption) ?_
      try simp only [List.getElem_toArray, List.getElem_cons_succ, List.getElem_cons_zero, Act.put, List.setIfInBounds_toArray, List.set_cons_zero, List.set_cons_succ]
      refine wpAnyH_take (i := 32) (oi := _) (v := undef) rfl (by kernel_rfl) (by kernel_rfl) (by kernel_rfl) (fun _ _ _ h => h) (Or.inr ⟨by rfl, rfl⟩) (by assumption) ?_
      try simp only [List.getElem_toArray, List.getElem_cons_succ, List.getElem_cons_zero, Act.put, List.setIfInBounds_toArray, List.set_cons_zero, List.set_cons_succ]
      refine wpAnyH_take (i := 33) (oi := _) (v := undef) rfl (by kernel_rfl) (by kernel_rfl) (by kernel_rfl) (fun _ _ _ h => h) (Or.inr ⟨by rfl, rfl⟩) (by assumption) ?_
      try simp only [List.getElem_toArray, List.getElem_cons_succ, List.getElem_cons_zero, Act.put, List.setIfInBounds_toArray, List.set_cons_zero, List.set_cons_succ]
      refine wpAnyH_take (i := 34) (oi := _) (v := ?v34u61) rfl (by kernel_rfl) (by kernel_rfl) (by kernel_rfl) (fun _ _ _ h => h) (Or.inl ⟨by rfl, ?y34u61⟩) (by assumption) ?r34u61
      case y34u61 => (intro w hSw; (obtain ⟨hS0, hS1, hS2, hS3⟩ := hSw); go_simp <;> with_reducible rfl)
      try simp only [List.getElem_toArray, List.getElem_cons_succ, List.getElem_cons_zero, Act.put, List.setIfInBounds_toArray, List.set_cons_zero, List.set_cons_succ]
      refine wpAnyH_done (by kernel_rfl) ?_ _
      clear hHeld
      go_wp2_with fail
      go_ret
      exact HP.out
   have hb4 : (kd == 4) = false := by simp [hk4]
   have HU5 := Lib.hid (HU4.out.trans (if_neg hk4))
   clear HU4 hk4
   by_cases hk5 : kd = 5
   ·have hb5 : (kd == 5) = true := by simp [hk5]
    have HP : Hid (∀ e w', ROPost M tg r d (rpAcc R fr ⟨kd, ⟨kind, ag, sh, seq, ep, ds, ser, efr, etg⟩, tag, code, nn, term, had, log, commit, len⟩) w1 e w' → ROPost M tg r d (rpRecv R fr ⟨kd, ⟨kind, ag, sh, seq, ep, ds, ser, efr, etg⟩, tag, code, nn, term, had, log, commit, len⟩) w e w') := fun e w' hp => by
     refine HPd.out _ _ ?_
     rw [HU5.out, if_pos hk5]
     exact HFin.out _ Hk1.out _ _ _ hp
    have hc := Lib.hid (HAcc.out _ Hk1.out)
    clear HU5 hk5
    go_wp2_with (refine wpList_load_g (by rfl) 37 (.tmp 5) rfl g5 0 rfl [.int .i64 kd, .int .i64 kind, .int .i64 ag, .int .i64 sh, .int .i64 seq, .int .i64 ep, .slice Aa ds.length na, .string ser, .int .i64 efr, .int .i64 etg, .int .i64 tag, .int .i64 code, .int .u64 nn, .int .i64 term, .int .i64 had, .slice Ba log.length ka, .int .i64 commit, .int .i64 len] _ (blk_range HB1.out) Tryz.underlying37 rfl (by kernel_rfl) ?_)
    with_reducible refine hc.out.mono ?_
    intro e w2 hp
    obtain ⟨x, rfl⟩ : ∃ x, e = .returned x := by obtain ⟨x, _, _, h1, _⟩ := hp; exact ⟨x, h1⟩
    have Hp := Lib.hid (HP.out _ _ hp)
    clear hp
    go_wp2_with fail
    go_ret
    exact Hp.out
   have hb5 : (kd == 5) = false := by simp [hk5]
   have HU6 := Lib.hid (HU5.out.trans (if_neg hk5))
   clear HU5 hk5
   by_cases hk6 : kd = 6
   ·have hb6 : (kd == 6) = true := by simp [hk6]
    have HU7 := Lib.hid (HU6.out.trans (if_pos hk6))
    clear HU6 hk6
    have d6 := (rpcells HV1.out).2.2.2.2.2.2.1
    have d5 := (rpcells HV1.out).2.2.2.2.2.1
    cases hl : R.leads with
    | false =>
     rw [hl] at d6
     have HP : Hid (ROPost M tg r d (rpRecv R fr ⟨kd, ⟨kind, ag, sh, seq, ep, ds, ser, efr, etg⟩, tag, code, nn, term, had, log, commit, len⟩) w (.returned (.slice none 0 0)) w1.drew) := HPd.out _ _ (HNil.out _ Hk1.out.drew (by rw [HU7.out, hl]))
     go_upto_region 16 with (fail)
     refine wp_region_held_drew (S := (fun W => W.cell? ⟨r, 6, none⟩ = some (.bool false))) (by kernel_rfl) d6 (fun hHeld => ?_)
     refine wpAnyH_take (i := 0) (oi := _) (v := ?v0u1) rfl (by kernel_rfl) (by kernel_rfl) (by kernel_rfl) (fun _ _ _ h => h) (Or.inl ⟨by rfl, ?y0u1⟩) (by assumption) ?r0u1
     case y0u1 => (intro w hSw; (have hS0 := hSw); go_simp <;> with_reducible rfl)
     try simp only [List.getElem_toArray, List.getElem_cons_succ, List.getElem_cons_zero, Act.put, List.setIfInBounds_toArray, List.set_cons_zero, List.set_cons_succ]
     refine wpAnyH_take (i := 1) (oi := _) (v := ?v1u2) rfl (by kernel_rfl) (by kernel_rfl) (by kernel_rfl) (fun _ _ _ h => h) (Or.inl ⟨by rfl, ?y1u2⟩) (by assumption) ?r1u2
     case y1u2 => (intro w hSw; (have hS0 := hSw); go_simp <;> with_reducible rfl)
     try simp only [List.getElem_toArray, List.getElem_cons_succ, List.getElem_cons_zero, Act.put, List.setIfInBounds_toArray, List.set_cons_zero, List.set_cons_succ]
     refine wpAnyH_take (i := 2) (oi := _) (v := ?v2u3) rfl (by kernel_rfl) (by kernel_rfl) (by kernel_rfl) (fun _ _ _ h => h) (Or.inl ⟨by rfl, ?y2u3⟩) (by assumption) ?r2u3
     case y2u3 => (intro w hSw; (have hS0 := hSw); go_simp <;> with_reducible rfl)
     try simp only [List.getElem_toArray, List.getElem_cons_succ, List.getElem_cons_zero, Act.put, List.setIfInBounds_toArray, List.set_cons_zero, List.set_cons_succ]
     refine wpAnyH_take (i := 3) (oi := _) (v := ?v3u4) rfl (by kernel_rfl) (by kernel_rfl) (by kernel_rfl) (fun _ _ _ h => h) (Or.inl ⟨by rfl, ?y3u4⟩) (by assumption) ?r3u4
     case y3u4 => (intro w hSw; (have hS0 := hSw); go_simp <;> with_reducible rfl)
     try simp only [List.getElem_toArray, List.getElem_cons_succ, List.getElem_cons_zero, Act.put, List.setIfInBounds_toArray, List.set_cons_zero, List.set_cons_succ]
     refine wpAnyH_take (i := 4) (oi := _) (v := ?v4u5) rfl (by kernel_rfl) (by kernel_rfl) (by kernel_rfl) (fun _ _ _ h => h) (Or.inl ⟨by rfl, ?y4u5⟩) (by assumption) ?r4u5
     case y4u5 => (intro w hSw; (have hS0 := hSw); go_simp <;> with_reducible rfl)
     try simp only [List.getElem_toArray, List.getElem_cons_succ, List.getElem_cons_zero, Act.put, List.setIfInBounds_toArray, List.set_cons_zero, List.set_cons_succ]
     refine wpAnyH_take (i := 5) (oi := _) (v := undef) rfl (by kernel_rfl) (by kernel_rfl) (by kernel_rfl) (fun _ _ _ h => h) (Or.inr ⟨by rfl, rfl⟩) (by assumption) ?_
     try simp only [List.getElem_toArray, List.getElem_cons_succ, List.getElem_cons_zero, Act.put, List.setIfInBounds_toArray, List.set_cons_zero, List.set_cons_succ]
     refine wpAnyH_take (i := 6) (oi := _) (v := undef) rfl (by kernel_rfl) (by kernel_rfl) (by kernel_rfl) (fun _ _ _ h => h) (Or.inr ⟨by rfl, rfl⟩) (by assumption) ?_
     try simp only [List.getElem_toArray, List.getElem_cons_succ, List.getElem_cons_zero, Act.put, List.setIfInBounds_toArray, List.set_cons_zero, List.set_cons_succ]
     refine wpAnyH_take (i := 7) (oi := _) (v := undef) rfl (by kernel_rfl) (by kernel_rfl) (by kernel_rfl) (fun _ _ _ h => h) (Or.inr ⟨by rfl, rfl⟩) (by assumption) ?_
     try simp only [List.getElem_toArray, List.getElem_cons_succ, List.getElem_cons_zero, Act.put, List.setIfInBounds_toArray, List.set_cons_zero, List.set_cons_succ]
     refine wpAnyH_take (i := 8) (oi := _) (v := undef) rfl (by kernel_rfl) (by kernel_rfl) (by kernel_rfl) (fun _ _ _ h => h) (Or.inr ⟨by rfl, rfl⟩) (by assumption) ?_
     try simp only [List.getElem_toArray, List.getElem_cons_succ, List.getElem_cons_zero, Act.put, List.setIfInBounds_toArray, List.set_cons_zero, List.set_cons_succ]
     refine wpAnyH_take (i := 9) (oi := _) (v := undef) rfl (by kernel_rfl) (by kernel_rfl) (by kernel_rfl) (fun _ _ _ h => h) (Or.inr ⟨by rfl, rfl⟩) (by assumption) ?_
     try simp only [List.getElem_toArray, List.getElem_cons_succ, List.getElem_cons_zero, Act.put, List.setIfInBounds_toArray, List.set_cons_zero, List.set_cons_succ]
     refine wpAnyH_take (i := 10) (oi := _) (v := undef) rfl (by kernel_rfl) (by kernel_rfl) (by kernel_rfl) (fun _ _ _ h => h) (Or.inr ⟨by rfl, rfl⟩) (by assumption) ?_
     try simp only [List.getElem_toArray, List.getElem_cons_succ, List.getElem_cons_zero, Act.put, List.setIfInBounds_toArray, List.set_cons_zero, List.set_cons_succ]
     refine wpAnyH_take (i := 11) (oi := _) (v := undef) rfl (by kernel_rfl) (by kernel_rfl) (by kernel_rfl) (fun _ _ _ h => h) (Or.inr ⟨by rfl, rfl⟩) (by assumption) ?_
     try simp only [List.getElem_toArray, List.getElem_cons_succ, List.getElem_cons_zero, Act.put, List.setIfInBounds_toArray, List.set_cons_zero, List.set_cons_succ]
     refine wpAnyH_take (i := 12) (oi := _) (v := undef) rfl (by kernel_rfl) (by kernel_rfl) (by kernel_rfl) (fun _ _ _ h => h) (Or.inr ⟨by rfl, rfl⟩) (by assumption) ?_
     try simp only [List.getElem_toArray, List.getElem_cons_succ, List.getElem_cons_zero, Act.put, List.setIfInBounds_toArray, List.set_cons_zero, List.set_cons_succ]
     refine wpAnyH_take (i := 13) (oi := _) (v := ?v13u6) rfl (by kernel_rfl) (by kernel_rfl) (by kernel_rfl) (fun _ _ _ h => h) (Or.inl ⟨by rfl, ?y13u6⟩) (by assumption) ?r13u6
     case y13u6 => (intro w hSw; (have hS0 := hSw); go_simp <;> with_reducible rfl)
     try simp only [List.getElem_toArray, List.getElem_cons_succ, List.getElem_cons_zero, Act.put, List.setIfInBounds_toArray, List.set_cons_zero, List.set_cons_succ]
     refine wpAnyH_done (by kernel_rfl) ?_ _
     clear hHeld
     clear d5 d6 hl
     go_wp2_with fail
     go_ret
     exact HP.out
    | true =>
     obtain ⟨v, hv⟩ : ∃ v, R.v = some v := by
      have h9 := HV0.out.1.2.2.2.2.2.2 hl
      cases hq : R.v with
      | none => rw [hq] at h9; exact nomatch h9
      | some v => exact ⟨v, rfl⟩
     rw [hl] at d6
     rw [hv] at d5
     have d5 : w1.cell? ⟨r, 5, none⟩ = some (.pointer (some ⟨C.vb, 0, none⟩)) := d5
     obtain ⟨vb, hvb⟩ : ∃ vb, vb = C.vb := ⟨_, rfl⟩
     rw [← hvb] at d5
     have Hva : Hid (VoteAt w1 M vb v ∧ vb ∈ M) := by rw [hvb]; exact ⟨(HV1.out.vt v hv).1, (HV1.out.vt v hv).2.1⟩
     have HT : Hid (∀ W, Keeps [] w1 W → Calls Tryz.prog 41 #[.pointer (some ⟨vb, 0, none⟩)] W fun e w' => e = .returned (.int .i64 v.term) ∧ W = w') := fun W hk => Lead.vterm_any M vb v W (Hva.out.1.keep hk (by simp) (by simp))
     have HS6 : Hid (∀ W, Keeps [] w1 W → W.cell? ⟨r, 6, none⟩ = some (.bool true) ∧ W.cell? ⟨r, 5, none⟩ = some (.pointer (some ⟨vb, 0, none⟩)) ∧ W.cell? ⟨g5, 13, none⟩ = some (.int .i64 term)) := fun W hk => ⟨(hk.cell (p := ⟨r, 6, none⟩) HV1.out.blk.lt (by simp)).trans d6, (hk.cell (p := ⟨r, 5, none⟩) HV1.out.blk.lt (by simp)).trans d5, (hk.cell (p := ⟨g5, 13, none⟩) HB1.out.lt (by simp)).trans c13⟩
     have HU8 : Hid (rpRecv R fr mm = if v.term = term then rpCounted R v fr len else (R, [])) := by show _ = _; rw [HU7.out, hl, hv]
     have HC6 := Lib.hid (HCnt.out w1.drew Hk1.out.drew v hv)
     clear hvb d5 d6 hl hv HU7
     by_cases hte : v.term = term
     ·have hbt : (v.term == term) = true := by simp [hte]
      have HP : Hid (∀ e w', ROPost M tg r d (rpCounted R v fr len) w1.drew e w' → ROPost M tg r d (rpRecv R fr ⟨kd, ⟨kind, ag, sh, seq, ep, ds, ser, efr, etg⟩, tag, code, nn, term, had, log, commit, len⟩) w e w') := fun e w' hp => by
       refine HPd.out _ _ ?_
       rw [HU8.out, if_pos hte]
       exact HFin.out _ Hk1.out.drew _ _ _ hp
      have hc := HC6
      clear HU8 hte
      go_upto_region 16 with (fail)
      refine wp_region_held_drew (S := (fun W => W.cell? ⟨r, 6, none⟩ = some (.bool true) ∧ W.cell? ⟨r, 5, none⟩ = some (.pointer (some ⟨vb, 0, none⟩)) ∧ W.cell? ⟨g5, 13, none⟩ = some (.int .i64 term))) (by kernel_rfl) (HS6.out _ (Keeps.refl _ _).drew) (fun hHeld => ?_)
      refine wpAnyH_take (i := 0) (oi := _) (v := ?v0u7) rfl (by kernel_rfl) (by kernel_rfl) (by kernel_rfl) (fun _ _ _ h => h) (Or.inl ⟨by rfl, ?y0u7⟩) (by assumption) ?r0u7
      case y0u7 => (intro w hSw; (obtain ⟨hS0, hS1, hS2⟩ := hSw); go_simp <;> with_reducible rfl)
      try simp only [List.getElem_toArray, List.getElem_cons_succ, List.getElem_cons_zero, Act.put, List.setIfInBounds_toArray, List.set_cons_zero, List.set_cons_succ]
      refine wpAnyH_take (i := 1) (oi := _) (v := ?v1u8) rfl (by kernel_rfl) (by kernel_rfl) (by kernel_rfl) (fun _ _ _ h => h) (Or.inl ⟨by rfl, ?y1u8⟩) (by assumption) ?r1u8
      case y1u8 => (intro w hSw; (obtain ⟨hS0, hS1, hS2⟩ := hSw); go_simp <;> with_reducible rfl)
      try simp only [List.getElem_toArray, List.getElem_cons_succ, List.getElem_cons_zero, Act.put, List.setIfInBounds_toArray, List.set_cons_zero, List.set_cons_succ]
      refine wpAnyH_take (i := 2) (oi := _) (v := ?v2u9) rfl (by kernel_rfl) (by kernel_rfl) (by kernel_rfl) (fun _ _ _ h => h) (Or.inl ⟨by rfl, ?y2u9⟩) (by assumption) ?r2u9
      case y2u9 => (intro w hSw; (obtain ⟨hS0, hS1, hS2⟩ := hSw); go_simp <;> with_reducible rfl)
      try simp only [List.getElem_toArray, List.getElem_cons_succ, List.getElem_cons_zero, Act.put, List.setIfInBounds_toArray, List.set_cons_zero, List.set_cons_succ]
      refine wpAnyH_take (i := 3) (oi := _) (v := ?v3u10) rfl (by kernel_rfl) (by kernel_rfl) (by kernel_rfl) (fun _ _ _ h => h) (Or.inl ⟨by rfl, ?y3u10⟩) (by assumption) ?r3u10
      case y3u10 => (intro w hSw; (obtain ⟨hS0, hS1, hS2⟩ := hSw); go_simp <;> with_reducible rfl)
      try simp only [List.getElem_toArray, List.getElem_cons_succ, List.getElem_cons_zero, Act.put, List.setIfInBounds_toArray, List.set_cons_zero, List.set_cons_succ]
      refine wpAnyH_take (i := 4) (oi := _) (v := ?v4u11) rfl (by kernel_rfl) (by kernel_rfl) (by kernel_rfl) (fun _ _ _ h => h) (Or.inl ⟨by rfl, ?y4u11⟩) (by assumption) ?r4u11
      case y4u11 => (intro w hSw; (obtain ⟨hS0, hS1, hS2⟩ := hSw); go_simp <;> with_reducible rfl)
      try simp only [List.getElem_toArray, List.getElem_cons_succ, List.getElem_cons_zero, Act.put, List.setIfInBounds_toArray, List.set_cons_zero, List.set_cons_succ]
      refine wpAnyH_take (i := 5) (oi := _) (v := ?v5u12) rfl (by kernel_rfl) (by kernel_rfl) (by kernel_rfl) (fun _ _ _ h => h) (Or.inl ⟨by rfl, ?y5u12⟩) (by assumption) ?r5u12
      case y5u12 => (intro w hSw; (obtain ⟨hS0, hS1, hS2⟩ := hSw); go_simp <;> with_reducible rfl)
      try simp only [List.getElem_toArray, List.getElem_cons_succ, List.getElem_cons_zero, Act.put, List.setIfInBounds_toArray, List.set_cons_zero, List.set_cons_succ]
      refine wpAnyH_take (i := 6) (oi := _) (v := ?v6u13) rfl (by kernel_rfl) (by kernel_rfl) (by kernel_rfl) (fun _ _ _ h => h) (Or.inl ⟨by rfl, ?y6u13⟩) (by assumption) ?r6u13
      case y6u13 => (intro w hSw; (obtain ⟨hS0, hS1, hS2⟩ := hSw); go_simp <;> with_reducible rfl)
      try simp only [List.getElem_toArray, List.getElem_cons_succ, List.getElem_cons_zero, Act.put, List.setIfInBounds_toArray, List.set_cons_zero, List.set_cons_succ]
      refine wpAnyH_take (i := 7) (oi := _) (v := ?v7u14) rfl (by kernel_rfl) (by kernel_rfl) (by kernel_rfl) (fun _ _ _ h => h) (Or.inl ⟨by rfl, ?y7u14⟩) (by assumption) ?r7u14
      case y7u14 => (intro w hSw; (obtain ⟨hS0, hS1, hS2⟩ := hSw); go_simp <;> with_reducible rfl)
      try simp only [List.getElem_toArray, List.getElem_cons_succ, List.getElem_cons_zero, Act.put, List.setIfInBounds_toArray, List.set_cons_zero, List.set_cons_succ]
      refine wpAnyH_take (i := 8) (oi := _) (v := ?v8u15) rfl (by kernel_rfl) (by kernel_rfl) (by kernel_rfl) (fun _ _ _ h => h) (Or.inl ⟨by rfl, ?y8u15⟩) (by assumption) ?r8u15
      case y8u15 => (intro w hSw; (obtain ⟨hS0, hS1, hS2⟩ := hSw); go_simp <;> with_reducible rfl)
      try simp only [List.getElem_toArray, List.getElem_cons_succ, List.getElem_cons_zero, Act.put, List.setIfInBounds_toArray, List.set_cons_zero, List.set_cons_succ]
      refine wpAnyH_take (i := 10) (oi := _) (v := ?v10u16) rfl (by kernel_rfl) (by kernel_rfl) (by kernel_rfl) (fun _ _ _ h => h) (Or.inl ⟨by rfl, ?y10u16⟩) (by assumption) ?r10u16
      case y10u16 => (intro w hSw; (obtain ⟨hS0, hS1, hS2⟩ := hSw); go_simp <;> with_reducible rfl)
      try simp only [List.getElem_toArray, List.getElem_cons_succ, List.getElem_cons_zero, Act.put, List.setIfInBounds_toArray, List.set_cons_zero, List.set_cons_succ]
      refine wpAnyH_take (i := 11) (oi := _) (v := ?v11u17) rfl (by kernel_rfl) (by kernel_rfl) (by kernel_rfl) (fun _ _ _ h => h) (Or.inl ⟨by rfl, ?y11u17⟩) (by assumption) ?r11u17
      case y11u17 => (intro w hSw; (obtain ⟨hS0, hS1, hS2⟩ := hSw); go_simp <;> with_reducible rfl)
      try simp only [List.getElem_toArray, List.getElem_cons_succ, List.getElem_cons_zero, Act.put, List.setIfInBounds_toArray, List.set_cons_zero, List.set_cons_succ]
      refine wpAnyH_ready (rs := [9]) (by kernel_rfl) (by simp) ?_
      refine AllReadyH.cons (o := _) rfl (fun K hK => ?_) AllReadyH.nil
      go_simp
      refine (HT.out _ (Keeps.refl _ _).drew).mono ?_
      rintro e wl ⟨rfl, rfl⟩
      refine hK.out _ _ (HS6.out _ (Keeps.refl _ _).drew) (fun hHeld2 => ?_)
      clear hK K hHeld
      have hHeld := hHeld2
      clear hHeld2
      try simp only [List.getElem_toArray, List.getElem_cons_succ, List.getElem_cons_zero, Act.put, List.setIfInBounds_toArray, List.set_cons_zero, List.set_cons_succ]
      refine wpAnyH_take (i := 12) (oi := _) (v := ?v12u18) rfl (by kernel_rfl) (by kernel_rfl) (by kernel_rfl) (fun _ _ _ h => h) (Or.inl ⟨by rfl, ?y12u18⟩) (by assumption) ?r12u18
      case y12u18 => (intro w hSw; (obtain ⟨hS0, hS1, hS2⟩ := hSw); go_simp <;> with_reducible rfl)
      try simp only [List.getElem_toArray, List.getElem_cons_succ, List.getElem_cons_zero, Act.put, List.setIfInBounds_toArray, List.set_cons_zero, List.set_cons_succ]
      refine wpAnyH_take (i := 13) (oi := _) (v := ?v13u19) rfl (by kernel_rfl) (by kernel_rfl) (by kernel_rfl) (fun _ _ _ h => h) (Or.inl ⟨by rfl, ?y13u19⟩) (by assumption) ?r13u19
      case y13u19 => (intro w hSw; (obtain ⟨hS0, hS1, hS2⟩ := hSw); go_simp <;> with_reducible rfl)
      try simp only [List.getElem_toArray, List.getElem_cons_succ, List.getElem_cons_zero, Act.put, List.setIfInBounds_toArray, List.set_cons_zero, List.set_cons_succ]
      refine wpAnyH_done (by kernel_rfl) ?_ _
      clear hHeld
      have c17' : w1.drew.cell? ⟨g5, 17, none⟩ = some (.int .i64 len) := c17
      go_wp2_with fail
      with_reducible refine hc.out.mono ?_
      intro e w3 hp
      obtain ⟨x, rfl⟩ : ∃ x, e = .returned x := by obtain ⟨x, _, _, h1, _⟩ := hp; exact ⟨x, h1⟩
      have Hp := Lib.hid (HP.out _ _ hp)
      clear hp
      go_wp2_with fail
      go_ret
      exact Hp.out
     ·have hbt : (v.term == term) = false := by simp [hte]
      have HP : Hid (ROPost M tg r d (rpRecv R fr ⟨kd, ⟨kind, ag, sh, seq, ep, ds, ser, efr, etg⟩, tag, code, nn, term, had, log, commit, len⟩) w (.returned (.slice none 0 0)) w1.drew) := HPd.out _ _ (HNil.out _ Hk1.out.drew (HU8.out.trans (if_neg hte)))
      clear HU8 hte
      go_upto_region 16 with (fail)
      refine wp_region_held_drew (S := (fun W => W.cell? ⟨r, 6, none⟩ = some (.bool true) ∧ W.cell? ⟨r, 5, none⟩ = some (.pointer (some ⟨vb, 0, none⟩)) ∧ W.cell? ⟨g5, 13, none⟩ = some (.int .i64 term))) (by kernel_rfl) (HS6.out _ (Keeps.refl _ _).drew) (fun hHeld => ?_)
      refine wpAnyH_take (i := 0) (oi := _) (v := ?v0u20) rfl (by kernel_rfl) (by kernel_rfl) (by kernel_rfl) (fun _ _ _ h => h) (Or.inl ⟨by rfl, ?y0u20⟩) (by assumption) ?r0u20
      case y0u20 => (intro w hSw; (obtain ⟨hS0, hS1, hS2⟩ := hSw); go_simp <;> with_reducible rfl)
      try simp only [List.getElem_toArray, List.getElem_cons_succ, List.getElem_cons_zero, Act.put, List.setIfInBounds_toArray, List.set_cons_zero, List.set_cons_succ]
      refine wpAnyH_take (i := 1) (oi := _) (v := ?v1u21) rfl (by kernel_rfl) (by kernel_rfl) (by kernel_rfl) (fun _ _ _ h => h) (Or.inl ⟨by rfl, ?y1u21⟩) (by assumption) ?r1u21
      case y1u21 => (intro w hSw; (obtain ⟨hS0, hS1, hS2⟩ := hSw); go_simp <;> with_reducible rfl)
      try simp only [List.getElem_toArray, List.getElem_cons_succ, List.getElem_cons_zero, Act.put, List.setIfInBounds_toArray, List.set_cons_zero, List.set_cons_succ]
      refine wpAnyH_take (i := 2) (oi := _) (v := ?v2u22) rfl (by kernel_rfl) (by kernel_rfl) (by kernel_rfl) (fun _ _ _ h => h) (Or.inl ⟨by rfl, ?y2u22⟩) (by assumption) ?r2u22
      case y2u22 => (intro w hSw; (obtain ⟨hS0, hS1, hS2⟩ := hSw); go_simp <;> with_reducible rfl)
      try simp only [List.getElem_toArray, List.getElem_cons_succ, List.getElem_cons_zero, Act.put, List.setIfInBounds_toArray, List.set_cons_zero, List.set_cons_succ]
      refine wpAnyH_take (i := 3) (oi := _) (v := ?v3u23) rfl (by kernel_rfl) (by kernel_rfl) (by kernel_rfl) (fun _ _ _ h => h) (Or.inl ⟨by rfl, ?y3u23⟩) (by assumption) ?r3u23
      case y3u23 => (intro w hSw; (obtain ⟨hS0, hS1, hS2⟩ := hSw); go_simp <;> with_reducible rfl)
      try simp only [List.getElem_toArray, List.getElem_cons_succ, List.getElem_cons_zero, Act.put, List.setIfInBounds_toArray, List.set_cons_zero, List.set_cons_succ]
      refine wpAnyH_take (i := 4) (oi := _) (v := ?v4u24) rfl (by kernel_rfl) (by kernel_rfl) (by kernel_rfl) (fun _ _ _ h => h) (Or.inl ⟨by rfl, ?y4u24⟩) (by assumption) ?r4u24
      case y4u24 => (intro w hSw; (obtain ⟨hS0, hS1, hS2⟩ := hSw); go_simp <;> with_reducible rfl)
      try simp only [List.getElem_toArray, List.getElem_cons_succ, List.getElem_cons_zero, Act.put, List.setIfInBounds_toArray, List.set_cons_zero, List.set_cons_succ]
      refine wpAnyH_take (i := 5) (oi := _) (v := ?v5u25) rfl (by kernel_rfl) (by kernel_rfl) (by kernel_rfl) (fun _ _ _ h => h) (Or.inl ⟨by rfl, ?y5u25⟩) (by assumption) ?r5u25
      case y5u25 => (intro w hSw; (obtain ⟨hS0, hS1, hS2⟩ := hSw); go_simp <;> with_reducible rfl)
      try simp only [List.getElem_toArray, List.getElem_cons_succ, List.getElem_cons_zero, Act.put, List.setIfInBounds_toArray, List.set_cons_zero, List.set_cons_succ]
      refine wpAnyH_take (i := 6) (oi := _) (v := ?v6u26) rfl (by kernel_rfl) (by kernel_rfl) (by kernel_rfl) (fun _ _ _ h => h) (Or.inl ⟨by rfl, ?y6u26⟩) (by assumption) ?r6u26
      case y6u26 => (intro w hSw; (obtain ⟨hS0, hS1, hS2⟩ := hSw); go_simp <;> with_reducible rfl)
      try simp only [List.getElem_toArray, List.getElem_cons_succ, List.getElem_cons_zero, Act.put, List.setIfInBounds_toArray, List.set_cons_zero, List.set_cons_succ]
      refine wpAnyH_take (i := 7) (oi := _) (v := ?v7u27) rfl (by kernel_rfl) (by kernel_rfl) (by kernel_rfl) (fun _ _ _ h => h) (Or.inl ⟨by rfl, ?y7u27⟩) (by assumption) ?r7u27
      case y7u27 => (intro w hSw; (obtain ⟨hS0, hS1, hS2⟩ := hSw); go_simp <;> with_reducible rfl)
      try simp only [List.getElem_toArray, List.getElem_cons_succ, List.getElem_cons_zero, Act.put, List.setIfInBounds_toArray, List.set_cons_zero, List.set_cons_succ]
      refine wpAnyH_take (i := 8) (oi := _) (v := ?v8u28) rfl (by kernel_rfl) (by kernel_rfl) (by kernel_rfl) (fun _ _ _ h => h) (Or.inl ⟨by rfl, ?y8u28⟩) (by assumption) ?r8u28
      case y8u28 => (intro w hSw; (obtain ⟨hS0, hS1, hS2⟩ := hSw); go_simp <;> with_reducible rfl)
      try simp only [List.getElem_toArray, List.getElem_cons_succ, List.getElem_cons_zero, Act.put, List.setIfInBounds_toArray, List.set_cons_zero, List.set_cons_succ]
      refine wpAnyH_take (i := 10) (oi := _) (v := ?v10u29) rfl (by kernel_rfl) (by kernel_rfl) (by kernel_rfl) (fun _ _ _ h => h) (Or.inl ⟨by rfl, ?y10u29⟩) (by assumption) ?r10u29
      case y10u29 => (intro w hSw; (obtain ⟨hS0, hS1, hS2⟩ := hSw); go_simp <;> with_reducible rfl)
      try simp only [List.getElem_toArray, List.getElem_cons_succ, List.getElem_cons_zero, Act.put, List.setIfInBounds_toArray, List.set_cons_zero, List.set_cons_succ]
      refine wpAnyH_take (i := 11) (oi := _) (v := ?v11u30) rfl (by kernel_rfl) (by kernel_rfl) (by kernel_rfl) (fun _ _ _ h => h) (Or.inl ⟨by rfl, ?y11u30⟩) (by assumption) ?r11u30
      case y11u30 => (intro w hSw; (obtain ⟨hS0, hS1, hS2⟩ := hSw); go_simp <;> with_reducible rfl)
      try simp only [List.getElem_toArray, List.getElem_cons_succ, List.getElem_cons_zero, Act.put, List.setIfInBounds_toArray, List.set_cons_zero, List.set_cons_succ]
      refine wpAnyH_ready (rs := [9]) (by kernel_rfl) (by simp) ?_
      refine AllReadyH.cons (o := _) rfl (fun K hK => ?_) AllReadyH.nil
      go_simp
      refine (HT.out _ (Keeps.refl _ _).drew).mono ?_
      rintro e wl ⟨rfl, rfl⟩
      refine hK.out _ _ (HS6.out _ (Keeps.refl _ _).drew) (fun hHeld2 => ?_)
      clear hK K hHeld
      have hHeld := hHeld2
      clear hHeld2
      try simp only [List.getElem_toArray, List.getElem_cons_succ, List.getElem_cons_zero, Act.put, List.setIfInBounds_toArray, List.set_cons_zero, List.set_cons_succ]
      refine wpAnyH_take (i := 12) (oi := _) (v := ?v12u31) rfl (by kernel_rfl) (by kernel_rfl) (by kernel_rfl) (fun _ _ _ h => h) (Or.inl ⟨by rfl, ?y12u31⟩) (by assumption) ?r12u31
      case y12u31 => (intro w hSw; (obtain ⟨hS0, hS1, hS2⟩ := hSw); go_simp <;> with_reducible rfl)
      try simp only [List.getElem_toArray, List.getElem_cons_succ, List.getElem_cons_zero, Act.put, List.setIfInBounds_toArray, List.set_cons_zero, List.set_cons_succ]
      refine wpAnyH_take (i := 13) (oi := _) (v := ?v13u32) rfl (by kernel_rfl) (by kernel_rfl) (by kernel_rfl) (fun _ _ _ h => h) (Or.inl ⟨by rfl, ?y13u32⟩) (by assumption) ?r13u32
      case y13u32 => (intro w hSw; (obtain ⟨hS0, hS1, hS2⟩ := hSw); go_simp <;> with_reducible rfl)
      try simp only [List.getElem_toArray, List.getElem_cons_succ, List.getElem_cons_zero, Act.put, List.setIfInBounds_toArray, List.set_cons_zero, List.set_cons_succ]
      refine wpAnyH_done (by kernel_rfl) ?_ _
      clear hHeld
      go_wp2_with fail
      go_ret
      exact HP.out
   have hb6 : (kd == 6) = false := by simp [hk6]
   have hP := Lib.hid (HPd.out _ _ (HNil.out _ Hk1.out (HU6.out.trans (if_neg hk6))))
   go_wp2_with fail
   go_ret
   exact hP.out
 ·have hrd : ((rr : Int) != 0) = true := by simp [hr]
  have hP := Lib.hid (HPd.out _ _ (HNil.out _ Hk1.out (by rw [HD.out, HU.out, if_pos hr])))
  go_wp2_with fail
  go_ret
  exact hP.out
end
section
variable {w w' : World} {M : List Nat} {tg : Nat → Nat} {r d : Nat} {R : RpD} {C : RpC}
set_option maxRecDepth 100000 in
set_option maxHeartbeats 1000000 in
theorem rpleads_any (h : RpV w M tg r R C) :
  Calls Tryz.prog 14 #[.pointer (some ⟨r, 0, none⟩)] w fun e w' => e = .returned (.bool R.leads) ∧ w = w' := by
 have c2 := (rpcells h).2.2.2.2.2.2.1
 clear h
 go_enter Tryz.func14, Tryz.ntmps14
 go_wp2
 go_ret
 exact ⟨rfl, rfl⟩
set_option maxRecDepth 100000 in
set_option maxHeartbeats 1000000 in
theorem rpcommit_any (h : RpV w M tg r R C) :
  Calls Tryz.prog 13 #[.pointer (some ⟨r, 0, none⟩)] w fun e w' => e = .returned (.int .i64 R.com) ∧ w = w' := by
 have c2 := (rpcells h).2.2.2.2.1
 clear h
 go_enter Tryz.func13, Tryz.ntmps13
 go_wp2
 go_ret
 exact ⟨rfl, rfl⟩
set_option maxRecDepth 100000 in
set_option maxHeartbeats 1000000 in
theorem rpmachine_any (h : RpV w M tg r R C) :
  Calls Tryz.prog 20 #[.pointer (some ⟨r, 0, none⟩)] w fun e w' => e = .returned (.pointer (some ⟨C.g, 0, none⟩)) ∧ w = w' := by
 have c2 := (rpcells h).2.2.2.1
 clear h
 go_enter Tryz.func20, Tryz.ntmps20
 go_wp2
 go_ret
 exact ⟨rfl, rfl⟩
set_option maxRecDepth 100000 in
set_option maxHeartbeats 1000000 in
theorem rpterm_any (h : RpV w M tg r R C) :
  Calls Tryz.prog 47 #[.pointer (some ⟨r, 0, none⟩)] w fun e w' => e = .returned (.int .i64 R.x.t) ∧ w = w' := by
 have hc := Lib.hid (vterm_any w h.st.st)
 have c2 := (rpcells h).2.2.1
 clear h
 go_enter Tryz.func47, Tryz.ntmps47
 go_wp2_with fail
 refine hc.out.mono ?_
 rintro e w1 ⟨rfl, rfl⟩
 go_wp2_with fail
 go_ret
 exact ⟨rfl, rfl⟩
end
section
variable {w w' : World} {Y : List Nat} {d k : Nat} {b : List UInt8}
theorem mc_core {g : Nat} {X : List Nat} (h : McAt w g X mc0 0) : ∃ X', McAt w g X' mc0 0 ∧ ∀ x ∈ X', x ∈ X ∧ x < w.heap.size := by
 obtain ⟨c, DH, h⟩ := h
 refine ⟨c.core g, ⟨c, DH, h.b0, h.sm, h.m2, h.m3, h.nd, h.sh, h.no, h.dj, fun x hx => hx, fun kl hk => absurd rfl hk⟩, fun x hx => ⟨h.inX x hx, ?_⟩⟩
 have a1 := h.b0.lt
 have a2 := h.sm.1.lt
 have a3 := h.sm.2.1.lt
 have a4 := h.m2.lt
 have a5 := h.m3.lt
 simp only [McC.core, List.mem_cons, List.not_mem_nil, or_false] at hx
 rcases hx with rfl | rfl | rfl | rfl | rfl <;> assumption
set_option maxRecDepth 100000 in
set_option maxHeartbeats 1000000 in
/-- No such node: nil. -/
theorem rpnew_no (node nodes : Int) (v : Value) (h : nodes < 1 ∨ 8 < nodes ∨ node < 0 ∨ nodes ≤ node) :
  Calls Tryz.prog 7 #[.int .i64 node, .int .i64 nodes, v] w fun e w' => e = .returned (.pointer none) ∧ w = w' := by
 by_cases h1 : nodes < 1
 ·have e1 : decide (nodes < 1) = true := decide_eq_true h1
  clear h h1
  go_enter Tryz.func7, Tryz.ntmps7
  go_wp2_with fail
  go_ret
  exact ⟨rfl, rfl⟩
 have e1 : decide (nodes < 1) = false := decide_eq_false h1
 by_cases h2 : 8 < nodes
 ·have e2 : decide (8 < nodes) = true := decide_eq_true h2
  clear h h1 h2
  go_enter Tryz.func7, Tryz.ntmps7
  go_wp2_with fail
  go_ret
  exact ⟨rfl, rfl⟩
 have e2 : decide (8 < nodes) = false := decide_eq_false h2
 by_cases h3 : node < 0
 ·have e3 : decide (node < 0) = true := decide_eq_true h3
  clear h h1 h2 h3
  go_enter Tryz.func7, Tryz.ntmps7
  go_wp2_with fail
  go_ret
  exact ⟨rfl, rfl⟩
 have e3 : decide (node < 0) = false := decide_eq_false h3
 have e4 : decide (nodes ≤ node) = true := decide_eq_true (by omega)
 clear h h1 h2 h3
 go_enter Tryz.func7, Tryz.ntmps7
 go_wp2_with fail
 go_ret
 exact ⟨rfl, rfl⟩
end
end Go.Proofs.YtdaceeijifjpeaaGreatDoor.Vi
end
