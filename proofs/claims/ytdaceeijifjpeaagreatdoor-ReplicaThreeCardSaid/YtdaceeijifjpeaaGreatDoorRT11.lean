/- Texts put together: RpI, RpJ, RpK. -/
import Derived.ArgAppend
import Derived.Test.YtdaceeijifjpeaaGreatDoorRT10
set_option linter.unusedVariables false
set_option linter.unusedSimpArgs false
section
namespace Go.Proofs.YtdaceeijifjpeaaGreatDoor.Vi
open Go.RowKit Base Mem Go.Shelf Tape
open Lead (VoteD VoteAt promiseS wonS accS medS termS newVote)
theorem wp_append_grows {P : Program} (w : World) {o : Oper} {a : Act} {K : Act → World → Prop} {Q : Exit → Act → World → Prop} (s x : Operand) (t : TypeId) (hop : o.op = .call { callee := .builtin .append, args := #[s, x], argTypes := #[t, t] })
  (e : TypeId) (i : TypeInfo) (z : Value) (size bytes : Nat) (h1 : P.underlying t = some (.slice e)) (h2 : P.info? e = some i) (h3 : i.zero = some z) (h4 : i.size = size) (h5 : i.bytes = bytes) (h6 : z.cells.size = size) (h7 : 0 < size)
  (ao : Option Addr) (n cap : Nat) (olds : List Value) (hs : a.eval s = .slice ao n cap) (hnone : ao = none → n = 0 ∧ cap = 0) (hlo : olds.length = n * size) (holds : ∀ b, ao = some b → ∀ j u, olds[j]? = some u → w.cell? (b.add j) = some u)
  (ad : Addr) (m c : Nat) (news : List Value) (hx : a.eval x = .slice (some ad) m c) (hn : news.length = m * size) (hc : ∀ j u, news[j]? = some u → w.cell? (ad.add j) = some u) (h1c : ∀ u ∈ news, u.oneCell' = true)
  (hfull : cap < n + m) (b1 : n + m ≤ maxLen) (b2 : (n + m) * bytes ≤ 140737488355328)
  (hK : ∀ v' w', w'.ownsRow w.heap.size e size v' (n + m) (olds ++ news) → w.grownBy w' none → K (a.put o.dst v') w') : o.wp P a w K Q := by
 have hr : ∃ v' w', (Builtin.append_ #[t, t] o.type #[.slice ao n cap, .slice (some ad) m c]).run P w = .ok v' w' ∧ w'.ownsRow w.heap.size e size v' (n + m) (olds ++ news) ∧ w.grownBy w' none := by
  cases ao with
  | some b => exact run_append_arg_grows (P := P) w t o.type e i z size bytes h1 h2 h3 h4 h5 h6 h7 b n cap olds hlo (holds b rfl) ad m c news hn hc hfull b1 b2
  | none =>
   obtain ⟨rfl, rfl⟩ := hnone rfl
   obtain rfl : olds = [] := List.eq_nil_of_length_eq_zero (by simpa using hlo)
   obtain ⟨v', w', hrun, r1, r2, _⟩ := run_append_own (P := P) w w.heap.size t o.type e i z size bytes h1 h2 h3 h4 h5 h6 h7 (.slice none 0 0) 0 [] (World.ownsRow_nil w _ e size) ad m c news hn hc h1c b1 b2 (Nat.le_refl _)
   exact ⟨v', w', hrun, r1, r2⟩
 obtain ⟨v', w', hrun, r1, r2⟩ := hr
 unfold Oper.wp execOp
 simp only [hop, resolve, invoke, builtin, Sem.run_bind, Sem.run_pure, Result.andThen_ok, List.map_toArray, List.map_cons, List.map_nil, hs, hx, hrun]
 exact hK v' w' r1 r2
theorem own_one {w : World} {base : Nat} (hb : base ≤ w.heap.size) (e : TypeId) (cs : Array Value) : (w.alloc (.cells cs e)).ownsRow base e cs.size (.slice (some ⟨w.heap.size, 0, none⟩) 1 1) 1 cs.toList := by
 refine ⟨by simp, .inr ⟨w.heap.size, 1, cs, rfl, hb, heap_alloc_new w _, Nat.le_refl _, by unfold maxLen; omega, by simp, List.take_of_length_le (by simp)⟩⟩
section
variable {w w' : World} {M : List Nat} {tg : Nat → Nat} {r d : Nat} {R : RpD} {C : RpC}
theorem RoSt.one (h : RpAt w M tg r d R) (hM : ∀ g ∈ M, g < w.heap.size) (s : SentD) (h1 : s.m.en.ds = []) (h2 : s.m.log = []) : ROPost M tg r d (R, [s]) w (.returned (.slice (some ⟨w.heap.size, 0, none⟩) 1 1)) (w.alloc (.cells (sCell s.dst s.m (.slice none 0 0) (.slice none 0 0)).toArray 39)) := by
 have hk : Keeps [] w (w.alloc (.cells (sCell s.dst s.m (.slice none 0 0) (.slice none 0 0)).toArray 39)) := (Keeps.refl _ _).alloc _
 obtain ⟨a1, a2⟩ := h.more hM hk [w.heap.size] (fun g hg => by simp at hg; subst hg; exact ⟨Nat.le_refl _, by rw [World.size_alloc]; omega⟩)
 refine ⟨_, _, _, rfl, a1, a2, hk.to_sel (by simp), ⟨[(s, .slice none 0 0, .slice none 0 0)], rfl, own_one (Nat.le_refl _) _ _, fun q hq L hL => ?_⟩, fun g hg => ?_⟩
 ·simp at hq; subst hq
  exact ⟨by rw [h1]; exact Ds.nil _ _, by rw [h2]; exact Ens.nil _ _⟩
 ·injection hg with hg
  subst hg
  exact ⟨by simp, by simp⟩
set_option maxRecDepth 100000 in
set_option maxHeartbeats 4000000 in
theorem rpask_any (h : RpAt w M tg r d R) (hM : ∀ g ∈ M, g < w.heap.size) (h0 : 0 ∉ M) (hap : R.ap = R.com) (fr : Int) (e : EntryD) (dv : Value) (hd : Ds w [] dv e.ds) (hes : Short e ∧ Wf e) (hdl : e.ds.length ≤ 1048576) (mx : Int) (hm : w.cell? ⟨0, 0, none⟩ = some (.int .i64 mx)) :
  Calls Tryz.prog 39 #[.pointer (some ⟨r, 0, none⟩), .int .i64 fr, .agg (eCell (e, dv)).toArray] w fun e' w' => ROPost M tg r d (rpAsk R fr e) w e' w' := by
 have hw0 : 0 < w.heap.size := by
  have := World.block_lt_of_cell? w _ hm
  simpa using this
 obtain ⟨i0, hi0, hz0, hz1, hz2⟩ := info_parts infoSentR
 have Hi0 := Lib.hid hi0; have Hz0 := Lib.hid hz0; have Hz1 := Lib.hid hz1; have Hz2 := Lib.hid hz2
 obtain ⟨j0, hj0, hy0, hy1, hy2⟩ := info_parts infoEntry
 have Hj0 := Lib.hid hj0; have Hy0 := Lib.hid hy0; have Hy1 := Lib.hid hy1; have Hy2 := Lib.hid hy2
 clear hi0 hz0 hz1 hz2 hj0 hy0 hy1 hy2
 obtain ⟨Ad, cd, rfl, _⟩ := hd.len
 obtain ⟨ee, Hee⟩ : ∃ ee, Hid (ee = e) := ⟨e, rfl⟩
 have HPd : Hid (∀ e' w', ROPost M tg r d (rpAsk R fr ee) w e' w' → ROPost M tg r d (rpAsk R fr e) w e' w') := fun _ _ h => by rw [Hee.out] at h; exact h
 have Hcp : Hid (∀ W (fr' : Int), Ds W [] (.slice Ad e.ds.length cd) e.ds → Calls Tryz.prog 76 #[.agg (eCell (askE e fr', .slice Ad e.ds.length cd)).toArray] W fun r' w' => ∃ dv', r' = .returned (.agg (eCell (askE e fr', dv')).toArray) ∧ (∀ M', (∀ g ∈ M', g < W.heap.size) → Ds w' M' dv' e.ds) ∧ Below W.heap.size W w') := fun W fr' hD => copy_any [] (askE e fr') _ W hD (by show e.ds.length * 24 ≤ _; omega)
 have HRA := Lib.hid h; have HMl := Lib.hid hM; have H0 := Lib.hid h0; have Hap := Lib.hid hap; have Hm := Lib.hid hm; have Hes := Lib.hid hes; have Hd0 := Lib.hid hd
 obtain ⟨C, HV⟩ : ∃ C, Hid (C.d = d ∧ RpV w M tg r R C) := by obtain ⟨_, C, h1, h2⟩ := h; exact ⟨C, h1, h2⟩
 clear h hM h0 hap hm hes hd hdl
 obtain ⟨kind, ag, sh, seq, ep, ds, ser, efr, etg⟩ := e
 simp only [eCell, askE] at Hcp ⊢
 simp only [] at Hd0
 obtain ⟨w0, hw0'⟩ : ∃ w0, w0 = w.alloc (.cells #[.int .i64 kind, .int .i64 ag, .int .i64 sh, .int .i64 seq, .int .i64 ep, .slice Ad ds.length cd, .string ser, .int .i64 efr, .int .i64 etg] 33) := ⟨_, rfl⟩
 have hk0 : Keeps [] w w0 := by rw [hw0']; exact (Keeps.refl _ _).alloc _
 have hB0 : Blk w0 w.heap.size 33 #[.int .i64 kind, .int .i64 ag, .int .i64 sh, .int .i64 seq, .int .i64 ep, .slice Ad ds.length cd, .string ser, .int .i64 efr, .int .i64 etg] := by rw [hw0']; exact Blk.new w _ _
 obtain ⟨g5, Hg5⟩ : ∃ g5, Hid (g5 = w.heap.size) := ⟨_, rfl⟩
 rw [← Hg5.out] at hB0
 have Hk0 := Lib.hid hk0; have HB0 := Lib.hid hB0
 have hlg := Lib.hid (vlog_any w0 (HV.out.2.keep0 HMl.out hk0).st.st)
 obtain ⟨-, -, c2, -, -, c5, c6, -, hrl⟩ := rpcells (HV.out.2.keep0 HMl.out hk0)
 clear hk0 hB0
 go_enter Tryz.func39, Tryz.ntmps39
 go_upto_region 1 with (fail)
 rw [← hw0', ← Hg5.out]
 clear hw0'
 go_wp2_with fail
 refine hlg.out.mono ?_
 rintro e1 w1 ⟨A8, rfl, hE1, hk1⟩
 have Hk1 : Hid (Keeps [] w w1) := Hk0.out.trans hk1 (by simp)
 have HB1 := Lib.hid (hk1.blk HB0.out (by simp))
 have HE1 := Lib.hid (hE1 [g5] (by simp; exact HB0.out.lt))
 have q7 := HB1.out.cell 7; have q8 := HB1.out.cell 8; have f7 := HB1.out.frozen 7
 simp only [List.getElem?_toArray, List.getElem?_cons_succ, List.getElem?_cons_zero] at q7 q8
 clear hE1 hk1 hlg c2 c5 c6 HB0
 go_upto_region 5 with (fail)
 obtain ⟨w2, hw2⟩ : ∃ w2, w2 = w1.setCell ⟨g5, 7, none⟩ (.int .i64 fr) := ⟨_, rfl⟩
 rw [← hw2]
 have hk2 : Keeps [g5] w1 w2 := by rw [hw2]; exact (Keeps.refl _ _).setCell (by simp) _
 have HB2 : Hid (Blk w2 g5 33 #[.int .i64 kind, .int .i64 ag, .int .i64 sh, .int .i64 seq, .int .i64 ep, .slice Ad ds.length cd, .string ser, .int .i64 fr, .int .i64 etg]) := by
  show Blk _ _ _ _
  rw [hw2]
  simpa using HB1.out.set_ 7 (.int .i64 fr)
 have HK2 : Hid (Keeps [] w w2) := Hk1.out.trans hk2 (fun g hg => by simp at hg; have := Hg5.out; right; omega)
 have HE2 : Hid (Ens w2 [] (.slice A8 R.x.log.length R.x.log.length) R.x.log) := ((HE1.out.keep hk2 (fun g hg => .inl hg)).avoid (M' := []) (by simp))
 have HD2 := Lib.hid (Hd0.out.keep HK2.out (by simp))
 have HRA2 := Lib.hid (HRA.out.keep0 HMl.out HK2.out)
 have HV2 := Lib.hid (HV.out.2.keep0 HMl.out HK2.out)
 have HM2 : Hid (∀ g ∈ M, g < w2.heap.size) := fun g hg => Nat.lt_of_lt_of_le (HMl.out g hg) HK2.out.size
 have hm2 : Hid (w2.cell? ⟨0, 0, none⟩ = some (.int .i64 mx)) := (HK2.out.cell (p := ⟨0, 0, none⟩) hw0 (by simp)).trans Hm.out
 obtain ⟨d0, -, d2, -, -, d5, d6, -, -⟩ := rpcells HV2.out
 have HX2 : Hid (Ext w M tg w2 M tg ∧ Keeps (sel M tg (List.range 30)) w w2) := ⟨Ext.refl HMl.out HK2.out.size, HK2.out.to_sel (by simp)⟩
 have HOne : Hid (∀ c : Int, rpAsk R fr ee = (R, [⟨fr, answerM etg c 0⟩]) → ∀ W, Keeps [] w2 W → ROPost M tg r d (rpAsk R fr ee) w (.returned (.slice (some ⟨W.heap.size, 0, none⟩) 1 1)) (W.alloc (.cells #[.int .i64 fr, .int .i64 2, .int .i64 0, .int .i64 0, .int .i64 0, .int .i64 0, .int .i64 0, .slice none 0 0, .string ⟨#[]⟩, .int .i64 0, .int .i64 0, .int .i64 etg, .int .i64 c, .int .u64 0, .int .i64 0, .int .i64 0, .slice none 0 0, .int .i64 0, .int .i64 0] 39))) := fun c hc W hk => by
  rw [hc]
  exact ROPost.base (RoSt.one (HRA2.out.keep0 HM2.out hk) (fun g hg => Nat.lt_of_lt_of_le (HM2.out g hg) hk.size) ⟨fr, answerM etg c 0⟩ rfl rfl) (HX2.out.1.later hk.size) (HX2.out.2.trans (hk.mono (M' := sel M tg (List.range 30)) (by simp)) (fun g hg => .inl hg))
 clear hw2 hk2 q7 q8 f7 HB1 HE1 Hk1
 cases hld : R.leads with
 | false =>
  rw [hld] at d6
  have hA : rpAsk R fr ee = (R, [⟨fr, answerM etg 6 0⟩]) := by
   unfold rpAsk
   rw [hld, Hee.out]
  have HP := Lib.hid (HPd.out _ _ (HOne.out 6 hA w2 (Keeps.refl _ _)))
  clear hA hld d0 d2 d5
  go_wp2_with fail
  go_ret
  exact HP.out
 | true =>
  rw [hld] at d6
  obtain ⟨v, hv⟩ : ∃ v, R.v = some v := by
   have h1 := HRA2.out.1.2.2.2.2.2.2 hld
   cases hv : R.v with
   | none => rw [hv] at h1; cases h1
   | some v => exact ⟨v, rfl⟩
  rw [hv] at d5
  have Hv := Lib.hid hv
  have HAsk : Hid (rpAsk R fr ee = if R.x.log.length < 128 ∧ (rpTake R v.term (R.x.log ++ [askE ee fr])).1 = true then rpBoth (rpTake R v.term (R.x.log ++ [askE ee fr])).2 v else (R, [⟨fr, answerM ee.tag 7 0⟩])) := by
   show _ = _
   unfold rpAsk
   rw [hld, hv]
  have hetg : ee.tag = etg := by rw [Hee.out]
  rw [hetg] at HAsk
  have hll8 : R.x.log.length ≤ 128 := HV2.out.st.ok.2.2.1
  have d5 : w2.cell? ⟨r, 5, none⟩ = some (.pointer (some ⟨C.vb, 0, none⟩)) := d5
  go_upto_region 7 with (fail)
  by_cases h128 : 128 ≤ R.x.log.length
  ·have hA : rpAsk R fr ee = (R, [⟨fr, answerM etg 7 0⟩]) := by rw [HAsk.out, if_neg (fun h => by have := h.1; omega)]
   have HP := Lib.hid (HPd.out _ _ (HOne.out 7 hA w2.drew (Keeps.refl _ _).drew))
   have hge : (128 : Int) ≤ (R.x.log.length : Int) := by omega
   clear hA hld d0 HAsk
   refine wp_region_held_drew (S := (fun W => W.cell? ⟨r, 2, none⟩ = some (.pointer (some ⟨C.s, 0, none⟩)))) (by kernel_rfl) d2 (fun hHeld => ?_)
   refine wT 0 (v := ?v0u1) (by kernel_rfl) rfl (by rfl) ?y0u1 (fun _ _ _ h => h) (by assumption) ?r0u1
   case y0u1 => (intro w hSw; (have hS0 := hSw); go_simp <;> with_reducible rfl)
   try simp only [sgl, Act.put]
   refine wT 1 (v := ?v1u2) (by kernel_rfl) rfl (by rfl) ?y1u2 (fun _ _ _ h => h) (by assumption) ?r1u2
   case y1u2 => (intro w hSw; (have hS0 := hSw); go_simp <;> with_reducible rfl)
   try simp only [sgl, Act.put]
   refine wT 2 (v := ?v2u3) (by kernel_rfl) rfl (by rfl) ?y2u3 (fun _ _ _ h => h) (by assumption) ?r2u3
   case y2u3 => (intro w hSw; (have hS0 := hSw); go_simp <;> with_reducible rfl)
   try simp only [sgl, Act.put]
   refine wT 3 (v := ?v3u4) (by kernel_rfl) rfl (by rfl) ?y3u4 (fun _ _ _ h => h) (by assumption) ?r3u4
   case y3u4 => (intro w hSw; (have hS0 := hSw); go_simp <;> with_reducible rfl)
   try simp only [sgl, Act.put]
   refine wS 4 (by kernel_rfl) rfl (by rfl) (fun _ _ _ h => h) (by assumption) ?_
   try simp only [sgl, Act.put]
   refine wS 5 (by kernel_rfl) rfl (by rfl) (fun _ _ _ h => h) (by assumption) ?_
   try simp only [sgl, Act.put]
   refine wS 6 (by kernel_rfl) rfl (by rfl) (fun _ _ _ h => h) (by assumption) ?_
   try simp only [sgl, Act.put]
   refine wS 7 (by kernel_rfl) rfl (by rfl) (fun _ _ _ h => h) (by assumption) ?_
   try simp only [sgl, Act.put]
   refine wS 8 (by kernel_rfl) rfl (by rfl) (fun _ _ _ h => h) (by assumption) ?_
   try simp only [sgl, Act.put]
   refine wS 9 (by kernel_rfl) rfl (by rfl) (fun _ _ _ h => h) (by assumption) ?_
   try simp only [sgl, Act.put]
   refine wS 10 (by kernel_rfl) rfl (by rfl) (fun _ _ _ h => h) (by assumption) ?_
   try simp only [sgl, Act.put]
   refine wS 11 (by kernel_rfl) rfl (by rfl) (fun _ _ _ h => h) (by assumption) ?_
   try simp only [sgl, Act.put]
   refine wS 12 (by kernel_rfl) rfl (by rfl) (fun _ _ _ h => h) (by assumption) ?_
   try simp only [sgl, Act.put]
   refine wS 13 (by kernel_rfl) rfl (by rfl) (fun _ _ _ h => h) (by assumption) ?_
   try simp only [sgl, Act.put]
   refine wS 14 (by kernel_rfl) rfl (by rfl) (fun _ _ _ h => h) (by assumption) ?_
   try simp only [sgl, Act.put]
   refine wS 15 (by kernel_rfl) rfl (by rfl) (fun _ _ _ h => h) (by assumption) ?_
   try simp only [sgl, Act.put]
   refine wS 16 (by kernel_rfl) rfl (by rfl) (fun _ _ _ h => h) (by assumption) ?_
   try simp only [sgl, Act.put]
   refine wS 17 (by kernel_rfl) rfl (by rfl) (fun _ _ _ h => h) (by assumption) ?_
   try simp only [sgl, Act.put]
   refine wS 18 (by kernel_rfl) rfl (by rfl) (fun _ _ _ h => h) (by assumption) ?_
   try simp only [sgl, Act.put]
   refine wS 19 (by kernel_rfl) rfl (by rfl) (fun _ _ _ h => h) (by assumption) ?_
   try simp only [sgl, Act.put]
   refine wT 20 (v := ?v20u5) (by kernel_rfl) rfl (by rfl) ?y20u5 (fun _ _ _ h => h) (by assumption) ?r20u5
   case y20u5 => (intro w hSw; (have hS0 := hSw); go_simp <;> with_reducible rfl)
   try simp only [sgl, Act.put]
   refine wT 21 (v := ?v21u6) (by kernel_rfl) rfl (by rfl) ?y21u6 (fun _ _ _ h => h) (by assumption) ?r21u6
   case y21u6 => (intro w hSw; (have hS0 := hSw); go_simp <;> with_reducible rfl)
   try simp only [sgl, Act.put]
   refine wpAnyH_done (by kernel_rfl) ?_ _
   clear hHeld
   clear d2 d5 d6
   go_wp2_with fail
   go_ret
   exact HP.out
  ·have hge : ¬ (128 : Int) ≤ (R.x.log.length : Int) := by omega
   have hl127 : R.x.log.length < 128 := by omega
   have hgE : g5 ∉ M := fun hm => by have := HMl.out _ hm; have := Hg5.out; omega
   have HS : Hid (∀ W, Keeps [] w2 W → W.cell? ⟨r, 2, none⟩ = some (.pointer (some ⟨C.s, 0, none⟩)) ∧ W.cell? ⟨r, 5, none⟩ = some (.pointer (some ⟨C.vb, 0, none⟩)) ∧ W.cell? ⟨g5, 0, none⟩ = some (.int .i64 kind) ∧ W.cell? ⟨g5, 1, none⟩ = some (.int .i64 ag) ∧ W.cell? ⟨g5, 2, none⟩ = some (.int .i64 sh) ∧ W.cell? ⟨g5, 3, none⟩ = some (.int .i64 seq) ∧ W.cell? ⟨g5, 4, none⟩ = some (.int .i64 ep) ∧ W.cell? ⟨g5, 5, none⟩ = some (.slice Ad ds.length cd) ∧ W.cell? ⟨g5, 6, none⟩ = some (.string ser) ∧ W.cell? ⟨g5, 7, none⟩ = some (.int .i64 fr) ∧ W.cell? ⟨g5, 8, none⟩ = some (.int .i64 etg)) := fun W hk => by
    have h2 := hk.blk HB2.out (by simp)
    exact ⟨(hk.cell (p := ⟨r, 2, none⟩) HV2.out.blk.lt (by simp)).trans d2, (hk.cell (p := ⟨r, 5, none⟩) HV2.out.blk.lt (by simp)).trans d5, h2.cell 0, h2.cell 1, h2.cell 2, h2.cell 3, h2.cell 4, h2.cell 5, h2.cell 6, h2.cell 7, h2.cell 8⟩
   have HT : Hid (∀ W, Keeps [] w2 W → Calls Tryz.prog 41 #[.pointer (some ⟨C.vb, 0, none⟩)] W fun e w' => e = .returned (.int .i64 v.term) ∧ W = w') := fun W hk => Lead.vterm_any M C.vb v W ((HV2.out.keep0 HM2.out hk).vt v Hv.out).1
   have HTs := Lib.hid (rpTake_same R v.term (R.x.log ++ [askE ee fr]))
   have HTo := Lib.hid (rpTake_ok HRA2.out.1 v.term (R.x.log ++ [askE ee fr]))
   have Hask : Hid (askE ee fr = ⟨kind, ag, sh, seq, ep, ds, ser, fr, etg⟩) := by show _ = _; rw [Hee.out]; rfl
   have Hesa : Hid (Short (askE ee fr) ∧ Wf (askE ee fr)) := by rw [Hask.out]; exact Hes.out
   have HA : Hid (∀ W lv, Keeps [] w2 W → Ens W [] lv (R.x.log ++ [askE ee fr]) → Calls Tryz.prog 71 #[.pointer (some ⟨C.s, 0, none⟩), .int .i64 v.term, lv] W fun e w' => RwPost M tg r C (rpTake R v.term (R.x.log ++ [askE ee fr])) W e w') := fun W lv hk he => rptake_any (HV2.out.keep0 HM2.out hk) (fun g hg => Nat.lt_of_lt_of_le (HM2.out g hg) hk.size) v.term (HRA2.out.1.2.2.2.2.2.1 v Hv.out).2.2.1 lv _ he (fun e he => by
     rcases List.mem_append.1 he with h1 | h1
     ·exact (HV2.out.st.ok.2.2.2 e h1).2
     ·simp at h1; subst h1; exact Hesa.out) mx ((hk.cell (p := ⟨0, 0, none⟩) (by have := HK2.out.size; show 0 < _; omega) (by simp)).trans hm2.out)
   clear hld d0 d2 d5 d6
   refine wp_region_held_drew (S := (fun W => W.cell? ⟨r, 2, none⟩ = some (.pointer (some ⟨C.s, 0, none⟩)) ∧ W.cell? ⟨r, 5, none⟩ = some (.pointer (some ⟨C.vb, 0, none⟩)) ∧ W.cell? ⟨g5, 0, none⟩ = some (.int .i64 kind) ∧ W.cell? ⟨g5, 1, none⟩ = some (.int .i64 ag) ∧ W.cell? ⟨g5, 2, none⟩ = some (.int .i64 sh) ∧ W.cell? ⟨g5, 3, none⟩ = some (.int .i64 seq) ∧ W.cell? ⟨g5, 4, none⟩ = some (.int .i64 ep) ∧ W.cell? ⟨g5, 5, none⟩ = some (.slice Ad ds.length cd) ∧ W.cell? ⟨g5, 6, none⟩ = some (.string ser) ∧ W.cell? ⟨g5, 7, none⟩ = some (.int .i64 fr) ∧ W.cell? ⟨g5, 8, none⟩ = some (.int .i64 etg))) (by kernel_rfl) (HS.out _ (Keeps.refl _ _).drew) (fun hHeld => ?_)
   refine wT 0 (v := ?v0u7) (by kernel_rfl) rfl (by rfl) ?y0u7 (fun _ _ _ h => h) (by assumption) ?r0u7
   case y0u7 => (intro w hSw; (obtain ⟨hS0, hS1, hS2, hS3, hS4, hS5, hS6, hS7, hS8, hS9, hS10⟩ := hSw); go_simp <;> with_reducible rfl)
   try simp only [sgl, Act.put]
   refine wT 1 (v := ?v1u8) (by kernel_rfl) rfl (by rfl) ?y1u8 (fun _ _ _ h => h) (by assumption) ?r1u8
   case y1u8 => (intro w hSw; (obtain ⟨hS0, hS1, hS2, hS3, hS4, hS5, hS6, hS7, hS8, hS9, hS10⟩ := hSw); go_simp <;> with_reducible rfl)
   try simp only [sgl, Act.put]
   refine wT 2 (v := ?v2u9) (by kernel_rfl) rfl (by rfl) ?y2u9 (fun _ _ _ h => h) (by assumption) ?r2u9
   case y2u9 => (intro w hSw; (obtain ⟨hS0, hS1, hS2, hS3, hS4, hS5, hS6, hS7, hS8, hS9, hS10⟩ := hSw); go_simp <;> with_reducible rfl)
   try simp only [sgl, Act.put]
   refine wT 3 (v := ?v3u10) (by kernel_rfl) rfl (by rfl) ?y3u10 (fun _ _ _ h => h) (by assumption) ?r3u10
   case y3u10 => (intro w hSw; (obtain ⟨hS0, hS1, hS2, hS3, hS4, hS5, hS6, hS7, hS8, hS9, hS10⟩ := hSw); go_simp <;> with_reducible rfl)
   try simp only [sgl, Act.put]
   refine wT 4 (v := ?v4u11) (by kernel_rfl) rfl (by rfl) ?y4u11 (fun _ _ _ h => h) (by assumption) ?r4u11
   case y4u11 => (intro w hSw; (obtain ⟨hS0, hS1, hS2, hS3, hS4, hS5, hS6, hS7, hS8, hS9, hS10⟩ := hSw); go_simp <;> with_reducible rfl)
   try simp only [sgl, Act.put]
   refine wT 5 (v := ?v5u12) (by kernel_rfl) rfl (by rfl) ?y5u12 (fun _ _ _ h => h) (by assumption) ?r5u12
   case y5u12 => (intro w hSw; (obtain ⟨hS0, hS1, hS2, hS3, hS4, hS5, hS6, hS7, hS8, hS9, hS10⟩ := hSw); go_simp <;> with_reducible rfl)
   try simp only [sgl, Act.put]
   refine wT 6 (v := ?v6u13) (by kernel_rfl) rfl (by rfl) ?y6u13 (fun _ _ _ h => h) (by assumption) ?r6u13
   case y6u13 => (intro w hSw; (obtain ⟨hS0, hS1, hS2, hS3, hS4, hS5, hS6, hS7, hS8, hS9, hS10⟩ := hSw); go_simp <;> with_reducible rfl)
   try simp only [sgl, Act.put]
   refine wT 7 (v := ?v7u14) (by kernel_rfl) rfl (by rfl) ?y7u14 (fun _ _ _ h => h) (by assumption) ?r7u14
   case y7u14 => (intro w hSw; (obtain ⟨hS0, hS1, hS2, hS3, hS4, hS5, hS6, hS7, hS8, hS9, hS10⟩ := hSw); go_simp <;> with_reducible rfl)
   try simp only [sgl, Act.put]
   refine wT 8 (v := ?v8u15) (by kernel_rfl) rfl (by rfl) ?y8u15 (fun _ _ _ h => h) (by assumption) ?r8u15
   case y8u15 => (intro w hSw; (obtain ⟨hS0, hS1, hS2, hS3, hS4, hS5, hS6, hS7, hS8, hS9, hS10⟩ := hSw); go_simp <;> with_reducible rfl)
   try simp only [sgl, Act.put]
   refine wT 9 (v := ?v9u16) (by kernel_rfl) rfl (by rfl) ?y9u16 (fun _ _ _ h => h) (by assumption) ?r9u16
   case y9u16 => (intro w hSw; (obtain ⟨hS0, hS1, hS2, hS3, hS4, hS5, hS6, hS7, hS8, hS9, hS10⟩ := hSw); go_simp <;> with_reducible rfl)
   try simp only [sgl, Act.put]
   refine wT 10 (v := ?v10u17) (by kernel_rfl) rfl (by rfl) ?y10u17 (fun _ _ _ h => h) (by assumption) ?r10u17
   case y10u17 => (intro w hSw; (obtain ⟨hS0, hS1, hS2, hS3, hS4, hS5, hS6, hS7, hS8, hS9, hS10⟩ := hSw); go_simp <;> with_reducible rfl)
   try simp only [sgl, Act.put]
   refine wT 11 (v := ?v11u18) (by kernel_rfl) rfl (by rfl) ?y11u18 (fun _ _ _ h => h) (by assumption) ?r11u18
   case y11u18 => (intro w hSw; (obtain ⟨hS0, hS1, hS2, hS3, hS4, hS5, hS6, hS7, hS8, hS9, hS10⟩ := hSw); go_simp <;> with_reducible rfl)
   try simp only [sgl, Act.put]
   refine wT 13 (v := ?v13u19) (by kernel_rfl) rfl (by rfl) ?y13u19 (fun _ _ _ h => h) (by assumption) ?r13u19
   case y13u19 => (intro w hSw; (obtain ⟨hS0, hS1, hS2, hS3, hS4, hS5, hS6, hS7, hS8, hS9, hS10⟩ := hSw); go_simp <;> with_reducible rfl)
   try simp only [sgl, Act.put]
   refine wT 14 (v := ?v14u20) (by kernel_rfl) rfl (by rfl) ?y14u20 (fun _ _ _ h => h) (by assumption) ?r14u20
   case y14u20 => (intro w hSw; (obtain ⟨hS0, hS1, hS2, hS3, hS4, hS5, hS6, hS7, hS8, hS9, hS10⟩ := hSw); go_simp <;> with_reducible rfl)
   try simp only [sgl, Act.put]
   refine wpAnyH_ready (rs := [12]) (by kernel_rfl) (by simp) ?_
   refine AllReadyH.cons (o := _) rfl (fun K hK => ?_) AllReadyH.nil
   go_simp
   refine (HT.out _ (Keeps.refl _ _).drew).mono ?_
   rintro e wl ⟨rfl, rfl⟩
   refine hK.out _ _ (HS.out _ (Keeps.refl _ _).drew) (fun hHeld2 => ?_)
   clear hK K hHeld
   have hHeld := hHeld2
   clear hHeld2
   try simp only [sgl, Act.put]
   refine wpAnyH_ready (rs := [15]) (by kernel_rfl) (by simp) ?_
   refine AllReadyH.cons (o := _) rfl (fun K hK => ?_) AllReadyH.nil
   go_simp
   refine (Hcp.out w2.drew fr (HD2.out.keep (M' := []) ((Keeps.refl _ _).drew) (by simp))).mono ?_
   rintro e w3 ⟨dv3, rfl, hD3, hb3⟩
   obtain ⟨A3, n3, rfl, _⟩ := (hD3 [] (by simp)).len
   have Hk3 : Hid (Keeps [] w2 w3) := ((Keeps.refl [] w2).drew).trans (Keeps.of_below (M := []) hb3) (by simp)
   have HD3 := Lib.hid (hD3 [] (by simp))
   clear hD3 hb3
   refine hK.out _ _ (HS.out _ Hk3.out) (fun hHeld2 => ?_)
   clear hK K hHeld
   have hHeld := hHeld2
   clear hHeld2
   try simp only [sgl, Act.put]
   refine wpAnyH_ready (rs := [16]) (by kernel_rfl) (by simp) ?_
   refine AllReadyH.cons (o := _) rfl (fun K hK => ?_) AllReadyH.nil
   go_simp
   refine hK.out _ _ (HS.out _ (Hk3.out.alloc _)) (fun hHeld2 => ?_)
   clear hK K hHeld
   have hHeld := hHeld2
   clear hHeld2
   try simp only [sgl, Act.put]
   obtain ⟨ps, hps, hrd, hdss⟩ := HE2.out.keep (M' := []) (Hk3.out.alloc (.cells #[.int .i64 kind, .int .i64 ag, .int .i64 sh, .int .i64 seq, .int .i64 ep, .slice A3 ds.length n3, .string ser, .int .i64 fr, .int .i64 etg] 33)) (by simp)
   have hpl : ps.length = R.x.log.length := by rw [← hps, List.length_map]
   obtain ⟨A9, c9, e9, h9a, h9b, h9c⟩ := hrd
   injection e9 with e9 e9b e9c
   subst e9
   have hnone : A8 = none → R.x.log.length = 0 ∧ R.x.log.length = 0 := fun h => by
    rcases Nat.eq_zero_or_pos ps.length with h1 | h1
    ·omega
    ·obtain ⟨g9, o9, h2, _⟩ := h9c h1
     rw [h] at h2; cases h2
   have hold : ∀ b, A8 = some b → ∀ j u, (ps.flatMap eCell)[j]? = some u → (w3.alloc (.cells #[.int .i64 kind, .int .i64 ag, .int .i64 sh, .int .i64 seq, .int .i64 ep, .slice A3 ds.length n3, .string ser, .int .i64 fr, .int .i64 etg] 33)).cell? (b.add j) = some u := fun b hb j u hu => by
    rcases Nat.eq_zero_or_pos ps.length with h1 | h1
    ·obtain rfl := List.eq_nil_of_length_eq_zero h1
     cases hu
    ·obtain ⟨g9, o9, h2, _, _, h5⟩ := h9c h1
     rw [hb] at h2
     injection h2 with h2
     subst h2
     rw [addr_add]
     exact h5 j u hu
   have Hnone := Lib.hid hnone; have Hold := Lib.hid hold; have Hps := Lib.hid hps; have Hdss := Lib.hid hdss; have Hpl := Lib.hid hpl; have H9b := Lib.hid h9b
   clear hnone hold hps hdss h9a h9b h9c e9b e9c hpl
   refine wpAnyH_ready (rs := [17]) (by kernel_rfl) (by simp) ?_
   refine AllReadyH.cons (o := _) rfl (fun K hK => ?_) AllReadyH.nil
   rw [if_pos (by rfl)]
   refine wp_append_grows _ (.tmp 39) (.tmp 42) 35 rfl 33 j0 _ 9 96 Tryz.underlying35 Hj0.out Hy0.out Hy1.out Hy2.out rfl (by omega) A8 R.x.log.length R.x.log.length (ps.flatMap eCell) (by simp [Act.eval, Act.put]) Hnone.out (by rw [← Hpl.out]; exact H9b.out) Hold.out ⟨w3.heap.size, 0, none⟩ 1 1 (#[.int .i64 kind, .int .i64 ag, .int .i64 sh, .int .i64 seq, .int .i64 ep, .slice A3 ds.length n3, .string ser, .int .i64 fr, .int .i64 etg]).toList (by simp [Act.eval, Act.put]) rfl (fun j u hu => by rw [addr_add, Nat.zero_add, (Blk.new w3 33 #[.int .i64 kind, .int .i64 ag, .int .i64 sh, .int .i64 seq, .int .i64 ep, .slice A3 ds.length n3, .string ser, .int .i64 fr, .int .i64 etg]).cell j, ← Array.getElem?_toList]; exact hu) (by intro u hu; simp only [List.mem_cons, List.not_mem_nil, or_false] at hu; rcases hu with rfl | rfl | rfl | rfl | rfl | rfl | rfl | rfl | rfl <;> rfl) (by omega) (by unfold maxLen; omega) (by omega) ?_
   intro v5 w5 hown5 hg5
   obtain ⟨A5, c5, rfl, _⟩ := own_slice3 hown5
   have Hk5 : Hid (Keeps [] w2 w5) := (Hk3.out.alloc _).grown hg5 (fun q hq => by cases hq)
   have HE5 : Hid (Ens w5 [] (.slice A5 (R.x.log.length + 1) c5) (R.x.log ++ [askE ee fr])) := by
    refine ⟨ps ++ [(askE ee fr, .slice A3 ds.length n3)], by rw [List.map_append, Hps.out]; rfl, ?_, fun q hq => ?_⟩
    ·rw [List.length_append, List.flatMap_append, Hpl.out]
     refine Rd.of_own (M := []) (e := 33) (base := (w3.alloc (.cells #[.int .i64 kind, .int .i64 ag, .int .i64 sh, .int .i64 seq, .int .i64 ep, .slice A3 ds.length n3, .string ser, .int .i64 fr, .int .i64 etg] 33)).heap.size) ?_ (by simp)
     rw [Hask.out]
     exact hown5
    ·have hkk : Keeps [] w3 w5 := ((Keeps.refl [] w3).alloc _).grown hg5 (fun q hq => by cases hq)
     rcases List.mem_append.1 hq with h1 | h1
     ·exact (Hdss.out q h1).keep (((Keeps.refl [] _)).grown hg5 (fun q hq => by cases hq)) (by simp)
     ·simp at h1; subst h1
      show Ds w5 [] _ (askE ee fr).ds
      rw [Hask.out]
      exact HD3.out.keep hkk (by simp)
   clear hown5 hg5 Hold Hnone Hps Hdss Hpl H9b HD3
   refine hK.out _ _ (HS.out _ Hk5.out) (fun hHeld2 => ?_)
   clear hK K hHeld
   have hHeld := hHeld2
   clear hHeld2
   try simp only [sgl, Act.put]
   generalize rpTake R v.term (R.x.log ++ [askE ee fr]) = T at *
   obtain ⟨tb, R1⟩ := T
   refine wpAnyH_ready (rs := [18]) (by kernel_rfl) (by simp) ?_
   refine AllReadyH.cons (o := _) rfl (fun K hK => ?_) AllReadyH.nil
   go_simp
   refine (HA.out _ _ Hk5.out HE5.out).mono ?_
   rintro e w6 ⟨rfl, M6, tg6, Y6, hV6, hx6, hk6⟩
   have HV6 := Lib.hid hV6; have Hx6 := Lib.hid hx6; have Hk6 := Lib.hid hk6
   have hnr : r ∉ sel M tg [2, 3, 4] := fun hm => by
    have h1 := (mem_sel.1 hm).2
    rw [HV2.out.tr] at h1
    simp at h1
   have HS6 : Hid (w6.cell? ⟨r, 2, none⟩ = some (.pointer (some ⟨C.s, 0, none⟩)) ∧ w6.cell? ⟨r, 5, none⟩ = some (.pointer (some ⟨C.vb, 0, none⟩)) ∧ w6.cell? ⟨g5, 0, none⟩ = some (.int .i64 kind) ∧ w6.cell? ⟨g5, 1, none⟩ = some (.int .i64 ag) ∧ w6.cell? ⟨g5, 2, none⟩ = some (.int .i64 sh) ∧ w6.cell? ⟨g5, 3, none⟩ = some (.int .i64 seq) ∧ w6.cell? ⟨g5, 4, none⟩ = some (.int .i64 ep) ∧ w6.cell? ⟨g5, 5, none⟩ = some (.slice Ad ds.length cd) ∧ w6.cell? ⟨g5, 6, none⟩ = some (.string ser) ∧ w6.cell? ⟨g5, 7, none⟩ = some (.int .i64 fr) ∧ w6.cell? ⟨g5, 8, none⟩ = some (.int .i64 etg)) := by
    have h1 := HS.out _ Hk5.out
    have h2 := hk6.blk (Hk5.out.blk HB2.out (by simp)) (fun hm => hgE (mem_sel.1 hm).1)
    have hr5 := Nat.lt_of_lt_of_le HV2.out.blk.lt Hk5.out.size
    exact ⟨(hk6.cell (p := ⟨r, 2, none⟩) hr5 hnr).trans h1.1, (hk6.cell (p := ⟨r, 5, none⟩) hr5 hnr).trans h1.2.1, h2.cell 0, h2.cell 1, h2.cell 2, h2.cell 3, h2.cell 4, h2.cell 5, h2.cell 6, h2.cell 7, h2.cell 8⟩
   clear hV6 hx6 hk6 hnr
   refine hK.out _ _ HS6.out (fun hHeld2 => ?_)
   clear hK K hHeld
   have hHeld := hHeld2
   clear hHeld2
   try simp only [sgl, Act.put]
   refine wT 19 (v := ?v19u21) (by kernel_rfl) rfl (by rfl) ?y19u21 (fun _ _ _ h => h) (by assumption) ?r19u21
   case y19u21 => (intro w hSw; (obtain ⟨hS0, hS1, hS2, hS3, hS4, hS5, hS6, hS7, hS8, hS9, hS10⟩ := hSw); go_simp <;> with_reducible rfl)
   try simp only [sgl, Act.put]
   refine wT 20 (v := ?v20u22) (by kernel_rfl) rfl (by rfl) ?y20u22 (fun _ _ _ h => h) (by assumption) ?r20u22
   case y20u22 => (intro w hSw; (obtain ⟨hS0, hS1, hS2, hS3, hS4, hS5, hS6, hS7, hS8, hS9, hS10⟩ := hSw); go_simp <;> with_reducible rfl)
   try simp only [sgl, Act.put]
   refine wT 21 (v := ?v21u23) (by kernel_rfl) rfl (by rfl) ?y21u23 (fun _ _ _ h => h) (by assumption) ?r21u23
   case y21u23 => (intro w hSw; (obtain ⟨hS0, hS1, hS2, hS3, hS4, hS5, hS6, hS7, hS8, hS9, hS10⟩ := hSw); go_simp <;> with_reducible rfl)
   try simp only [sgl, Act.put]
   refine wpAnyH_done (by kernel_rfl) ?_ _
   clear hHeld
   simp only [] at HTs HTo HAsk HV6
   have HX6 : Hid (Ext w M tg w6 M6 tg6 ∧ Keeps (sel M tg (List.range 30)) w w6) := ⟨(Ext.refl HMl.out (HK2.out.trans Hk5.out (by simp)).size).trans Hx6.out (HK2.out.trans Hk5.out (by simp)).size, Ext.keeps (Ext.refl HMl.out (HK2.out.trans Hk5.out (by simp)).size) ((HK2.out.trans Hk5.out (by simp)).to_sel (by simp)) (Hk6.out.sel_mono (by simp))⟩
   clear HS HS6 HT HA Hk6 Hx6 HE5 HE2 Hcp HOne
   cases tb with
   | false =>
    obtain rfl : R1 = R := HTs.out.2.2.2.2.2.2.2.2 rfl
    have HP : Hid (ROPost M tg r d (rpAsk R1 fr ee) w (.returned (.slice (some ⟨w6.heap.size, 0, none⟩) 1 1)) (w6.alloc (.cells #[.int .i64 fr, .int .i64 2, .int .i64 0, .int .i64 0, .int .i64 0, .int .i64 0, .int .i64 0, .slice none 0 0, .string ⟨#[]⟩, .int .i64 0, .int .i64 0, .int .i64 etg, .int .i64 7, .int .u64 0, .int .i64 0, .int .i64 0, .slice none 0 0, .int .i64 0, .int .i64 0] 39))) := by
     rw [HAsk.out, if_neg (by simp)]
     exact ROPost.base (RoSt.one ⟨HTo.out, _, (by exact HV.out.1), HV6.out⟩ HX6.out.1.lt ⟨fr, answerM etg 7 0⟩ rfl rfl) HX6.out.1 HX6.out.2
    have HPP := Lib.hid (HPd.out _ _ HP.out)
    clear HP HPd HTs
    go_wp2_with fail
    go_ret
    exact HPP.out
   | true =>
    have hv1 : R1.v = some v := HTs.out.2.2.1.trans Hv.out
    have hap1 : R1.ap = R1.com := by rw [HTs.out.2.2.2.2.2.2.1, HTs.out.2.2.2.2.2.1]; exact Hap.out
    have hRA : RpAt w6 M6 tg6 r d R1 := ⟨HTo.out, _, (by exact HV.out.1), HV6.out⟩
    have hll : R1.x.log.length ≤ 128 := HV6.out.st.ok.2.2.1
    have hm3 : w6.cell? ⟨0, 0, none⟩ = some (.int .i64 mx) := (HX6.out.2.cell (p := ⟨0, 0, none⟩) hw0 (fun hm => H0.out (mem_sel.1 hm).1)).trans Hm.out
    have h03 : 0 ∉ M6 := fun hm => by
     rcases HX6.out.1.new 0 hm with h1 | h1
     ·exact H0.out h1
     ·omega
    obtain ⟨vv, Hvv⟩ : ∃ vv, Hid (vv = v) := ⟨v, rfl⟩
    have HJC : Hid (Calls Tryz.prog 44 #[.pointer (some ⟨r, 0, none⟩), .int .i64 R1.node, .int .i64 R1.x.log.length] w6.drew fun e w' => ROPost M tg r d (rpCounted R1 vv R1.node R1.x.log.length) w e w') := by
     rw [Hvv.out]
     refine (rpcounted_any (hRA.keep0 HX6.out.1.lt ((Keeps.refl [] w6).drew)) HX6.out.1.lt h03 hap1 v hv1 R1.node R1.x.log.length mx hm3).mono ?_
     intro e w' hp
     exact ROPost.base hp (HX6.out.1.later (Nat.le_refl _)) HX6.out.2.drew
    obtain ⟨Cs, hcs⟩ : ∃ Cs, Cs = C.s := ⟨_, rfl⟩
    have HJL : Hid (Calls Tryz.prog 72 #[.pointer (some ⟨Cs, 0, none⟩)] w6.drew fun e w' => e = .returned (.int .i64 R1.x.log.length) ∧ w6.drew = w') := by
     rw [hcs]
     exact vlen_any w6.drew ((show StZ w6.drew _ _ _ _ _ _ _ _ _ from HV6.out.st.keep0 ((Keeps.refl [] w6).drew)).st)
    obtain ⟨d0, -, d2, -⟩ := rpcells HV6.out
    have d2 : w6.cell? ⟨r, 2, none⟩ = some (.pointer (some ⟨Cs, 0, none⟩)) := by rw [hcs]; exact d2
    have HJ0 : Hid (w6.drew.cell? ⟨r, 0, none⟩ = some (.int .i64 R1.node)) := d0
    have d2d : w6.drew.cell? ⟨r, 2, none⟩ = some (.pointer (some ⟨Cs, 0, none⟩)) := d2
    have HD2 : Hid (rpAsk R fr ee = rpBoth R1 vv) := by
     show _ = _
     rw [HAsk.out, if_pos ⟨hl127, rfl⟩, Hvv.out]
    clear hRA hm3 h03 hv1 hap1 d0 d2 hcs HTs HAsk
    go_upto_region 11 with (fail)
    refine wp_region_held_drew (S := (fun W => W.cell? ⟨r, 0, none⟩ = some (.int .i64 R1.node))) (by kernel_rfl) HJ0.out (fun hHeld => ?_)
    refine wT 0 (v := ?v0u24) (by kernel_rfl) rfl (by rfl) ?y0u24 (fun _ _ _ h => h) (by assumption) ?r0u24
    case y0u24 => (intro w hSw; (have hS0 := hSw); go_simp <;> with_reducible rfl)
    try simp only [sgl, Act.put]
    refine wT 1 (v := ?v1u25) (by kernel_rfl) rfl (by rfl) ?y1u25 (fun _ _ _ h => h) (by assumption) ?r1u25
    case y1u25 => (intro w hSw; (have hS0 := hSw); go_simp <;> with_reducible rfl)
    try simp only [sgl, Act.put]
    refine wT 2 (v := ?v2u26) (by kernel_rfl) rfl (by rfl) ?y2u26 (fun _ _ _ h => h) (by assumption) ?r2u26
    case y2u26 => (intro w hSw; (have hS0 := hSw); go_simp <;> with_reducible rfl)
    try simp only [sgl, Act.put]
    refine wT 3 (v := ?v3u27) (by kernel_rfl) rfl (by rfl) ?y3u27 (fun _ _ _ h => h) (by assumption) ?r3u27
    case y3u27 => (intro w hSw; (have hS0 := hSw); go_simp <;> with_reducible rfl)
    try simp only [sgl, Act.put]
    refine wT 4 (v := ?v4u28) (by kernel_rfl) rfl (by rfl) ?y4u28 (fun _ _ _ h => h) (by assumption) ?r4u28
    case y4u28 => (intro w hSw; (have hS0 := hSw); go_simp <;> with_reducible rfl)
    try simp only [sgl, Act.put]
    refine wT 5 (v := ?v5u29) (by kernel_rfl) rfl (by rfl) ?y5u29 (fun _ _ _ h => h) (by assumption) ?r5u29
    case y5u29 => (intro w hSw; (have hS0 := hSw); go_simp <;> with_reducible rfl)
    try simp only [sgl, Act.put]
    refine wT 6 (v := ?v6u30) (by kernel_rfl) rfl (by rfl) ?y6u30 (fun _ _ _ h => h) (by assumption) ?r6u30
    case y6u30 => (intro w hSw; (have hS0 := hSw); go_simp <;> with_reducible rfl)
    try simp only [sgl, Act.put]
    refine wT 7 (v := ?v7u31) (by kernel_rfl) rfl (by rfl) ?y7u31 (fun _ _ _ h => h) (by assumption) ?r7u31
    case y7u31 => (intro w hSw; (have hS0 := hSw); go_simp <;> with_reducible rfl)
    try simp only [sgl, Act.put]
    refine wT 11 (v := ?v11u32) (by kernel_rfl) rfl (by rfl) ?y11u32 (fun _ _ _ h => h) (by assumption) ?r11u32
    case y11u32 => (intro w hSw; (have hS0 := hSw); go_simp <;> with_reducible rfl)
    try simp only [sgl, Act.put]
    refine wpAnyH_ready (rs := [8]) (by kernel_rfl) (by simp) ?_
    refine AllReadyH.cons (o := _) rfl (fun K hK => ?_) AllReadyH.nil
    go_simp
    refine hK.out _ _ HJ0.out (fun hHeld2 => ?_)
    clear hK K hHeld
    have hHeld := hHeld2
    clear hHeld2
    try simp only [sgl, Act.put]
    refine wpAnyH_ready (rs := [9]) (by kernel_rfl) (by simp) ?_
    refine AllReadyH.cons (o := _) rfl (fun K hK => ?_) AllReadyH.nil
    go_simp
    refine (HJL.out).mono ?_
    rintro e wl ⟨rfl, rfl⟩
    refine hK.out _ _ HJ0.out (fun hHeld2 => ?_)
    clear hK K hHeld
    have hHeld := hHeld2
    clear hHeld2
    try simp only [sgl, Act.put]
    refine wpAnyH_ready (rs := [10]) (by kernel_rfl) (by simp) ?_
    refine AllReadyH.cons (o := _) rfl (fun K hK => ?_) AllReadyH.nil
    go_simp
    refine (HJC.out).mono ?_
    rintro e wc ⟨v1, M3, tg3, rfl, hro⟩
    obtain ⟨k1, k2, k3, k4, k5, k6, k7⟩ := rpCounted_same R1 vv R1.node R1.x.log.length
    have hc0 : wc.cell? ⟨r, 0, none⟩ = some (.int .i64 R1.node) := by
     obtain ⟨_, C3, _, hv3⟩ := hro.ag
     rw [← k1]; exact (rpcells hv3).1
    have Hro := Lib.hid hro; have Hc0 := Lib.hid hc0
    have hac := Lib.hid (rpaccepts_any hro.ag hro.x.lt)
    have hl6 : (rpCounted R1 vv R1.node R1.x.log.length).2.length ≤ 128 := Nat.le_trans k6 hll
    have HB : Hid (rpBoth R1 vv = ((rpCounted R1 vv R1.node R1.x.log.length).1, (rpCounted R1 vv R1.node R1.x.log.length).2 ++ rpAccepts (rpCounted R1 vv R1.node R1.x.log.length).1)) := rfl
    clear hro hc0 k1 k2 k3 k4 k5 k6 k7
    refine hK.out _ _ Hc0.out (fun hHeld2 => ?_)
    clear hK K hHeld
    have hHeld := hHeld2
    clear hHeld2
    try simp only [sgl, Act.put]
    generalize rpBoth R1 vv = PB at *
    generalize rpCounted R1 vv R1.node R1.x.log.length = PC at *
    obtain ⟨R3, out3⟩ := PC
    simp only [] at hl6 HB Hro hac
    refine wpAnyH_ready (rs := [12]) (by kernel_rfl) (by simp) ?_
    refine AllReadyH.cons (o := _) rfl (fun K hK => ?_) AllReadyH.nil
    go_simp
    refine hac.out.mono ?_
    rintro e wa ⟨v2, qs2, rfl, hq2, hsr, hba⟩
    have hka : Keeps [] wc wa := Keeps.of_below (M := []) hba
    have HroA := Lib.hid (Hro.out.keep0 hka)
    have HsrA := Lib.hid (hsr M3 Hro.out.x.lt)
    have Hq2 := Lib.hid hq2
    have Hca : Hid (wa.cell? ⟨r, 0, none⟩ = some (.int .i64 R1.node)) := (hka.cell (p := ⟨r, 0, none⟩) (by obtain ⟨_, C3, _, hv3⟩ := Hro.out.ag; exact hv3.blk.lt) (by simp)).trans Hc0.out
    have hql : qs2.length ≤ 8 := by
     have h1 := congrArg List.length hq2
     rw [List.length_map] at h1
     rw [h1]
     have h2 := toAll_len R3.node (acceptM R3.x.t R3.x.log R3.com) R3.nodes.toNat
     have h3 := Hro.out.ag.1.1
     exact Nat.le_trans h2 (by omega)
    clear hka hq2 hsr hba hac Hc0
    refine hK.out _ _ Hca.out (fun hHeld2 => ?_)
    clear hK K hHeld
    have hHeld := hHeld2
    clear hHeld2
    try simp only [sgl, Act.put]
    obtain ⟨qs1, e1, e2, e3⟩ := HroA.out.qs
    obtain ⟨A1, c1, rfl, _⟩ := own_slice3 e2
    obtain ⟨A2, c2, rfl, _⟩ := own_slice3 HsrA.out.row
    have HR2 : Hid (Reads wa wa.heap.size 19 A2 qs2.length (qs2.flatMap srCell)) := by
     obtain ⟨A9, c9, e9, h9a, h9b, h9c⟩ := Rd.of_own (M := []) HsrA.out.row (by simp)
     injection e9 with e9 _ _
     subst e9
     refine ⟨h9b, fun hn => ?_⟩
     obtain ⟨g9, o9, rfl, hg9, _, hx9⟩ := h9c hn
     exact ⟨⟨g9, o9, none⟩, rfl, hg9, fun j u hu => by rw [addr_add]; exact hx9 j u hu⟩
    have He1 := Lib.hid e1; have He2 := Lib.hid e2; have He3 := Lib.hid e3
    clear e1 e2 e3
    refine wpAnyH_ready (rs := [13]) (by kernel_rfl) (by simp) ?_
    refine AllReadyH.cons (o := _) rfl (fun K hK => ?_) AllReadyH.nil
    refine step_append_any _ rfl (.tmp 65) (.tmp 67) 27 rfl w.heap.size 39 i0 _ 19 192 Tryz.underlying27 Hi0.out Hz0.out Hz1.out Hz2.out rfl (by omega) (.slice A1 out3.length c1) out3.length (qs1.flatMap srCell) (by simp [Act.eval, Act.put]) He2.out wa.heap.size A2 qs2.length c2 (qs2.flatMap srCell) (by simp [Act.eval, Act.put]) HR2.out (fun u hu => by
     obtain ⟨q, hq, hu⟩ := List.mem_flatMap.1 hu
     exact sr_one (HsrA.out.val q hq [] (by simp)) u hu) (by unfold maxLen; omega) (by omega) HroA.out.k.size ?_
    intro v5 w5_ hown5 hg5 hat5
    obtain ⟨M5, tg5, hr5, hx5, hk5⟩ := HroA.out.grow (news := qs2) He1.out He2.out He3.out (fun q hq L hL => HsrA.out.val q hq (L ++ M3) (fun g hg => by
     rcases List.mem_append.1 hg with h1 | h1
     ·exact .inl (Nat.lt_of_lt_of_le (hL g h1) Hro.out.k.size)
     ·exact .inr (.inl h1))) hg5 hat5 hown5
    have HF5 : Hid (ROPost M tg r d PB w (.returned v5) w5_) := by
     rw [HB.out]
     refine ⟨v5, M5, tg5, rfl, ?_⟩
     have h9 := hr5
     rw [Hq2.out] at h9
     exact h9
    have Hc5 : Hid (w5_.cell? ⟨r, 0, none⟩ = some (.int .i64 R1.node)) := (hk5.cell (p := ⟨r, 0, none⟩) (by obtain ⟨_, C3, _, hv3⟩ := HroA.out.ag; exact hv3.blk.lt) (fun hm => by
     obtain ⟨_, C3, _, hv3⟩ := HroA.out.ag
     have h1 := (mem_sel.1 hm).2
     rw [hv3.tr] at h1
     simp at h1)).trans Hca.out
    clear hown5 hg5 hat5 hr5 hx5 hk5
    refine hK.out _ _ Hc5.out (fun hHeld2 => ?_)
    clear hK K hHeld
    have hHeld := hHeld2
    clear hHeld2
    try simp only [sgl, Act.put]
    refine wT 14 (v := ?v14u33) (by kernel_rfl) rfl (by rfl) ?y14u33 (fun _ _ _ h => h) (by assumption) ?r14u33
    case y14u33 => (intro w hSw; (have hS0 := hSw); go_simp <;> with_reducible rfl)
    try simp only [sgl, Act.put]
    refine wpAnyH_done (by kernel_rfl) ?_ _
    clear hHeld
    have HP : Hid (ROPost M tg r d (rpAsk R fr ee) w (.returned v5) w5_) := by rw [HD2.out]; exact HF5.out
    have HPP := Lib.hid (HPd.out _ _ HP.out)
    clear HP HPd
    go_wp2_with fail
    go_ret
    exact HPP.out
end
section
variable {w w' : World} {M : List Nat} {tg : Nat → Nat} {r d : Nat} {R : RpD} {C : RpC}
theorem RoSt.oneV (h : RpAt w M tg r d R) (hM : ∀ g ∈ M, g < w.heap.size) {wx : World} (hkx : Keeps [] w wx) (s : SentD) (dv lv : Value) (hv : ∀ L, (∀ g ∈ L, g < w.heap.size) → MsgAt wx L s.m dv lv) : ROPost M tg r d (R, [s]) w (.returned (.slice (some ⟨wx.heap.size, 0, none⟩) 1 1)) (wx.alloc (.cells (sCell s.dst s.m dv lv).toArray 39)) := by
 have hk1 : Keeps [] wx (wx.alloc (.cells (sCell s.dst s.m dv lv).toArray 39)) := (Keeps.refl _ _).alloc _
 have hk : Keeps [] w (wx.alloc (.cells (sCell s.dst s.m dv lv).toArray 39)) := hkx.trans hk1 (by simp)
 have hs := hkx.size
 obtain ⟨a1, a2⟩ := h.more hM hk [wx.heap.size] (fun g hg => by simp at hg; subst hg; exact ⟨hs, by rw [World.size_alloc]; omega⟩)
 refine ⟨_, _, _, rfl, a1, a2, hk.to_sel (by simp), ⟨[(s, dv, lv)], rfl, own_one hs _ _, fun q hq L hL => ?_⟩, fun g hg => ?_⟩
 ·simp at hq; subst hq
  refine ((hv (L ++ M) (fun g hg => ?_)).avoid (M' := L ++ ([wx.heap.size] ++ M)) (fun g hg => ?_)).keep hk1 (by simp)
  ·rcases List.mem_append.1 hg with h1 | h1
   ·exact hL g h1
   ·exact hM g h1
  ·rcases List.mem_append.1 hg with h1 | h1
   ·exact .inl (List.mem_append_left _ h1)
   ·rcases List.mem_append.1 h1 with h2 | h2
    ·simp at h2; right; omega
    ·exact .inl (List.mem_append_right _ h2)
 ·injection hg with hg
  subst hg
  exact ⟨by simp, by simp⟩
theorem rpPromise_same (R : RpD) (t : Int) : (rpPromise R t).2.node = R.node ∧ (rpPromise R t).2.nodes = R.nodes ∧ (rpPromise R t).2.v = R.v ∧ (rpPromise R t).2.leads = R.leads ∧ (rpPromise R t).2.own = R.own ∧ (rpPromise R t).2.com = R.com ∧ (rpPromise R t).2.ap = R.ap ∧ (rpPromise R t).2.st = R.st ∧ (rpPromise R t).2.x.h = R.x.h ∧ (rpPromise R t).2.x.log = R.x.log ∧ ((rpPromise R t).1 = false → (rpPromise R t).2 = R) := by
 unfold rpPromise rpKeep
 split
 ·split
  ·exact ⟨rfl, rfl, rfl, rfl, rfl, rfl, rfl, rfl, rfl, rfl, fun h => (nomatch h)⟩
  ·exact ⟨rfl, rfl, rfl, rfl, rfl, rfl, rfl, rfl, rfl, rfl, fun _ => rfl⟩
 ·exact ⟨rfl, rfl, rfl, rfl, rfl, rfl, rfl, rfl, rfl, rfl, fun _ => rfl⟩
theorem rpPromise_ok (h : RpOk R) (t : Int) : RpOk (rpPromise R t).2 := by
 obtain ⟨e1, e2, e3, e4, e5, e6, e7, e8, _⟩ := rpPromise_same R t
 obtain ⟨h1, h2, h3, h4, h5, h6, h7⟩ := h
 exact ⟨by rw [e2]; exact h1, by rw [e1, e2]; exact h2, by rw [e6, e7]; exact h3, by rw [e5]; exact h4, by rw [e7, e8]; exact h5, by rw [e2, e3]; exact h6, by rw [e3, e4]; exact h7⟩
theorem ROPost.nil {R' : RpD} {M' : List Nat} {tg' : Nat → Nat} (h : RpAt w' M' tg' r d R') (hx : Ext w M tg w' M' tg') (hk : Keeps (sel M tg (List.range 30)) w w') : ROPost M tg r d (R', []) w (.returned (.slice none 0 0)) w' :=
 ROPost.base (w1 := w') ⟨_, M', tg', rfl, RoSt.start h hx.lt⟩ hx hk
set_option maxRecDepth 100000 in
set_option maxHeartbeats 4000000 in
theorem rpprep_any (h : RpAt w M tg r d R) (hM : ∀ g ∈ M, g < w.heap.size) (fr term : Int) (ht : term ≤ 9223372036854775807) (mx : Int) (hm : w.cell? ⟨0, 0, none⟩ = some (.int .i64 mx)) :
  Calls Tryz.prog 40 #[.pointer (some ⟨r, 0, none⟩), .int .i64 fr, .int .i64 term] w fun e' w' => ROPost M tg r d (rpPrep R fr term) w e' w' := by
 obtain ⟨ho, C, hC, hV⟩ := h
 have hpr := Lib.hid (rppromise_any hV hM term ht mx hm)
 have HTs := Lib.hid (rpPromise_same R term)
 have HTo := Lib.hid (rpPromise_ok ho term)
 have HD : Hid (rpPrep R fr term = if (rpPromise R term).1 = true then (rpDown (rpPromise R term).2, [⟨fr, promiseM term R.x.h R.x.log⟩]) else (R, [])) := rfl
 have HMl := Lib.hid hM; have HC := Lib.hid hC
 obtain ⟨-, -, c2, -⟩ := rpcells hV
 generalize rpPromise R term = T at *
 obtain ⟨tb, R1⟩ := T
 simp only [] at HTs HTo HD
 clear ho hV hM hm hC ht
 go_enter Tryz.func40, Tryz.ntmps40
 go_wp2_with fail
 refine hpr.out.mono ?_
 rintro e1 w1 ⟨rfl, M1, tg1, Y1, hV1, hx1, hk1⟩
 simp only [] at hV1
 have HX1 : Hid (Ext w M tg w1 M1 tg1 ∧ Keeps (sel M tg (List.range 30)) w w1) := ⟨hx1, hk1.sel_mono (by simp)⟩
 have HRA : Hid (RpAt w1 M1 tg1 r d R1) := ⟨HTo.out, _, (by exact HC.out), hV1⟩
 clear hV1 hx1 hk1 hpr c2
 cases tb with
 | false =>
  obtain rfl : R1 = R := HTs.out.2.2.2.2.2.2.2.2.2.2 rfl
  have HP : Hid (ROPost M tg r d (rpPrep R1 fr term) w (.returned (.slice none 0 0)) w1) := by
   rw [HD.out, if_neg (by simp)]
   exact ROPost.nil HRA.out HX1.out.1 HX1.out.2
  clear HTs HD
  go_wp2_with fail
  go_ret
  exact HP.out
 | true =>
  have hdn := Lib.hid (rpdown_any HRA.out HX1.out.1.lt)
  go_wp2_with fail
  refine hdn.out.mono ?_
  rintro e2 w2 ⟨rfl, h1, h2, h3⟩
  have HX2 : Hid (Ext w M tg w2 M1 tg1 ∧ Keeps (sel M tg (List.range 30)) w w2) := ⟨HX1.out.1.trans h2 HX1.out.2.size, Ext.keeps HX1.out.1 HX1.out.2 (h3.sel_mono (by simp))⟩
  have HR2 := Lib.hid h1
  obtain ⟨C2, hv2⟩ : ∃ C2, RpV w2 M1 tg1 r (rpDown R1) C2 := by obtain ⟨_, C2, _, hv⟩ := h1; exact ⟨C2, hv⟩
  obtain ⟨-, -, c2, -⟩ := rpcells hv2
  have HV2 := Lib.hid hv2
  obtain ⟨Cs, hcs⟩ : ∃ Cs, Cs = C2.s := ⟨_, rfl⟩
  rw [← hcs] at c2
  have HS : Hid (∀ W, Keeps [] w2 W → W.cell? ⟨r, 2, none⟩ = some (.pointer (some ⟨Cs, 0, none⟩))) := fun W hk => (hk.cell (p := ⟨r, 2, none⟩) HV2.out.blk.lt (by simp)).trans c2
  have HH : Hid (∀ W, Keeps [] w2 W → Calls Tryz.prog 34 #[.pointer (some ⟨Cs, 0, none⟩)] W fun e w' => e = .returned (.int .i64 R1.x.h) ∧ W = w') := fun W hk => by rw [hcs]; exact vhad_any W (HV2.out.st.st.keep0 hk)
  have HL : Hid (∀ W, Keeps [] w2 W → Calls Tryz.prog 35 #[.pointer (some ⟨Cs, 0, none⟩)] W fun e w' => EnsPost R1.x.log W e w') := fun W hk => by rw [hcs]; exact vlog_any W (HV2.out.st.st.keep0 hk)
  clear h1 h2 h3 hdn hv2 c2 hcs HX1 HRA
  go_upto_region 4 with (fail)
  refine wp_region_held_drew (S := (fun W => W.cell? ⟨r, 2, none⟩ = some (.pointer (some ⟨Cs, 0, none⟩)))) (by kernel_rfl) (HS.out _ (Keeps.refl _ _).drew) (fun hHeld => ?_)
  refine wT 0 (v := ?v0u1) (by kernel_rfl) rfl (by rfl) ?y0u1 (fun _ _ _ h => h) (by assumption) ?r0u1
  case y0u1 => (intro w hSw; (have hS0 := hSw); go_simp <;> with_reducible rfl)
  try simp only [sgl, Act.put]
  refine wT 1 (v := ?v1u2) (by kernel_rfl) rfl (by rfl) ?y1u2 (fun _ _ _ h => h) (by assumption) ?r1u2
  case y1u2 => (intro w hSw; (have hS0 := hSw); go_simp <;> with_reducible rfl)
  try simp only [sgl, Act.put]
  refine wT 2 (v := ?v2u3) (by kernel_rfl) rfl (by rfl) ?y2u3 (fun _ _ _ h => h) (by assumption) ?r2u3
  case y2u3 => (intro w hSw; (have hS0 := hSw); go_simp <;> with_reducible rfl)
  try simp only [sgl, Act.put]
  refine wT 3 (v := ?v3u4) (by kernel_rfl) rfl (by rfl) ?y3u4 (fun _ _ _ h => h) (by assumption) ?r3u4
  case y3u4 => (intro w hSw; (have hS0 := hSw); go_simp <;> with_reducible rfl)
  try simp only [sgl, Act.put]
  refine wT 4 (v := ?v4u5) (by kernel_rfl) rfl (by rfl) ?y4u5 (fun _ _ _ h => h) (by assumption) ?r4u5
  case y4u5 => (intro w hSw; (have hS0 := hSw); go_simp <;> with_reducible rfl)
  try simp only [sgl, Act.put]
  refine wT 5 (v := ?v5u6) (by kernel_rfl) rfl (by rfl) ?y5u6 (fun _ _ _ h => h) (by assumption) ?r5u6
  case y5u6 => (intro w hSw; (have hS0 := hSw); go_simp <;> with_reducible rfl)
  try simp only [sgl, Act.put]
  refine wT 7 (v := ?v7u7) (by kernel_rfl) rfl (by rfl) ?y7u7 (fun _ _ _ h => h) (by assumption) ?r7u7
  case y7u7 => (intro w hSw; (have hS0 := hSw); go_simp <;> with_reducible rfl)
  try simp only [sgl, Act.put]
  refine wT 8 (v := ?v8u8) (by kernel_rfl) rfl (by rfl) ?y8u8 (fun _ _ _ h => h) (by assumption) ?r8u8
  case y8u8 => (intro w hSw; (have hS0 := hSw); go_simp <;> with_reducible rfl)
  try simp only [sgl, Act.put]
  refine wT 9 (v := ?v9u9) (by kernel_rfl) rfl (by rfl) ?y9u9 (fun _ _ _ h => h) (by assumption) ?r9u9
  case y9u9 => (intro w hSw; (have hS0 := hSw); go_simp <;> with_reducible rfl)
  try simp only [sgl, Act.put]
  refine wT 10 (v := ?v10u10) (by kernel_rfl) rfl (by rfl) ?y10u10 (fun _ _ _ h => h) (by assumption) ?r10u10
  case y10u10 => (intro w hSw; (have hS0 := hSw); go_simp <;> with_reducible rfl)
  try simp only [sgl, Act.put]
  refine wpAnyH_ready (rs := [6]) (by kernel_rfl) (by simp) ?_
  refine AllReadyH.cons (o := _) rfl (fun K hK => ?_) AllReadyH.nil
  go_simp
  refine (HH.out _ (Keeps.refl _ _).drew).mono ?_
  rintro e wl ⟨rfl, rfl⟩
  refine hK.out _ _ (HS.out _ (Keeps.refl _ _).drew) (fun hHeld2 => ?_)
  clear hK K hHeld
  have hHeld := hHeld2
  clear hHeld2
  try simp only [sgl, Act.put]
  refine wpAnyH_ready (rs := [11]) (by kernel_rfl) (by simp) ?_
  refine AllReadyH.cons (o := _) rfl (fun K hK => ?_) AllReadyH.nil
  go_simp
  refine (HL.out _ (Keeps.refl _ _).drew).mono ?_
  rintro e w3 ⟨A8, rfl, hE3, hk3⟩
  have Hk3 : Hid (Keeps [] w2 w3) := ((Keeps.refl [] w2).drew).trans hk3 (by simp)
  have HE3 : Hid (∀ M', (∀ g ∈ M', g < w2.heap.size) → Ens w3 M' (.slice A8 R1.x.log.length R1.x.log.length) R1.x.log) := hE3
  clear hE3 hk3
  refine hK.out _ _ (HS.out _ Hk3.out) (fun hHeld2 => ?_)
  clear hK K hHeld
  have hHeld := hHeld2
  clear hHeld2
  try simp only [sgl, Act.put]
  refine wT 12 (v := ?v12u11) (by kernel_rfl) rfl (by rfl) ?y12u11 (fun _ _ _ h => h) (by assumption) ?r12u11
  case y12u11 => (intro w hSw; (have hS0 := hSw); go_simp <;> with_reducible rfl)
  try simp only [sgl, Act.put]
  refine wT 13 (v := ?v13u12) (by kernel_rfl) rfl (by rfl) ?y13u12 (fun _ _ _ h => h) (by assumption) ?r13u12
  case y13u12 => (intro w hSw; (have hS0 := hSw); go_simp <;> with_reducible rfl)
  try simp only [sgl, Act.put]
  refine wpAnyH_ready (rs := [14]) (by kernel_rfl) (by simp) ?_
  refine AllReadyH.cons (o := _) rfl (fun K hK => ?_) AllReadyH.nil
  go_simp
  refine hK.out _ _ (HS.out _ (Hk3.out.alloc _)) (fun hHeld2 => ?_)
  clear hK K hHeld
  have hHeld := hHeld2
  clear hHeld2
  try simp only [sgl, Act.put]
  refine wT 15 (v := ?v15u13) (by kernel_rfl) rfl (by rfl) ?y15u13 (fun _ _ _ h => h) (by assumption) ?r15u13
  case y15u13 => (intro w hSw; (have hS0 := hSw); go_simp <;> with_reducible rfl)
  try simp only [sgl, Act.put]
  refine wpAnyH_done (by kernel_rfl) ?_ _
  clear hHeld
  have hM3 : ∀ g ∈ M1, g < w3.heap.size := fun g hg => Nat.lt_of_lt_of_le (HX2.out.1.lt g hg) Hk3.out.size
  have HP : Hid (ROPost M tg r d (rpPrep R fr term) w (.returned (.slice (some ⟨w3.heap.size, 0, none⟩) 1 1)) (w3.alloc (.cells #[.int .i64 fr, .int .i64 4, .int .i64 0, .int .i64 0, .int .i64 0, .int .i64 0, .int .i64 0, .slice none 0 0, .string ⟨#[]⟩, .int .i64 0, .int .i64 0, .int .i64 0, .int .i64 0, .int .u64 0, .int .i64 term, .int .i64 R1.x.h, .slice A8 R1.x.log.length R1.x.log.length, .int .i64 0, .int .i64 0] 39))) := by
   rw [HD.out]
   simp only [if_true]
   rw [← HTs.out.2.2.2.2.2.2.2.2.1, ← HTs.out.2.2.2.2.2.2.2.2.2.1]
   exact ROPost.base (RoSt.oneV HR2.out HX2.out.1.lt Hk3.out ⟨fr, promiseM term R1.x.h R1.x.log⟩ (.slice none 0 0) (.slice A8 R1.x.log.length R1.x.log.length) (fun L hL => ⟨Ds.nil _ _, HE3.out L hL⟩)) HX2.out.1 HX2.out.2
  clear HS HH HL HTs HD
  go_wp2_with fail
  go_ret
  exact HP.out
end
section
variable {w w' : World} {M : List Nat} {tg : Nat → Nat} {r d : Nat} {R : RpD} {C : RpC}
set_option maxRecDepth 100000 in
set_option maxHeartbeats 8000000 in
theorem rpacc_any (h : RpAt w M tg r d R) (hM : ∀ g ∈ M, g < w.heap.size) (h0 : 0 ∉ M) (hap : R.ap = R.com) (fr : Int) (m : MsgD) (dv lv : Value) (hma : MsgAt w [] m dv lv) (hs : ∀ e ∈ m.log, Short e ∧ Wf e) (ht : m.term ≤ 9223372036854775807) (mx : Int) (hm : w.cell? ⟨0, 0, none⟩ = some (.int .i64 mx)) :
  Calls Tryz.prog 43 #[.pointer (some ⟨r, 0, none⟩), .int .i64 fr, .agg (mCell m dv lv).toArray] w fun e' w' => ROPost M tg r d (rpAcc R fr m) w e' w' := by
 have hw0 : 0 < w.heap.size := by
  have := World.block_lt_of_cell? w _ hm
  simpa using this
 obtain ⟨Aa, na, rfl, _⟩ := hma.1.len
 obtain ⟨Ba, ka, rfl, _⟩ := hma.2.len
 obtain ⟨ho, C, hC, hV⟩ := h
 have HTs := Lib.hid (rpTake_same R m.term m.log)
 have HTo := Lib.hid (rpTake_ok ho m.term m.log)
 have HD : Hid (rpAcc R fr m = if (rpTake R m.term m.log).1 = true then ((rpApply (if (((rpTake R m.term m.log).2.v.map (·.term)).getD m.term ≠ m.term) then rpDown (rpTake R m.term m.log).2 else (rpTake R m.term m.log).2) m.commit).1, [⟨fr, acceptedM m.term (rpApply (if (((rpTake R m.term m.log).2.v.map (·.term)).getD m.term ≠ m.term) then rpDown (rpTake R m.term m.log).2 else (rpTake R m.term m.log).2) m.commit).1.x.log.length⟩]) else (R, [])) := rfl
 have HA : Hid (∀ W, Keeps [] w W → Calls Tryz.prog 71 #[.pointer (some ⟨C.s, 0, none⟩), .int .i64 m.term, .slice Ba m.log.length ka] W fun e w' => RwPost M tg r C (rpTake R m.term m.log) W e w') := fun W hk => rptake_any (hV.keep0 hM hk) (fun g hg => Nat.lt_of_lt_of_le (hM g hg) hk.size) m.term ht _ m.log (hma.2.keep hk (by simp)) hs mx ((hk.cell (p := ⟨0, 0, none⟩) hw0 (by simp)).trans hm)
 have HMl := Lib.hid hM; have HC := Lib.hid hC; have HV := Lib.hid hV; have H0 := Lib.hid h0; have Hap := Lib.hid hap; have Hm := Lib.hid hm
 obtain ⟨mm, Hmm⟩ : ∃ mm, Hid (mm = m) := ⟨m, rfl⟩
 have HPd : Hid (∀ e' w', ROPost M tg r d (rpAcc R fr mm) w e' w' → ROPost M tg r d (rpAcc R fr m) w e' w') := fun _ _ h => by rw [Hmm.out] at h; exact h
 rw [← Hmm.out] at HD
 have hmt : mm.term = m.term ∧ mm.log = m.log ∧ mm.commit = m.commit := by rw [Hmm.out]; exact ⟨rfl, rfl, rfl⟩
 rw [hmt.1, hmt.2.1, hmt.2.2] at HD
 generalize rpTake R m.term m.log = T at *
 obtain ⟨tb, R1⟩ := T
 simp only [] at HTs HTo HD
 clear ho hV hM hm hC ht h0 hap hs hma hmt
 obtain ⟨kd, ⟨kind, ag, sh, seq, ep, ds, ser, efr, etg⟩, tag, code, nn, term, had, log, commit, len⟩ := m
 simp only [] at HD HA
 simp only [mCell, eCell, List.cons_append, List.nil_append]
 obtain ⟨w0, hw0'⟩ : ∃ w0, w0 = w.alloc (.cells #[.int .i64 kd, .int .i64 kind, .int .i64 ag, .int .i64 sh, .int .i64 seq, .int .i64 ep, .slice Aa ds.length na, .string ser, .int .i64 efr, .int .i64 etg, .int .i64 tag, .int .i64 code, .int .u64 nn, .int .i64 term, .int .i64 had, .slice Ba log.length ka, .int .i64 commit, .int .i64 len] 37) := ⟨_, rfl⟩
 have hk0 : Keeps [] w w0 := by rw [hw0']; exact (Keeps.refl _ _).alloc _
 have hB0 : Blk w0 w.heap.size 37 #[.int .i64 kd, .int .i64 kind, .int .i64 ag, .int .i64 sh, .int .i64 seq, .int .i64 ep, .slice Aa ds.length na, .string ser, .int .i64 efr, .int .i64 etg, .int .i64 tag, .int .i64 code, .int .u64 nn, .int .i64 term, .int .i64 had, .slice Ba log.length ka, .int .i64 commit, .int .i64 len] := by rw [hw0']; exact Blk.new w _ _
 obtain ⟨g5, Hg5⟩ : ∃ g5, Hid (g5 = w.heap.size) := ⟨_, rfl⟩
 rw [← Hg5.out] at hB0
 have Hk0 := Lib.hid hk0; have HB0 := Lib.hid hB0
 have hgM : g5 ∉ M := fun hm => by have := HMl.out _ hm; have := Hg5.out; omega
 obtain ⟨Cs, hcs⟩ : ∃ Cs, Cs = C.s := ⟨_, rfl⟩
 have HS : Hid (∀ W, Keeps [] w0 W → W.cell? ⟨r, 2, none⟩ = some (.pointer (some ⟨Cs, 0, none⟩)) ∧ W.cell? ⟨g5, 13, none⟩ = some (.int .i64 term) ∧ W.cell? ⟨g5, 15, none⟩ = some (.slice Ba log.length ka)) := fun W hk => by
  obtain ⟨-, -, d2, -⟩ := rpcells (HV.out.keep0 HMl.out (Hk0.out.trans hk (by simp)))
  have h2 := hk.blk HB0.out (by simp)
  exact ⟨by rw [hcs]; exact d2, h2.cell 13, h2.cell 15⟩
 rw [← hcs] at HA
 have hr0 := Lib.hid (Nat.lt_of_lt_of_le HV.out.blk.lt hk0.size)
 clear hk0 hB0 hcs
 go_enter Tryz.func43, Tryz.ntmps43
 go_upto_region 1 with (fail)
 rw [← hw0', ← Hg5.out]
 clear hw0'
 refine wp_region_held_drew (S := (fun W => W.cell? ⟨r, 2, none⟩ = some (.pointer (some ⟨Cs, 0, none⟩)) ∧ W.cell? ⟨g5, 13, none⟩ = some (.int .i64 term) ∧ W.cell? ⟨g5, 15, none⟩ = some (.slice Ba log.length ka))) (by kernel_rfl) (HS.out _ (Keeps.refl _ _).drew) (fun hHeld => ?_)
 refine wT 0 (v := ?v0u1) (by kernel_rfl) rfl (by rfl) ?y0u1 (fun _ _ _ h => h) (by assumption) ?r0u1
 case y0u1 => (intro w hSw; (obtain ⟨hS0, hS1, hS2⟩ := hSw); go_simp <;> with_reducible rfl)
 try simp only [sgl, Act.put]
 refine wT 1 (v := ?v1u2) (by kernel_rfl) rfl (by rfl) ?y1u2 (fun _ _ _ h => h) (by assumption) ?r1u2
 case y1u2 => (intro w hSw; (obtain ⟨hS0, hS1, hS2⟩ := hSw); go_simp <;> with_reducible rfl)
 try simp only [sgl, Act.put]
 refine wT 2 (v := ?v2u3) (by kernel_rfl) rfl (by rfl) ?y2u3 (fun _ _ _ h => h) (by assumption) ?r2u3
 case y2u3 => (intro w hSw; (obtain ⟨hS0, hS1, hS2⟩ := hSw); go_simp <;> with_reducible rfl)
 try simp only [sgl, Act.put]
 refine wT 3 (v := ?v3u4) (by kernel_rfl) rfl (by rfl) ?y3u4 (fun _ _ _ h => h) (by assumption) ?r3u4
 case y3u4 => (intro w hSw; (obtain ⟨hS0, hS1, hS2⟩ := hSw); go_simp <;> with_reducible rfl)
 try simp only [sgl, Act.put]
 refine wT 4 (v := ?v4u5) (by kernel_rfl) rfl (by rfl) ?y4u5 (fun _ _ _ h => h) (by assumption) ?r4u5
 case y4u5 => (intro w hSw; (obtain ⟨hS0, hS1, hS2⟩ := hSw); go_simp <;> with_reducible rfl)
 try simp only [sgl, Act.put]
 refine wT 5 (v := ?v5u6) (by kernel_rfl) rfl (by rfl) ?y5u6 (fun _ _ _ h => h) (by assumption) ?r5u6
 case y5u6 => (intro w hSw; (obtain ⟨hS0, hS1, hS2⟩ := hSw); go_simp <;> with_reducible rfl)
 try simp only [sgl, Act.put]
 refine wT 6 (v := ?v6u7) (by kernel_rfl) rfl (by rfl) ?y6u7 (fun _ _ _ h => h) (by assumption) ?r6u7
 case y6u7 => (intro w hSw; (obtain ⟨hS0, hS1, hS2⟩ := hSw); go_simp <;> with_reducible rfl)
 try simp only [sgl, Act.put]
 refine wT 7 (v := ?v7u8) (by kernel_rfl) rfl (by rfl) ?y7u8 (fun _ _ _ h => h) (by assumption) ?r7u8
 case y7u8 => (intro w hSw; (obtain ⟨hS0, hS1, hS2⟩ := hSw); go_simp <;> with_reducible rfl)
 try simp only [sgl, Act.put]
 refine wpAnyH_ready (rs := [8]) (by kernel_rfl) (by simp) ?_
 refine AllReadyH.cons (o := _) rfl (fun K hK => ?_) AllReadyH.nil
 go_simp
 refine (HA.out _ Hk0.out.drew).mono ?_
 rintro e w1 ⟨rfl, M1, tg1, Y1, hV1, hx1, hk1⟩
 have HV1 := Lib.hid hV1
 have HX1 : Hid (Ext w M tg w1 M1 tg1 ∧ Keeps (sel M tg (List.range 30)) w w1) := ⟨(Ext.refl HMl.out Hk0.out.drew.size).trans hx1 Hk0.out.drew.size, Ext.keeps (Ext.refl HMl.out Hk0.out.drew.size) (Hk0.out.drew.to_sel (by simp)) (hk1.sel_mono (by simp))⟩
 have HB1 := Lib.hid (hk1.blk (show Blk w0.drew g5 _ _ from HB0.out) (fun hm => hgM (mem_sel.1 hm).1))
 have hg1 : g5 ∉ M1 := fun hm => by
  rcases hx1.new _ hm with h1 | h1
  ·exact hgM h1
  ·have h2 : g5 < w0.drew.heap.size := HB0.out.lt
   omega
 have hnr : r ∉ sel M tg [2, 3, 4] := fun hm => by
  have h1 := (mem_sel.1 hm).2
  rw [HV.out.tr] at h1
  simp at h1
 have HS1 : Hid (w1.cell? ⟨r, 2, none⟩ = some (.pointer (some ⟨Cs, 0, none⟩)) ∧ w1.cell? ⟨g5, 13, none⟩ = some (.int .i64 term) ∧ w1.cell? ⟨g5, 15, none⟩ = some (.slice Ba log.length ka)) := ⟨(hk1.cell (p := ⟨r, 2, none⟩) hr0.out hnr).trans (HS.out _ (Keeps.refl _ _).drew).1, HB1.out.cell 13, HB1.out.cell 15⟩
 clear hV1 hx1 hk1 hnr
 refine hK.out _ _ HS1.out (fun hHeld2 => ?_)
 clear hK K hHeld
 have hHeld := hHeld2
 clear hHeld2
 try simp only [sgl, Act.put]
 refine wT 9 (v := ?v9u9) (by kernel_rfl) rfl (by rfl) ?y9u9 (fun _ _ _ h => h) (by assumption) ?r9u9
 case y9u9 => (intro w hSw; (obtain ⟨hS0, hS1, hS2⟩ := hSw); go_simp <;> with_reducible rfl)
 try simp only [sgl, Act.put]
 refine wpAnyH_done (by kernel_rfl) ?_ _
 clear hHeld
 simp only [] at HV1
 clear HS HS1 HA HB0
 have HRA : Hid (RpAt w1 M1 tg1 r d R1) := ⟨HTo.out, _, (by exact HC.out), HV1.out⟩
 cases tb with
 | false =>
  obtain rfl : R1 = R := HTs.out.2.2.2.2.2.2.2.2 rfl
  have HP : Hid (ROPost M tg r d (rpAcc R1 fr mm) w (.returned (.slice none 0 0)) w1) := by
   rw [HD.out]
   simp only [Bool.false_eq_true, if_false]
   exact ROPost.nil HRA.out HX1.out.1 HX1.out.2
  have HPP := Lib.hid (HPd.out _ _ HP.out)
  clear HP HPd HTs HD
  go_wp2_with fail
  go_ret
  exact HPP.out
 | true =>
  have hap1 : R1.ap = R1.com := by rw [HTs.out.2.2.2.2.2.2.1, HTs.out.2.2.2.2.2.1]; exact Hap.out
  have h01 : 0 ∉ M1 := fun hm => by
   rcases HX1.out.1.new 0 hm with h1 | h1
   ·exact H0.out h1
   ·omega
  obtain ⟨-, -, -, -, -, d5, -⟩ := rpcells HV1.out
  cases hv : R1.v with
  | none =>
   rw [hv] at d5
   have HD2 : Hid (rpAcc R fr mm = ((rpApply R1 commit).1, [⟨fr, acceptedM term (rpApply R1 commit).1.x.log.length⟩])) := by
    show _ = _
    rw [HD.out]
    simp only [if_true, hv, Option.map_none, Option.getD_none, ne_eq, not_true_eq_false, if_false]
   go_upto_region 3 with (fail)
   refine wp_region_held_drew (S := (fun W => W.cell? ⟨r, 5, none⟩ = some (.pointer none) ∧ W.cell? ⟨g5, 13, none⟩ = some (.int .i64 term))) (by kernel_rfl) ⟨d5, HB1.out.cell 13⟩ (fun hHeld => ?_)
   refine wT 0 (v := ?v0u10) (by kernel_rfl) rfl (by rfl) ?y0u10 (fun _ _ _ h => h) (by assumption) ?r0u10
   case y0u10 => (intro w hSw; (obtain ⟨hS0, hS1⟩ := hSw); go_simp <;> with_reducible rfl)
   try simp only [sgl, Act.put]
   refine wT 1 (v := ?v1u11) (by kernel_rfl) rfl (by rfl) ?y1u11 (fun _ _ _ h => h) (by assumption) ?r1u11
   case y1u11 => (intro w hSw; (obtain ⟨hS0, hS1⟩ := hSw); go_simp <;> with_reducible rfl)
   try simp only [sgl, Act.put]
   refine wT 2 (v := ?v2u12) (by kernel_rfl) rfl (by rfl) ?y2u12 (fun _ _ _ h => h) (by assumption) ?r2u12
   case y2u12 => (intro w hSw; (obtain ⟨hS0, hS1⟩ := hSw); go_simp <;> with_reducible rfl)
   try simp only [sgl, Act.put]
   refine wT 3 (v := ?v3u13) (by kernel_rfl) rfl (by rfl) ?y3u13 (fun _ _ _ h => h) (by assumption) ?r3u13
   case y3u13 => (intro w hSw; (obtain ⟨hS0, hS1⟩ := hSw); go_simp <;> with_reducible rfl)
   try simp only [sgl, Act.put]
   refine wT 4 (v := ?v4u14) (by kernel_rfl) rfl (by rfl) ?y4u14 (fun _ _ _ h => h) (by assumption) ?r4u14
   case y4u14 => (intro w hSw; (obtain ⟨hS0, hS1⟩ := hSw); go_simp <;> with_reducible rfl)
   try simp only [sgl, Act.put]
   refine wT 5 (v := ?v5u15) (by kernel_rfl) rfl (by rfl) ?y5u15 (fun _ _ _ h => h) (by assumption) ?r5u15
   case y5u15 => (intro w hSw; (obtain ⟨hS0, hS1⟩ := hSw); go_simp <;> with_reducible rfl)
   try simp only [sgl, Act.put]
   refine wS 6 (by kernel_rfl) rfl (by rfl) (fun _ _ _ h => h) (by assumption) ?_
   try simp only [sgl, Act.put]
   refine wS 7 (by kernel_rfl) rfl (by rfl) (fun _ _ _ h => h) (by assumption) ?_
   try simp only [sgl, Act.put]
   refine wS 8 (by kernel_rfl) rfl (by rfl) (fun _ _ _ h => h) (by assumption) ?_
   try simp only [sgl, Act.put]
   refine wS 9 (by kernel_rfl) rfl (by rfl) (fun _ _ _ h => h) (by assumption) ?_
   try simp only [sgl, Act.put]
   refine wS 10 (by kernel_rfl) rfl (by rfl) (fun _ _ _ h => h) (by assumption) ?_
   try simp only [sgl, Act.put]
   refine wS 11 (by kernel_rfl) rfl (by rfl) (fun _ _ _ h => h) (by assumption) ?_
   try simp only [sgl, Act.put]
   refine wS 12 (by kernel_rfl) rfl (by rfl) (fun _ _ _ h => h) (by assumption) ?_
   try simp only [sgl, Act.put]
   refine wS 13 (by kernel_rfl) rfl (by rfl) (fun _ _ _ h => h) (by assumption) ?_
   try simp only [sgl, Act.put]
   refine wT 14 (v := ?v14u16) (by kernel_rfl) rfl (by rfl) ?y14u16 (fun _ _ _ h => h) (by assumption) ?r14u16
   case y14u16 => (intro w hSw; (obtain ⟨hS0, hS1⟩ := hSw); go_simp <;> with_reducible rfl)
   try simp only [sgl, Act.put]
   refine wpAnyH_done (by kernel_rfl) ?_ _
   clear hHeld
   have HRb := Lib.hid (HRA.out.keep0 HX1.out.1.lt ((Keeps.refl [] w1).drew))
   have HXb : Hid (Ext w M tg w1.drew M1 tg1 ∧ Keeps (sel M tg (List.range 30)) w w1.drew) := ⟨HX1.out.1.later (Nat.le_refl _), HX1.out.2.drew⟩
   have HBb : Hid (Blk w1.drew g5 37 #[.int .i64 kd, .int .i64 kind, .int .i64 ag, .int .i64 sh, .int .i64 seq, .int .i64 ep, .slice Aa ds.length na, .string ser, .int .i64 efr, .int .i64 etg, .int .i64 tag, .int .i64 code, .int .u64 nn, .int .i64 term, .int .i64 had, .slice Ba log.length ka, .int .i64 commit, .int .i64 len]) := HB1.out
   obtain ⟨R2, HR2⟩ : ∃ R2, Hid (R2 = R1) := ⟨R1, rfl⟩
   have hapb : R2.ap = R2.com := by rw [HR2.out]; exact hap1
   rw [← HR2.out] at HD2 HRb
   clear HD d5 hv
   go_upto_region 5 with (fail)
   generalize w1.drew = wB at *
   have q16 := HBb.out.cell 16
   simp only [List.getElem?_toArray, List.getElem?_cons_succ, List.getElem?_cons_zero] at q16
   have hmb : wB.cell? ⟨0, 0, none⟩ = some (.int .i64 mx) := (HXb.out.2.cell (p := ⟨0, 0, none⟩) hw0 (fun hm => H0.out (mem_sel.1 hm).1)).trans Hm.out
   have hapl := Lib.hid (rpapply_any HRb.out HXb.out.1.lt h01 hapb commit mx hmb)
   clear hmb
   generalize rpApply R2 commit = PA at *
   obtain ⟨R3, outA⟩ := PA
   simp only [] at HD2
   go_wp2_with fail
   refine hapl.out.mono ?_
   rintro e5 wD ⟨vA, MA, tgA, rfl, hro⟩
   have HXd : Hid (Ext w M tg wD MA tgA ∧ Keeps (sel M tg (List.range 30)) w wD) := ⟨HXb.out.1.trans hro.x HXb.out.2.size, Ext.keeps HXb.out.1 HXb.out.2 hro.k⟩
   have HRd : Hid (RpAt wD MA tgA r d R3) := hro.ag
   have HBd : Hid (Blk wD g5 37 #[.int .i64 kd, .int .i64 kind, .int .i64 ag, .int .i64 sh, .int .i64 seq, .int .i64 ep, .slice Aa ds.length na, .string ser, .int .i64 efr, .int .i64 etg, .int .i64 tag, .int .i64 code, .int .u64 nn, .int .i64 term, .int .i64 had, .slice Ba log.length ka, .int .i64 commit, .int .i64 len]) := hro.k.blk HBb.out (fun hm => hg1 (mem_sel.1 hm).1)
   obtain ⟨Cd, hvd⟩ : ∃ Cd, RpV wD MA tgA r R3 Cd := by obtain ⟨_, Cd, _, hv⟩ := hro.ag; exact ⟨Cd, hv⟩
   have HVd := Lib.hid hvd
   obtain ⟨-, -, e2, -⟩ := rpcells hvd
   obtain ⟨Cb, hcb⟩ : ∃ Cb, Cb = Cd.s := ⟨_, rfl⟩
   rw [← hcb] at e2
   have HLn : Hid (Calls Tryz.prog 72 #[.pointer (some ⟨Cb, 0, none⟩)] wD.drew fun e w' => e = .returned (.int .i64 R3.x.log.length) ∧ wD.drew = w') := by
    rw [hcb]
    exact vlen_any wD.drew ((HVd.out.keep0 HXd.out.1.lt ((Keeps.refl [] wD).drew)).st.st)
   have HS6 : Hid (∀ W, Keeps [] wD W → W.cell? ⟨g5, 13, none⟩ = some (.int .i64 term) ∧ W.cell? ⟨r, 2, none⟩ = some (.pointer (some ⟨Cb, 0, none⟩))) := fun W hk => ⟨(hk.blk HBd.out (by simp)).cell 13, (hk.cell (p := ⟨r, 2, none⟩) HVd.out.blk.lt (by simp)).trans e2⟩
   have HFin : Hid (ROPost M tg r d (rpAcc R fr mm) w (.returned (.slice (some ⟨wD.drew.heap.size, 0, none⟩) 1 1)) (wD.drew.alloc (.cells #[.int .i64 fr, .int .i64 6, .int .i64 0, .int .i64 0, .int .i64 0, .int .i64 0, .int .i64 0, .slice none 0 0, .string ⟨#[]⟩, .int .i64 0, .int .i64 0, .int .i64 0, .int .i64 0, .int .u64 0, .int .i64 term, .int .i64 0, .slice none 0 0, .int .i64 0, .int .i64 R3.x.log.length] 39))) := by
    rw [HD2.out]
    exact ROPost.base (RoSt.oneV HRd.out HXd.out.1.lt (Keeps.refl [] wD).drew ⟨fr, acceptedM term R3.x.log.length⟩ (.slice none 0 0) (.slice none 0 0) (fun L hL => ⟨Ds.nil _ _, Ens.nil _ _⟩)) HXd.out.1 HXd.out.2
   have HPP := Lib.hid (HPd.out _ _ HFin.out)
   clear hro hapl q16 hvd e2 hcb HFin HPd HD2 HBb HXb HRb
   go_upto_region 6 with (fail)
   refine wp_region_held_drew (S := (fun W => W.cell? ⟨g5, 13, none⟩ = some (.int .i64 term) ∧ W.cell? ⟨r, 2, none⟩ = some (.pointer (some ⟨Cb, 0, none⟩)))) (by kernel_rfl) (HS6.out _ (Keeps.refl _ _).drew) (fun hHeld => ?_)
   refine wT 0 (v := ?v0u45) (by kernel_rfl) rfl (by rfl) ?y0u45 (fun _ _ _ h => h) (by assumption) ?r0u45
   case y0u45 => (intro w hSw; (obtain ⟨hS0, hS1⟩ := hSw); go_simp <;> with_reducible rfl)
   try simp only [sgl, Act.put]
   refine wT 1 (v := ?v1u46) (by kernel_rfl) rfl (by rfl) ?y1u46 (fun _ _ _ h => h) (by assumption) ?r1u46
   case y1u46 => (intro w hSw; (obtain ⟨hS0, hS1⟩ := hSw); go_simp <;> with_reducible rfl)
   try simp only [sgl, Act.put]
   refine wT 2 (v := ?v2u47) (by kernel_rfl) rfl (by rfl) ?y2u47 (fun _ _ _ h => h) (by assumption) ?r2u47
   case y2u47 => (intro w hSw; (obtain ⟨hS0, hS1⟩ := hSw); go_simp <;> with_reducible rfl)
   try simp only [sgl, Act.put]
   refine wT 3 (v := ?v3u48) (by kernel_rfl) rfl (by rfl) ?y3u48 (fun _ _ _ h => h) (by assumption) ?r3u48
   case y3u48 => (intro w hSw; (obtain ⟨hS0, hS1⟩ := hSw); go_simp <;> with_reducible rfl)
   try simp only [sgl, Act.put]
   refine wT 4 (v := ?v4u49) (by kernel_rfl) rfl (by rfl) ?y4u49 (fun _ _ _ h => h) (by assumption) ?r4u49
   case y4u49 => (intro w hSw; (obtain ⟨hS0, hS1⟩ := hSw); go_simp <;> with_reducible rfl)
   try simp only [sgl, Act.put]
   refine wT 5 (v := ?v5u50) (by kernel_rfl) rfl (by rfl) ?y5u50 (fun _ _ _ h => h) (by assumption) ?r5u50
   case y5u50 => (intro w hSw; (obtain ⟨hS0, hS1⟩ := hSw); go_simp <;> with_reducible rfl)
   try simp only [sgl, Act.put]
   refine wT 6 (v := ?v6u51) (by kernel_rfl) rfl (by rfl) ?y6u51 (fun _ _ _ h => h) (by assumption) ?r6u51
   case y6u51 => (intro w hSw; (obtain ⟨hS0, hS1⟩ := hSw); go_simp <;> with_reducible rfl)
   try simp only [sgl, Act.put]
   refine wpAnyH_ready (rs := [7]) (by kernel_rfl) (by simp) ?_
   refine AllReadyH.cons (o := _) rfl (fun K hK => ?_) AllReadyH.nil
   go_simp
   refine HLn.out.mono ?_
   rintro e wl ⟨rfl, rfl⟩
   refine hK.out _ _ (HS6.out _ (Keeps.refl _ _).drew) (fun hHeld2 => ?_)
   clear hK K hHeld
   have hHeld := hHeld2
   clear hHeld2
   try simp only [sgl, Act.put]
   refine wT 8 (v := ?v8u52) (by kernel_rfl) rfl (by rfl) ?y8u52 (fun _ _ _ h => h) (by assumption) ?r8u52
   case y8u52 => (intro w hSw; (obtain ⟨hS0, hS1⟩ := hSw); go_simp <;> with_reducible rfl)
   try simp only [sgl, Act.put]
   refine wT 9 (v := ?v9u53) (by kernel_rfl) rfl (by rfl) ?y9u53 (fun _ _ _ h => h) (by assumption) ?r9u53
   case y9u53 => (intro w hSw; (obtain ⟨hS0, hS1⟩ := hSw); go_simp <;> with_reducible rfl)
   try simp only [sgl, Act.put]
   refine wpAnyH_ready (rs := [10]) (by kernel_rfl) (by simp) ?_
   refine AllReadyH.cons (o := _) rfl (fun K hK => ?_) AllReadyH.nil
   go_simp
   refine hK.out _ _ (HS6.out _ ((Keeps.refl _ _).drew.alloc _)) (fun hHeld2 => ?_)
   clear hK K hHeld
   have hHeld := hHeld2
   clear hHeld2
   try simp only [sgl, Act.put]
   refine wT 11 (v := ?v11u54) (by kernel_rfl) rfl (by rfl) ?y11u54 (fun _ _ _ h => h) (by assumption) ?r11u54
   case y11u54 => (intro w hSw; (obtain ⟨hS0, hS1⟩ := hSw); go_simp <;> with_reducible rfl)
   try simp only [sgl, Act.put]
   refine wpAnyH_done (by kernel_rfl) ?_ _
   clear hHeld
   go_wp2_with fail
   go_ret
   exact HPP.out
  | some v =>
   rw [hv] at d5
   have d5 : w1.cell? ⟨r, 5, none⟩ = some (.pointer (some ⟨C.vb, 0, none⟩)) := d5
   have HT : Hid (Calls Tryz.prog 41 #[.pointer (some ⟨C.vb, 0, none⟩)] w1.drew fun e w' => e = .returned (.int .i64 v.term) ∧ w1.drew = w') := Lead.vterm_any M1 C.vb v w1.drew ((HV1.out.keep0 HX1.out.1.lt ((Keeps.refl [] w1).drew)).vt v hv).1
   by_cases hte : v.term = term
   ·have HD2 : Hid (rpAcc R fr mm = ((rpApply R1 commit).1, [⟨fr, acceptedM term (rpApply R1 commit).1.x.log.length⟩])) := by
     show _ = _
     rw [HD.out]
     simp only [if_true, hv, Option.map_some, Option.getD_some, hte, ne_eq, not_true_eq_false, if_false]
    have hteb : (v.term != term) = false := by simp [hte]
    clear HD hte
    go_upto_region 3 with (fail)
    refine wp_region_held_drew (S := (fun W => W.cell? ⟨r, 5, none⟩ = some (.pointer (some ⟨C.vb, 0, none⟩)) ∧ W.cell? ⟨g5, 13, none⟩ = some (.int .i64 term))) (by kernel_rfl) ⟨d5, HB1.out.cell 13⟩ (fun hHeld => ?_)
    refine wT 0 (v := ?v0u17) (by kernel_rfl) rfl (by rfl) ?y0u17 (fun _ _ _ h => h) (by assumption) ?r0u17
    case y0u17 => (intro w hSw; (obtain ⟨hS0, hS1⟩ := hSw); go_simp <;> with_reducible rfl)
    try simp only [sgl, Act.put]
    refine wT 1 (v := ?v1u18) (by kernel_rfl) rfl (by rfl) ?y1u18 (fun _ _ _ h => h) (by assumption) ?r1u18
    case y1u18 => (intro w hSw; (obtain ⟨hS0, hS1⟩ := hSw); go_simp <;> with_reducible rfl)
    try simp only [sgl, Act.put]
    refine wT 2 (v := ?v2u19) (by kernel_rfl) rfl (by rfl) ?y2u19 (fun _ _ _ h => h) (by assumption) ?r2u19
    case y2u19 => (intro w hSw; (obtain ⟨hS0, hS1⟩ := hSw); go_simp <;> with_reducible rfl)
    try simp only [sgl, Act.put]
    refine wT 3 (v := ?v3u20) (by kernel_rfl) rfl (by rfl) ?y3u20 (fun _ _ _ h => h) (by assumption) ?r3u20
    case y3u20 => (intro w hSw; (obtain ⟨hS0, hS1⟩ := hSw); go_simp <;> with_reducible rfl)
    try simp only [sgl, Act.put]
    refine wT 4 (v := ?v4u21) (by kernel_rfl) rfl (by rfl) ?y4u21 (fun _ _ _ h => h) (by assumption) ?r4u21
    case y4u21 => (intro w hSw; (obtain ⟨hS0, hS1⟩ := hSw); go_simp <;> with_reducible rfl)
    try simp only [sgl, Act.put]
    refine wT 5 (v := ?v5u22) (by kernel_rfl) rfl (by rfl) ?y5u22 (fun _ _ _ h => h) (by assumption) ?r5u22
    case y5u22 => (intro w hSw; (obtain ⟨hS0, hS1⟩ := hSw); go_simp <;> with_reducible rfl)
    try simp only [sgl, Act.put]
    refine wT 6 (v := ?v6u23) (by kernel_rfl) rfl (by rfl) ?y6u23 (fun _ _ _ h => h) (by assumption) ?r6u23
    case y6u23 => (intro w hSw; (obtain ⟨hS0, hS1⟩ := hSw); go_simp <;> with_reducible rfl)
    try simp only [sgl, Act.put]
    refine wT 7 (v := ?v7u24) (by kernel_rfl) rfl (by rfl) ?y7u24 (fun _ _ _ h => h) (by assumption) ?r7u24
    case y7u24 => (intro w hSw; (obtain ⟨hS0, hS1⟩ := hSw); go_simp <;> with_reducible rfl)
    try simp only [sgl, Act.put]
    refine wT 8 (v := ?v8u25) (by kernel_rfl) rfl (by rfl) ?y8u25 (fun _ _ _ h => h) (by assumption) ?r8u25
    case y8u25 => (intro w hSw; (obtain ⟨hS0, hS1⟩ := hSw); go_simp <;> with_reducible rfl)
    try simp only [sgl, Act.put]
    refine wT 9 (v := ?v9u26) (by kernel_rfl) rfl (by rfl) ?y9u26 (fun _ _ _ h => h) (by assumption) ?r9u26
    case y9u26 => (intro w hSw; (obtain ⟨hS0, hS1⟩ := hSw); go_simp <;> with_reducible rfl)
    try simp only [sgl, Act.put]
    refine wT 11 (v := ?v11u27) (by kernel_rfl) rfl (by rfl) ?y11u27 (fun _ _ _ h => h) (by assumption) ?r11u27
    case y11u27 => (intro w hSw; (obtain ⟨hS0, hS1⟩ := hSw); go_simp <;> with_reducible rfl)
    try simp only [sgl, Act.put]
    refine wT 12 (v := ?v12u28) (by kernel_rfl) rfl (by rfl) ?y12u28 (fun _ _ _ h => h) (by assumption) ?r12u28
    case y12u28 => (intro w hSw; (obtain ⟨hS0, hS1⟩ := hSw); go_simp <;> with_reducible rfl)
    try simp only [sgl, Act.put]
    refine wpAnyH_ready (rs := [10]) (by kernel_rfl) (by simp) ?_
    refine AllReadyH.cons (o := _) rfl (fun K hK => ?_) AllReadyH.nil
    go_simp
    refine HT.out.mono ?_
    rintro e wl ⟨rfl, rfl⟩
    refine hK.out _ _ ⟨d5, HB1.out.cell 13⟩ (fun hHeld2 => ?_)
    clear hK K hHeld
    have hHeld := hHeld2
    clear hHeld2
    try simp only [sgl, Act.put]
    refine wT 13 (v := ?v13u29) (by kernel_rfl) rfl (by rfl) ?y13u29 (fun _ _ _ h => h) (by assumption) ?r13u29
    case y13u29 => (intro w hSw; (obtain ⟨hS0, hS1⟩ := hSw); go_simp <;> with_reducible rfl)
    try simp only [sgl, Act.put]
    refine wT 14 (v := ?v14u30) (by kernel_rfl) rfl (by rfl) ?y14u30 (fun _ _ _ h => h) (by assumption) ?r14u30
    case y14u30 => (intro w hSw; (obtain ⟨hS0, hS1⟩ := hSw); go_simp <;> with_reducible rfl)
    try simp only [sgl, Act.put]
    refine wpAnyH_done (by kernel_rfl) ?_ _
    clear hHeld
    have HRb := Lib.hid (HRA.out.keep0 HX1.out.1.lt ((Keeps.refl [] w1).drew))
    have HXb : Hid (Ext w M tg w1.drew M1 tg1 ∧ Keeps (sel M tg (List.range 30)) w w1.drew) := ⟨HX1.out.1.later (Nat.le_refl _), HX1.out.2.drew⟩
    have HBb : Hid (Blk w1.drew g5 37 #[.int .i64 kd, .int .i64 kind, .int .i64 ag, .int .i64 sh, .int .i64 seq, .int .i64 ep, .slice Aa ds.length na, .string ser, .int .i64 efr, .int .i64 etg, .int .i64 tag, .int .i64 code, .int .u64 nn, .int .i64 term, .int .i64 had, .slice Ba log.length ka, .int .i64 commit, .int .i64 len]) := HB1.out
    obtain ⟨R2, HR2⟩ : ∃ R2, Hid (R2 = R1) := ⟨R1, rfl⟩
    have hapb : R2.ap = R2.com := by rw [HR2.out]; exact hap1
    rw [← HR2.out] at HD2 HRb
    clear d5 hv HT hteb
    go_upto_region 5 with (fail)
    generalize w1.drew = wB at *
    have q16 := HBb.out.cell 16
    simp only [List.getElem?_toArray, List.getElem?_cons_succ, List.getElem?_cons_zero] at q16
    have hmb : wB.cell? ⟨0, 0, none⟩ = some (.int .i64 mx) := (HXb.out.2.cell (p := ⟨0, 0, none⟩) hw0 (fun hm => H0.out (mem_sel.1 hm).1)).trans Hm.out
    have hapl := Lib.hid (rpapply_any HRb.out HXb.out.1.lt h01 hapb commit mx hmb)
    clear hmb
    generalize rpApply R2 commit = PA at *
    obtain ⟨R3, outA⟩ := PA
    simp only [] at HD2
    go_wp2_with fail
    refine hapl.out.mono ?_
    rintro e5 wD ⟨vA, MA, tgA, rfl, hro⟩
    have HXd : Hid (Ext w M tg wD MA tgA ∧ Keeps (sel M tg (List.range 30)) w wD) := ⟨HXb.out.1.trans hro.x HXb.out.2.size, Ext.keeps HXb.out.1 HXb.out.2 hro.k⟩
    have HRd : Hid (RpAt wD MA tgA r d R3) := hro.ag
    have HBd : Hid (Blk wD g5 37 #[.int .i64 kd, .int .i64 kind, .int .i64 ag, .int .i64 sh, .int .i64 seq, .int .i64 ep, .slice Aa ds.length na, .string ser, .int .i64 efr, .int .i64 etg, .int .i64 tag, .int .i64 code, .int .u64 nn, .int .i64 term, .int .i64 had, .slice Ba log.length ka, .int .i64 commit, .int .i64 len]) := hro.k.blk HBb.out (fun hm => hg1 (mem_sel.1 hm).1)
    obtain ⟨Cd, hvd⟩ : ∃ Cd, RpV wD MA tgA r R3 Cd := by obtain ⟨_, Cd, _, hv⟩ := hro.ag; exact ⟨Cd, hv⟩
    have HVd := Lib.hid hvd
    obtain ⟨-, -, e2, -⟩ := rpcells hvd
    obtain ⟨Cb, hcb⟩ : ∃ Cb, Cb = Cd.s := ⟨_, rfl⟩
    rw [← hcb] at e2
    have HLn : Hid (Calls Tryz.prog 72 #[.pointer (some ⟨Cb, 0, none⟩)] wD.drew fun e w' => e = .returned (.int .i64 R3.x.log.length) ∧ wD.drew = w') := by
     rw [hcb]
     exact vlen_any wD.drew ((HVd.out.keep0 HXd.out.1.lt ((Keeps.refl [] wD).drew)).st.st)
    have HS6 : Hid (∀ W, Keeps [] wD W → W.cell? ⟨g5, 13, none⟩ = some (.int .i64 term) ∧ W.cell? ⟨r, 2, none⟩ = some (.pointer (some ⟨Cb, 0, none⟩))) := fun W hk => ⟨(hk.blk HBd.out (by simp)).cell 13, (hk.cell (p := ⟨r, 2, none⟩) HVd.out.blk.lt (by simp)).trans e2⟩
    have HFin : Hid (ROPost M tg r d (rpAcc R fr mm) w (.returned (.slice (some ⟨wD.drew.heap.size, 0, none⟩) 1 1)) (wD.drew.alloc (.cells #[.int .i64 fr, .int .i64 6, .int .i64 0, .int .i64 0, .int .i64 0, .int .i64 0, .int .i64 0, .slice none 0 0, .string ⟨#[]⟩, .int .i64 0, .int .i64 0, .int .i64 0, .int .i64 0, .int .u64 0, .int .i64 term, .int .i64 0, .slice none 0 0, .int .i64 0, .int .i64 R3.x.log.length] 39))) := by
     rw [HD2.out]
     exact ROPost.base (RoSt.oneV HRd.out HXd.out.1.lt (Keeps.refl [] wD).drew ⟨fr, acceptedM term R3.x.log.length⟩ (.slice none 0 0) (.slice none 0 0) (fun L hL => ⟨Ds.nil _ _, Ens.nil _ _⟩)) HXd.out.1 HXd.out.2
    have HPP := Lib.hid (HPd.out _ _ HFin.out)
    clear hro hapl q16 hvd e2 hcb HFin HPd HD2 HBb HXb HRb
    go_upto_region 6 with (fail)
    refine wp_region_held_drew (S := (fun W => W.cell? ⟨g5, 13, none⟩ = some (.int .i64 term) ∧ W.cell? ⟨r, 2, none⟩ = some (.pointer (some ⟨Cb, 0, none⟩)))) (by kernel_rfl) (HS6.out _ (Keeps.refl _ _).drew) (fun hHeld => ?_)
    refine wT 0 (v := ?v0u55) (by kernel_rfl) rfl (by rfl) ?y0u55 (fun _ _ _ h => h) (by assumption) ?r0u55
    case y0u55 => (intro w hSw; (obtain ⟨hS0, hS1⟩ := hSw); go_simp <;> with_reducible rfl)
    try simp only [sgl, Act.put]
    refine wT 1 (v := ?v1u56) (by kernel_rfl) rfl (by rfl) ?y1u56 (fun _ _ _ h => h) (by assumption) ?r1u56
    case y1u56 => (intro w hSw; (obtain ⟨hS0, hS1⟩ := hSw); go_simp <;> with_reducible rfl)
    try simp only [sgl, Act.put]
    refine wT 2 (v := ?v2u57) (by kernel_rfl) rfl (by rfl) ?y2u57 (fun _ _ _ h => h) (by assumption) ?r2u57
    case y2u57 => (intro w hSw; (obtain ⟨hS0, hS1⟩ := hSw); go_simp <;> with_reducible rfl)
    try simp only [sgl, Act.put]
    refine wT 3 (v := ?v3u58) (by kernel_rfl) rfl (by rfl) ?y3u58 (fun _ _ _ h => h) (by assumption) ?r3u58
    case y3u58 => (intro w hSw; (obtain ⟨hS0, hS1⟩ := hSw); go_simp <;> with_reducible rfl)
    try simp only [sgl, Act.put]
    refine wT 4 (v := ?v4u59) (by kernel_rfl) rfl (by rfl) ?y4u59 (fun _ _ _ h => h) (by assumption) ?r4u59
    case y4u59 => (intro w hSw; (obtain ⟨hS0, hS1⟩ := hSw); go_simp <;> with_reducible rfl)
    try simp only [sgl, Act.put]
    refine wT 5 (v := ?v5u60) (by kernel_rfl) rfl (by rfl) ?y5u60 (fun _ _ _ h => h) (by assumption) ?r5u60
    case y5u60 => (intro w hSw; (obtain ⟨hS0, hS1⟩ := hSw); go_simp <;> with_reducible rfl)
    try simp only [sgl, Act.put]
    refine wT 6 (v := ?v6u61) (by kernel_rfl) rfl (by rfl) ?y6u61 (fun _ _ _ h => h) (by assumption) ?r6u61
    case y6u61 => (intro w hSw; (obtain ⟨hS0, hS1⟩ := hSw); go_simp <;> with_reducible rfl)
    try simp only [sgl, Act.put]
    refine wpAnyH_ready (rs := [7]) (by kernel_rfl) (by simp) ?_
    refine AllReadyH.cons (o := _) rfl (fun K hK => ?_) AllReadyH.nil
    go_simp
    refine HLn.out.mono ?_
    rintro e wl ⟨rfl, rfl⟩
    refine hK.out _ _ (HS6.out _ (Keeps.refl _ _).drew) (fun hHeld2 => ?_)
    clear hK K hHeld
    have hHeld := hHeld2
    clear hHeld2
    try simp only [sgl, Act.put]
    refine wT 8 (v := ?v8u62) (by kernel_rfl) rfl (by rfl) ?y8u62 (fun _ _ _ h => h) (by assumption) ?r8u62
    case y8u62 => (intro w hSw; (obtain ⟨hS0, hS1⟩ := hSw); go_simp <;> with_reducible rfl)
    try simp only [sgl, Act.put]
    refine wT 9 (v := ?v9u63) (by kernel_rfl) rfl (by rfl) ?y9u63 (fun _ _ _ h => h) (by assumption) ?r9u63
    case y9u63 => (intro w hSw; (obtain ⟨hS0, hS1⟩ := hSw); go_simp <;> with_reducible rfl)
    try simp only [sgl, Act.put]
    refine wpAnyH_ready (rs := [10]) (by kernel_rfl) (by simp) ?_
    refine AllReadyH.cons (o := _) rfl (fun K hK => ?_) AllReadyH.nil
    go_simp
    refine hK.out _ _ (HS6.out _ ((Keeps.refl _ _).drew.alloc _)) (fun hHeld2 => ?_)
    clear hK K hHeld
    have hHeld := hHeld2
    clear hHeld2
    try simp only [sgl, Act.put]
    refine wT 11 (v := ?v11u64) (by kernel_rfl) rfl (by rfl) ?y11u64 (fun _ _ _ h => h) (by assumption) ?r11u64
    case y11u64 => (intro w hSw; (obtain ⟨hS0, hS1⟩ := hSw); go_simp <;> with_reducible rfl)
    try simp only [sgl, Act.put]
    refine wpAnyH_done (by kernel_rfl) ?_ _
    clear hHeld
    go_wp2_with fail
    go_ret
    exact HPP.out
   ·have HD2 : Hid (rpAcc R fr mm = ((rpApply (rpDown R1) commit).1, [⟨fr, acceptedM term (rpApply (rpDown R1) commit).1.x.log.length⟩])) := by
     show _ = _
     rw [HD.out]
     simp only [if_true, hv, Option.map_some, Option.getD_some, hte, ne_eq, not_false_eq_true]
    have hteb : (v.term != term) = true := by simp [hte]
    have hdn := Lib.hid (rpdown_any (HRA.out.keep0 HX1.out.1.lt ((Keeps.refl [] w1).drew)) HX1.out.1.lt)
    clear HD hte
    go_upto_region 3 with (fail)
    refine wp_region_held_drew (S := (fun W => W.cell? ⟨r, 5, none⟩ = some (.pointer (some ⟨C.vb, 0, none⟩)) ∧ W.cell? ⟨g5, 13, none⟩ = some (.int .i64 term))) (by kernel_rfl) ⟨d5, HB1.out.cell 13⟩ (fun hHeld => ?_)
    refine wT 0 (v := ?v0u31) (by kernel_rfl) rfl (by rfl) ?y0u31 (fun _ _ _ h => h) (by assumption) ?r0u31
    case y0u31 => (intro w hSw; (obtain ⟨hS0, hS1⟩ := hSw); go_simp <;> with_reducible rfl)
    try simp only [sgl, Act.put]
    refine wT 1 (v := ?v1u32) (by kernel_rfl) rfl (by rfl) ?y1u32 (fun _ _ _ h => h) (by assumption) ?r1u32
    case y1u32 => (intro w hSw; (obtain ⟨hS0, hS1⟩ := hSw); go_simp <;> with_reducible rfl)
    try simp only [sgl, Act.put]
    refine wT 2 (v := ?v2u33) (by kernel_rfl) rfl (by rfl) ?y2u33 (fun _ _ _ h => h) (by assumption) ?r2u33
    case y2u33 => (intro w hSw; (obtain ⟨hS0, hS1⟩ := hSw); go_simp <;> with_reducible rfl)
    try simp only [sgl, Act.put]
    refine wT 3 (v := ?v3u34) (by kernel_rfl) rfl (by rfl) ?y3u34 (fun _ _ _ h => h) (by assumption) ?r3u34
    case y3u34 => (intro w hSw; (obtain ⟨hS0, hS1⟩ := hSw); go_simp <;> with_reducible rfl)
    try simp only [sgl, Act.put]
    refine wT 4 (v := ?v4u35) (by kernel_rfl) rfl (by rfl) ?y4u35 (fun _ _ _ h => h) (by assumption) ?r4u35
    case y4u35 => (intro w hSw; (obtain ⟨hS0, hS1⟩ := hSw); go_simp <;> with_reducible rfl)
    try simp only [sgl, Act.put]
    refine wT 5 (v := ?v5u36) (by kernel_rfl) rfl (by rfl) ?y5u36 (fun _ _ _ h => h) (by assumption) ?r5u36
    case y5u36 => (intro w hSw; (obtain ⟨hS0, hS1⟩ := hSw); go_simp <;> with_reducible rfl)
    try simp only [sgl, Act.put]
    refine wT 6 (v := ?v6u37) (by kernel_rfl) rfl (by rfl) ?y6u37 (fun _ _ _ h => h) (by assumption) ?r6u37
    case y6u37 => (intro w hSw; (obtain ⟨hS0, hS1⟩ := hSw); go_simp <;> with_reducible rfl)
    try simp only [sgl, Act.put]
    refine wT 7 (v := ?v7u38) (by kernel_rfl) rfl (by rfl) ?y7u38 (fun _ _ _ h => h) (by assumption) ?r7u38
    case y7u38 => (intro w hSw; (obtain ⟨hS0, hS1⟩ := hSw); go_simp <;> with_reducible rfl)
    try simp only [sgl, Act.put]
    refine wT 8 (v := ?v8u39) (by kernel_rfl) rfl (by rfl) ?y8u39 (fun _ _ _ h => h) (by assumption) ?r8u39
    case y8u39 => (intro w hSw; (obtain ⟨hS0, hS1⟩ := hSw); go_simp <;> with_reducible rfl)
    try simp only [sgl, Act.put]
    refine wT 9 (v := ?v9u40) (by kernel_rfl) rfl (by rfl) ?y9u40 (fun _ _ _ h => h) (by assumption) ?r9u40
    case y9u40 => (intro w hSw; (obtain ⟨hS0, hS1⟩ := hSw); go_simp <;> with_reducible rfl)
    try simp only [sgl, Act.put]
    refine wT 11 (v := ?v11u41) (by kernel_rfl) rfl (by rfl) ?y11u41 (fun _ _ _ h => h) (by assumption) ?r11u41
    case y11u41 => (intro w hSw; (obtain ⟨hS0, hS1⟩ := hSw); go_simp <;> with_reducible rfl)
    try simp only [sgl, Act.put]
    refine wT 12 (v := ?v12u42) (by kernel_rfl) rfl (by rfl) ?y12u42 (fun _ _ _ h => h) (by assumption) ?r12u42
    case y12u42 => (intro w hSw; (obtain ⟨hS0, hS1⟩ := hSw); go_simp <;> with_reducible rfl)
    try simp only [sgl, Act.put]
    refine wpAnyH_ready (rs := [10]) (by kernel_rfl) (by simp) ?_
    refine AllReadyH.cons (o := _) rfl (fun K hK => ?_) AllReadyH.nil
    go_simp
    refine HT.out.mono ?_
    rintro e wl ⟨rfl, rfl⟩
    refine hK.out _ _ ⟨d5, HB1.out.cell 13⟩ (fun hHeld2 => ?_)
    clear hK K hHeld
    have hHeld := hHeld2
    clear hHeld2
    try simp only [sgl, Act.put]
    refine wT 13 (v := ?v13u43) (by kernel_rfl) rfl (by rfl) ?y13u43 (fun _ _ _ h => h) (by assumption) ?r13u43
    case y13u43 => (intro w hSw; (obtain ⟨hS0, hS1⟩ := hSw); go_simp <;> with_reducible rfl)
    try simp only [sgl, Act.put]
    refine wT 14 (v := ?v14u44) (by kernel_rfl) rfl (by rfl) ?y14u44 (fun _ _ _ h => h) (by assumption) ?r14u44
    case y14u44 => (intro w hSw; (obtain ⟨hS0, hS1⟩ := hSw); go_simp <;> with_reducible rfl)
    try simp only [sgl, Act.put]
    refine wpAnyH_done (by kernel_rfl) ?_ _
    clear hHeld
    clear d5 hv HT hteb
    go_wp2_with fail
    refine hdn.out.mono ?_
    rintro e4 wB ⟨rfl, h1, h2, h3⟩
    have HRb := Lib.hid h1
    have hx1d : Ext w M tg w1.drew M1 tg1 := HX1.out.1.later (Nat.le_refl _)
    have hk1d : Keeps (sel M tg (List.range 30)) w w1.drew := HX1.out.2.drew
    have HXb : Hid (Ext w M tg wB M1 tg1 ∧ Keeps (sel M tg (List.range 30)) w wB) := ⟨hx1d.trans h2 hk1d.size, Ext.keeps hx1d hk1d (h3.sel_mono (by simp))⟩
    clear hx1d hk1d
    have HBb : Hid (Blk wB g5 37 #[.int .i64 kd, .int .i64 kind, .int .i64 ag, .int .i64 sh, .int .i64 seq, .int .i64 ep, .slice Aa ds.length na, .string ser, .int .i64 efr, .int .i64 etg, .int .i64 tag, .int .i64 code, .int .u64 nn, .int .i64 term, .int .i64 had, .slice Ba log.length ka, .int .i64 commit, .int .i64 len]) := h3.blk (show Blk w1.drew g5 _ _ from HB1.out) (fun hm => hg1 (mem_sel.1 hm).1)
    obtain ⟨R2, HR2⟩ : ∃ R2, Hid (R2 = rpDown R1) := ⟨_, rfl⟩
    have hapb : R2.ap = R2.com := by rw [HR2.out]; exact hap1
    rw [← HR2.out] at HD2 HRb
    clear h1 h2 h3 hdn
    go_upto_region 5 with (fail)
    have q16 := HBb.out.cell 16
    simp only [List.getElem?_toArray, List.getElem?_cons_succ, List.getElem?_cons_zero] at q16
    have hmb : wB.cell? ⟨0, 0, none⟩ = some (.int .i64 mx) := (HXb.out.2.cell (p := ⟨0, 0, none⟩) hw0 (fun hm => H0.out (mem_sel.1 hm).1)).trans Hm.out
    have hapl := Lib.hid (rpapply_any HRb.out HXb.out.1.lt h01 hapb commit mx hmb)
    clear hmb
    generalize rpApply R2 commit = PA at *
    obtain ⟨R3, outA⟩ := PA
    simp only [] at HD2
    go_wp2_with fail
    refine hapl.out.mono ?_
    rintro e5 wD ⟨vA, MA, tgA, rfl, hro⟩
    have HXd : Hid (Ext w M tg wD MA tgA ∧ Keeps (sel M tg (List.range 30)) w wD) := ⟨HXb.out.1.trans hro.x HXb.out.2.size, Ext.keeps HXb.out.1 HXb.out.2 hro.k⟩
    have HRd : Hid (RpAt wD MA tgA r d R3) := hro.ag
    have HBd : Hid (Blk wD g5 37 #[.int .i64 kd, .int .i64 kind, .int .i64 ag, .int .i64 sh, .int .i64 seq, .int .i64 ep, .slice Aa ds.length na, .string ser, .int .i64 efr, .int .i64 etg, .int .i64 tag, .int .i64 code, .int .u64 nn, .int .i64 term, .int .i64 had, .slice Ba log.length ka, .int .i64 commit, .int .i64 len]) := hro.k.blk HBb.out (fun hm => hg1 (mem_sel.1 hm).1)
    obtain ⟨Cd, hvd⟩ : ∃ Cd, RpV wD MA tgA r R3 Cd := by obtain ⟨_, Cd, _, hv⟩ := hro.ag; exact ⟨Cd, hv⟩
    have HVd := Lib.hid hvd
    obtain ⟨-, -, e2, -⟩ := rpcells hvd
    obtain ⟨Cb, hcb⟩ : ∃ Cb, Cb = Cd.s := ⟨_, rfl⟩
    rw [← hcb] at e2
    have HLn : Hid (Calls Tryz.prog 72 #[.pointer (some ⟨Cb, 0, none⟩)] wD.drew fun e w' => e = .returned (.int .i64 R3.x.log.length) ∧ wD.drew = w') := by
     rw [hcb]
     exact vlen_any wD.drew ((HVd.out.keep0 HXd.out.1.lt ((Keeps.refl [] wD).drew)).st.st)
    have HS6 : Hid (∀ W, Keeps [] wD W → W.cell? ⟨g5, 13, none⟩ = some (.int .i64 term) ∧ W.cell? ⟨r, 2, none⟩ = some (.pointer (some ⟨Cb, 0, none⟩))) := fun W hk => ⟨(hk.blk HBd.out (by simp)).cell 13, (hk.cell (p := ⟨r, 2, none⟩) HVd.out.blk.lt (by simp)).trans e2⟩
    have HFin : Hid (ROPost M tg r d (rpAcc R fr mm) w (.returned (.slice (some ⟨wD.drew.heap.size, 0, none⟩) 1 1)) (wD.drew.alloc (.cells #[.int .i64 fr, .int .i64 6, .int .i64 0, .int .i64 0, .int .i64 0, .int .i64 0, .int .i64 0, .slice none 0 0, .string ⟨#[]⟩, .int .i64 0, .int .i64 0, .int .i64 0, .int .i64 0, .int .u64 0, .int .i64 term, .int .i64 0, .slice none 0 0, .int .i64 0, .int .i64 R3.x.log.length] 39))) := by
     rw [HD2.out]
     exact ROPost.base (RoSt.oneV HRd.out HXd.out.1.lt (Keeps.refl [] wD).drew ⟨fr, acceptedM term R3.x.log.length⟩ (.slice none 0 0) (.slice none 0 0) (fun L hL => ⟨Ds.nil _ _, Ens.nil _ _⟩)) HXd.out.1 HXd.out.2
    have HPP := Lib.hid (HPd.out _ _ HFin.out)
    clear hro hapl q16 hvd e2 hcb HFin HPd HD2 HBb HXb HRb
    go_upto_region 6 with (fail)
    refine wp_region_held_drew (S := (fun W => W.cell? ⟨g5, 13, none⟩ = some (.int .i64 term) ∧ W.cell? ⟨r, 2, none⟩ = some (.pointer (some ⟨Cb, 0, none⟩)))) (by kernel_rfl) (HS6.out _ (Keeps.refl _ _).drew) (fun hHeld => ?_)
    refine wT 0 (v := ?v0u65) (by kernel_rfl) rfl (by rfl) ?y0u65 (fun _ _ _ h => h) (by assumption) ?r0u65
    case y0u65 => (intro w hSw; (obtain ⟨hS0, hS1⟩ := hSw); go_simp <;> with_reducible rfl)
    try simp only [sgl, Act.put]
    refine wT 1 (v := ?v1u66) (by kernel_rfl) rfl (by rfl) ?y1u66 (fun _ _ _ h => h) (by assumption) ?r1u66
    case y1u66 => (intro w hSw; (obtain ⟨hS0, hS1⟩ := hSw); go_simp <;> with_reducible rfl)
    try simp only [sgl, Act.put]
    refine wT 2 (v := ?v2u67) (by kernel_rfl) rfl (by rfl) ?y2u67 (fun _ _ _ h => h) (by assumption) ?r2u67
    case y2u67 => (intro w hSw; (obtain ⟨hS0, hS1⟩ := hSw); go_simp <;> with_reducible rfl)
    try simp only [sgl, Act.put]
    refine wT 3 (v := ?v3u68) (by kernel_rfl) rfl (by rfl) ?y3u68 (fun _ _ _ h => h) (by assumption) ?r3u68
    case y3u68 => (intro w hSw; (obtain ⟨hS0, hS1⟩ := hSw); go_simp <;> with_reducible rfl)
    try simp only [sgl, Act.put]
    refine wT 4 (v := ?v4u69) (by kernel_rfl) rfl (by rfl) ?y4u69 (fun _ _ _ h => h) (by assumption) ?r4u69
    case y4u69 => (intro w hSw; (obtain ⟨hS0, hS1⟩ := hSw); go_simp <;> with_reducible rfl)
    try simp only [sgl, Act.put]
    refine wT 5 (v := ?v5u70) (by kernel_rfl) rfl (by rfl) ?y5u70 (fun _ _ _ h => h) (by assumption) ?r5u70
    case y5u70 => (intro w hSw; (obtain ⟨hS0, hS1⟩ := hSw); go_simp <;> with_reducible rfl)
    try simp only [sgl, Act.put]
    refine wT 6 (v := ?v6u71) (by kernel_rfl) rfl (by rfl) ?y6u71 (fun _ _ _ h => h) (by assumption) ?r6u71
    case y6u71 => (intro w hSw; (obtain ⟨hS0, hS1⟩ := hSw); go_simp <;> with_reducible rfl)
    try simp only [sgl, Act.put]
    refine wpAnyH_ready (rs := [7]) (by kernel_rfl) (by simp) ?_
    refine AllReadyH.cons (o := _) rfl (fun K hK => ?_) AllReadyH.nil
    go_simp
    refine HLn.out.mono ?_
    rintro e wl ⟨rfl, rfl⟩
    refine hK.out _ _ (HS6.out _ (Keeps.refl _ _).drew) (fun hHeld2 => ?_)
    clear hK K hHeld
    have hHeld := hHeld2
    clear hHeld2
    try simp only [sgl, Act.put]
    refine wT 8 (v := ?v8u72) (by kernel_rfl) rfl (by rfl) ?y8u72 (fun _ _ _ h => h) (by assumption) ?r8u72
    case y8u72 => (intro w hSw; (obtain ⟨hS0, hS1⟩ := hSw); go_simp <;> with_reducible rfl)
    try simp only [sgl, Act.put]
    refine wT 9 (v := ?v9u73) (by kernel_rfl) rfl (by rfl) ?y9u73 (fun _ _ _ h => h) (by assumption) ?r9u73
    case y9u73 => (intro w hSw; (obtain ⟨hS0, hS1⟩ := hSw); go_simp <;> with_reducible rfl)
    try simp only [sgl, Act.put]
    refine wpAnyH_ready (rs := [10]) (by kernel_rfl) (by simp) ?_
    refine AllReadyH.cons (o := _) rfl (fun K hK => ?_) AllReadyH.nil
    go_simp
    refine hK.out _ _ (HS6.out _ ((Keeps.refl _ _).drew.alloc _)) (fun hHeld2 => ?_)
    clear hK K hHeld
    have hHeld := hHeld2
    clear hHeld2
    try simp only [sgl, Act.put]
    refine wT 11 (v := ?v11u74) (by kernel_rfl) rfl (by rfl) ?y11u74 (fun _ _ _ h => h) (by assumption) ?r11u74
    case y11u74 => (intro w hSw; (obtain ⟨hS0, hS1⟩ := hSw); go_simp <;> with_reducible rfl)
    try simp only [sgl, Act.put]
    refine wpAnyH_done (by kernel_rfl) ?_ _
    clear hHeld
    go_wp2_with fail
    go_ret
    exact HPP.out
end
end Go.Proofs.YtdaceeijifjpeaaGreatDoor.Vi
end
