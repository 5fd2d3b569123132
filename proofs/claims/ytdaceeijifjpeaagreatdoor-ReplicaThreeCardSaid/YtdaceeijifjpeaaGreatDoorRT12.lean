/- Texts put together: RpL, RpN, RpO, RpQ. -/
import Derived.Test.YtdaceeijifjpeaaGreatDoorRT8
import Derived.Test.YtdaceeijifjpeaaGreatDoorRT11
set_option linter.unusedVariables false
set_option linter.unusedSimpArgs false
section
namespace Go.Proofs.YtdaceeijifjpeaaGreatDoor.Vi
open Go.RowKit Base Mem Go.Shelf Tape
open Lead (VoteD VoteAt promiseS wonS accS medS termS newVote taken)
section
variable {w w' : World} {M : List Nat} {tg : Nat → Nat} {r d : Nat} {R : RpD} {C : RpC}
theorem RpV.newV (h : RpV w M tg r R C) (hM : ∀ g ∈ M, g < w.heap.size) {w1 w2 : World} {b : Nat} {nv : VoteD} (hb : w.heap.size ≤ b) (hb1 : b < w1.heap.size) (hk1 : Keeps [] w w1) (hk2 : Keeps [r] w1 w2) (hva : ∀ M, VoteAt w1 M b nv) (hblk : Blk w2 r 72 (rpCells { R with v := some nv } { C with vb := b })) :
  RpV w2 ([b] ++ M) (fun x => if x ∈ [b] then 6 else tg x) r { R with v := some nv } { C with vb := b } ∧ Ext w M tg w2 ([b] ++ M) (fun x => if x ∈ [b] then 6 else tg x) ∧ Keeps (sel M tg [1]) w w2 := by
 have hr := h.rM
 have hbM : b ∉ M := fun hm => by have := hM b hm; omega
 have hk : Keeps [r] w w2 := (hk1.mono (M' := [r]) (by simp)).trans hk2 (fun g hg => .inl hg)
 have hx : Ext w M tg w2 ([b] ++ M) (fun x => if x ∈ [b] then 6 else tg x) := ⟨fun g hg => List.mem_append_right _ hg, fun g hg => by
  rcases List.mem_append.1 hg with h1 | h1
  ·simp at h1; subst h1; exact .inr hb
  ·exact .inl h1, fun g hg => by
  show (if g ∈ [b] then 6 else tg g) = tg g
  rw [if_neg (by simp; omega)], hM, fun g hg => by
  rcases List.mem_append.1 hg with h1 | h1
  ·simp at h1; subst h1; exact Nat.lt_of_lt_of_le hb1 hk2.size
  ·exact Nat.lt_of_lt_of_le (hM g h1) hk.size⟩
 have hn : ∀ g t, tg g = t → t ≠ 1 → g ∉ [r] := fun g t h1 h2 hm => by simp at hm; subst hm; exact h2 (h1 ▸ h.tr)
 have hmt : ∀ g t, g ∈ M ∧ tg g = t → g ∈ [b] ++ M ∧ (fun x => if x ∈ [b] then 6 else tg x) g = t := fun g t h1 => ⟨hx.sub g h1.1, (hx.tag g (hM g h1.1)).trans h1.2⟩
 refine ⟨⟨hblk, ?_, h.mc.keep hk (fun x hx' => hn x _ (h.xM x hx').2 (by omega)), fun v hv => ?_, (hmt _ _ ⟨h.rM, h.tr⟩).1, (hmt _ _ ⟨h.rM, h.tr⟩).2, (hmt _ _ ⟨h.sM, h.ts⟩).1, (hmt _ _ ⟨h.sM, h.ts⟩).2, (hmt _ _ ⟨h.pM, h.tp⟩).1, (hmt _ _ ⟨h.pM, h.tp⟩).2, fun g hg => hmt _ _ (h.yM g hg), fun g hg => hmt _ _ (h.xM g hg), h.nN⟩, hx, hk.to_sel (fun g hg => by simp at hg; subst hg; exact .inl ⟨h.rM, by rw [h.tr]; simp⟩)⟩
 ·refine (h.st.more (Z' := [b] ++ M) hx.new).keepZ hk (fun g hg => by simp at hg; subst hg; exact .inl (List.mem_append_right _ h.rM)) (fun g hg => ?_)
  rcases List.mem_cons.1 hg with rfl | hg
  ·exact hn _ _ h.ts (by omega)
  ·rcases List.mem_cons.1 hg with rfl | hg
   ·exact hn _ _ h.tp (by omega)
   ·exact hn _ _ (h.yM g hg).2 (by omega)
 ·injection hv with hv
  subst hv
  exact ⟨(hva _).keep hk2 (by simp; intro e; exact hbM (e ▸ hr)) (fun g hg => by simp at hg; subst hg; exact .inl (List.mem_append_right _ h.rM)), by simp, by simp⟩
theorem count_set {l : List Bool} : ∀ {i : Nat}, i < l.length → l.getD i false = false → (l.set i true).count true = l.count true + 1 := by
 induction l with
 | nil => intro i h _; simp at h
 | cons x l ih =>
  intro i h h2
  cases i with
  | zero => simp at h2; subst h2; simp
  | succ i =>
   simp at h h2
   have := ih (i := i) h (by simpa using h2)
   cases x <;> simp [this]
theorem promise_vt {nodes : Int} {v : VoteD} (h : VtOk nodes v) (h8 : nodes ≤ 8) (hl : v.prom.length = 8) (fr had : Int) (l : List EntryD) (hle : l.length ≤ 128) (hok : ∀ e ∈ l, EOk e) : VtOk nodes (promiseS v fr had l).2 := by
 obtain ⟨h1, h2, h3, h4, h5, h6⟩ := h
 unfold promiseS
 split
 ·rename_i hc
  have ht : VtOk nodes (taken v fr.toNat) := ⟨h1, h2, h3, h4, h5, by
   show v.n + 1 = ((v.prom.set fr.toNat true).count true : Nat)
   rw [count_set (by rw [hl]; omega) hc.2.2, h6]
   omega⟩
  split
  ·exact ht
  ·split
   ·exact ⟨ht.1, ht.2.1, ht.2.2.1, hle, hok, ht.2.2.2.2.2⟩
   ·exact ht
 ·exact ⟨h1, h2, h3, h4, h5, h6⟩
theorem new_vt {term nodes : Int} (h0 : 0 ≤ term) (h1 : term ≤ 9223372036854775807) : VtOk nodes (newVote term nodes) := ⟨rfl, h0, h1, by simp [newVote], by simp [newVote], by simp [newVote]⟩
theorem vt_n {nodes : Int} {v : VoteD} (h : VtOk nodes v) (hl : v.prom.length = 8) : 0 ≤ v.n ∧ v.n ≤ 8 := by
 have := List.count_le_length (a := true) (l := v.prom)
 rw [h.2.2.2.2.2]
 omega
/-- Messages to all, beside a replica. -/
theorem AllPost.ro {out : List SentD} {e : Ending} (h : RpAt w M tg r d R) (hM : ∀ g ∈ M, g < w.heap.size) (hp : AllPost out w e w') : ROPost M tg r d (R, out) w e w' := by
 obtain ⟨ov, qs, rfl, hq, hs, hb⟩ := hp
 have hsr := hs M hM
 have hk : Keeps [] w w' := Keeps.of_below (M := []) hb
 obtain ⟨ho, C, hC, hv⟩ := h
 have hx := Ext.add (tg := tg) hM hk.size ov.ownBlock 99 (fun g hg => ⟨.inr (hsr.row.lt g hg).1, (hsr.row.lt g hg).2⟩)
 refine ⟨ov, _, _, rfl, ⟨ho, C, hC, hv.keepT (T := []) hx (hk.to_sel (by simp)) (by simp)⟩, hx, hk.to_sel (by simp), ⟨qs, hq, by rw [← hq, List.length_map]; exact hsr.row, fun q hq' L hL => hsr.val q hq' _ (fun g hg => ?_)⟩, fun g hg => ⟨List.mem_append_left _ (by simpa using hg), by simp [hg]⟩⟩
 rcases List.mem_append.1 hg with h1 | h1
 ·exact .inl (hL g h1)
 ·rcases List.mem_append.1 h1 with h2 | h2
  ·exact .inr (.inr (by simpa using h2))
  ·exact .inr (.inl h2)
theorem wok_small {x : WordD} (h : WOk x) : Lead.Small x.log := ⟨by have := h.2.2.1; omega, fun e he => by have := eok_ds8 (h.2.2.2 e he); omega⟩
theorem wok_own {x : WordD} (h : WOk x) : x.log.length ≤ 128 ∧ ∀ e ∈ x.log, EOk e := ⟨h.2.2.1, h.2.2.2⟩
set_option maxRecDepth 100000 in
set_option maxHeartbeats 1600000 in
theorem rplead_any (h : RpAt w M tg r d R) (hM : ∀ g ∈ M, g < w.heap.size) (h0 : 0 ∉ M) (hap : R.ap = R.com) (mx : Int) (hm : w.cell? ⟨0, 0, none⟩ = some (.int .i64 mx)) :
  Calls Tryz.prog 9 #[.pointer (some ⟨r, 0, none⟩)] w fun e' w' => ROPost M tg r d (rpLead R) w e' w' := by
 have hw0 : 0 < w.heap.size := by
  have := World.block_lt_of_cell? w _ hm
  simpa using this
 obtain ⟨ho, C, hC, hV⟩ := h
 have htb : termS R.x.t R.node R.nodes = 0 ∨ 0 ≤ termS R.x.t R.node R.nodes ∧ termS R.x.t R.node R.nodes ≤ 9223372036854775807 := by
  by_cases hk : Lead.okTerm R.x.t R.node R.nodes
  ·obtain ⟨h1, h2, -⟩ := Lead.term_plain hk
   unfold Lead.okTerm at hk
   right; omega
  ·left; exact if_neg hk
 have HD : Hid (rpLead R = if (rpPromise R (termS R.x.t R.node R.nodes)).1 = true then (if (promiseS (newVote (termS R.x.t R.node R.nodes) R.nodes) R.node (rpDown (rpPromise R (termS R.x.t R.node R.nodes)).2).x.h (rpDown (rpPromise R (termS R.x.t R.node R.nodes)).2).x.log).1 = true then rpWon { rpDown (rpPromise R (termS R.x.t R.node R.nodes)).2 with v := some (promiseS (newVote (termS R.x.t R.node R.nodes) R.nodes) R.node (rpDown (rpPromise R (termS R.x.t R.node R.nodes)).2).x.h (rpDown (rpPromise R (termS R.x.t R.node R.nodes)).2).x.log).2 } (promiseS (newVote (termS R.x.t R.node R.nodes) R.nodes) R.node (rpDown (rpPromise R (termS R.x.t R.node R.nodes)).2).x.h (rpDown (rpPromise R (termS R.x.t R.node R.nodes)).2).x.log).2 else ({ rpDown (rpPromise R (termS R.x.t R.node R.nodes)).2 with v := some (promiseS (newVote (termS R.x.t R.node R.nodes) R.nodes) R.node (rpDown (rpPromise R (termS R.x.t R.node R.nodes)).2).x.h (rpDown (rpPromise R (termS R.x.t R.node R.nodes)).2).x.log).2 }, rpAll (rpDown (rpPromise R (termS R.x.t R.node R.nodes)).2) (prepareM (termS R.x.t R.node R.nodes)))) else (R, [])) := rfl
 have HLT : Hid (∀ W, Calls Tryz.prog 28 #[.int .i64 R.x.t, .int .i64 R.node, .int .i64 R.nodes] W fun e w' => e = .returned (.int .i64 (termS R.x.t R.node R.nodes)) ∧ W = w') := fun W => Lead.term_any _ _ _ W
 obtain ⟨term, Hterm⟩ : ∃ t, Hid (t = termS R.x.t R.node R.nodes) := ⟨_, rfl⟩
 rw [← Hterm.out] at HD HLT htb
 have HMl := Lib.hid hM; have HC := Lib.hid hC; have HV := Lib.hid hV; have H0 := Lib.hid h0; have Hap := Lib.hid hap; have Hm := Lib.hid hm; have Hho := Lib.hid ho
 have HS : Hid (∀ W, Keeps [] w W → W.cell? ⟨r, 2, none⟩ = some (.pointer (some ⟨C.s, 0, none⟩)) ∧ W.cell? ⟨r, 0, none⟩ = some (.int .i64 R.node) ∧ W.cell? ⟨r, 1, none⟩ = some (.int .i64 R.nodes)) := fun W hk => by
  obtain ⟨d0, d1, d2, -⟩ := rpcells (hV.keep0 hM hk)
  exact ⟨d2, d0, d1⟩
 have HVT : Hid (∀ W, Keeps [] w W → Calls Tryz.prog 29 #[.pointer (some ⟨C.s, 0, none⟩)] W fun e w' => e = .returned (.int .i64 R.x.t) ∧ W = w') := fun W hk => vterm_any W ((hV.keep0 hM hk).st.st)
 have hpr := Lib.hid (rppromise_any (hV.keep0 hM ((Keeps.refl [] w).drew)) hM term (by omega) mx hm)
 have HTs := Lib.hid (rpPromise_same R term)
 have HTo := Lib.hid (rpPromise_ok ho term)
 generalize rpPromise R term = T at *
 obtain ⟨tb, R1⟩ := T
 simp only [] at HTs HTo HD
 clear ho hV hM hm hC h0 hap
 go_enter Tryz.func9, Tryz.ntmps9
 go_upto_region 1 with (fail)
 refine wp_region_held_drew (S := (fun W => W.cell? ⟨r, 2, none⟩ = some (.pointer (some ⟨C.s, 0, none⟩)) ∧ W.cell? ⟨r, 0, none⟩ = some (.int .i64 R.node) ∧ W.cell? ⟨r, 1, none⟩ = some (.int .i64 R.nodes))) (by kernel_rfl) (HS.out _ (Keeps.refl _ _).drew) (fun hHeld => ?_)
 refine wT 0 (v := ?v0u1) (by kernel_rfl) rfl (by rfl) ?y0u1 (fun _ _ _ h => h) (by assumption) ?r0u1
 case y0u1 => (intro w hSw; (obtain ⟨hS0, hS1, hS2⟩ := hSw); go_simp <;> with_reducible rfl)
 try simp only [sgl, Act.put]
 refine wT 1 (v := ?v1u2) (by kernel_rfl) rfl (by rfl) ?y1u2 (fun _ _ _ h => h) (by assumption) ?r1u2
 case y1u2 => (intro w hSw; (obtain ⟨hS0, hS1, hS2⟩ := hSw); go_simp <;> with_reducible rfl)
 try simp only [sgl, Act.put]
 refine wT 2 (v := ?v2u3) (by kernel_rfl) rfl (by rfl) ?y2u3 (fun _ _ _ h => h) (by assumption) ?r2u3
 case y2u3 => (intro w hSw; (obtain ⟨hS0, hS1, hS2⟩ := hSw); go_simp <;> with_reducible rfl)
 try simp only [sgl, Act.put]
 refine wT 3 (v := ?v3u4) (by kernel_rfl) rfl (by rfl) ?y3u4 (fun _ _ _ h => h) (by assumption) ?r3u4
 case y3u4 => (intro w hSw; (obtain ⟨hS0, hS1, hS2⟩ := hSw); go_simp <;> with_reducible rfl)
 try simp only [sgl, Act.put]
 refine wT 5 (v := ?v5u5) (by kernel_rfl) rfl (by rfl) ?y5u5 (fun _ _ _ h => h) (by assumption) ?r5u5
 case y5u5 => (intro w hSw; (obtain ⟨hS0, hS1, hS2⟩ := hSw); go_simp <;> with_reducible rfl)
 try simp only [sgl, Act.put]
 refine wT 6 (v := ?v6u6) (by kernel_rfl) rfl (by rfl) ?y6u6 (fun _ _ _ h => h) (by assumption) ?r6u6
 case y6u6 => (intro w hSw; (obtain ⟨hS0, hS1, hS2⟩ := hSw); go_simp <;> with_reducible rfl)
 try simp only [sgl, Act.put]
 refine wT 7 (v := ?v7u7) (by kernel_rfl) rfl (by rfl) ?y7u7 (fun _ _ _ h => h) (by assumption) ?r7u7
 case y7u7 => (intro w hSw; (obtain ⟨hS0, hS1, hS2⟩ := hSw); go_simp <;> with_reducible rfl)
 try simp only [sgl, Act.put]
 refine wT 8 (v := ?v8u8) (by kernel_rfl) rfl (by rfl) ?y8u8 (fun _ _ _ h => h) (by assumption) ?r8u8
 case y8u8 => (intro w hSw; (obtain ⟨hS0, hS1, hS2⟩ := hSw); go_simp <;> with_reducible rfl)
 try simp only [sgl, Act.put]
 refine wT 9 (v := ?v9u9) (by kernel_rfl) rfl (by rfl) ?y9u9 (fun _ _ _ h => h) (by assumption) ?r9u9
 case y9u9 => (intro w hSw; (obtain ⟨hS0, hS1, hS2⟩ := hSw); go_simp <;> with_reducible rfl)
 try simp only [sgl, Act.put]
 refine wT 10 (v := ?v10u10) (by kernel_rfl) rfl (by rfl) ?y10u10 (fun _ _ _ h => h) (by assumption) ?r10u10
 case y10u10 => (intro w hSw; (obtain ⟨hS0, hS1, hS2⟩ := hSw); go_simp <;> with_reducible rfl)
 try simp only [sgl, Act.put]
 refine wT 11 (v := ?v11u11) (by kernel_rfl) rfl (by rfl) ?y11u11 (fun _ _ _ h => h) (by assumption) ?r11u11
 case y11u11 => (intro w hSw; (obtain ⟨hS0, hS1, hS2⟩ := hSw); go_simp <;> with_reducible rfl)
 try simp only [sgl, Act.put]
 refine wT 12 (v := ?v12u12) (by kernel_rfl) rfl (by rfl) ?y12u12 (fun _ _ _ h => h) (by assumption) ?r12u12
 case y12u12 => (intro w hSw; (obtain ⟨hS0, hS1, hS2⟩ := hSw); go_simp <;> with_reducible rfl)
 try simp only [sgl, Act.put]
 refine wpAnyH_ready (rs := [4]) (by kernel_rfl) (by simp) ?_
 refine AllReadyH.cons (o := _) rfl (fun K hK => ?_) AllReadyH.nil
 go_simp
 refine (HVT.out _ (Keeps.refl _ _).drew).mono ?_
 rintro e wl ⟨rfl, rfl⟩
 refine hK.out _ _ (HS.out _ (Keeps.refl _ _).drew) (fun hHeld2 => ?_)
 clear hK K hHeld
 have hHeld := hHeld2
 clear hHeld2
 try simp only [sgl, Act.put]
 refine wpAnyH_ready (rs := [13]) (by kernel_rfl) (by simp) ?_
 refine AllReadyH.cons (o := _) rfl (fun K hK => ?_) AllReadyH.nil
 go_simp
 refine (HLT.out _).mono ?_
 rintro e wl ⟨rfl, rfl⟩
 refine hK.out _ _ (HS.out _ (Keeps.refl _ _).drew) (fun hHeld2 => ?_)
 clear hK K hHeld
 have hHeld := hHeld2
 clear hHeld2
 try simp only [sgl, Act.put]
 refine wT 14 (v := ?v14u13) (by kernel_rfl) rfl (by rfl) ?y14u13 (fun _ _ _ h => h) (by assumption) ?r14u13
 case y14u13 => (intro w hSw; (obtain ⟨hS0, hS1, hS2⟩ := hSw); go_simp <;> with_reducible rfl)
 try simp only [sgl, Act.put]
 refine wpAnyH_done (by kernel_rfl) ?_ _
 clear hHeld
 have c2 : w.drew.cell? ⟨r, 2, none⟩ = some (.pointer (some ⟨C.s, 0, none⟩)) := (HS.out _ (Keeps.refl _ _).drew).1
 clear HS HVT HLT
 go_wp2_with fail
 refine hpr.out.mono ?_
 rintro e1 w1 ⟨rfl, M1, tg1, Y1, hV1, hx1, hk1⟩
 simp only [] at hV1
 have HX1 : Hid (Ext w M tg w1 M1 tg1 ∧ Keeps (sel M tg (List.range 30)) w w1) := ⟨(show Ext w M tg w.drew M tg from Ext.refl HMl.out (Nat.le_refl _)).trans hx1 (Nat.le_refl _), ((Keeps.refl (sel M tg (List.range 30)) w).drew).trans (hk1.sel_mono (by simp)) (fun g hg => .inl hg)⟩
 have HRA : Hid (RpAt w1 M1 tg1 r d R1) := ⟨HTo.out, _, (by exact HC.out), hV1⟩
 clear hV1 hx1 hk1 hpr c2
 cases tb with
 | false =>
  obtain rfl : R1 = R := HTs.out.2.2.2.2.2.2.2.2.2.2 rfl
  have HP : Hid (ROPost M tg r d (rpLead R1) w (.returned (.slice none 0 0)) w1) := by
   rw [HD.out]
   simp only [Bool.false_eq_true, if_false]
   exact ROPost.nil HRA.out HX1.out.1 HX1.out.2
  clear HTs HD
  go_wp2_with fail
  go_ret
  exact HP.out
 | true =>
  simp only [if_true] at HD
  have hdn := Lib.hid (rpdown_any HRA.out HX1.out.1.lt)
  go_wp2_with fail
  refine hdn.out.mono ?_
  rintro e2 w2 ⟨rfl, h1, h2, h3⟩
  have HX2 : Hid (Ext w M tg w2 M1 tg1 ∧ Keeps (sel M tg (List.range 30)) w w2) := ⟨HX1.out.1.trans h2 HX1.out.2.size, Ext.keeps HX1.out.1 HX1.out.2 (h3.sel_mono (by simp))⟩
  have HR2 := Lib.hid h1
  obtain ⟨C2, HV2⟩ : ∃ C2, Hid (C2.d = d ∧ RpV w2 M1 tg1 r (rpDown R1) C2) := by obtain ⟨_, C2, h4, hv⟩ := h1; exact ⟨C2, h4, hv⟩
  have hnn := Lib.hid HR2.out.1.1
  have Hne : Hid (R1.node = R.node ∧ R1.nodes = R.nodes) := ⟨HTs.out.1, HTs.out.2.1⟩
  have hap2 := Lib.hid (show R1.ap = R1.com by rw [HTs.out.2.2.2.2.2.2.1, HTs.out.2.2.2.2.2.1]; exact Hap.out)
  have d1 : w2.cell? ⟨r, 1, none⟩ = some (.int .i64 R.nodes) := by rw [← Hne.out.2]; exact (rpcells HV2.out.2).2.1
  have hnw := Lib.hid (Lead.new_yes term R.nodes w2 (by rw [← Hne.out.2]; exact hnn.out.1) (by rw [← Hne.out.2]; exact hnn.out.2))
  have f5 := HV2.out.2.blk.frozen 5
  have hrl2 := HV2.out.2.blk.lt
  clear h1 h2 h3 hdn HX1 HRA
  go_wp2_with fail
  with_reducible refine hnw.out.mono ?_
  rintro e3 w3 ⟨rfl, hva, hb3, hlt3⟩
  have hk3 : Keeps [] w2 w3 := Keeps.of_below (M := []) hb3
  obtain ⟨vb, Hvb⟩ : ∃ vb, Hid (vb = w2.heap.size) := ⟨_, rfl⟩
  rw [← Hvb.out] at hva hlt3 ⊢
  have hblk3 := hk3.blk HV2.out.2.blk (by simp)
  have e5 : w3.cell? ⟨r, 5, none⟩ = some (.pointer none) := hblk3.cell 5
  have f53 := hblk3.frozen 5
  have hC2d := HV2.out.1
  have Hva := Lib.hid hva; have Hk3 := Lib.hid hk3; have Hblk3 := Lib.hid hblk3
  clear hva hb3 hk3 hblk3 hnw d1 f5
  go_upto_region 6 with (fail)
  obtain ⟨w4, hw4⟩ : ∃ w4, w4 = w3.setCell ⟨r, 5, none⟩ (.pointer (some ⟨vb, 0, none⟩)) := ⟨_, rfl⟩
  rw [← hw4]
  have hk4 : Keeps [r] w3 w4 := by rw [hw4]; exact (Keeps.refl _ _).setCell (by simp) _
  have hb4 : Blk w4 r 72 (rpCells { rpDown R1 with v := some (newVote term R.nodes) } { C2 with vb := vb }) := by
   rw [hw4]
   simpa [rpCells, rpDown] using Hblk3.out.set_ 5 (.pointer (some ⟨vb, 0, none⟩))
  obtain ⟨a1, a2, a3⟩ := HV2.out.2.newV HX2.out.1.lt (by rw [Hvb.out]; exact Nat.le_refl _) hlt3 Hk3.out hk4 Hva.out hb4
  have HX4 : Hid (Ext w M tg w4 ([vb] ++ M1) (fun x => if x ∈ [vb] then 6 else tg1 x) ∧ Keeps (sel M tg (List.range 30)) w w4) := ⟨HX2.out.1.trans a2 HX2.out.2.size, Ext.keeps HX2.out.1 HX2.out.2 (a3.sel_mono (by simp))⟩
  have hvt := new_vt (term := term) (nodes := R.nodes) (by omega) (by omega)
  have HV4 := Lib.hid a1
  have hlp : (newVote term R.nodes).prom.length = 8 := by simp [newVote]
  have Hvt := Lib.hid hvt
  have hwk := Lib.hid (HV2.out.2.st.ok)
  have HPv : Hid (VtOk R.nodes (promiseS (newVote term R.nodes) R.node R1.x.h R1.x.log).2) := promise_vt hvt (by rw [← Hne.out.2]; exact hnn.out.2) hlp R.node R1.x.h R1.x.log (wok_own hwk.out).1 (wok_own hwk.out).2
  clear hw4 hk4 hb4 a1 a2 a3 e5 f53 Hblk3 Hva hvt hlt3
  generalize ([vb] ++ M1) = M4 at *
  generalize (fun x => if x ∈ [vb] then 6 else tg1 x) = tg4 at *
  obtain ⟨R4, HR4⟩ : ∃ R4 : RpD, Hid (R4 = { rpDown R1 with v := some (newVote term R.nodes) }) := ⟨_, rfl⟩
  rw [← HR4.out] at HV4
  have Hn4 : Hid (R4.node = R.node ∧ R4.nodes = R.nodes ∧ R4.x = R1.x ∧ R4.v = some (newVote term R.nodes)) := by show _ ∧ _; rw [HR4.out]; exact ⟨Hne.out.1, Hne.out.2, rfl, rfl⟩
  have hva4 := (HV4.out.vt _ Hn4.out.2.2.2).1
  have g0 : w4.cell? ⟨r, 0, none⟩ = some (.int .i64 R.node) := by rw [← Hn4.out.1]; exact (rpcells HV4.out).1
  have g5 : w4.cell? ⟨r, 5, none⟩ = some (.pointer (some ⟨vb, 0, none⟩)) := by
   have h9 := (rpcells HV4.out).2.2.2.2.2.1
   rw [Hn4.out.2.2.2] at h9
   exact h9
  obtain ⟨Cs, hcs⟩ : ∃ Cs, Cs = C2.s := ⟨_, rfl⟩
  have g2 : w4.cell? ⟨r, 2, none⟩ = some (.pointer (some ⟨Cs, 0, none⟩)) := by rw [hcs]; exact (rpcells HV4.out).2.2.1
  have HS6 : Hid (∀ W, Keeps [] w4 W → W.cell? ⟨r, 5, none⟩ = some (.pointer (some ⟨vb, 0, none⟩)) ∧ W.cell? ⟨r, 0, none⟩ = some (.int .i64 R.node) ∧ W.cell? ⟨r, 2, none⟩ = some (.pointer (some ⟨Cs, 0, none⟩))) := fun W hk => ⟨(hk.cell (p := ⟨r, 5, none⟩) HV4.out.blk.lt (by simp)).trans g5, (hk.cell (p := ⟨r, 0, none⟩) HV4.out.blk.lt (by simp)).trans g0, (hk.cell (p := ⟨r, 2, none⟩) HV4.out.blk.lt (by simp)).trans g2⟩
  have HH : Hid (∀ W, Keeps [] w4 W → Calls Tryz.prog 34 #[.pointer (some ⟨Cs, 0, none⟩)] W fun e w' => e = .returned (.int .i64 R1.x.h) ∧ W = w') := fun W hk => by rw [hcs, ← Hn4.out.2.2.1]; exact vhad_any W (HV4.out.st.st.keep0 hk)
  have HL : Hid (∀ W, Keeps [] w4 W → Calls Tryz.prog 35 #[.pointer (some ⟨Cs, 0, none⟩)] W fun e w' => EnsPost R1.x.log W e w') := fun W hk => by rw [hcs, ← Hn4.out.2.2.1]; exact vlog_any W (HV4.out.st.st.keep0 hk)
  have hvb4 : vb ∈ M4 ∧ tg4 vb = 6 := (HV4.out.vt _ Hn4.out.2.2.2).2
  have hrvb : r ≠ vb := fun e => by have h1 := HV4.out.tr; rw [e, hvb4.2] at h1; omega
  have HPm : Hid (∀ W lv, Keeps [] w4 W → Ens W (vb :: M4) lv R1.x.log → Calls Tryz.prog 33 #[.pointer (some ⟨vb, 0, none⟩), .int .i64 R.node, .int .i64 R1.x.h, lv] W fun e w' => e = .returned (.bool (promiseS (newVote term R.nodes) R.node R1.x.h R1.x.log).1) ∧ VoteAt w' M4 vb (promiseS (newVote term R.nodes) R.node R1.x.h R1.x.log).2 ∧ Keeps [vb] W w') := fun W lv hk he => by
   exact Lead.promise_any M4 vb _ R.node R1.x.h lv R1.x.log W (hva4.keep hk (by simp) (by simp)) (fun g hg => Nat.lt_of_lt_of_le (HX4.out.1.lt g hg) hk.size) he (wok_small hwk.out) (by show R.nodes ≤ 8; rw [← Hne.out.2]; exact hnn.out.2) (vt_n Hvt.out hlp).1 (vt_n Hvt.out hlp).2
  have HD4 : Hid (rpLead R = if (promiseS (newVote term R.nodes) R.node R1.x.h R1.x.log).1 = true then rpWon { R4 with v := some (promiseS (newVote term R.nodes) R.node R1.x.h R1.x.log).2 } (promiseS (newVote term R.nodes) R.node R1.x.h R1.x.log).2 else ({ R4 with v := some (promiseS (newVote term R.nodes) R.node R1.x.h R1.x.log).2 }, toAll R4.node (prepareM term) R4.nodes.toNat)) := by
   show _ = _
   rw [HD.out, HR4.out]
   rfl
  have hap4 : R4.ap = R4.com := by rw [HR4.out]; exact hap2.out
  have hok4 : RpOk R4 := by rw [HR4.out]; exact ⟨HR2.out.1.1, HR2.out.1.2.1, HR2.out.1.2.2.1, HR2.out.1.2.2.2.1, HR2.out.1.2.2.2.2.1, fun x hx => (by injection hx with hx; subst hx; show VtOk R1.nodes _; rw [Hne.out.2]; exact Hvt.out), fun hl => (nomatch hl)⟩
  have Hok4 := Lib.hid hok4
  clear HD HTs HTo hva4 g0 g2 g5 hcs hap2 hok4 HR2 HV2
  generalize promiseS (newVote term R.nodes) R.node R1.x.h R1.x.log = PP at *
  obtain ⟨pb, pv⟩ := PP
  simp only [] at HD4 HPv
  refine wp_region_held_drew (S := (fun W => W.cell? ⟨r, 5, none⟩ = some (.pointer (some ⟨vb, 0, none⟩)) ∧ W.cell? ⟨r, 0, none⟩ = some (.int .i64 R.node) ∧ W.cell? ⟨r, 2, none⟩ = some (.pointer (some ⟨Cs, 0, none⟩)))) (by kernel_rfl) (HS6.out _ (Keeps.refl _ _).drew) (fun hHeld => ?_)
  refine wT 0 (v := ?v0u14) (by kernel_rfl) rfl (by rfl) ?y0u14 (fun _ _ _ h => h) (by assumption) ?r0u14
  case y0u14 => (intro w hSw; (obtain ⟨hS0, hS1, hS2⟩ := hSw); go_simp <;> with_reducible rfl)
  try simp only [sgl, Act.put]
  refine wT 1 (v := ?v1u15) (by kernel_rfl) rfl (by rfl) ?y1u15 (fun _ _ _ h => h) (by assumption) ?r1u15
  case y1u15 => (intro w hSw; (obtain ⟨hS0, hS1, hS2⟩ := hSw); go_simp <;> with_reducible rfl)
  try simp only [sgl, Act.put]
  refine wT 2 (v := ?v2u16) (by kernel_rfl) rfl (by rfl) ?y2u16 (fun _ _ _ h => h) (by assumption) ?r2u16
  case y2u16 => (intro w hSw; (obtain ⟨hS0, hS1, hS2⟩ := hSw); go_simp <;> with_reducible rfl)
  try simp only [sgl, Act.put]
  refine wT 3 (v := ?v3u17) (by kernel_rfl) rfl (by rfl) ?y3u17 (fun _ _ _ h => h) (by assumption) ?r3u17
  case y3u17 => (intro w hSw; (obtain ⟨hS0, hS1, hS2⟩ := hSw); go_simp <;> with_reducible rfl)
  try simp only [sgl, Act.put]
  refine wT 4 (v := ?v4u18) (by kernel_rfl) rfl (by rfl) ?y4u18 (fun _ _ _ h => h) (by assumption) ?r4u18
  case y4u18 => (intro w hSw; (obtain ⟨hS0, hS1, hS2⟩ := hSw); go_simp <;> with_reducible rfl)
  try simp only [sgl, Act.put]
  refine wT 5 (v := ?v5u19) (by kernel_rfl) rfl (by rfl) ?y5u19 (fun _ _ _ h => h) (by assumption) ?r5u19
  case y5u19 => (intro w hSw; (obtain ⟨hS0, hS1, hS2⟩ := hSw); go_simp <;> with_reducible rfl)
  try simp only [sgl, Act.put]
  refine wT 6 (v := ?v6u20) (by kernel_rfl) rfl (by rfl) ?y6u20 (fun _ _ _ h => h) (by assumption) ?r6u20
  case y6u20 => (intro w hSw; (obtain ⟨hS0, hS1, hS2⟩ := hSw); go_simp <;> with_reducible rfl)
  try simp only [sgl, Act.put]
  refine wT 7 (v := ?v7u21) (by kernel_rfl) rfl (by rfl) ?y7u21 (fun _ _ _ h => h) (by assumption) ?r7u21
  case y7u21 => (intro w hSw; (obtain ⟨hS0, hS1, hS2⟩ := hSw); go_simp <;> with_reducible rfl)
  try simp only [sgl, Act.put]
  refine wT 8 (v := ?v8u22) (by kernel_rfl) rfl (by rfl) ?y8u22 (fun _ _ _ h => h) (by assumption) ?r8u22
  case y8u22 => (intro w hSw; (obtain ⟨hS0, hS1, hS2⟩ := hSw); go_simp <;> with_reducible rfl)
  try simp only [sgl, Act.put]
  refine wT 9 (v := ?v9u23) (by kernel_rfl) rfl (by rfl) ?y9u23 (fun _ _ _ h => h) (by assumption) ?r9u23
  case y9u23 => (intro w hSw; (obtain ⟨hS0, hS1, hS2⟩ := hSw); go_simp <;> with_reducible rfl)
  try simp only [sgl, Act.put]
  refine wT 10 (v := ?v10u24) (by kernel_rfl) rfl (by rfl) ?y10u24 (fun _ _ _ h => h) (by assumption) ?r10u24
  case y10u24 => (intro w hSw; (obtain ⟨hS0, hS1, hS2⟩ := hSw); go_simp <;> with_reducible rfl)
  try simp only [sgl, Act.put]
  refine wT 11 (v := ?v11u25) (by kernel_rfl) rfl (by rfl) ?y11u25 (fun _ _ _ h => h) (by assumption) ?r11u25
  case y11u25 => (intro w hSw; (obtain ⟨hS0, hS1, hS2⟩ := hSw); go_simp <;> with_reducible rfl)
  try simp only [sgl, Act.put]
  refine wT 13 (v := ?v13u26) (by kernel_rfl) rfl (by rfl) ?y13u26 (fun _ _ _ h => h) (by assumption) ?r13u26
  case y13u26 => (intro w hSw; (obtain ⟨hS0, hS1, hS2⟩ := hSw); go_simp <;> with_reducible rfl)
  try simp only [sgl, Act.put]
  refine wT 14 (v := ?v14u27) (by kernel_rfl) rfl (by rfl) ?y14u27 (fun _ _ _ h => h) (by assumption) ?r14u27
  case y14u27 => (intro w hSw; (obtain ⟨hS0, hS1, hS2⟩ := hSw); go_simp <;> with_reducible rfl)
  try simp only [sgl, Act.put]
  refine wT 15 (v := ?v15u28) (by kernel_rfl) rfl (by rfl) ?y15u28 (fun _ _ _ h => h) (by assumption) ?r15u28
  case y15u28 => (intro w hSw; (obtain ⟨hS0, hS1, hS2⟩ := hSw); go_simp <;> with_reducible rfl)
  try simp only [sgl, Act.put]
  refine wT 16 (v := ?v16u29) (by kernel_rfl) rfl (by rfl) ?y16u29 (fun _ _ _ h => h) (by assumption) ?r16u29
  case y16u29 => (intro w hSw; (obtain ⟨hS0, hS1, hS2⟩ := hSw); go_simp <;> with_reducible rfl)
  try simp only [sgl, Act.put]
  refine wpAnyH_ready (rs := [12]) (by kernel_rfl) (by simp) ?_
  refine AllReadyH.cons (o := _) rfl (fun K hK => ?_) AllReadyH.nil
  go_simp
  refine (HH.out _ (Keeps.refl _ _).drew).mono ?_
  rintro e wl ⟨rfl, rfl⟩
  refine hK.out _ _ (HS6.out _ (Keeps.refl _ _).drew) (fun hHeld2 => ?_)
  clear hK K hHeld
  have hHeld := hHeld2
  clear hHeld2
  try simp only [sgl, Act.put]
  refine wpAnyH_ready (rs := [17]) (by kernel_rfl) (by simp) ?_
  refine AllReadyH.cons (o := _) rfl (fun K hK => ?_) AllReadyH.nil
  go_simp
  refine (HL.out _ (Keeps.refl _ _).drew).mono ?_
  rintro e w5 ⟨A8, rfl, hE5, hk5⟩
  have Hk5 : Hid (Keeps [] w4 w5) := ((Keeps.refl [] w4).drew).trans hk5 (by simp)
  have HE5 := Lib.hid (hE5 (vb :: M4) (fun g hg => by
   rcases List.mem_cons.1 hg with rfl | hg
   ·exact HX4.out.1.lt _ hvb4.1
   ·exact HX4.out.1.lt _ hg))
  clear hE5 hk5
  refine hK.out _ _ (HS6.out _ Hk5.out) (fun hHeld2 => ?_)
  clear hK K hHeld
  have hHeld := hHeld2
  clear hHeld2
  try simp only [sgl, Act.put]
  refine wpAnyH_ready (rs := [18]) (by kernel_rfl) (by simp) ?_
  refine AllReadyH.cons (o := _) rfl (fun K hK => ?_) AllReadyH.nil
  go_simp
  with_reducible refine (HPm.out _ _ Hk5.out HE5.out).mono ?_
  rintro e w6 ⟨rfl, hva6, hk6⟩
  have Hva6 := Lib.hid hva6; have Hk6 := Lib.hid hk6
  have HS66 : Hid (w6.cell? ⟨r, 5, none⟩ = some (.pointer (some ⟨vb, 0, none⟩)) ∧ w6.cell? ⟨r, 0, none⟩ = some (.int .i64 R.node) ∧ w6.cell? ⟨r, 2, none⟩ = some (.pointer (some ⟨Cs, 0, none⟩))) := by
   have h1 := HS6.out _ Hk5.out
   have hr5 := Nat.lt_of_lt_of_le HV4.out.blk.lt Hk5.out.size
   exact ⟨(hk6.cell (p := ⟨r, 5, none⟩) hr5 (by simp; exact hrvb)).trans h1.1, (hk6.cell (p := ⟨r, 0, none⟩) hr5 (by simp; exact hrvb)).trans h1.2.1, (hk6.cell (p := ⟨r, 2, none⟩) hr5 (by simp; exact hrvb)).trans h1.2.2⟩
  clear hva6 hk6
  refine hK.out _ _ HS66.out (fun hHeld2 => ?_)
  clear hK K hHeld
  have hHeld := hHeld2
  clear hHeld2
  try simp only [sgl, Act.put]
  refine wpAnyH_done (by kernel_rfl) ?_ _
  clear hHeld
  have hM5 : ∀ g ∈ M4, g < w5.heap.size := fun g hg => Nat.lt_of_lt_of_le (HX4.out.1.lt g hg) Hk5.out.size
  obtain ⟨C4, HC4, HV4c⟩ : ∃ C4 : RpC, Hid (C4.d = d ∧ C4.vb = vb) ∧ Hid (RpV w4 M4 tg4 r R4 C4) := ⟨_, ⟨(by exact hC2d), rfl⟩, HV4.out⟩
  have hb6 : VoteAt w6 M4 C4.vb pv := by rw [HC4.out.2]; exact Hva6.out
  obtain ⟨a1, a2, a3⟩ := (HV4c.out.keep0 HX4.out.1.lt Hk5.out).setV hM5 Hn4.out.2.2.2 (by rw [HC4.out.2]; exact Hk6.out) hb6
  have hok6 : RpOk { R4 with v := some pv } := ⟨Hok4.out.1, Hok4.out.2.1, Hok4.out.2.2.1, Hok4.out.2.2.2.1, Hok4.out.2.2.2.2.1, fun x hx => (by injection hx with hx; subst hx; show VtOk R4.nodes _; rw [Hn4.out.2.1]; exact HPv.out), fun _ => rfl⟩
  have hRA6 : RpAt w6 M4 tg4 r d { R4 with v := some pv } := ⟨hok6, C4, HC4.out.1, a1⟩
  have HX6 : Hid (Ext w M tg w6 M4 tg4 ∧ Keeps (sel M tg (List.range 30)) w w6) := ⟨(HX4.out.1.later Hk5.out.size).trans a2 (HX4.out.2.trans (Hk5.out.mono (M' := sel M tg (List.range 30)) (by simp)) (fun g hg => .inl hg)).size, Ext.keeps (HX4.out.1.later Hk5.out.size) (HX4.out.2.trans (Hk5.out.mono (M' := sel M tg (List.range 30)) (by simp)) (fun g hg => .inl hg)) (a3.sel_mono (by simp))⟩
  have hm6 : w6.cell? ⟨0, 0, none⟩ = some (.int .i64 mx) := (HX6.out.2.cell (p := ⟨0, 0, none⟩) hw0 (fun hm => H0.out (mem_sel.1 hm).1)).trans Hm.out
  have h06 : 0 ∉ M4 := fun hm => by
   rcases HX6.out.1.new 0 hm with h1 | h1
   ·exact H0.out h1
   ·omega
  have HRA6 := Lib.hid hRA6; have Hm6 := Lib.hid hm6; have H06 := Lib.hid h06
  have Hn6 : Hid (R4.node = R.node ∧ R4.nodes = R.nodes) := ⟨Hn4.out.1, Hn4.out.2.1⟩
  have Hap6 := Lib.hid hap4
  clear a1 a2 a3 hok6 hRA6 hm6 h06 hb6 HS6 HS66 HH HL HPm Hva6 HE5 hM5 hap4 hwk hvb4 hrvb
  cases pb with
  | true =>
   have hwo := Lib.hid (rpwon_any HRA6.out HX6.out.1.lt H06.out Hap6.out pv rfl mx Hm6.out)
   have HP : Hid (∀ e w', ROPost M4 tg4 r d (rpWon { R4 with v := some pv } pv) w6 e w' → ROPost M tg r d (rpLead R) w e w') := fun e w' hp => by
    rw [HD4.out]
    simp only [if_true]
    exact ROPost.base hp HX6.out.1 HX6.out.2
   clear HD4
   go_wp2_with fail
   with_reducible refine hwo.out.mono ?_
   intro e w7 hp
   obtain ⟨x, rfl⟩ : ∃ x, e = .returned x := by obtain ⟨x, _, _, h1, _⟩ := hp; exact ⟨x, h1⟩
   have Hp := Lib.hid (HP.out _ _ hp)
   clear hp
   go_wp2_with fail
   go_ret
   exact Hp.out
  | false =>
   obtain ⟨C6, hv6⟩ : ∃ C6, RpV w6 M4 tg4 r { R4 with v := some pv } C6 := by obtain ⟨_, C6, _, hv⟩ := HRA6.out; exact ⟨C6, hv⟩
   have hn0 := HRA6.out.1.1
   have hal : Hid (Calls Tryz.prog 37 #[.pointer (some ⟨r, 0, none⟩), .agg #[.int .i64 3, .int .i64 0, .int .i64 0, .int .i64 0, .int .i64 0, .int .i64 0, .slice none 0 0, .string ⟨#[]⟩, .int .i64 0, .int .i64 0, .int .i64 0, .int .i64 0, .int .u64 0, .int .i64 term, .int .i64 0, .slice none 0 0, .int .i64 0, .int .i64 0]] w6 (AllPost (toAll R4.node (prepareM term) R4.nodes.toNat) w6)) := Lib.hid (rpall_any r R4.node R4.nodes.toNat (prepareM term) (.slice none 0 0) (.slice none 0 0) w6 (rpcells hv6).1 (by rw [Int.toNat_of_nonneg (by have : (1 : Int) ≤ R4.nodes := hn0.1; omega)]; exact (rpcells hv6).2.1) hv6.blk.lt (by have : R4.nodes ≤ 8 := hn0.2; omega) ⟨Ds.nil _ _, Ens.nil _ _⟩ (by show (0 : Nat) ≤ _; omega) (by show (0 : Nat) ≤ _; omega) (fun e he => (nomatch he)))
   have HP : Hid (∀ e w', AllPost (toAll R4.node (prepareM term) R4.nodes.toNat) w6 e w' → ROPost M tg r d (rpLead R) w e w') := fun e w' hp => by
    rw [HD4.out]
    simp only [Bool.false_eq_true, if_false]
    exact ROPost.base (AllPost.ro HRA6.out HX6.out.1.lt hp) HX6.out.1 HX6.out.2
   clear HD4 hv6 hn0
   go_wp2_with fail
   with_reducible refine hal.out.mono ?_
   intro e w7 hp
   obtain ⟨x, rfl⟩ : ∃ x, e = .returned x := by obtain ⟨x, _, h1, _⟩ := hp; exact ⟨x, h1⟩
   have Hp := Lib.hid (HP.out _ _ hp)
   clear hp
   go_wp2_with fail
   go_ret
   exact Hp.out
end
end Go.Proofs.YtdaceeijifjpeaaGreatDoor.Vi
end
section
namespace Go.Proofs.YtdaceeijifjpeaaGreatDoor.Vi
open Go.RowKit Base Mem Go.Shelf Tape
open Lead (VoteD VoteAt promiseS wonS accS medS termS newVote)
section
variable {w w' : World} {M : List Nat} {tg : Nat → Nat} {r d : Nat} {R : RpD} {C : RpC}
set_option maxRecDepth 100000 in
set_option maxHeartbeats 2000000 in
theorem rprecv_any (h : RpAt w M tg r d R) (hM : ∀ g ∈ M, g < w.heap.size) (h0 : 0 ∉ M) (hap : R.ap = R.com) (fr : Int) (m : MsgD) (dv lv : Value) (hma : MsgAt w M m dv lv) (hs : MShort m) (hwe : Wf m.en) (hwf : ∀ e ∈ m.log, Wf e) (hdl : m.en.ds.length ≤ 1048576) (ht : m.term ≤ 9223372036854775807) (mx : Int) (hm : w.cell? ⟨0, 0, none⟩ = some (.int .i64 mx)) :
  Calls Tryz.prog 10 #[.pointer (some ⟨r, 0, none⟩), .int .i64 fr, .agg (mCell m dv lv).toArray] w fun e' w' => ROPost M tg r d (rpRecv R fr m) w e' w' := by
 have hw0 : 0 < w.heap.size := by
  have := World.block_lt_of_cell? w _ hm
  simpa using this
 obtain ⟨Aa, na, rfl, _⟩ := hma.1.len
 obtain ⟨Ba, ka, rfl, _⟩ := hma.2.len
 obtain ⟨mm, Hmm⟩ : ∃ mm, Hid (mm = m) := ⟨m, rfl⟩
 have HMs := Lib.hid (fun W (hk : Keeps [] w W) => hma.keep hk (by simp))
 have HMe := Lib.hid (fun W (hk : Keeps [] w W) => (HMs.out W hk).avoid (M' := []) (by simp))
 have HRi := Lib.hid (fun W (hk : Keeps [] w W) => mright_any m _ _ mx W (HMe.out W hk) hs ((hk.cell (p := ⟨0, 0, none⟩) hw0 (by simp)).trans hm))
 have HRP := Lib.hid (fun W (hk : Keeps [] w W) => h.keep0 hM hk)
 have HLt : Hid (∀ W, Keeps [] w W → ∀ g ∈ M, g < W.heap.size) := fun W hk g hg => Nat.lt_of_lt_of_le (hM g hg) hk.size
 have HX : Hid (∀ W, Keeps [] w W → Ext w M tg W M tg ∧ Keeps (sel M tg (List.range 30)) w W) := fun W hk => ⟨Ext.refl hM hk.size, hk.to_sel (by simp)⟩
 have Hmx : Hid (∀ W, Keeps [] w W → W.cell? ⟨0, 0, none⟩ = some (.int .i64 mx)) := fun W hk => (hk.cell (p := ⟨0, 0, none⟩) hw0 (by simp)).trans hm
 have HFin : Hid (∀ W, Keeps [] w W → ∀ P e w', ROPost M tg r d P W e w' → ROPost M tg r d P w e w') := fun W hk P e w' hp => ROPost.base hp (HX.out W hk).1 (HX.out W hk).2
 have HNil : Hid (∀ W, Keeps [] w W → rpRecv R fr mm = (R, []) → ROPost M tg r d (rpRecv R fr mm) w (.returned (.slice none 0 0)) W) := fun W hk he => by
  rw [he]
  exact ROPost.nil (HRP.out W hk) (HX.out W hk).1 (HX.out W hk).2
 have HPd : Hid (∀ e' w', ROPost M tg r d (rpRecv R fr mm) w e' w' → ROPost M tg r d (rpRecv R fr m) w e' w') := fun _ _ h => by rw [Hmm.out] at h; exact h
 have HAsk := Lib.hid (fun W (hk : Keeps [] w W) => rpask_any (HRP.out W hk) (HLt.out W hk) h0 hap fr m.en _ (HMe.out W hk).1 ⟨hs.1, hwe⟩ hdl mx (Hmx.out W hk))
 have HPrep := Lib.hid (fun W (hk : Keeps [] w W) => rpprep_any (HRP.out W hk) (HLt.out W hk) fr m.term ht mx (Hmx.out W hk))
 have HAcc := Lib.hid (fun W (hk : Keeps [] w W) => rpacc_any (HRP.out W hk) (HLt.out W hk) h0 hap fr m _ _ (HMe.out W hk) (fun e he => ⟨hs.2.2 e he, hwf e he⟩) ht mx (Hmx.out W hk))
 have HCnt : Hid (∀ W, Keeps [] w W → ∀ v, R.v = some v → Calls Tryz.prog 44 #[.pointer (some ⟨r, 0, none⟩), .int .i64 fr, .int .i64 m.len] W fun e w' => ROPost M tg r d (rpCounted R v fr m.len) W e w') := fun W hk v hv => rpcounted_any (HRP.out W hk) (HLt.out W hk) h0 hap v hv fr m.len mx (Hmx.out W hk)
 have HD : Hid (rpRecv R fr mm = rpRecv R fr m) := by show _ = _; rw [Hmm.out]
 obtain ⟨rr, Hrr⟩ : ∃ rr, Hid (rr = mrightS m) := ⟨_, rfl⟩
 have HU : Hid (rpRecv R fr m = if rr ≠ 0 then (R, []) else if m.kd = 1 then rpAsk R fr m.en else if fr < 0 ∨ R.nodes ≤ fr ∨ fr = R.node then (R, []) else if m.kd = 3 then rpPrep R fr m.term else if m.kd = 4 then
  match R.v with
  | some v => if v.term = m.term ∧ wonS v = false then (if (promiseS v fr m.had m.log).1 = true then rpWon { R with v := some (promiseS v fr m.had m.log).2 } (promiseS v fr m.had m.log).2 else ({ R with v := some (promiseS v fr m.had m.log).2 }, [])) else (R, [])
  | none => (R, [])
  else if m.kd = 5 then rpAcc R fr m else if m.kd = 6 then
  match R.leads, R.v with
  | true, some v => if v.term = m.term then rpCounted R v fr m.len else (R, [])
  | _, _ => (R, [])
  else (R, [])) := by show _ = _; rw [Hrr.out]; rfl
 have HLg : Hid (rr = 0 → m.kd ≠ 1 → m.log.length ≤ 128 ∧ ∀ e ∈ m.log, EOk e) := fun h1 h2 => by
  rw [Hrr.out] at h1
  unfold mrightS at h1
  split at h1
  ·exact absurd h1 (by decide)
  split at h1
  ·exact absurd h1 (by decide)
  split at h1
  ·exact absurd h1 (by decide)
  rename_i h3
  exact ⟨by omega, fun e he => ⟨logRight_all h1 e he, hs.2.2 e he, hwf e he⟩⟩
 rw [← Hrr.out] at HRi
 have Hs := Lib.hid hs; have Hwf := Lib.hid hwf
 have HV0 := Lib.hid h; have H0 := Lib.hid h0; have Hap := Lib.hid hap; have HMl := Lib.hid hM
 clear h hM h0 hap hma hs hwe hwf hdl ht hm
 obtain ⟨kd, ⟨kind, ag, sh, seq, ep, ds, ser, efr, etg⟩, tag, code, nn, term, had, log, commit, len⟩ := m
 simp only [] at HU HMs HMe HPrep HCnt HLg
 simp only [mCell, eCell, List.cons_append, List.nil_append] at HRi HAsk HAcc
 simp only [mCell, eCell, List.cons_append, List.nil_append]
 obtain ⟨w0, hw0'⟩ : ∃ w0, w0 = w.alloc (.cells #[.int .i64 kd, .int .i64 kind, .int .i64 ag, .int .i64 sh, .int .i64 seq, .int .i64 ep, .slice Aa ds.length na, .string ser, .int .i64 efr, .int .i64 etg, .int .i64 tag, .int .i64 code, .int .u64 nn, .int .i64 term, .int .i64 had, .slice Ba log.length ka, .int .i64 commit, .int .i64 len] 37) := ⟨_, rfl⟩
 have hk0 : Keeps [] w w0 := by rw [hw0']; exact (Keeps.refl _ _).alloc _
 have hB0 : Blk w0 w.heap.size 37 #[.int .i64 kd, .int .i64 kind, .int .i64 ag, .int .i64 sh, .int .i64 seq, .int .i64 ep, .slice Aa ds.length na, .string ser, .int .i64 efr, .int .i64 etg, .int .i64 tag, .int .i64 code, .int .u64 nn, .int .i64 term, .int .i64 had, .slice Ba log.length ka, .int .i64 commit, .int .i64 len] := by rw [hw0']; exact Blk.new w _ _
 obtain ⟨g5, Hg5⟩ : ∃ g5, Hid (g5 = w.heap.size) := ⟨_, rfl⟩
 rw [← Hg5.out] at hB0
 have Hk0 := Lib.hid hk0; have HB0 := Lib.hid hB0
 clear hk0 hB0
 show Calls Tryz.prog 10 #[.pointer (some ⟨r, 0, none⟩), .int .i64 fr, .agg #[.int .i64 kd, .int .i64 kind, .int .i64 ag, .int .i64 sh, .int .i64 seq, .int .i64 ep, .slice Aa ds.length na, .string ser, .int .i64 efr, .int .i64 etg, .int .i64 tag, .int .i64 code, .int .u64 nn, .int .i64 term, .int .i64 had, .slice Ba log.length ka, .int .i64 commit, .int .i64 len]] w _
 go_enter Tryz.func10, Tryz.ntmps10
 go_upto_region 1 with (fail)
 rw [← hw0', ← Hg5.out]
 clear hw0'
 have hmr := Lib.hid (HRi.out w0 Hk0.out)
 clear HRi
 go_wp2_with (refine wpList_load_g (by rfl) 37 (.tmp 5) rfl g5 0 rfl [.int .i64 kd, .int .i64 kind, .int .i64 ag, .int .i64 sh, .int .i64 seq, .int .i64 ep, .slice Aa ds.length na, .string ser, .int .i64 efr, .int .i64 etg, .int .i64 tag, .int .i64 code, .int .u64 nn, .int .i64 term, .int .i64 had, .slice Ba log.length ka, .int .i64 commit, .int .i64 len] _ (blk_range HB0.out) Tryz.underlying37 rfl (by kernel_rfl) ?_)
 refine hmr.out.mono ?_
 rintro e w1 ⟨rfl, hb1⟩
 have hk1 := Keeps.of_below (M := []) hb1
 have Hk1 : Hid (Keeps [] w w1) := Hk0.out.trans hk1 (by simp)
 have HB1 := Lib.hid (hk1.blk HB0.out (by simp))
 clear hk1 hb1 hmr HB0 Hk0
 have c0 := HB1.out.cell 0
 have c13 := HB1.out.cell 13
 have c17 := HB1.out.cell 17
 have f0 := HB1.out.frozen 0
 have hr1 := (rpcells HV0.out.2.choose_spec.2).1
 have hrg : w1.rangeAt g5 1 [.int .i64 kind, .int .i64 ag, .int .i64 sh, .int .i64 seq, .int .i64 ep, .slice Aa ds.length na, .string ser, .int .i64 efr, .int .i64 etg] := fun j v hj => by
  rw [HB1.out.cell (1 + j)]
  have hj9 : j < 9 := by have := (List.getElem?_eq_some_iff.1 hj).1; simpa using this
  obtain rfl | rfl | rfl | rfl | rfl | rfl | rfl | rfl | rfl := (by omega : j = 0 ∨ j = 1 ∨ j = 2 ∨ j = 3 ∨ j = 4 ∨ j = 5 ∨ j = 6 ∨ j = 7 ∨ j = 8) <;> simpa using hj
 have Hrg := Lib.hid hrg
 clear hrg hr1
 obtain ⟨C, HC, HV1⟩ : ∃ C, Hid (C.d = d) ∧ Hid (RpV w1 M tg r R C) := by obtain ⟨_, C, h1, h2⟩ := HRP.out _ Hk1.out; exact ⟨C, h1, h2⟩
 by_cases hr : rr = 0
 ·have hrd : ((rr : Int) != 0) = false := by simp [hr]
  have HU1 := Lib.hid <| HD.out.trans (HU.out.trans (if_neg (fun h => h hr)))
  clear HU HD
  by_cases hk1 : kd = 1
  ·have hb1 : (kd == 1) = true := by simp [hk1]
   have HP : Hid (∀ e w', ROPost M tg r d (rpAsk R fr ⟨kind, ag, sh, seq, ep, ds, ser, efr, etg⟩) w1 e w' → ROPost M tg r d (rpRecv R fr ⟨kd, ⟨kind, ag, sh, seq, ep, ds, ser, efr, etg⟩, tag, code, nn, term, had, log, commit, len⟩) w e w') := fun e w' hp => by
    refine HPd.out _ _ ?_
    rw [HU1.out, if_pos hk1]
    exact HFin.out _ Hk1.out _ _ _ hp
   have hc := Lib.hid (HAsk.out _ Hk1.out)
   clear HU1 hk1
   go_wp2_with (refine wpList_load_g (by rfl) 33 (.tmp 15) rfl g5 1 rfl [.int .i64 kind, .int .i64 ag, .int .i64 sh, .int .i64 seq, .int .i64 ep, .slice Aa ds.length na, .string ser, .int .i64 efr, .int .i64 etg] _ Hrg.out Tryz.underlying33 rfl (by kernel_rfl) ?_)
   with_reducible refine hc.out.mono ?_
   intro e w2 hp
   obtain ⟨x, rfl⟩ : ∃ x, e = .returned x := by obtain ⟨x, _, _, h1, _⟩ := hp; exact ⟨x, h1⟩
   have Hp := Lib.hid (HP.out _ _ hp)
   clear hp
   go_wp2_with fail
   go_ret
   exact Hp.out
  ·have hb1 : (kd == 1) = false := by simp [hk1]
   have HU2 := Lib.hid (HU1.out.trans (if_neg hk1))
   clear HU1 hk1
   have d0 := (rpcells HV1.out).1
   have d1 := (rpcells HV1.out).2.1
   have fr0 := HV1.out.blk.frozen 0
   by_cases hf1 : fr < 0
   ·have hx1 : decide (fr < 0) = true := decide_eq_true hf1
    have hP := Lib.hid (HPd.out _ _ (HNil.out _ Hk1.out (by rw [HU2.out, if_pos (.inl hf1)])))
    go_wp2_with fail
    go_ret
    exact hP.out
   by_cases hf2 : R.nodes ≤ fr
   ·have hx1 : decide (fr < 0) = false := decide_eq_false hf1
    have hx2 : decide (R.nodes ≤ fr) = true := decide_eq_true hf2
    have hP := Lib.hid (HPd.out _ _ (HNil.out _ Hk1.out (by rw [HU2.out, if_pos (.inr (.inl hf2))])))
    go_wp2_with fail
    go_ret
    exact hP.out
   by_cases hf3 : fr = R.node
   ·have hx1 : decide (fr < 0) = false := decide_eq_false hf1
    have hx2 : decide (R.nodes ≤ fr) = false := decide_eq_false hf2
    have hx3 : (fr == R.node) = true := by simp [hf3]
    have Hf3 := Lib.hid hf3
    clear hf3
    have hP := Lib.hid (HPd.out _ _ (HNil.out _ Hk1.out (by rw [HU2.out, if_pos (.inr (.inr Hf3.out))])))
    go_wp2_with fail
    go_ret
    exact hP.out
   have hx1 : decide (fr < 0) = false := decide_eq_false hf1
   have hx2 : decide (R.nodes ≤ fr) = false := decide_eq_false hf2
   have hx3 : (fr == R.node) = false := by simp [hf3]
   have HU3 := Lib.hid (HU2.out.trans (if_neg (fun h => h.elim hf1 (fun h => h.elim hf2 hf3))))
   clear HU2
   by_cases hk3 : kd = 3
   ·have hb3 : (kd == 3) = true := by simp [hk3]
    have HP : Hid (∀ e w', ROPost M tg r d (rpPrep R fr term) w1 e w' → ROPost M tg r d (rpRecv R fr ⟨kd, ⟨kind, ag, sh, seq, ep, ds, ser, efr, etg⟩, tag, code, nn, term, had, log, commit, len⟩) w e w') := fun e w' hp => by
     refine HPd.out _ _ ?_
     rw [HU3.out, if_pos hk3]
     exact HFin.out _ Hk1.out _ _ _ hp
    have hc := Lib.hid (HPrep.out _ Hk1.out)
    clear HU3 hk3
    go_wp2_with fail
    with_reducible refine hc.out.mono ?_
    intro e w2 hp
    obtain ⟨x, rfl⟩ : ∃ x, e = .returned x := by obtain ⟨x, _, _, h1, _⟩ := hp; exact ⟨x, h1⟩
    have Hp := Lib.hid (HP.out _ _ hp)
    clear hp
    go_wp2_with fail
    go_ret
    exact Hp.out
   have hb3 : (kd == 3) = false := by simp [hk3]
   have HU4 := Lib.hid (HU3.out.trans (if_neg hk3))
   clear HU3 hk3
   by_cases hk4 : kd = 4
   ·have hb4 : (kd == 4) = true := by simp [hk4]
    have HU5 := Lib.hid (HU4.out.trans (if_pos hk4))
    have Hlg := Lib.hid (HLg.out hr (by omega))
    clear HU4 hk4
    have d5 := (rpcells HV1.out).2.2.2.2.2.1
    cases hv : R.v with
    | none =>
     rw [hv] at d5
     have d5 : w1.cell? ⟨r, 5, none⟩ = some (.pointer none) := d5
     have HP : Hid (ROPost M tg r d (rpRecv R fr ⟨kd, ⟨kind, ag, sh, seq, ep, ds, ser, efr, etg⟩, tag, code, nn, term, had, log, commit, len⟩) w (.returned (.slice none 0 0)) w1.drew) := HPd.out _ _ (HNil.out _ Hk1.out.drew (by rw [HU5.out, hv]))
     go_upto_region 11 with (fail)
     refine wp_region_held_drew (S := (fun W => W.cell? ⟨r, 5, none⟩ = some (.pointer none))) (by kernel_rfl) d5 (fun hHeld => ?_)
     refine wT 0 (v := ?v0u33) (by kernel_rfl) rfl (by rfl) ?y0u33 (fun _ _ _ h => h) (by assumption) ?r0u33
     case y0u33 => (intro w hSw; (have hS0 := hSw); go_simp <;> with_reducible rfl)
     try simp only [sgl, Act.put]
     refine wT 1 (v := ?v1u34) (by kernel_rfl) rfl (by rfl) ?y1u34 (fun _ _ _ h => h) (by assumption) ?r1u34
     case y1u34 => (intro w hSw; (have hS0 := hSw); go_simp <;> with_reducible rfl)
     try simp only [sgl, Act.put]
     refine wT 2 (v := ?v2u35) (by kernel_rfl) rfl (by rfl) ?y2u35 (fun _ _ _ h => h) (by assumption) ?r2u35
     case y2u35 => (intro w hSw; (have hS0 := hSw); go_simp <;> with_reducible rfl)
     try simp only [sgl, Act.put]
     refine wT 3 (v := ?v3u36) (by kernel_rfl) rfl (by rfl) ?y3u36 (fun _ _ _ h => h) (by assumption) ?r3u36
     case y3u36 => (intro w hSw; (have hS0 := hSw); go_simp <;> with_reducible rfl)
     try simp only [sgl, Act.put]
     refine wT 4 (v := ?v4u37) (by kernel_rfl) rfl (by rfl) ?y4u37 (fun _ _ _ h => h) (by assumption) ?r4u37
     case y4u37 => (intro w hSw; (have hS0 := hSw); go_simp <;> with_reducible rfl)
     try simp only [sgl, Act.put]
     refine wT 5 (v := ?v5u38) (by kernel_rfl) rfl (by rfl) ?y5u38 (fun _ _ _ h => h) (by assumption) ?r5u38
     case y5u38 => (intro w hSw; (have hS0 := hSw); go_simp <;> with_reducible rfl)
     try simp only [sgl, Act.put]
     refine wS 6 (by kernel_rfl) rfl (by rfl) (fun _ _ _ h => h) (by assumption) ?_
     try simp only [sgl, Act.put]
     refine wS 7 (by kernel_rfl) rfl (by rfl) (fun _ _ _ h => h) (by assumption) ?_
     try simp only [sgl, Act.put]
     refine wS 8 (by kernel_rfl) rfl (by rfl) (fun _ _ _ h => h) (by assumption) ?_
     try simp only [sgl, Act.put]
     refine wS 9 (by kernel_rfl) rfl (by rfl) (fun _ _ _ h => h) (by assumption) ?_
     try simp only [sgl, Act.put]
     refine wS 10 (by kernel_rfl) rfl (by rfl) (fun _ _ _ h => h) (by assumption) ?_
     try simp only [sgl, Act.put]
     refine wS 11 (by kernel_rfl) rfl (by rfl) (fun _ _ _ h => h) (by assumption) ?_
     try simp only [sgl, Act.put]
     refine wS 12 (by kernel_rfl) rfl (by rfl) (fun _ _ _ h => h) (by assumption) ?_
     try simp only [sgl, Act.put]
     refine wS 13 (by kernel_rfl) rfl (by rfl) (fun _ _ _ h => h) (by assumption) ?_
     try simp only [sgl, Act.put]
     refine wT 14 (v := ?v14u39) (by kernel_rfl) rfl (by rfl) ?y14u39 (fun _ _ _ h => h) (by assumption) ?r14u39
     case y14u39 => (intro w hSw; (have hS0 := hSw); go_simp <;> with_reducible rfl)
     try simp only [sgl, Act.put]
     refine wT 15 (v := ?v15u40) (by kernel_rfl) rfl (by rfl) ?y15u40 (fun _ _ _ h => h) (by assumption) ?r15u40
     case y15u40 => (intro w hSw; (have hS0 := hSw); go_simp <;> with_reducible rfl)
     try simp only [sgl, Act.put]
     refine wS 16 (by kernel_rfl) rfl (by rfl) (fun _ _ _ h => h) (by assumption) ?_
     try simp only [sgl, Act.put]
     refine wS 17 (by kernel_rfl) rfl (by rfl) (fun _ _ _ h => h) (by assumption) ?_
     try simp only [sgl, Act.put]
     refine wS 18 (by kernel_rfl) rfl (by rfl) (fun _ _ _ h => h) (by assumption) ?_
     try simp only [sgl, Act.put]
     refine wS 19 (by kernel_rfl) rfl (by rfl) (fun _ _ _ h => h) (by assumption) ?_
     try simp only [sgl, Act.put]
     refine wS 20 (by kernel_rfl) rfl (by rfl) (fun _ _ _ h => h) (by assumption) ?_
     try simp only [sgl, Act.put]
     refine wS 21 (by kernel_rfl) rfl (by rfl) (fun _ _ _ h => h) (by assumption) ?_
     try simp only [sgl, Act.put]
     refine wT 22 (v := ?v22u41) (by kernel_rfl) rfl (by rfl) ?y22u41 (fun _ _ _ h => h) (by assumption) ?r22u41
     case y22u41 => (intro w hSw; (have hS0 := hSw); go_simp <;> with_reducible rfl)
     try simp only [sgl, Act.put]
     refine wT 23 (v := ?v23u42) (by kernel_rfl) rfl (by rfl) ?y23u42 (fun _ _ _ h => h) (by assumption) ?r23u42
     case y23u42 => (intro w hSw; (have hS0 := hSw); go_simp <;> with_reducible rfl)
     try simp only [sgl, Act.put]
     refine wS 24 (by kernel_rfl) rfl (by rfl) (fun _ _ _ h => h) (by assumption) ?_
     try simp only [sgl, Act.put]
     refine wS 25 (by kernel_rfl) rfl (by rfl) (fun _ _ _ h => h) (by assumption) ?_
     try simp only [sgl, Act.put]
     refine wS 26 (by kernel_rfl) rfl (by rfl) (fun _ _ _ h => h) (by assumption) ?_
     try simp only [sgl, Act.put]
     refine wS 27 (by kernel_rfl) rfl (by rfl) (fun _ _ _ h => h) (by assumption) ?_
     try simp only [sgl, Act.put]
     refine wS 28 (by kernel_rfl) rfl (by rfl) (fun _ _ _ h => h) (by assumption) ?_
     try simp only [sgl, Act.put]
     refine wS 29 (by kernel_rfl) rfl (by rfl) (fun _ _ _ h => h) (by assumption) ?_
     try simp only [sgl, Act.put]
     refine wS 30 (by kernel_rfl) rfl (by rfl) (fun _ _ _ h => h) (by assumption) ?_
     try simp only [sgl, Act.put]
     refine wS 31 (by kernel_rfl) rfl (by rfl) (fun _ _ _ h => h) (by assumption) ?_
     try simp only [sgl, Act.put]
     refine wS 32 (by kernel_rfl) rfl (by rfl) (fun _ _ _ h => h) (by assumption) ?_
     try simp only [sgl, Act.put]
     refine wS 33 (by kernel_rfl) rfl (by rfl) (fun _ _ _ h => h) (by assumption) ?_
     try simp only [sgl, Act.put]
     refine wT 34 (v := ?v34u43) (by kernel_rfl) rfl (by rfl) ?y34u43 (fun _ _ _ h => h) (by assumption) ?r34u43
     case y34u43 => (intro w hSw; (have hS0 := hSw); go_simp <;> with_reducible rfl)
     try simp only [sgl, Act.put]
     refine wpAnyH_done (by kernel_rfl) ?_ _
     clear hHeld
     clear d5 hv
     go_wp2_with fail
     go_ret
     exact HP.out
    | some v =>
     rw [hv] at d5
     have d5 : w1.cell? ⟨r, 5, none⟩ = some (.pointer (some ⟨C.vb, 0, none⟩)) := d5
     obtain ⟨vb, hvb⟩ : ∃ vb, vb = C.vb := ⟨_, rfl⟩
     rw [← hvb] at d5
     have Hva : Hid (VoteAt w1 M vb v ∧ vb ∈ M ∧ tg vb = 6) := by rw [hvb]; exact HV1.out.vt v hv
     have Hvo := Lib.hid (HV0.out.1.2.2.2.2.2.1 v hv)
     have Hn8 := Lib.hid HV0.out.1.1
     have HVn := Lib.hid (vt_n Hvo.out Hva.out.1.l1)
     have HT : Hid (∀ W, Keeps [] w1 W → Calls Tryz.prog 41 #[.pointer (some ⟨vb, 0, none⟩)] W fun e w' => e = .returned (.int .i64 v.term) ∧ W = w') := fun W hk => Lead.vterm_any M vb v W (Hva.out.1.keep hk (by simp) (by simp))
     obtain ⟨wb, Hwb⟩ : ∃ wb, Hid (wb = wonS v) := ⟨_, rfl⟩
     have HWn : Hid (∀ W, Keeps [] w1 W → Calls Tryz.prog 42 #[.pointer (some ⟨vb, 0, none⟩)] W fun e w' => e = .returned (.bool wb) ∧ ∃ n, w' = W.drewN n) := fun W hk => by rw [Hwb.out]; exact Lead.won_any M vb v W (Hva.out.1.keep hk (by simp) (by simp)) HVn.out.1 (by have := HVn.out.2; omega)
     have HPm : Hid (∀ W, Keeps [] w1 W → Calls Tryz.prog 33 #[.pointer (some ⟨vb, 0, none⟩), .int .i64 fr, .int .i64 had, .slice Ba log.length ka] W fun e w' => e = .returned (.bool (promiseS v fr had log).1) ∧ VoteAt w' M vb (promiseS v fr had log).2 ∧ Keeps [vb] W w') := fun W hk => by
      have hk2 : Keeps [] w W := Hk1.out.trans hk (by simp)
      exact Lead.promise_any M vb v fr had _ log W (Hva.out.1.keep hk (by simp) (by simp)) (HLt.out W hk2) ((HMs.out W hk2).2.avoid (fun g hg => by rcases List.mem_cons.1 hg with rfl | hg; exact .inl Hva.out.2.1; exact .inl hg)) ⟨by have := Hlg.out.1; omega, fun e he => by have := eok_ds8 (Hlg.out.2 e he); omega⟩ (by rw [Hvo.out.1]; exact Hn8.out.2) HVn.out.1 HVn.out.2
     have HPv : Hid (VtOk R.nodes (promiseS v fr had log).2) := promise_vt Hvo.out Hn8.out.2 Hva.out.1.l1 fr had log Hlg.out.1 Hlg.out.2
     have HS11 : Hid (∀ W, Keeps [] w1 W → W.cell? ⟨r, 5, none⟩ = some (.pointer (some ⟨vb, 0, none⟩)) ∧ W.cell? ⟨g5, 13, none⟩ = some (.int .i64 term) ∧ W.cell? ⟨g5, 14, none⟩ = some (.int .i64 had) ∧ W.cell? ⟨g5, 15, none⟩ = some (.slice Ba log.length ka)) := fun W hk => ⟨(hk.cell (p := ⟨r, 5, none⟩) HV1.out.blk.lt (by simp)).trans d5, (hk.cell (p := ⟨g5, 13, none⟩) HB1.out.lt (by simp)).trans c13, (hk.cell (p := ⟨g5, 14, none⟩) HB1.out.lt (by simp)).trans (HB1.out.cell 14), (hk.cell (p := ⟨g5, 15, none⟩) HB1.out.lt (by simp)).trans (HB1.out.cell 15)⟩
     have HU8 : Hid (rpRecv R fr mm = if v.term = term ∧ wb = false then (if (promiseS v fr had log).1 = true then rpWon { R with v := some (promiseS v fr had log).2 } (promiseS v fr had log).2 else ({ R with v := some (promiseS v fr had log).2 }, [])) else (R, [])) := by show _ = _; rw [HU5.out, hv, Hwb.out]
     have Hvv := Lib.hid hv
     have Hvb := Lib.hid hvb
     clear hvb d5 hv HU5 Hlg HVn
     by_cases hte : v.term = term
     ·have hbt : (v.term == term) = true := by simp [hte]
      have Hte := Lib.hid hte
      clear hte
      cases wb with
      | true =>
       have HP : Hid (∀ W, Keeps [] w1 W → ROPost M tg r d (rpRecv R fr ⟨kd, ⟨kind, ag, sh, seq, ep, ds, ser, efr, etg⟩, tag, code, nn, term, had, log, commit, len⟩) w (.returned (.slice none 0 0)) W) := fun W hk => HPd.out _ _ (HNil.out _ (Hk1.out.trans hk (by simp)) (HU8.out.trans (if_neg (fun h => nomatch h.2))))
       clear HU8 HPm HPv
       go_upto_region 11 with (fail)
       refine wp_region_held_drew (S := (fun W => W.cell? ⟨r, 5, none⟩ = some (.pointer (some ⟨vb, 0, none⟩)) ∧ W.cell? ⟨g5, 13, none⟩ = some (.int .i64 term) ∧ W.cell? ⟨g5, 14, none⟩ = some (.int .i64 had) ∧ W.cell? ⟨g5, 15, none⟩ = some (.slice Ba log.length ka))) (by kernel_rfl) (HS11.out _ (Keeps.refl _ _).drew) (fun hHeld => ?_)
       refine wT 0 (v := ?v0u62) (by kernel_rfl) rfl (by rfl) ?y0u62 (fun _ _ _ h => h) (by assumption) ?r0u62
       case y0u62 => (intro w hSw; (obtain ⟨hS0, hS1, hS2, hS3⟩ := hSw); go_simp <;> with_reducible rfl)
       try simp only [sgl, Act.put]
       refine wT 1 (v := ?v1u63) (by kernel_rfl) rfl (by rfl) ?y1u63 (fun _ _ _ h => h) (by assumption) ?r1u63
       case y1u63 => (intro w hSw; (obtain ⟨hS0, hS1, hS2, hS3⟩ := hSw); go_simp <;> with_reducible rfl)
       try simp only [sgl, Act.put]
       refine wT 2 (v := ?v2u64) (by kernel_rfl) rfl (by rfl) ?y2u64 (fun _ _ _ h => h) (by assumption) ?r2u64
       case y2u64 => (intro w hSw; (obtain ⟨hS0, hS1, hS2, hS3⟩ := hSw); go_simp <;> with_reducible rfl)
       try simp only [sgl, Act.put]
       refine wT 3 (v := ?v3u65) (by kernel_rfl) rfl (by rfl) ?y3u65 (fun _ _ _ h => h) (by assumption) ?r3u65
       case y3u65 => (intro w hSw; (obtain ⟨hS0, hS1, hS2, hS3⟩ := hSw); go_simp <;> with_reducible rfl)
       try simp only [sgl, Act.put]
       refine wT 4 (v := ?v4u66) (by kernel_rfl) rfl (by rfl) ?y4u66 (fun _ _ _ h => h) (by assumption) ?r4u66
       case y4u66 => (intro w hSw; (obtain ⟨hS0, hS1, hS2, hS3⟩ := hSw); go_simp <;> with_reducible rfl)
       try simp only [sgl, Act.put]
       refine wT 5 (v := ?v5u67) (by kernel_rfl) rfl (by rfl) ?y5u67 (fun _ _ _ h => h) (by assumption) ?r5u67
       case y5u67 => (intro w hSw; (obtain ⟨hS0, hS1, hS2, hS3⟩ := hSw); go_simp <;> with_reducible rfl)
       try simp only [sgl, Act.put]
       refine wT 6 (v := ?v6u68) (by kernel_rfl) rfl (by rfl) ?y6u68 (fun _ _ _ h => h) (by assumption) ?r6u68
       case y6u68 => (intro w hSw; (obtain ⟨hS0, hS1, hS2, hS3⟩ := hSw); go_simp <;> with_reducible rfl)
       try simp only [sgl, Act.put]
       refine wT 7 (v := ?v7u69) (by kernel_rfl) rfl (by rfl) ?y7u69 (fun _ _ _ h => h) (by assumption) ?r7u69
       case y7u69 => (intro w hSw; (obtain ⟨hS0, hS1, hS2, hS3⟩ := hSw); go_simp <;> with_reducible rfl)
       try simp only [sgl, Act.put]
       refine wT 8 (v := ?v8u70) (by kernel_rfl) rfl (by rfl) ?y8u70 (fun _ _ _ h => h) (by assumption) ?r8u70
       case y8u70 => (intro w hSw; (obtain ⟨hS0, hS1, hS2, hS3⟩ := hSw); go_simp <;> with_reducible rfl)
       try simp only [sgl, Act.put]
       refine wT 9 (v := ?v9u71) (by kernel_rfl) rfl (by rfl) ?y9u71 (fun _ _ _ h => h) (by assumption) ?r9u71
       case y9u71 => (intro w hSw; (obtain ⟨hS0, hS1, hS2, hS3⟩ := hSw); go_simp <;> with_reducible rfl)
       try simp only [sgl, Act.put]
       refine wT 11 (v := ?v11u72) (by kernel_rfl) rfl (by rfl) ?y11u72 (fun _ _ _ h => h) (by assumption) ?r11u72
       case y11u72 => (intro w hSw; (obtain ⟨hS0, hS1, hS2, hS3⟩ := hSw); go_simp <;> with_reducible rfl)
       try simp only [sgl, Act.put]
       refine wT 12 (v := ?v12u73) (by kernel_rfl) rfl (by rfl) ?y12u73 (fun _ _ _ h => h) (by assumption) ?r12u73
       case y12u73 => (intro w hSw; (obtain ⟨hS0, hS1, hS2, hS3⟩ := hSw); go_simp <;> with_reducible rfl)
       try simp only [sgl, Act.put]
       refine wpAnyH_ready (rs := [10]) (by kernel_rfl) (by simp) ?_
       refine AllReadyH.cons (o := _) rfl (fun K hK => ?_) AllReadyH.nil
       go_simp
       refine (HT.out _ (Keeps.refl _ _).drew).mono ?_
       rintro e wl ⟨rfl, rfl⟩
       refine hK.out _ _ (HS11.out _ (Keeps.refl _ _).drew) (fun hHeld2 => ?_)
       clear hK K hHeld
       have hHeld := hHeld2
       clear hHeld2
       try simp only [sgl, Act.put]
       refine wT 13 (v := ?v13u74) (by kernel_rfl) rfl (by rfl) ?y13u74 (fun _ _ _ h => h) (by assumption) ?r13u74
       case y13u74 => (intro w hSw; (obtain ⟨hS0, hS1, hS2, hS3⟩ := hSw); go_simp <;> with_reducible rfl)
       try simp only [sgl, Act.put]
       refine wT 14 (v := ?v14u75) (by kernel_rfl) rfl (by rfl) ?y14u75 (fun _ _ _ h => h) (by assumption) ?r14u75
       case y14u75 => (intro w hSw; (obtain ⟨hS0, hS1, hS2, hS3⟩ := hSw); go_simp <;> with_reducible rfl)
       try simp only [sgl, Act.put]
       refine wT 15 (v := ?v15u76) (by kernel_rfl) rfl (by rfl) ?y15u76 (fun _ _ _ h => h) (by assumption) ?r15u76
       case y15u76 => (intro w hSw; (obtain ⟨hS0, hS1, hS2, hS3⟩ := hSw); go_simp <;> with_reducible rfl)
       try simp only [sgl, Act.put]
       refine wT 16 (v := ?v16u77) (by kernel_rfl) rfl (by rfl) ?y16u77 (fun _ _ _ h => h) (by assumption) ?r16u77
       case y16u77 => (intro w hSw; (obtain ⟨hS0, hS1, hS2, hS3⟩ := hSw); go_simp <;> with_reducible rfl)
       try simp only [sgl, Act.put]
       refine wT 17 (v := ?v17u78) (by kernel_rfl) rfl (by rfl) ?y17u78 (fun _ _ _ h => h) (by assumption) ?r17u78
       case y17u78 => (intro w hSw; (obtain ⟨hS0, hS1, hS2, hS3⟩ := hSw); go_simp <;> with_reducible rfl)
       try simp only [sgl, Act.put]
       refine wT 18 (v := ?v18u79) (by kernel_rfl) rfl (by rfl) ?y18u79 (fun _ _ _ h => h) (by assumption) ?r18u79
       case y18u79 => (intro w hSw; (obtain ⟨hS0, hS1, hS2, hS3⟩ := hSw); go_simp <;> with_reducible rfl)
       try simp only [sgl, Act.put]
       refine wT 19 (v := ?v19u80) (by kernel_rfl) rfl (by rfl) ?y19u80 (fun _ _ _ h => h) (by assumption) ?r19u80
       case y19u80 => (intro w hSw; (obtain ⟨hS0, hS1, hS2, hS3⟩ := hSw); go_simp <;> with_reducible rfl)
       try simp only [sgl, Act.put]
       refine wpAnyH_ready (rs := [20]) (by kernel_rfl) (by simp) ?_
       refine AllReadyH.cons (o := _) rfl (fun K hK => ?_) AllReadyH.nil
       go_simp
       refine (HWn.out _ (Keeps.refl _ _).drew).mono ?_
       rintro e wl ⟨rfl, n9, hwl⟩
       have Hkw : Hid (Keeps [] w1 wl) := by rw [hwl]; exact (Keeps.refl _ _).drew.drewN _
       clear hwl
       refine hK.out _ _ (HS11.out _ Hkw.out) (fun hHeld2 => ?_)
       clear hK K hHeld
       have hHeld := hHeld2
       clear hHeld2
       try simp only [sgl, Act.put]
       refine wT 21 (v := ?v21u81) (by kernel_rfl) rfl (by rfl) ?y21u81 (fun _ _ _ h => h) (by assumption) ?r21u81
       case y21u81 => (intro w hSw; (obtain ⟨hS0, hS1, hS2, hS3⟩ := hSw); go_simp <;> with_reducible rfl)
       try simp only [sgl, Act.put]
       refine wT 22 (v := ?v22u82) (by kernel_rfl) rfl (by rfl) ?y22u82 (fun _ _ _ h => h) (by assumption) ?r22u82
       case y22u82 => (intro w hSw; (obtain ⟨hS0, hS1, hS2, hS3⟩ := hSw); go_simp <;> with_reducible rfl)
       try simp only [sgl, Act.put]
       refine wT 23 (v := ?v23u83) (by kernel_rfl) rfl (by rfl) ?y23u83 (fun _ _ _ h => h) (by assumption) ?r23u83
       case y23u83 => (intro w hSw; (obtain ⟨hS0, hS1, hS2, hS3⟩ := hSw); go_simp <;> with_reducible rfl)
       try simp only [sgl, Act.put]
       refine wS 24 (by kernel_rfl) rfl (by rfl) (fun _ _ _ h => h) (by assumption) ?_
       try simp only [sgl, Act.put]
       refine wS 25 (by kernel_rfl) rfl (by rfl) (fun _ _ _ h => h) (by assumption) ?_
       try simp only [sgl, Act.put]
       refine wS 26 (by kernel_rfl) rfl (by rfl) (fun _ _ _ h => h) (by assumption) ?_
       try simp only [sgl, Act.put]
       refine wS 27 (by kernel_rfl) rfl (by rfl) (fun _ _ _ h => h) (by assumption) ?_
       try simp only [sgl, Act.put]
       refine wS 28 (by kernel_rfl) rfl (by rfl) (fun _ _ _ h => h) (by assumption) ?_
       try simp only [sgl, Act.put]
       refine wS 29 (by kernel_rfl) rfl (by rfl) (fun _ _ _ h => h) (by assumption) ?_
       try simp only [sgl, Act.put]
       refine wS 30 (by kernel_rfl) rfl (by rfl) (fun _ _ _ h => h) (by assumption) ?_
       try simp only [sgl, Act.put]
       refine wS 31 (by kernel_rfl) rfl (by rfl) (fun _ _ _ h => h) (by assumption) ?_
       try simp only [sgl, Act.put]
       refine wS 32 (by kernel_rfl) rfl (by rfl) (fun _ _ _ h => h) (by assumption) ?_
       try simp only [sgl, Act.put]
       refine wS 33 (by kernel_rfl) rfl (by rfl) (fun _ _ _ h => h) (by assumption) ?_
       try simp only [sgl, Act.put]
       refine wT 34 (v := ?v34u84) (by kernel_rfl) rfl (by rfl) ?y34u84 (fun _ _ _ h => h) (by assumption) ?r34u84
       case y34u84 => (intro w hSw; (obtain ⟨hS0, hS1, hS2, hS3⟩ := hSw); go_simp <;> with_reducible rfl)
       try simp only [sgl, Act.put]
       refine wpAnyH_done (by kernel_rfl) ?_ _
       clear hHeld
       go_wp2_with fail
       go_ret
       exact HP.out _ Hkw.out
      | false =>
       have HU9 := Lib.hid (HU8.out.trans (if_pos ⟨Hte.out, rfl⟩))
       clear HU8
       generalize promiseS v fr had log = PP at *
       obtain ⟨pb, pv⟩ := PP
       simp only [] at HU9 HPv HPm
       go_upto_region 11 with (fail)
       refine wp_region_held_drew (S := (fun W => W.cell? ⟨r, 5, none⟩ = some (.pointer (some ⟨vb, 0, none⟩)) ∧ W.cell? ⟨g5, 13, none⟩ = some (.int .i64 term) ∧ W.cell? ⟨g5, 14, none⟩ = some (.int .i64 had) ∧ W.cell? ⟨g5, 15, none⟩ = some (.slice Ba log.length ka))) (by kernel_rfl) (HS11.out _ (Keeps.refl _ _).drew) (fun hHeld => ?_)
       refine wT 0 (v := ?v0u85) (by kernel_rfl) rfl (by rfl) ?y0u85 (fun _ _ _ h => h) (by assumption) ?r0u85
       case y0u85 => (intro w hSw; (obtain ⟨hS0, hS1, hS2, hS3⟩ := hSw); go_simp <;> with_reducible rfl)
       try simp only [sgl, Act.put]
       refine wT 1 (v := ?v1u86) (by kernel_rfl) rfl (by rfl) ?y1u86 (fun _ _ _ h => h) (by assumption) ?r1u86
       case y1u86 => (intro w hSw; (obtain ⟨hS0, hS1, hS2, hS3⟩ := hSw); go_simp <;> with_reducible rfl)
       try simp only [sgl, Act.put]
       refine wT 2 (v := ?v2u87) (by kernel_rfl) rfl (by rfl) ?y2u87 (fun _ _ _ h => h) (by assumption) ?r2u87
       case y2u87 => (intro w hSw; (obtain ⟨hS0, hS1, hS2, hS3⟩ := hSw); go_simp <;> with_reducible rfl)
       try simp only [sgl, Act.put]
       refine wT 3 (v := ?v3u88) (by kernel_rfl) rfl (by rfl) ?y3u88 (fun _ _ _ h => h) (by assumption) ?r3u88
       case y3u88 => (intro w hSw; (obtain ⟨hS0, hS1, hS2, hS3⟩ := hSw); go_simp <;> with_reducible rfl)
       try simp only [sgl, Act.put]
       refine wT 4 (v := ?v4u89) (by kernel_rfl) rfl (by rfl) ?y4u89 (fun _ _ _ h => h) (by assumption) ?r4u89
       case y4u89 => (intro w hSw; (obtain ⟨hS0, hS1, hS2, hS3⟩ := hSw); go_simp <;> with_reducible rfl)
       try simp only [sgl, Act.put]
       refine wT 5 (v := ?v5u90) (by kernel_rfl) rfl (by rfl) ?y5u90 (fun _ _ _ h => h) (by assumption) ?r5u90
       case y5u90 => (intro w hSw; (obtain ⟨hS0, hS1, hS2, hS3⟩ := hSw); go_simp <;> with_reducible rfl)
       try simp only [sgl, Act.put]
       refine wT 6 (v := ?v6u91) (by kernel_rfl) rfl (by rfl) ?y6u91 (fun _ _ _ h => h) (by assumption) ?r6u91
       case y6u91 => (intro w hSw; (obtain ⟨hS0, hS1, hS2, hS3⟩ := hSw); go_simp <;> with_reducible rfl)
       try simp only [sgl, Act.put]
       refine wT 7 (v := ?v7u92) (by kernel_rfl) rfl (by rfl) ?y7u92 (fun _ _ _ h => h) (by assumption) ?r7u92
       case y7u92 => (intro w hSw; (obtain ⟨hS0, hS1, hS2, hS3⟩ := hSw); go_simp <;> with_reducible rfl)
       try simp only [sgl, Act.put]
       refine wT 8 (v := ?v8u93) (by kernel_rfl) rfl (by rfl) ?y8u93 (fun _ _ _ h => h) (by assumption) ?r8u93
       case y8u93 => (intro w hSw; (obtain ⟨hS0, hS1, hS2, hS3⟩ := hSw); go_simp <;> with_reducible rfl)
       try simp only [sgl, Act.put]
       refine wT 9 (v := ?v9u94) (by kernel_rfl) rfl (by rfl) ?y9u94 (fun _ _ _ h => h) (by assumption) ?r9u94
       case y9u94 => (intro w hSw; (obtain ⟨hS0, hS1, hS2, hS3⟩ := hSw); go_simp <;> with_reducible rfl)
       try simp only [sgl, Act.put]
       refine wT 11 (v := ?v11u95) (by kernel_rfl) rfl (by rfl) ?y11u95 (fun _ _ _ h => h) (by assumption) ?r11u95
       case y11u95 => (intro w hSw; (obtain ⟨hS0, hS1, hS2, hS3⟩ := hSw); go_simp <;> with_reducible rfl)
       try simp only [sgl, Act.put]
       refine wT 12 (v := ?v12u96) (by kernel_rfl) rfl (by rfl) ?y12u96 (fun _ _ _ h => h) (by assumption) ?r12u96
       case y12u96 => (intro w hSw; (obtain ⟨hS0, hS1, hS2, hS3⟩ := hSw); go_simp <;> with_reducible rfl)
       try simp only [sgl, Act.put]
       refine wpAnyH_ready (rs := [10]) (by kernel_rfl) (by simp) ?_
       refine AllReadyH.cons (o := _) rfl (fun K hK => ?_) AllReadyH.nil
       go_simp
       refine (HT.out _ (Keeps.refl _ _).drew).mono ?_
       rintro e wl ⟨rfl, rfl⟩
       refine hK.out _ _ (HS11.out _ (Keeps.refl _ _).drew) (fun hHeld2 => ?_)
       clear hK K hHeld
       have hHeld := hHeld2
       clear hHeld2
       try simp only [sgl, Act.put]
       refine wT 13 (v := ?v13u97) (by kernel_rfl) rfl (by rfl) ?y13u97 (fun _ _ _ h => h) (by assumption) ?r13u97
       case y13u97 => (intro w hSw; (obtain ⟨hS0, hS1, hS2, hS3⟩ := hSw); go_simp <;> with_reducible rfl)
       try simp only [sgl, Act.put]
       refine wT 14 (v := ?v14u98) (by kernel_rfl) rfl (by rfl) ?y14u98 (fun _ _ _ h => h) (by assumption) ?r14u98
       case y14u98 => (intro w hSw; (obtain ⟨hS0, hS1, hS2, hS3⟩ := hSw); go_simp <;> with_reducible rfl)
       try simp only [sgl, Act.put]
       refine wT 15 (v := ?v15u99) (by kernel_rfl) rfl (by rfl) ?y15u99 (fun _ _ _ h => h) (by assumption) ?r15u99
       case y15u99 => (intro w hSw; (obtain ⟨hS0, hS1, hS2, hS3⟩ := hSw); go_simp <;> with_reducible rfl)
       try simp only [sgl, Act.put]
       refine wT 16 (v := ?v16u100) (by kernel_rfl) rfl (by rfl) ?y16u100 (fun _ _ _ h => h) (by assumption) ?r16u100
       case y16u100 => (intro w hSw; (obtain ⟨hS0, hS1, hS2, hS3⟩ := hSw); go_simp <;> with_reducible rfl)
       try simp only [sgl, Act.put]
       refine wT 17 (v := ?v17u101) (by kernel_rfl) rfl (by rfl) ?y17u101 (fun _ _ _ h => h) (by assumption) ?r17u101
       case y17u101 => (intro w hSw; (obtain ⟨hS0, hS1, hS2, hS3⟩ := hSw); go_simp <;> with_reducible rfl)
       try simp only [sgl, Act.put]
       refine wT 18 (v := ?v18u102) (by kernel_rfl) rfl (by rfl) ?y18u102 (fun _ _ _ h => h) (by assumption) ?r18u102
       case y18u102 => (intro w hSw; (obtain ⟨hS0, hS1, hS2, hS3⟩ := hSw); go_simp <;> with_reducible rfl)
       try simp only [sgl, Act.put]
       refine wT 19 (v := ?v19u103) (by kernel_rfl) rfl (by rfl) ?y19u103 (fun _ _ _ h => h) (by assumption) ?r19u103
       case y19u103 => (intro w hSw; (obtain ⟨hS0, hS1, hS2, hS3⟩ := hSw); go_simp <;> with_reducible rfl)
       try simp only [sgl, Act.put]
       refine wpAnyH_ready (rs := [20]) (by kernel_rfl) (by simp) ?_
       refine AllReadyH.cons (o := _) rfl (fun K hK => ?_) AllReadyH.nil
       go_simp
       refine (HWn.out _ (Keeps.refl _ _).drew).mono ?_
       rintro e wl ⟨rfl, n9, hwl⟩
       have Hkw : Hid (Keeps [] w1 wl) := by rw [hwl]; exact (Keeps.refl _ _).drew.drewN _
       clear hwl
       refine hK.out _ _ (HS11.out _ Hkw.out) (fun hHeld2 => ?_)
       clear hK K hHeld
       have hHeld := hHeld2
       clear hHeld2
       try simp only [sgl, Act.put]
       refine wT 21 (v := ?v21u104) (by kernel_rfl) rfl (by rfl) ?y21u104 (fun _ _ _ h => h) (by assumption) ?r21u104
       case y21u104 => (intro w hSw; (obtain ⟨hS0, hS1, hS2, hS3⟩ := hSw); go_simp <;> with_reducible rfl)
       try simp only [sgl, Act.put]
       refine wT 22 (v := ?v22u105) (by kernel_rfl) rfl (by rfl) ?y22u105 (fun _ _ _ h => h) (by assumption) ?r22u105
       case y22u105 => (intro w hSw; (obtain ⟨hS0, hS1, hS2, hS3⟩ := hSw); go_simp <;> with_reducible rfl)
       try simp only [sgl, Act.put]
       refine wT 23 (v := ?v23u106) (by kernel_rfl) rfl (by rfl) ?y23u106 (fun _ _ _ h => h) (by assumption) ?r23u106
       case y23u106 => (intro w hSw; (obtain ⟨hS0, hS1, hS2, hS3⟩ := hSw); go_simp <;> with_reducible rfl)
       try simp only [sgl, Act.put]
       refine wT 24 (v := ?v24u107) (by kernel_rfl) rfl (by rfl) ?y24u107 (fun _ _ _ h => h) (by assumption) ?r24u107
       case y24u107 => (intro w hSw; (obtain ⟨hS0, hS1, hS2, hS3⟩ := hSw); go_simp <;> with_reducible rfl)
       try simp only [sgl, Act.put]
       refine wT 25 (v := ?v25u108) (by kernel_rfl) rfl (by rfl) ?y25u108 (fun _ _ _ h => h) (by assumption) ?r25u108
       case y25u108 => (intro w hSw; (obtain ⟨hS0, hS1, hS2, hS3⟩ := hSw); go_simp <;> with_reducible rfl)
       try simp only [sgl, Act.put]
       refine wT 26 (v := ?v26u109) (by kernel_rfl) rfl (by rfl) ?y26u109 (fun _ _ _ h => h) (by assumption) ?r26u109
       case y26u109 => (intro w hSw; (obtain ⟨hS0, hS1, hS2, hS3⟩ := hSw); go_simp <;> with_reducible rfl)
       try simp only [sgl, Act.put]
       refine wT 27 (v := ?v27u110) (by kernel_rfl) rfl (by rfl) ?y27u110 (fun _ _ _ h => h) (by assumption) ?r27u110
       case y27u110 => (intro w hSw; (obtain ⟨hS0, hS1, hS2, hS3⟩ := hSw); go_simp <;> with_reducible rfl)
       try simp only [sgl, Act.put]
       refine wT 28 (v := ?v28u111) (by kernel_rfl) rfl (by rfl) ?y28u111 (fun _ _ _ h => h) (by assumption) ?r28u111
       case y28u111 => (intro w hSw; (obtain ⟨hS0, hS1, hS2, hS3⟩ := hSw); go_simp <;> with_reducible rfl)
       try simp only [sgl, Act.put]
       refine wT 29 (v := ?v29u112) (by kernel_rfl) rfl (by rfl) ?y29u112 (fun _ _ _ h => h) (by assumption) ?r29u112
       case y29u112 => (intro w hSw; (obtain ⟨hS0, hS1, hS2, hS3⟩ := hSw); go_simp <;> with_reducible rfl)
       try simp only [sgl, Act.put]
       refine wT 30 (v := ?v30u113) (by kernel_rfl) rfl (by rfl) ?y30u113 (fun _ _ _ h => h) (by assumption) ?r30u113
       case y30u113 => (intro w hSw; (obtain ⟨hS0, hS1, hS2, hS3⟩ := hSw); go_simp <;> with_reducible rfl)
       try simp only [sgl, Act.put]
       refine wT 31 (v := ?v31u114) (by kernel_rfl) rfl (by rfl) ?y31u114 (fun _ _ _ h => h) (by assumption) ?r31u114
       case y31u114 => (intro w hSw; (obtain ⟨hS0, hS1, hS2, hS3⟩ := hSw); go_simp <;> with_reducible rfl)
       try simp only [sgl, Act.put]
       refine wT 32 (v := ?v32u115) (by kernel_rfl) rfl (by rfl) ?y32u115 (fun _ _ _ h => h) (by assumption) ?r32u115
       case y32u115 => (intro w hSw; (obtain ⟨hS0, hS1, hS2, hS3⟩ := hSw); go_simp <;> with_reducible rfl)
       try simp only [sgl, Act.put]
       refine wpAnyH_ready (rs := [33]) (by kernel_rfl) (by simp) ?_
       refine AllReadyH.cons (o := _) rfl (fun K hK => ?_) AllReadyH.nil
       go_simp
       refine (HPm.out _ Hkw.out).mono ?_
       rintro e w2 ⟨rfl, hva2, hk2⟩
       have Hva2 := Lib.hid hva2; have Hk2 := Lib.hid hk2
       have hne : r ≠ vb := fun e => by have h1 := HV1.out.tr; rw [e, Hva.out.2.2] at h1; omega
       have hge : g5 ≠ vb := fun e => by have h1 := HMl.out vb Hva.out.2.1; have h2 := Hg5.out; omega
       have HS12 : Hid (w2.cell? ⟨r, 5, none⟩ = some (.pointer (some ⟨vb, 0, none⟩)) ∧ w2.cell? ⟨g5, 13, none⟩ = some (.int .i64 term) ∧ w2.cell? ⟨g5, 14, none⟩ = some (.int .i64 had) ∧ w2.cell? ⟨g5, 15, none⟩ = some (.slice Ba log.length ka)) := by
        have h1 := HS11.out _ Hkw.out
        have hr5 := Nat.lt_of_lt_of_le HV1.out.blk.lt Hkw.out.size
        have hg5 := Nat.lt_of_lt_of_le HB1.out.lt Hkw.out.size
        exact ⟨(hk2.cell (p := ⟨r, 5, none⟩) hr5 (by simp; exact hne)).trans h1.1, (hk2.cell (p := ⟨g5, 13, none⟩) hg5 (by simp; exact hge)).trans h1.2.1, (hk2.cell (p := ⟨g5, 14, none⟩) hg5 (by simp; exact hge)).trans h1.2.2.1, (hk2.cell (p := ⟨g5, 15, none⟩) hg5 (by simp; exact hge)).trans h1.2.2.2⟩
       clear hva2 hk2 hne hge
       refine hK.out _ _ HS12.out (fun hHeld2 => ?_)
       clear hK K hHeld
       have hHeld := hHeld2
       clear hHeld2
       try simp only [sgl, Act.put]
       refine wT 34 (v := ?v34u116) (by kernel_rfl) rfl (by rfl) ?y34u116 (fun _ _ _ h => h) (by assumption) ?r34u116
       case y34u116 => (intro w hSw; (obtain ⟨hS0, hS1, hS2, hS3⟩ := hSw); go_simp <;> with_reducible rfl)
       try simp only [sgl, Act.put]
       refine wpAnyH_done (by kernel_rfl) ?_ _
       clear hHeld
       obtain ⟨a1, a2, a3⟩ := (HV1.out.keep0 (HLt.out _ Hk1.out) Hkw.out).setV (HLt.out _ (Hk1.out.trans Hkw.out (by simp))) Hvv.out (by rw [← Hvb.out]; exact Hk2.out) (by rw [← Hvb.out]; exact Hva2.out)
       have hok2 : RpOk { R with v := some pv } := ⟨HV0.out.1.1, HV0.out.1.2.1, HV0.out.1.2.2.1, HV0.out.1.2.2.2.1, HV0.out.1.2.2.2.2.1, fun x hx => (by injection hx with hx; subst hx; exact HPv.out), fun _ => rfl⟩
       have HRA2 : Hid (RpAt w2 M tg r d { R with v := some pv }) := ⟨hok2, C, HC.out, a1⟩
       have hkw : Keeps [] w wl := Hk1.out.trans Hkw.out (by simp)
       have HX2 : Hid (Ext w M tg w2 M tg ∧ Keeps (sel M tg (List.range 30)) w w2) := ⟨(HX.out _ hkw).1.trans a2 hkw.size, Ext.keeps (HX.out _ hkw).1 (HX.out _ hkw).2 (a3.sel_mono (by simp))⟩
       have Hm2 : Hid (w2.cell? ⟨0, 0, none⟩ = some (.int .i64 mx)) := (HX2.out.2.cell (p := ⟨0, 0, none⟩) hw0 (fun hm => H0.out (mem_sel.1 hm).1)).trans (Hmx.out _ (Keeps.refl _ _))
       clear a1 a2 a3 hok2 hkw
       cases pb with
       | true =>
        have hc := Lib.hid (rpwon_any HRA2.out HX2.out.1.lt H0.out (show R.ap = R.com from Hap.out) pv rfl mx Hm2.out)
        have HP : Hid (∀ e w', ROPost M tg r d (rpWon { R with v := some pv } pv) w2 e w' → ROPost M tg r d (rpRecv R fr ⟨kd, ⟨kind, ag, sh, seq, ep, ds, ser, efr, etg⟩, tag, code, nn, term, had, log, commit, len⟩) w e w') := fun e w' hp => by
         refine HPd.out _ _ ?_
         rw [HU9.out]
         simp only [if_true]
         exact ROPost.base hp HX2.out.1 HX2.out.2
        clear HU9
        go_wp2_with fail
        with_reducible refine hc.out.mono ?_
        intro e w3 hp
        obtain ⟨x, rfl⟩ : ∃ x, e = .returned x := by obtain ⟨x, _, _, h1, _⟩ := hp; exact ⟨x, h1⟩
        have Hp := Lib.hid (HP.out _ _ hp)
        clear hp
        go_wp2_with fail
        go_ret
        exact Hp.out
       | false =>
        have HP : Hid (ROPost M tg r d (rpRecv R fr ⟨kd, ⟨kind, ag, sh, seq, ep, ds, ser, efr, etg⟩, tag, code, nn, term, had, log, commit, len⟩) w (.returned (.slice none 0 0)) w2) := by
         refine HPd.out _ _ ?_
         rw [HU9.out]
         simp only [Bool.false_eq_true, if_false]
         exact ROPost.nil HRA2.out HX2.out.1 HX2.out.2
        clear HU9
        go_wp2_with fail
        go_ret
        exact HP.out
     ·have hbt : (v.term == term) = false := by simp [hte]
      have HP : Hid (ROPost M tg r d (rpRecv R fr ⟨kd, ⟨kind, ag, sh, seq, ep, ds, ser, efr, etg⟩, tag, code, nn, term, had, log, commit, len⟩) w (.returned (.slice none 0 0)) w1.drew) := HPd.out _ _ (HNil.out _ Hk1.out.drew (HU8.out.trans (if_neg (fun h => hte h.1))))
      clear HU8 hte HPm HPv
      go_upto_region 11 with (fail)
      refine wp_region_held_drew (S := (fun W => W.cell? ⟨r, 5, none⟩ = some (.pointer (some ⟨vb, 0, none⟩)) ∧ W.cell? ⟨g5, 13, none⟩ = some (.int .i64 term) ∧ W.cell? ⟨g5, 14, none⟩ = some (.int .i64 had) ∧ W.cell? ⟨g5, 15, none⟩ = some (.slice Ba log.length ka))) (by kernel_rfl) (HS11.out _ (Keeps.refl _ _).drew) (fun hHeld => ?_)
      refine wT 0 (v := ?v0u44) (by kernel_rfl) rfl (by rfl) ?y0u44 (fun _ _ _ h => h) (by assumption) ?r0u44
      case y0u44 => (intro w hSw; (obtain ⟨hS0, hS1, hS2, hS3⟩ := hSw); go_simp <;> with_reducible rfl)
      try simp only [sgl, Act.put]
      refine wT 1 (v := ?v1u45) (by kernel_rfl) rfl (by rfl) ?y1u45 (fun _ _ _ h => h) (by assumption) ?r1u45
      case y1u45 => (intro w hSw; (obtain ⟨hS0, hS1, hS2, hS3⟩ := hSw); go_simp <;> with_reducible rfl)
      try simp only [sgl, Act.put]
      refine wT 2 (v := ?v2u46) (by kernel_rfl) rfl (by rfl) ?y2u46 (fun _ _ _ h => h) (by assumption) ?r2u46
      case y2u46 => (intro w hSw; (obtain ⟨hS0, hS1, hS2, hS3⟩ := hSw); go_simp <;> with_reducible rfl)
      try simp only [sgl, Act.put]
      refine wT 3 (v := ?v3u47) (by kernel_rfl) rfl (by rfl) ?y3u47 (fun _ _ _ h => h) (by assumption) ?r3u47
      case y3u47 => (intro w hSw; (obtain ⟨hS0, hS1, hS2, hS3⟩ := hSw); go_simp <;> with_reducible rfl)
      try simp only [sgl, Act.put]
      refine wT 4 (v := ?v4u48) (by kernel_rfl) rfl (by rfl) ?y4u48 (fun _ _ _ h => h) (by assumption) ?r4u48
      case y4u48 => (intro w hSw; (obtain ⟨hS0, hS1, hS2, hS3⟩ := hSw); go_simp <;> with_reducible rfl)
      try simp only [sgl, Act.put]
      refine wT 5 (v := ?v5u49) (by kernel_rfl) rfl (by rfl) ?y5u49 (fun _ _ _ h => h) (by assumption) ?r5u49
      case y5u49 => (intro w hSw; (obtain ⟨hS0, hS1, hS2, hS3⟩ := hSw); go_simp <;> with_reducible rfl)
      try simp only [sgl, Act.put]
      refine wT 6 (v := ?v6u50) (by kernel_rfl) rfl (by rfl) ?y6u50 (fun _ _ _ h => h) (by assumption) ?r6u50
      case y6u50 => (intro w hSw; (obtain ⟨hS0, hS1, hS2, hS3⟩ := hSw); go_simp <;> with_reducible rfl)
      try simp only [sgl, Act.put]
      refine wT 7 (v := ?v7u51) (by kernel_rfl) rfl (by rfl) ?y7u51 (fun _ _ _ h => h) (by assumption) ?r7u51
      case y7u51 => (intro w hSw; (obtain ⟨hS0, hS1, hS2, hS3⟩ := hSw); go_simp <;> with_reducible rfl)
      try simp only [sgl, Act.put]
      refine wT 8 (v := ?v8u52) (by kernel_rfl) rfl (by rfl) ?y8u52 (fun _ _ _ h => h) (by assumption) ?r8u52
      case y8u52 => (intro w hSw; (obtain ⟨hS0, hS1, hS2, hS3⟩ := hSw); go_simp <;> with_reducible rfl)
      try simp only [sgl, Act.put]
      refine wT 9 (v := ?v9u53) (by kernel_rfl) rfl (by rfl) ?y9u53 (fun _ _ _ h => h) (by assumption) ?r9u53
      case y9u53 => (intro w hSw; (obtain ⟨hS0, hS1, hS2, hS3⟩ := hSw); go_simp <;> with_reducible rfl)
      try simp only [sgl, Act.put]
      refine wT 11 (v := ?v11u54) (by kernel_rfl) rfl (by rfl) ?y11u54 (fun _ _ _ h => h) (by assumption) ?r11u54
      case y11u54 => (intro w hSw; (obtain ⟨hS0, hS1, hS2, hS3⟩ := hSw); go_simp <;> with_reducible rfl)
      try simp only [sgl, Act.put]
      refine wT 12 (v := ?v12u55) (by kernel_rfl) rfl (by rfl) ?y12u55 (fun _ _ _ h => h) (by assumption) ?r12u55
      case y12u55 => (intro w hSw; (obtain ⟨hS0, hS1, hS2, hS3⟩ := hSw); go_simp <;> with_reducible rfl)
      try simp only [sgl, Act.put]
      refine wpAnyH_ready (rs := [10]) (by kernel_rfl) (by simp) ?_
      refine AllReadyH.cons (o := _) rfl (fun K hK => ?_) AllReadyH.nil
      go_simp
      refine (HT.out _ (Keeps.refl _ _).drew).mono ?_
      rintro e wl ⟨rfl, rfl⟩
      refine hK.out _ _ (HS11.out _ (Keeps.refl _ _).drew) (fun hHeld2 => ?_)
      clear hK K hHeld
      have hHeld := hHeld2
      clear hHeld2
      try simp only [sgl, Act.put]
      refine wT 13 (v := ?v13u56) (by kernel_rfl) rfl (by rfl) ?y13u56 (fun _ _ _ h => h) (by assumption) ?r13u56
      case y13u56 => (intro w hSw; (obtain ⟨hS0, hS1, hS2, hS3⟩ := hSw); go_simp <;> with_reducible rfl)
      try simp only [sgl, Act.put]
      refine wT 14 (v := ?v14u57) (by kernel_rfl) rfl (by rfl) ?y14u57 (fun _ _ _ h => h) (by assumption) ?r14u57
      case y14u57 => (intro w hSw; (obtain ⟨hS0, hS1, hS2, hS3⟩ := hSw); go_simp <;> with_reducible rfl)
      try simp only [sgl, Act.put]
      refine wT 15 (v := ?v15u58) (by kernel_rfl) rfl (by rfl) ?y15u58 (fun _ _ _ h => h) (by assumption) ?r15u58
      case y15u58 => (intro w hSw; (obtain ⟨hS0, hS1, hS2, hS3⟩ := hSw); go_simp <;> with_reducible rfl)
      try simp only [sgl, Act.put]
      refine wS 16 (by kernel_rfl) rfl (by rfl) (fun _ _ _ h => h) (by assumption) ?_
      try simp only [sgl, Act.put]
      refine wS 17 (by kernel_rfl) rfl (by rfl) (fun _ _ _ h => h) (by assumption) ?_
      try simp only [sgl, Act.put]
      refine wS 18 (by kernel_rfl) rfl (by rfl) (fun _ _ _ h => h) (by assumption) ?_
      try simp only [sgl, Act.put]
      refine wS 19 (by kernel_rfl) rfl (by rfl) (fun _ _ _ h => h) (by assumption) ?_
      try simp only [sgl, Act.put]
      refine wS 20 (by kernel_rfl) rfl (by rfl) (fun _ _ _ h => h) (by assumption) ?_
      try simp only [sgl, Act.put]
      refine wS 21 (by kernel_rfl) rfl (by rfl) (fun _ _ _ h => h) (by assumption) ?_
      try simp only [sgl, Act.put]
      refine wT 22 (v := ?v22u59) (by kernel_rfl) rfl (by rfl) ?y22u59 (fun _ _ _ h => h) (by assumption) ?r22u59
      case y22u59 => (intro w hSw; (obtain ⟨hS0, hS1, hS2, hS3⟩ := hSw); go_simp <;> with_reducible rfl)
      try simp only [sgl, Act.put]
      refine wT 23 (v := ?v23u60) (by kernel_rfl) rfl (by rfl) ?y23u60 (fun _ _ _ h => h) (by assumption) ?r23u60
      case y23u60 => (intro w hSw; (obtain ⟨hS0, hS1, hS2, hS3⟩ := hSw); go_simp <;> with_reducible rfl)
      try simp only [sgl, Act.put]
      refine wS 24 (by kernel_rfl) rfl (by rfl) (fun _ _ _ h => h) (by assumption) ?_
      try simp only [sgl, Act.put]
      refine wS 25 (by kernel_rfl) rfl (by rfl) (fun _ _ _ h => h) (by assumption) ?_
      try simp only [sgl, Act.put]
      refine wS 26 (by kernel_rfl) rfl (by rfl) (fun _ _ _ h => h) (by assumption) ?_
      try simp only [sgl, Act.put]
      refine wS 27 (by kernel_rfl) rfl (by rfl) (fun _ _ _ h => h) (by assumption) ?_
      try simp only [sgl, Act.put]
      refine wS 28 (by kernel_rfl) rfl (by rfl) (fun _ _ _ h => h) (by assumption) ?_
      try simp only [sgl, Act.put]
      refine wS 29 (by kernel_rfl) rfl (by rfl) (fun _ _ _ h => h) (by assumption) ?_
      try simp only [sgl, Act.put]
      refine wS 30 (by kernel_rfl) rfl (by rfl) (fun _ _ _ h => h) (by assumption) ?_
      try simp only [sgl, Act.put]
      refine wS 31 (by kernel_rfl) rfl (by rfl) (fun _ _ _ h => h) (by assumption) ?_
      try simp only [sgl, Act.put]
      refine wS 32 (by kernel_rfl) rfl (by rfl) (fun _ _ _ h => h) (by assumption) ?_
      try simp only [sgl, Act.put]
      refine wS 33 (by kernel_rfl) rfl (by rfl) (fun _ _ _ h => h) (by assumption) ?_
      try simp only [sgl, Act.put]
      refine wT 34 (v := ?v34u61) (by kernel_rfl) rfl (by rfl) ?y34u61 (fun _ _ _ h => h) (by assumption) ?r34u61
      case y34u61 => (intro w hSw; (obtain ⟨hS0, hS1, hS2, hS3⟩ := hSw); go_simp <;> with_reducible rfl)
      try simp only [sgl, Act.put]
      refine wpAnyH_done (by kernel_rfl) ?_ _
      clear hHeld
      go_wp2_with fail
      go_ret
      exact HP.out
   have hb4 : (kd == 4) = false := by simp [hk4]
   have HU5 := Lib.hid (HU4.out.trans (if_neg hk4))
   clear HU4 hk4
   by_cases hk5 : kd = 5
   ·have hb5 : (kd == 5) = true := by simp [hk5]
    have HP : Hid (∀ e w', ROPost M tg r d (rpAcc R fr ⟨kd, ⟨kind, ag, sh, seq, ep, ds, ser, efr, etg⟩, tag, code, nn, term, had, log, commit, len⟩) w1 e w' → ROPost M tg r d (rpRecv R fr ⟨kd, ⟨kind, ag, sh, seq, ep, ds, ser, efr, etg⟩, tag, code, nn, term, had, log, commit, len⟩) w e w') := fun e w' hp => by
     refine HPd.out _ _ ?_
     rw [HU5.out, if_pos hk5]
     exact HFin.out _ Hk1.out _ _ _ hp
    have hc := Lib.hid (HAcc.out _ Hk1.out)
    clear HU5 hk5
    go_wp2_with (refine wpList_load_g (by rfl) 37 (.tmp 5) rfl g5 0 rfl [.int .i64 kd, .int .i64 kind, .int .i64 ag, .int .i64 sh, .int .i64 seq, .int .i64 ep, .slice Aa ds.length na, .string ser, .int .i64 efr, .int .i64 etg, .int .i64 tag, .int .i64 code, .int .u64 nn, .int .i64 term, .int .i64 had, .slice Ba log.length ka, .int .i64 commit, .int .i64 len] _ (blk_range HB1.out) Tryz.underlying37 rfl (by kernel_rfl) ?_)
    with_reducible refine hc.out.mono ?_
    intro e w2 hp
    obtain ⟨x, rfl⟩ : ∃ x, e = .returned x := by obtain ⟨x, _, _, h1, _⟩ := hp; exact ⟨x, h1⟩
    have Hp := Lib.hid (HP.out _ _ hp)
    clear hp
    go_wp2_with fail
    go_ret
    exact Hp.out
   have hb5 : (kd == 5) = false := by simp [hk5]
   have HU6 := Lib.hid (HU5.out.trans (if_neg hk5))
   clear HU5 hk5
   by_cases hk6 : kd = 6
   ·have hb6 : (kd == 6) = true := by simp [hk6]
    have HU7 := Lib.hid (HU6.out.trans (if_pos hk6))
    clear HU6 hk6
    have d6 := (rpcells HV1.out).2.2.2.2.2.2.1
    have d5 := (rpcells HV1.out).2.2.2.2.2.1
    cases hl : R.leads with
    | false =>
     rw [hl] at d6
     have HP : Hid (ROPost M tg r d (rpRecv R fr ⟨kd, ⟨kind, ag, sh, seq, ep, ds, ser, efr, etg⟩, tag, code, nn, term, had, log, commit, len⟩) w (.returned (.slice none 0 0)) w1.drew) := HPd.out _ _ (HNil.out _ Hk1.out.drew (by rw [HU7.out, hl]))
     go_upto_region 16 with (fail)
     refine wp_region_held_drew (S := (fun W => W.cell? ⟨r, 6, none⟩ = some (.bool false))) (by kernel_rfl) d6 (fun hHeld => ?_)
     refine wT 0 (v := ?v0u1) (by kernel_rfl) rfl (by rfl) ?y0u1 (fun _ _ _ h => h) (by assumption) ?r0u1
     case y0u1 => (intro w hSw; (have hS0 := hSw); go_simp <;> with_reducible rfl)
     try simp only [sgl, Act.put]
     refine wT 1 (v := ?v1u2) (by kernel_rfl) rfl (by rfl) ?y1u2 (fun _ _ _ h => h) (by assumption) ?r1u2
     case y1u2 => (intro w hSw; (have hS0 := hSw); go_simp <;> with_reducible rfl)
     try simp only [sgl, Act.put]
     refine wT 2 (v := ?v2u3) (by kernel_rfl) rfl (by rfl) ?y2u3 (fun _ _ _ h => h) (by assumption) ?r2u3
     case y2u3 => (intro w hSw; (have hS0 := hSw); go_simp <;> with_reducible rfl)
     try simp only [sgl, Act.put]
     refine wT 3 (v := ?v3u4) (by kernel_rfl) rfl (by rfl) ?y3u4 (fun _ _ _ h => h) (by assumption) ?r3u4
     case y3u4 => (intro w hSw; (have hS0 := hSw); go_simp <;> with_reducible rfl)
     try simp only [sgl, Act.put]
     refine wT 4 (v := ?v4u5) (by kernel_rfl) rfl (by rfl) ?y4u5 (fun _ _ _ h => h) (by assumption) ?r4u5
     case y4u5 => (intro w hSw; (have hS0 := hSw); go_simp <;> with_reducible rfl)
     try simp only [sgl, Act.put]
     refine wS 5 (by kernel_rfl) rfl (by rfl) (fun _ _ _ h => h) (by assumption) ?_
     try simp only [sgl, Act.put]
     refine wS 6 (by kernel_rfl) rfl (by rfl) (fun _ _ _ h => h) (by assumption) ?_
     try simp only [sgl, Act.put]
     refine wS 7 (by kernel_rfl) rfl (by rfl) (fun _ _ _ h => h) (by assumption) ?_
     try simp only [sgl, Act.put]
     refine wS 8 (by kernel_rfl) rfl (by rfl) (fun _ _ _ h => h) (by assumption) ?_
     try simp only [sgl, Act.put]
     refine wS 9 (by kernel_rfl) rfl (by rfl) (fun _ _ _ h => h) (by assumption) ?_
     try simp only [sgl, Act.put]
     refine wS 10 (by kernel_rfl) rfl (by rfl) (fun _ _ _ h => h) (by assumption) ?_
     try simp only [sgl, Act.put]
     refine wS 11 (by kernel_rfl) rfl (by rfl) (fun _ _ _ h => h) (by assumption) ?_
     try simp only [sgl, Act.put]
     refine wS 12 (by kernel_rfl) rfl (by rfl) (fun _ _ _ h => h) (by assumption) ?_
     try simp only [sgl, Act.put]
     refine wT 13 (v := ?v13u6) (by kernel_rfl) rfl (by rfl) ?y13u6 (fun _ _ _ h => h) (by assumption) ?r13u6
     case y13u6 => (intro w hSw; (have hS0 := hSw); go_simp <;> with_reducible rfl)
     try simp only [sgl, Act.put]
     refine wpAnyH_done (by kernel_rfl) ?_ _
     clear hHeld
     clear d5 d6 hl
     go_wp2_with fail
     go_ret
     exact HP.out
    | true =>
     obtain ⟨v, hv⟩ : ∃ v, R.v = some v := by
      have h9 := HV0.out.1.2.2.2.2.2.2 hl
      cases hq : R.v with
      | none => rw [hq] at h9; exact nomatch h9
      | some v => exact ⟨v, rfl⟩
     rw [hl] at d6
     rw [hv] at d5
     have d5 : w1.cell? ⟨r, 5, none⟩ = some (.pointer (some ⟨C.vb, 0, none⟩)) := d5
     obtain ⟨vb, hvb⟩ : ∃ vb, vb = C.vb := ⟨_, rfl⟩
     rw [← hvb] at d5
     have Hva : Hid (VoteAt w1 M vb v ∧ vb ∈ M) := by rw [hvb]; exact ⟨(HV1.out.vt v hv).1, (HV1.out.vt v hv).2.1⟩
     have HT : Hid (∀ W, Keeps [] w1 W → Calls Tryz.prog 41 #[.pointer (some ⟨vb, 0, none⟩)] W fun e w' => e = .returned (.int .i64 v.term) ∧ W = w') := fun W hk => Lead.vterm_any M vb v W (Hva.out.1.keep hk (by simp) (by simp))
     have HS6 : Hid (∀ W, Keeps [] w1 W → W.cell? ⟨r, 6, none⟩ = some (.bool true) ∧ W.cell? ⟨r, 5, none⟩ = some (.pointer (some ⟨vb, 0, none⟩)) ∧ W.cell? ⟨g5, 13, none⟩ = some (.int .i64 term)) := fun W hk => ⟨(hk.cell (p := ⟨r, 6, none⟩) HV1.out.blk.lt (by simp)).trans d6, (hk.cell (p := ⟨r, 5, none⟩) HV1.out.blk.lt (by simp)).trans d5, (hk.cell (p := ⟨g5, 13, none⟩) HB1.out.lt (by simp)).trans c13⟩
     have HU8 : Hid (rpRecv R fr mm = if v.term = term then rpCounted R v fr len else (R, [])) := by show _ = _; rw [HU7.out, hl, hv]
     have HC6 := Lib.hid (HCnt.out w1.drew Hk1.out.drew v hv)
     clear hvb d5 d6 hl hv HU7
     by_cases hte : v.term = term
     ·have hbt : (v.term == term) = true := by simp [hte]
      have HP : Hid (∀ e w', ROPost M tg r d (rpCounted R v fr len) w1.drew e w' → ROPost M tg r d (rpRecv R fr ⟨kd, ⟨kind, ag, sh, seq, ep, ds, ser, efr, etg⟩, tag, code, nn, term, had, log, commit, len⟩) w e w') := fun e w' hp => by
       refine HPd.out _ _ ?_
       rw [HU8.out, if_pos hte]
       exact HFin.out _ Hk1.out.drew _ _ _ hp
      have hc := HC6
      clear HU8 hte
      go_upto_region 16 with (fail)
      refine wp_region_held_drew (S := (fun W => W.cell? ⟨r, 6, none⟩ = some (.bool true) ∧ W.cell? ⟨r, 5, none⟩ = some (.pointer (some ⟨vb, 0, none⟩)) ∧ W.cell? ⟨g5, 13, none⟩ = some (.int .i64 term))) (by kernel_rfl) (HS6.out _ (Keeps.refl _ _).drew) (fun hHeld => ?_)
      refine wT 0 (v := ?v0u7) (by kernel_rfl) rfl (by rfl) ?y0u7 (fun _ _ _ h => h) (by assumption) ?r0u7
      case y0u7 => (intro w hSw; (obtain ⟨hS0, hS1, hS2⟩ := hSw); go_simp <;> with_reducible rfl)
      try simp only [sgl, Act.put]
      refine wT 1 (v := ?v1u8) (by kernel_rfl) rfl (by rfl) ?y1u8 (fun _ _ _ h => h) (by assumption) ?r1u8
      case y1u8 => (intro w hSw; (obtain ⟨hS0, hS1, hS2⟩ := hSw); go_simp <;> with_reducible rfl)
      try simp only [sgl, Act.put]
      refine wT 2 (v := ?v2u9) (by kernel_rfl) rfl (by rfl) ?y2u9 (fun _ _ _ h => h) (by assumption) ?r2u9
      case y2u9 => (intro w hSw; (obtain ⟨hS0, hS1, hS2⟩ := hSw); go_simp <;> with_reducible rfl)
      try simp only [sgl, Act.put]
      refine wT 3 (v := ?v3u10) (by kernel_rfl) rfl (by rfl) ?y3u10 (fun _ _ _ h => h) (by assumption) ?r3u10
      case y3u10 => (intro w hSw; (obtain ⟨hS0, hS1, hS2⟩ := hSw); go_simp <;> with_reducible rfl)
      try simp only [sgl, Act.put]
      refine wT 4 (v := ?v4u11) (by kernel_rfl) rfl (by rfl) ?y4u11 (fun _ _ _ h => h) (by assumption) ?r4u11
      case y4u11 => (intro w hSw; (obtain ⟨hS0, hS1, hS2⟩ := hSw); go_simp <;> with_reducible rfl)
      try simp only [sgl, Act.put]
      refine wT 5 (v := ?v5u12) (by kernel_rfl) rfl (by rfl) ?y5u12 (fun _ _ _ h => h) (by assumption) ?r5u12
      case y5u12 => (intro w hSw; (obtain ⟨hS0, hS1, hS2⟩ := hSw); go_simp <;> with_reducible rfl)
      try simp only [sgl, Act.put]
      refine wT 6 (v := ?v6u13) (by kernel_rfl) rfl (by rfl) ?y6u13 (fun _ _ _ h => h) (by assumption) ?r6u13
      case y6u13 => (intro w hSw; (obtain ⟨hS0, hS1, hS2⟩ := hSw); go_simp <;> with_reducible rfl)
      try simp only [sgl, Act.put]
      refine wT 7 (v := ?v7u14) (by kernel_rfl) rfl (by rfl) ?y7u14 (fun _ _ _ h => h) (by assumption) ?r7u14
      case y7u14 => (intro w hSw; (obtain ⟨hS0, hS1, hS2⟩ := hSw); go_simp <;> with_reducible rfl)
      try simp only [sgl, Act.put]
      refine wT 8 (v := ?v8u15) (by kernel_rfl) rfl (by rfl) ?y8u15 (fun _ _ _ h => h) (by assumption) ?r8u15
      case y8u15 => (intro w hSw; (obtain ⟨hS0, hS1, hS2⟩ := hSw); go_simp <;> with_reducible rfl)
      try simp only [sgl, Act.put]
      refine wT 10 (v := ?v10u16) (by kernel_rfl) rfl (by rfl) ?y10u16 (fun _ _ _ h => h) (by assumption) ?r10u16
      case y10u16 => (intro w hSw; (obtain ⟨hS0, hS1, hS2⟩ := hSw); go_simp <;> with_reducible rfl)
      try simp only [sgl, Act.put]
      refine wT 11 (v := ?v11u17) (by kernel_rfl) rfl (by rfl) ?y11u17 (fun _ _ _ h => h) (by assumption) ?r11u17
      case y11u17 => (intro w hSw; (obtain ⟨hS0, hS1, hS2⟩ := hSw); go_simp <;> with_reducible rfl)
      try simp only [sgl, Act.put]
      refine wpAnyH_ready (rs := [9]) (by kernel_rfl) (by simp) ?_
      refine AllReadyH.cons (o := _) rfl (fun K hK => ?_) AllReadyH.nil
      go_simp
      refine (HT.out _ (Keeps.refl _ _).drew).mono ?_
      rintro e wl ⟨rfl, rfl⟩
      refine hK.out _ _ (HS6.out _ (Keeps.refl _ _).drew) (fun hHeld2 => ?_)
      clear hK K hHeld
      have hHeld := hHeld2
      clear hHeld2
      try simp only [sgl, Act.put]
      refine wT 12 (v := ?v12u18) (by kernel_rfl) rfl (by rfl) ?y12u18 (fun _ _ _ h => h) (by assumption) ?r12u18
      case y12u18 => (intro w hSw; (obtain ⟨hS0, hS1, hS2⟩ := hSw); go_simp <;> with_reducible rfl)
      try simp only [sgl, Act.put]
      refine wT 13 (v := ?v13u19) (by kernel_rfl) rfl (by rfl) ?y13u19 (fun _ _ _ h => h) (by assumption) ?r13u19
      case y13u19 => (intro w hSw; (obtain ⟨hS0, hS1, hS2⟩ := hSw); go_simp <;> with_reducible rfl)
      try simp only [sgl, Act.put]
      refine wpAnyH_done (by kernel_rfl) ?_ _
      clear hHeld
      have c17' : w1.drew.cell? ⟨g5, 17, none⟩ = some (.int .i64 len) := c17
      go_wp2_with fail
      with_reducible refine hc.out.mono ?_
      intro e w3 hp
      obtain ⟨x, rfl⟩ : ∃ x, e = .returned x := by obtain ⟨x, _, _, h1, _⟩ := hp; exact ⟨x, h1⟩
      have Hp := Lib.hid (HP.out _ _ hp)
      clear hp
      go_wp2_with fail
      go_ret
      exact Hp.out
     ·have hbt : (v.term == term) = false := by simp [hte]
      have HP : Hid (ROPost M tg r d (rpRecv R fr ⟨kd, ⟨kind, ag, sh, seq, ep, ds, ser, efr, etg⟩, tag, code, nn, term, had, log, commit, len⟩) w (.returned (.slice none 0 0)) w1.drew) := HPd.out _ _ (HNil.out _ Hk1.out.drew (HU8.out.trans (if_neg hte)))
      clear HU8 hte
      go_upto_region 16 with (fail)
      refine wp_region_held_drew (S := (fun W => W.cell? ⟨r, 6, none⟩ = some (.bool true) ∧ W.cell? ⟨r, 5, none⟩ = some (.pointer (some ⟨vb, 0, none⟩)) ∧ W.cell? ⟨g5, 13, none⟩ = some (.int .i64 term))) (by kernel_rfl) (HS6.out _ (Keeps.refl _ _).drew) (fun hHeld => ?_)
      refine wT 0 (v := ?v0u20) (by kernel_rfl) rfl (by rfl) ?y0u20 (fun _ _ _ h => h) (by assumption) ?r0u20
      case y0u20 => (intro w hSw; (obtain ⟨hS0, hS1, hS2⟩ := hSw); go_simp <;> with_reducible rfl)
      try simp only [sgl, Act.put]
      refine wT 1 (v := ?v1u21) (by kernel_rfl) rfl (by rfl) ?y1u21 (fun _ _ _ h => h) (by assumption) ?r1u21
      case y1u21 => (intro w hSw; (obtain ⟨hS0, hS1, hS2⟩ := hSw); go_simp <;> with_reducible rfl)
      try simp only [sgl, Act.put]
      refine wT 2 (v := ?v2u22) (by kernel_rfl) rfl (by rfl) ?y2u22 (fun _ _ _ h => h) (by assumption) ?r2u22
      case y2u22 => (intro w hSw; (obtain ⟨hS0, hS1, hS2⟩ := hSw); go_simp <;> with_reducible rfl)
      try simp only [sgl, Act.put]
      refine wT 3 (v := ?v3u23) (by kernel_rfl) rfl (by rfl) ?y3u23 (fun _ _ _ h => h) (by assumption) ?r3u23
      case y3u23 => (intro w hSw; (obtain ⟨hS0, hS1, hS2⟩ := hSw); go_simp <;> with_reducible rfl)
      try simp only [sgl, Act.put]
      refine wT 4 (v := ?v4u24) (by kernel_rfl) rfl (by rfl) ?y4u24 (fun _ _ _ h => h) (by assumption) ?r4u24
      case y4u24 => (intro w hSw; (obtain ⟨hS0, hS1, hS2⟩ := hSw); go_simp <;> with_reducible rfl)
      try simp only [sgl, Act.put]
      refine wT 5 (v := ?v5u25) (by kernel_rfl) rfl (by rfl) ?y5u25 (fun _ _ _ h => h) (by assumption) ?r5u25
      case y5u25 => (intro w hSw; (obtain ⟨hS0, hS1, hS2⟩ := hSw); go_simp <;> with_reducible rfl)
      try simp only [sgl, Act.put]
      refine wT 6 (v := ?v6u26) (by kernel_rfl) rfl (by rfl) ?y6u26 (fun _ _ _ h => h) (by assumption) ?r6u26
      case y6u26 => (intro w hSw; (obtain ⟨hS0, hS1, hS2⟩ := hSw); go_simp <;> with_reducible rfl)
      try simp only [sgl, Act.put]
      refine wT 7 (v := ?v7u27) (by kernel_rfl) rfl (by rfl) ?y7u27 (fun _ _ _ h => h) (by assumption) ?r7u27
      case y7u27 => (intro w hSw; (obtain ⟨hS0, hS1, hS2⟩ := hSw); go_simp <;> with_reducible rfl)
      try simp only [sgl, Act.put]
      refine wT 8 (v := ?v8u28) (by kernel_rfl) rfl (by rfl) ?y8u28 (fun _ _ _ h => h) (by assumption) ?r8u28
      case y8u28 => (intro w hSw; (obtain ⟨hS0, hS1, hS2⟩ := hSw); go_simp <;> with_reducible rfl)
      try simp only [sgl, Act.put]
      refine wT 10 (v := ?v10u29) (by kernel_rfl) rfl (by rfl) ?y10u29 (fun _ _ _ h => h) (by assumption) ?r10u29
      case y10u29 => (intro w hSw; (obtain ⟨hS0, hS1, hS2⟩ := hSw); go_simp <;> with_reducible rfl)
      try simp only [sgl, Act.put]
      refine wT 11 (v := ?v11u30) (by kernel_rfl) rfl (by rfl) ?y11u30 (fun _ _ _ h => h) (by assumption) ?r11u30
      case y11u30 => (intro w hSw; (obtain ⟨hS0, hS1, hS2⟩ := hSw); go_simp <;> with_reducible rfl)
      try simp only [sgl, Act.put]
      refine wpAnyH_ready (rs := [9]) (by kernel_rfl) (by simp) ?_
      refine AllReadyH.cons (o := _) rfl (fun K hK => ?_) AllReadyH.nil
      go_simp
      refine (HT.out _ (Keeps.refl _ _).drew).mono ?_
      rintro e wl ⟨rfl, rfl⟩
      refine hK.out _ _ (HS6.out _ (Keeps.refl _ _).drew) (fun hHeld2 => ?_)
      clear hK K hHeld
      have hHeld := hHeld2
      clear hHeld2
      try simp only [sgl, Act.put]
      refine wT 12 (v := ?v12u31) (by kernel_rfl) rfl (by rfl) ?y12u31 (fun _ _ _ h => h) (by assumption) ?r12u31
      case y12u31 => (intro w hSw; (obtain ⟨hS0, hS1, hS2⟩ := hSw); go_simp <;> with_reducible rfl)
      try simp only [sgl, Act.put]
      refine wT 13 (v := ?v13u32) (by kernel_rfl) rfl (by rfl) ?y13u32 (fun _ _ _ h => h) (by assumption) ?r13u32
      case y13u32 => (intro w hSw; (obtain ⟨hS0, hS1, hS2⟩ := hSw); go_simp <;> with_reducible rfl)
      try simp only [sgl, Act.put]
      refine wpAnyH_done (by kernel_rfl) ?_ _
      clear hHeld
      go_wp2_with fail
      go_ret
      exact HP.out
   have hb6 : (kd == 6) = false := by simp [hk6]
   have hP := Lib.hid (HPd.out _ _ (HNil.out _ Hk1.out (HU6.out.trans (if_neg hk6))))
   go_wp2_with fail
   go_ret
   exact hP.out
 ·have hrd : ((rr : Int) != 0) = true := by simp [hr]
  have hP := Lib.hid (HPd.out _ _ (HNil.out _ Hk1.out (by rw [HD.out, HU.out, if_pos hr])))
  go_wp2_with fail
  go_ret
  exact hP.out
end
section
variable {w w' : World} {M : List Nat} {tg : Nat → Nat} {r d : Nat} {R : RpD} {C : RpC}
set_option maxRecDepth 100000 in
set_option maxHeartbeats 1000000 in
theorem rpleads_any (h : RpV w M tg r R C) :
  Calls Tryz.prog 14 #[.pointer (some ⟨r, 0, none⟩)] w fun e w' => e = .returned (.bool R.leads) ∧ w = w' := by
 have c2 := (rpcells h).2.2.2.2.2.2.1
 clear h
 go_enter Tryz.func14, Tryz.ntmps14
 go_wp2
 go_ret
 exact ⟨rfl, rfl⟩
set_option maxRecDepth 100000 in
set_option maxHeartbeats 1000000 in
theorem rpcommit_any (h : RpV w M tg r R C) :
  Calls Tryz.prog 13 #[.pointer (some ⟨r, 0, none⟩)] w fun e w' => e = .returned (.int .i64 R.com) ∧ w = w' := by
 have c2 := (rpcells h).2.2.2.2.1
 clear h
 go_enter Tryz.func13, Tryz.ntmps13
 go_wp2
 go_ret
 exact ⟨rfl, rfl⟩
set_option maxRecDepth 100000 in
set_option maxHeartbeats 1000000 in
theorem rpmachine_any (h : RpV w M tg r R C) :
  Calls Tryz.prog 20 #[.pointer (some ⟨r, 0, none⟩)] w fun e w' => e = .returned (.pointer (some ⟨C.g, 0, none⟩)) ∧ w = w' := by
 have c2 := (rpcells h).2.2.2.1
 clear h
 go_enter Tryz.func20, Tryz.ntmps20
 go_wp2
 go_ret
 exact ⟨rfl, rfl⟩
set_option maxRecDepth 100000 in
set_option maxHeartbeats 1000000 in
theorem rpterm_any (h : RpV w M tg r R C) :
  Calls Tryz.prog 47 #[.pointer (some ⟨r, 0, none⟩)] w fun e w' => e = .returned (.int .i64 R.x.t) ∧ w = w' := by
 have hc := Lib.hid (vterm_any w h.st.st)
 have c2 := (rpcells h).2.2.1
 clear h
 go_enter Tryz.func47, Tryz.ntmps47
 go_wp2_with fail
 refine hc.out.mono ?_
 rintro e w1 ⟨rfl, rfl⟩
 go_wp2_with fail
 go_ret
 exact ⟨rfl, rfl⟩
set_option maxRecDepth 100000 in
set_option maxHeartbeats 1000000 in
theorem rplog_any (h : RpV w M tg r R C) :
  Calls Tryz.prog 51 #[.pointer (some ⟨r, 0, none⟩)] w fun e w' => EnsPost R.x.log w e w' := by
 have hc := Lib.hid (vlog_any w h.st.st)
 have c2 := (rpcells h).2.2.1
 clear h
 go_enter Tryz.func51, Tryz.ntmps51
 go_wp2_with fail
 refine hc.out.mono ?_
 rintro e w1 hp
 obtain ⟨x, rfl⟩ : ∃ x, e = .returned x := by obtain ⟨A8, rfl, hE5, hk5⟩ := hp; exact ⟨_, rfl⟩
 have HP := Lib.hid hp
 clear hp hc c2
 go_wp2_with fail
 go_ret
 exact HP.out
end
section
variable {w w' : World} {Y : List Nat} {d k : Nat} {b : List UInt8}
theorem mc_core {g : Nat} {X : List Nat} (h : McAt w g X mc0 0) : ∃ X', McAt w g X' mc0 0 ∧ ∀ x ∈ X', x ∈ X ∧ x < w.heap.size := by
 obtain ⟨c, DH, h⟩ := h
 refine ⟨c.core g, ⟨c, DH, h.b0, h.sm, h.m2, h.m3, h.nd, h.sh, h.no, h.dj, fun x hx => hx, fun kl hk => absurd rfl hk⟩, fun x hx => ⟨h.inX x hx, ?_⟩⟩
 have a1 := h.b0.lt
 have a2 := h.sm.1.lt
 have a3 := h.sm.2.1.lt
 have a4 := h.m2.lt
 have a5 := h.m3.lt
 simp only [McC.core, List.mem_cons, List.not_mem_nil, or_false] at hx
 rcases hx with rfl | rfl | rfl | rfl | rfl <;> assumption
set_option maxRecDepth 100000 in
set_option maxHeartbeats 1000000 in
/-- No such node: nil. -/
theorem rpnew_no (node nodes : Int) (v : Value) (h : nodes < 1 ∨ 8 < nodes ∨ node < 0 ∨ nodes ≤ node) :
  Calls Tryz.prog 7 #[.int .i64 node, .int .i64 nodes, v] w fun e w' => e = .returned (.pointer none) ∧ w = w' := by
 by_cases h1 : nodes < 1
 ·have e1 : decide (nodes < 1) = true := decide_eq_true h1
  clear h h1
  go_enter Tryz.func7, Tryz.ntmps7
  go_wp2_with fail
  go_ret
  exact ⟨rfl, rfl⟩
 have e1 : decide (nodes < 1) = false := decide_eq_false h1
 by_cases h2 : 8 < nodes
 ·have e2 : decide (8 < nodes) = true := decide_eq_true h2
  clear h h1 h2
  go_enter Tryz.func7, Tryz.ntmps7
  go_wp2_with fail
  go_ret
  exact ⟨rfl, rfl⟩
 have e2 : decide (8 < nodes) = false := decide_eq_false h2
 by_cases h3 : node < 0
 ·have e3 : decide (node < 0) = true := decide_eq_true h3
  clear h h1 h2 h3
  go_enter Tryz.func7, Tryz.ntmps7
  go_wp2_with fail
  go_ret
  exact ⟨rfl, rfl⟩
 have e3 : decide (node < 0) = false := decide_eq_false h3
 have e4 : decide (nodes ≤ node) = true := decide_eq_true (by omega)
 clear h h1 h2 h3
 go_enter Tryz.func7, Tryz.ntmps7
 go_wp2_with fail
 go_ret
 exact ⟨rfl, rfl⟩
end
end Go.Proofs.YtdaceeijifjpeaaGreatDoor.Vi
end
