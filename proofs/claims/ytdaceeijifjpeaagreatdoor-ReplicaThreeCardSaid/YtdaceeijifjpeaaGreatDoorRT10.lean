/- Texts put together: RpD, RpE, RpF, RpG, RpH. -/
import Derived.BigQuiet
import Derived.Test.YtdaceeijifjpeaaGreatDoorRT9
set_option linter.unusedVariables false
set_option linter.unusedSimpArgs false
section
namespace Go.Proofs.YtdaceeijifjpeaaGreatDoor.Vi
open Go.RowKit Base Mem Go.Shelf Tape
open Lead (VoteD VoteAt)
theorem f_set {st : McD} {i : Int} (h : ∀ kl, (st.get kl).f ≤ i) (kl : Lit) (s : ShD) (hs : s.f ≤ i) : ∀ k, ((st.set kl s).get k).f ≤ i := fun k => by
 by_cases e : k = kl
 ·subst e; rw [McD.get_set]; exact hs
 ·rw [McD.get_other _ _ e]; exact h k
theorem f_apply {st : McD} {i : Nat} (h : ∀ kl, (st.get kl).f ≤ 64 * (i : Int)) (kl : Lit) (e : EntryD) : ∀ k, ((applyM st kl e).2.2.get k).f ≤ 64 * ((i + 1 : Nat) : Int) := by
 have hm : ∀ k, (st.get k).f ≤ 64 * ((i + 1 : Nat) : Int) := fun k => by have := h k; omega
 have hE : ∀ k, ((stE st e).get k).f ≤ 64 * ((i + 1 : Nat) : Int) := hm
 have hadd : ((st.get kl).add e.seq).f ≤ 64 * ((i + 1 : Nat) : Int) := by
  have := (addW_bd (st.get kl).f (st.get kl).m e.seq).2
  have h1 := h kl
  show (Win.addW (st.get kl).f (st.get kl).m e.seq).1 ≤ _
  omega
 unfold applyM
 split
 ·split
  ·exact hm
  ·split
   ·exact hm
   ·split
    ·exact hm
    ·split
     ·exact hE
     ·unfold countM
      split
      ·exact f_set (st := { stE st e with DS := addL (stE st e).DS e.ds }) hm kl _ hadd
      ·split
       ·exact hE
       ·exact f_set hE kl _ hadd
 ·exact hm
theorem eok_i64 {e : EntryD} (h : EOk e) : I64 e.ag ∧ I64 e.sh ∧ I64 e.seq ∧ I64 e.ep ∧ (∀ d ∈ e.ds, DOk d) ∧ e.ds.length ≤ 8 := by
 have hl := eok_ds8 h
 obtain ⟨hr, hs, hw⟩ := h
 have hk := right_kind hr
 have hd : ∀ d ∈ e.ds, DOk d := fun d hd => by
  have h1 := hw.2.2.2 d hd
  have h2 := hs.2.1 d hd
  exact ⟨h1.1, by have := h1.2; omega, by omega⟩
 rcases (right_facts hr).2 with h | h
 ·unfold kindS at hk
  rw [if_neg (by omega), if_pos h] at hk
  simp only [eqI, Bool.and_eq_true, beq_iff_eq, decide_eq_true_eq] at hk
  obtain ⟨⟨⟨a, b, c⟩, d⟩, _⟩ := hk
  exact ⟨⟨by omega, by omega⟩, ⟨by omega, by omega⟩, ⟨by omega, by omega⟩, ⟨by omega, by omega⟩, hd, hl⟩
 ·obtain ⟨-, a0, a1, s0, s1, q0, p0, -⟩ := h
  have h3 := hw.2.1; have h4 := hw.2.2.1
  exact ⟨⟨by omega, by omega⟩, ⟨by omega, by omega⟩, ⟨by omega, by omega⟩, ⟨by omega, by omega⟩, hd, hl⟩
section
variable {w w' : World} {M : List Nat} {tg : Nat → Nat} {r d : Nat} {R R' : RpD} {C : RpC}
/-- The replica's own block is set anew. -/
theorem RpV.setR (h : RpV w M tg r R C) (hM : ∀ g ∈ M, g < w.heap.size) (hk : Keeps [r] w w') (hb : Blk w' r 72 (rpCells R' C)) (e : R'.x = R.x ∧ R'.b = R.b ∧ R'.k = R.k ∧ R'.n = R.n ∧ R'.st = R.st ∧ R'.v = R.v ∧ R'.ap = R.ap) :
  RpV w' M tg r R' C ∧ Ext w M tg w' M tg ∧ Keeps (sel M tg [1]) w w' := by
 obtain ⟨e1, e2, e3, e4, e5, e6, e7⟩ := e
 have hn : ∀ g t, tg g = t → t ≠ 1 → g ∉ [r] := fun g t h1 h2 hm => by simp at hm; subst hm; exact h2 (h1 ▸ h.tr)
 refine ⟨⟨hb, ?_, ?_, fun v hv => ?_, h.rM, h.tr, h.sM, h.ts, h.pM, h.tp, h.yM, h.xM, by rw [e7]; exact h.nN⟩, Ext.refl hM hk.size, hk.to_sel (fun g hg => by simp at hg; subst hg; exact .inl ⟨h.rM, by rw [h.tr]; simp⟩)⟩
 ·rw [e1, e2, e3, e4]
  refine h.st.keepZ hk (fun g hg => by simp at hg; subst hg; exact .inl h.rM) (fun g hg => ?_)
  rcases List.mem_cons.1 hg with rfl | hg
  ·exact hn _ _ h.ts (by omega)
  ·rcases List.mem_cons.1 hg with rfl | hg
   ·exact hn _ _ h.tp (by omega)
   ·exact hn _ _ (h.yM g hg).2 (by omega)
 ·rw [e5]
  exact h.mc.keep hk (fun x hx => hn x _ (h.xM x hx).2 (by omega))
 ·rw [e6] at hv
  obtain ⟨h1, h2, h3⟩ := h.vt v hv
  exact ⟨h1.keep hk (hn _ _ h3 (by omega)) (fun g hg => by simp at hg; subst hg; exact .inl h.rM), h2, h3⟩
/-- An entry was applied. -/
theorem RpV.applied (h : RpV w M tg r R C) (hM : ∀ g ∈ M, g < w.heap.size) {st' : McD} {X' : List Nat} {N' : Nat} (hmc : McAt w' C.g X' st' N') (hX : ∀ x ∈ X', x < w'.heap.size) (hnew : ∀ x ∈ X', x ∈ C.X ∨ w.heap.size ≤ x) (hk : Keeps C.X w w') (hN : N' ≤ 12 * (R.ap + 1)) :
  ∃ M' tg', RpV w' M' tg' r { R with st := st', ap := R.ap + 1 } { C with X := X', N := N' } ∧ Ext w M tg w' M' tg' ∧ Keeps (sel M tg [5]) w w' := by
 have hks : Keeps (sel M tg [5]) w w' := hk.to_sel (fun g hg => .inl ⟨(h.xM g hg).1, by rw [(h.xM g hg).2]; simp⟩)
 have hx : Ext w M tg w' (X' ++ M) (fun x => if x ∈ X' then 5 else tg x) := ⟨fun g hg => List.mem_append_right _ hg, fun g hg => by
  rcases List.mem_append.1 hg with h1 | h1
  ·exact (hnew g h1).imp (fun h2 => (h.xM g h2).1) id
  ·exact .inl h1, fun g hg => by
  show (if g ∈ X' then 5 else tg g) = tg g
  split
  ·rename_i h1
   rcases hnew g h1 with h2 | h2
   ·exact (h.xM g h2).2.symm
   ·omega
  ·rfl, hM, fun g hg => by
  rcases List.mem_append.1 hg with h1 | h1
  ·exact hX g h1
  ·exact Nat.lt_of_lt_of_le (hM g h1) hk.size⟩
 have hn : ∀ g t, tg g = t → t ≠ 5 → g ∉ sel M tg [5] := fun g t h1 h2 hm => by
  have h3 := (mem_sel.1 hm).2
  simp at h3
  exact h2 (h1 ▸ h3)
 have hmt : ∀ g t, g ∈ M ∧ tg g = t → g ∈ X' ++ M ∧ (fun x => if x ∈ X' then 5 else tg x) g = t := fun g t h1 => ⟨hx.sub g h1.1, (hx.tag g (hM g h1.1)).trans h1.2⟩
 refine ⟨X' ++ M, _, ⟨hks.blk h.blk (hn _ _ h.tr (by omega)), ?_, hmc, fun v hv => ?_, (hmt _ _ ⟨h.rM, h.tr⟩).1, (hmt _ _ ⟨h.rM, h.tr⟩).2, (hmt _ _ ⟨h.sM, h.ts⟩).1, (hmt _ _ ⟨h.sM, h.ts⟩).2, (hmt _ _ ⟨h.pM, h.tp⟩).1, (hmt _ _ ⟨h.pM, h.tp⟩).2, fun g hg => hmt _ _ (h.yM g hg), fun g hg => ⟨List.mem_append_left _ hg, by show (if g ∈ X' then 5 else tg g) = 5; rw [if_pos hg]⟩, hN⟩, hx, hks⟩
 ·refine (h.st.more (Z' := X' ++ M) hx.new).keepZ hks (fun g hg => .inl (hx.sub g (mem_sel.1 hg).1)) (fun g hg => ?_)
  rcases List.mem_cons.1 hg with rfl | hg
  ·exact hn _ _ h.ts (by omega)
  ·rcases List.mem_cons.1 hg with rfl | hg
   ·exact hn _ _ h.tp (by omega)
   ·exact hn _ _ (h.yM g hg).2 (by omega)
 ·obtain ⟨h1, h2, h3⟩ := h.vt v hv
  exact ⟨(h1.more hx.new).keep hks (hn _ _ h3 (by omega)) (fun g hg => .inl (hx.sub g (mem_sel.1 hg).1)), hmt _ _ ⟨h2, h3⟩⟩
end
structure RoSt (w : World) (M : List Nat) (tg : Nat → Nat) (r d : Nat) (R : RpD) (out : List SentD) (ov : Value) (wx : World) (Mk : List Nat) (tgk : Nat → Nat) : Prop where
 ag : RpAt wx Mk tgk r d R
 x : Ext w M tg wx Mk tgk
 k : Keeps (sel M tg (List.range 30)) w wx
 qs : ∃ qs : List (SentD × Value × Value), qs.map (·.1) = out ∧ wx.ownsRow w.heap.size 39 19 ov out.length (qs.flatMap srCell) ∧ ∀ q ∈ qs, ∀ L, (∀ g ∈ L, g < w.heap.size) → MsgAt wx (L ++ Mk) q.1.m q.2.1 q.2.2
 far : ∀ g, ov.ownBlock = some g → g ∈ Mk ∧ tgk g = 99
section
variable {w w' wx wy : World} {M M' Mk My : List Nat} {tg tg' tgk tgy : Nat → Nat} {r d : Nat} {R R' : RpD} {C : RpC} {T : List Nat} {out : List SentD} {ov : Value}
theorem RoSt.step (h : RoSt w M tg r d R out ov wx Mk tgk) (hx : Ext wx Mk tgk wy My tgy) (hk : Keeps (sel Mk tgk (List.range 30)) wx wy) (ha : RpAt wy My tgy r d R') : RoSt w M tg r d R' out ov wy My tgy := by
 obtain ⟨qs, h1, h2, h3⟩ := h.qs
 refine ⟨ha, h.x.trans hx h.k.size, Ext.keeps h.x h.k hk, ⟨qs, h1, row_other hk h2 (fun g hg => by rw [(h.far g hg).2]; simp), fun q hq L hL => ?_⟩, fun g hg => ?_⟩
 ·refine ((h3 q hq L hL).avoid (M' := L ++ My) (fun g hg => ?_)).keep hk (fun g hg => .inl (List.mem_append_right _ (hx.sub g (mem_sel.1 hg).1)))
  rcases List.mem_append.1 hg with h4 | h4
  ·exact .inl (List.mem_append_left _ h4)
  ·rcases hx.new g h4 with h5 | h5
   ·exact .inl (List.mem_append_right _ h5)
   ·exact .inr h5
 ·obtain ⟨h4, h5⟩ := h.far g hg
  exact ⟨hx.sub g h4, (hx.tag g (hx.old g h4)).trans h5⟩
theorem RoSt.keep0 (h : RoSt w M tg r d R out ov wx Mk tgk) (hk : Keeps [] wx wy) : RoSt w M tg r d R out ov wy Mk tgk :=
 h.step (Ext.refl h.x.lt hk.size) (hk.to_sel (by simp)) (h.ag.keep0 h.x.lt hk)
/-- A message more. -/
theorem RoSt.put {w1 w2 : World} {s : SentD} {dv lv ov' : Value} {o : Obj} {qs : List (SentD × Value × Value)} (h1 : RoSt w M tg r d R' out ov w1 My tgy) (e1 : qs.map (·.1) = out) (e2 : w1.ownsRow w.heap.size 39 19 ov out.length (qs.flatMap srCell)) (e3 : ∀ q ∈ qs, ∀ L, (∀ g ∈ L, g < w.heap.size) → MsgAt w1 (L ++ My) q.1.m q.2.1 q.2.2)
  (hds : ∀ L, (∀ g ∈ L, g < w.heap.size) → MsgAt w1 (L ++ My) s.m dv lv) (hg : (w1.alloc o).grownBy w2 ov.ownBlock) (hat : ov'.ownBlock = ov.ownBlock ∨ ov'.ownBlock = some (w1.alloc o).heap.size)
  (hrw : w2.ownsRow w.heap.size 39 19 ov' (out.length + 1) (qs.flatMap srCell ++ srCell (s, dv, lv))) :
  ∃ M2 tg2, RoSt w M tg r d R' (out ++ [s]) ov' w2 M2 tg2 ∧ Ext w1 My tgy w2 M2 tg2 ∧ Keeps (sel My tgy [99]) w1 w2 := by
 have k12 : Keeps ov.ownBlock.toList w1 w2 := (((Keeps.refl [] w1).alloc o).mono (by simp)).grown hg (fun g hg => .inl (by simpa using hg))
 have hks : Keeps (sel My tgy [99]) w1 w2 := k12.to_sel (fun g hg => .inl (by have := h1.far g (by simpa using hg); simp [this.1, this.2]))
 have hx2 : Ext w1 My tgy w2 (ov'.ownBlock.toList ++ My) (fun x => if ov'.ownBlock = some x then 99 else tgy x) := Ext.add h1.x.lt hks.size _ _ (fun g hg => by
  refine ⟨?_, (hrw.lt g hg).2⟩
  rcases hat with h4 | h4
  ·exact .inl (h1.far g (by rw [← h4, hg]))
  ·rw [h4] at hg; injection hg with hg; subst hg; right; rw [World.size_alloc]; omega)
 obtain ⟨ho, C, hC, hv⟩ := h1.ag
 refine ⟨_, _, ⟨⟨ho, C, hC, hv.keepT hx2 hks (by simp)⟩, h1.x.trans hx2 h1.k.size, h1.k.trans k12 (fun g hg => .inr ?_), ⟨qs ++ [(s, dv, lv)], by rw [List.map_append, e1]; rfl, ?_, fun q hq L hL => ?_⟩, fun g hg => ⟨List.mem_append_left _ (by simpa using hg), by simp [hg]⟩⟩, hx2, hks⟩
 ·exact (e2.lt g (by simpa using hg)).1
 ·rw [List.length_append, List.flatMap_append]
  have := hrw
  simpa using this
 ·have hout : ∀ q' : SentD × Value × Value, MsgAt w1 (L ++ My) q'.1.m q'.2.1 q'.2.2 → MsgAt w2 (L ++ (ov'.ownBlock.toList ++ My)) q'.1.m q'.2.1 q'.2.2 := fun q' hq' => by
   refine (hq'.avoid (M' := L ++ (ov'.ownBlock.toList ++ My)) (fun g hg => ?_)).keep k12 (fun g hg => .inl ?_)
   ·rcases List.mem_append.1 hg with h4 | h4
    ·exact .inl (List.mem_append_left _ h4)
    ·rcases hx2.new g h4 with h5 | h5
     ·exact .inl (List.mem_append_right _ h5)
     ·exact .inr h5
   ·exact List.mem_append_right _ (hx2.sub g (h1.far g (by simpa using hg)).1)
  rcases List.mem_append.1 hq with h4 | h4
  ·exact hout q (e3 q h4 L hL)
  ·simp at h4; subst h4
   exact hout _ (hds L hL)
theorem RoSt.start (h : RpAt w M tg r d R) (hM : ∀ g ∈ M, g < w.heap.size) : RoSt w M tg r d R [] (.slice none 0 0) w M tg :=
 ⟨h, Ext.refl hM (Nat.le_refl _), Keeps.refl _ _, ⟨[], rfl, World.ownsRow_nil _ _ _ _, fun q hq => (nomatch hq)⟩, fun g hg => (nomatch hg)⟩
end
def ROPost (M : List Nat) (tg : Nat → Nat) (r d : Nat) (P : RpD × List SentD) (w : World) (e : Ending) (w' : World) : Prop := ∃ v M' tg', e = .returned v ∧ RoSt w M tg r d P.1 P.2 v w' M' tg'
theorem rpSteps_eq {R R2 : RpD} {n : Int} {out : List SentD} (h : rpApply R n = ((rpSteps ((R.x.log.take n.toNat).drop R2.com) R2).1, out ++ (rpSteps ((R.x.log.take n.toNat).drop R2.com) R2).2)) (hl : R2.com < R.x.log.length) (hn : (R2.com : Int) < n) {st' : McD} {a b : Int} (ha : applyM R2.st (pk R.x.log[R2.com].ag R.x.log[R2.com].sh) R.x.log[R2.com] = (a, b, st')) :
  rpApply R n = ((rpSteps ((R.x.log.take n.toNat).drop (R2.com + 1)) { R2 with st := st', ap := R2.ap + 1, com := R2.com + 1 }).1, (out ++ if R2.leads = true ∧ R2.own ≤ R2.com then [⟨R.x.log[R2.com].fr, answerM R.x.log[R2.com].tag a b⟩] else []) ++ (rpSteps ((R.x.log.take n.toNat).drop (R2.com + 1)) { R2 with st := st', ap := R2.ap + 1, com := R2.com + 1 }).2) := by
 have hlt : R2.com < (R.x.log.take n.toNat).length := by rw [List.length_take]; omega
 rw [h, List.drop_eq_getElem_cons hlt]
 have he : (R.x.log.take n.toNat)[R2.com] = R.x.log[R2.com] := by simp
 rw [he]
 show ((rpSteps _ (rpStep R2 _).1).1, out ++ ((rpStep R2 _).2 ++ (rpSteps _ (rpStep R2 _).1).2)) = _
 unfold rpStep
 rw [ha, List.append_assoc]
theorem RoSt.setCom {w wx : World} {M Mk : List Nat} {tg tgk : Nat → Nat} {r d : Nat} {R' : RpD} {out : List SentD} {ov : Value} (h : RoSt w M tg r d R' out ov wx Mk tgk) (c : Nat) (hc : c ≤ 128) (v : Int) (hv : v = c) : RoSt w M tg r d { R' with com := c } out ov (wx.setCell ⟨r, 4, none⟩ (.int .i64 v)) Mk tgk := by
 subst hv
 obtain ⟨ho, C, hC, hv⟩ := h.ag
 have hk : Keeps [r] wx (wx.setCell ⟨r, 4, none⟩ (.int .i64 c)) := (Keeps.refl _ _).setCell (by simp) _
 have hb : Blk (wx.setCell ⟨r, 4, none⟩ (.int .i64 c)) r 72 (rpCells { R' with com := c } C) := by
  have h9 := hv.blk.set_ 4 (.int .i64 c)
  simpa [rpCells] using h9
 obtain ⟨a1, a2, a3⟩ := hv.setR h.x.lt hk hb ⟨rfl, rfl, rfl, rfl, rfl, rfl, rfl⟩
 obtain ⟨o1, o2, o3, o4, o5, o6, o7⟩ := ho
 exact h.step a2 (a3.sel_mono (by simp)) ⟨⟨o1, o2, ⟨hc, o3.2⟩, o4, o5, o6, o7⟩, C, hC, a1⟩
section
variable {w : World} {M : List Nat} {tg : Nat → Nat} {r d : Nat} {R : RpD}
set_option maxRecDepth 100000 in
set_option maxHeartbeats 4000000 in
theorem rpapply_any (h : RpAt w M tg r d R) (hM : ∀ g ∈ M, g < w.heap.size) (h0 : 0 ∉ M) (hap : R.ap = R.com) (n : Int) (mx : Int) (hm : w.cell? ⟨0, 0, none⟩ = some (.int .i64 mx)) :
  Calls Tryz.prog 77 #[.pointer (some ⟨r, 0, none⟩), .int .i64 n] w fun e w' => ROPost M tg r d (rpApply R n) w e w' := by
 have hw0 : 0 < w.heap.size := by
  have := World.block_lt_of_cell? w _ hm
  simpa using this
 obtain ⟨i0, hi0, hz0, hz1, hz2⟩ := info_parts infoSentR
 have Hi0 := Lib.hid hi0; have Hz0 := Lib.hid hz0; have Hz1 := Lib.hid hz1; have Hz2 := Lib.hid hz2
 clear hi0 hz0 hz1 hz2
 have HW : Hid (WOk R.x) := by obtain ⟨_, C, _, hv⟩ := h; exact hv.st.ok
 have Hap := Lib.hid hap; have Hm := Lib.hid hm; have H0 := Lib.hid h0; have HMl := Lib.hid hM
 have Hro := Lib.hid (RoSt.start h hM)
 obtain ⟨C, hlg, hc2⟩ : ∃ C : RpC, Hid (Calls Tryz.prog 35 #[.pointer (some ⟨C.s, 0, none⟩)] w fun e w' => EnsPost R.x.log w e w') ∧ w.cell? ⟨r, 2, none⟩ = some (.pointer (some ⟨C.s, 0, none⟩)) := by
  obtain ⟨_, C, _, hv⟩ := h
  exact ⟨C, vlog_any w hv.st.st, (rpcells hv).2.2.1⟩
 have hll : R.x.log.length ≤ 128 := HW.out.2.2.1
 clear h hM h0 hap hm
 go_enter Tryz.func77, Tryz.ntmps77
 go_wp2_with fail
 refine hlg.out.mono ?_
 rintro e w1 ⟨A1, rfl, hE1, hk1⟩
 have HE1 := Lib.hid (hE1 M HMl.out)
 have HR1 := Lib.hid (Hro.out.keep0 hk1)
 have HQ1 : Hid (rpApply R n = ((rpSteps ((R.x.log.take n.toNat).drop R.com) R).1, [] ++ (rpSteps ((R.x.log.take n.toNat).drop R.com) R).2)) := rfl
 have HX1 : Hid (R.x = R.x ∧ R.ap = R.com) := ⟨rfl, Hap.out⟩
 have hcm : R.com ≤ 128 := by obtain ⟨ho, _⟩ := Hro.out.ag; exact ho.2.2.1.1
 clear hE1 hk1 hlg hc2 Hro
 go_upto_region 3 with (fail)
 go_loopw [5] (fun ov wr => ∃ (R2 : RpD) (out2 : List SentD) (M2 : List Nat) (tg2 : Nat → Nat), out2.length ≤ R2.com ∧ Hid (RoSt w M tg r d R2 out2 ov wr M2 tg2) ∧ Hid (Ens wr M2 (.slice A1 R.x.log.length R.x.log.length) R.x.log) ∧ Hid (R2.x = R.x ∧ R2.ap = R2.com) ∧ Hid (rpApply R n = ((rpSteps ((R.x.log.take n.toNat).drop R2.com) R2).1, out2 ++ (rpSteps ((R.x.log.take n.toNat).drop R2.com) R2).2))) (fun _ wr => 128 - (intOf ((wr.cell? ⟨r, 4, none⟩).getD undef)).toNat)
 case atStart => exact ⟨R, [], M, tg, by simp, HR1, HE1, ⟨rfl, HX1.out.2⟩, HQ1⟩
 case round =>
  obtain ⟨R2, out2, M2, tg2, hol, HR, HE, HX, HQ⟩ := hrel
  clear HR1 HE1 HX1 HQ1
  obtain ⟨C2, HC2, Hv2⟩ : ∃ C2, Hid (C2.d = d) ∧ Hid (RpV wr M2 tg2 r R2 C2) := by obtain ⟨_, C2, h1, h2⟩ := HR.out.ag; exact ⟨C2, h1, h2⟩
  have Ho2 := Lib.hid HR.out.ag.1
  have hcm2 : R2.com ≤ 128 := Ho2.out.2.2.1.1
  obtain ⟨-, -, -, -, c4, -⟩ := rpcells Hv2.out
  by_cases hlt : (R2.com : Int) < min n (R.x.log.length : Int)
  ·have hcl : R2.com < R.x.log.length := by omega
   have hcn : (R2.com : Int) < n := by omega
   obtain ⟨g, off, _, dv, e1, hg, hgM, hDs, hcell⟩ := ens_at HE.out hcl
   obtain rfl : A1 = some ⟨g, off, none⟩ := by injection e1
   clear e1
   have hmem := List.getElem_mem hcl
   have Heok := Lib.hid (HW.out.2.2.2 _ hmem)
   have HQe := Lib.hid (fun a b st' ha => rpSteps_eq HQ.out hcl hcn (st' := st') (a := a) (b := b) ha)
   have hjl : (R2.com : Int) < (R.x.log.length : Int) := by omega
   have hmin : (R2.com : Int) < n ∧ (R2.com : Int) < (R.x.log.length : Int) := ⟨hcn, hjl⟩
   clear hmem
   generalize R.x.log[R2.com] = ee at *
   obtain ⟨kind, ag, sh, seq, ep, ds, ser, fr, etg⟩ := ee
   obtain ⟨Ad, cd, rfl, _⟩ := hDs.len
   simp only [] at hDs
   have p0 := hcell 0 _ rfl; have p1 := hcell 1 _ rfl; have p2 := hcell 2 _ rfl; have p3 := hcell 3 _ rfl; have p4 := hcell 4 _ rfl; have p5 := hcell 5 _ rfl; have p6 := hcell 6 _ rfl; have p7 := hcell 7 _ rfl; have p8 := hcell 8 _ rfl
   rw [Nat.add_zero] at p0
   simp only [] at p0 p1 p2 p3 p4 p5 p6 p7 p8
   obtain ⟨w4, hw4⟩ : ∃ w4, w4 = wr.alloc (.cells #[.int .i64 kind, .int .i64 ag, .int .i64 sh, .int .i64 seq, .int .i64 ep, .slice Ad ds.length cd, .string ser, .int .i64 fr, .int .i64 etg] 33) := ⟨_, rfl⟩
   have hk4 : Keeps [] wr w4 := by rw [hw4]; exact (Keeps.refl _ _).alloc _
   have hB4 : Blk w4 wr.heap.size 33 #[.int .i64 kind, .int .i64 ag, .int .i64 sh, .int .i64 seq, .int .i64 ep, .slice Ad ds.length cd, .string ser, .int .i64 fr, .int .i64 etg] := by rw [hw4]; exact Blk.new wr _ _
   obtain ⟨gE, HgE⟩ : ∃ gE, Hid (gE = wr.heap.size) := ⟨_, rfl⟩
   rw [← HgE.out] at hB4
   have Hk4 := Lib.hid hk4; have HB4 := Lib.hid hB4
   have HS5 : Hid (∀ W, Keeps [] w4 W → W.cell? ⟨r, 3, none⟩ = some (.pointer (some ⟨C2.g, 0, none⟩)) ∧ W.cell? ⟨gE, 0, none⟩ = some (.int .i64 kind) ∧ W.cell? ⟨gE, 1, none⟩ = some (.int .i64 ag) ∧ W.cell? ⟨gE, 2, none⟩ = some (.int .i64 sh) ∧ W.cell? ⟨gE, 3, none⟩ = some (.int .i64 seq) ∧ W.cell? ⟨gE, 4, none⟩ = some (.int .i64 ep) ∧ W.cell? ⟨gE, 5, none⟩ = some (.slice Ad ds.length cd) ∧ W.cell? ⟨gE, 6, none⟩ = some (.string ser) ∧ W.cell? ⟨gE, 7, none⟩ = some (.int .i64 fr) ∧ W.cell? ⟨gE, 8, none⟩ = some (.int .i64 etg)) := fun W hk => by
    have h1 := rpcells (Hv2.out.keep0 HR.out.x.lt (Hk4.out.trans hk (by simp)))
    have h2 := hk.blk HB4.out (by simp)
    exact ⟨h1.2.2.2.1, h2.cell 0, h2.cell 1, h2.cell 2, h2.cell 3, h2.cell 4, h2.cell 5, h2.cell 6, h2.cell 7, h2.cell 8⟩
   obtain ⟨ac, an, st', Hap2⟩ : ∃ ac an st', Hid (applyM R2.st (pk ag sh) ⟨kind, ag, sh, seq, ep, ds, ser, fr, etg⟩ = (ac, an, st')) := ⟨_, _, _, rfl⟩
   have HF5 : Hid (∀ k, (st'.get k).f ≤ 64 * ((R2.ap + 1 : Nat) : Int)) := by
    have h9 := f_apply Ho2.out.2.2.2.2.1 (pk ag sh) ⟨kind, ag, sh, seq, ep, ds, ser, fr, etg⟩
    rwa [Hap2.out] at h9
   have hm4 : Hid (w4.cell? ⟨0, 0, none⟩ = some (.int .i64 mx)) := by
    show _ = _
    have hk := HR.out.k.trans (M := sel M tg (List.range 30)) (hk4.mono (M' := sel M tg (List.range 30)) (by simp)) (fun g hg => .inl hg)
    exact (hk.cell (p := ⟨0, 0, none⟩) hw0 (fun hm => H0.out (mem_sel.1 hm).1)).trans Hm.out
   have h0X : 0 < w4.heap.size := Nat.lt_of_lt_of_le hw0 (Nat.le_trans HR.out.k.size hk4.size)
   have Hapc : Hid (∀ W, Keeps [] w4 W → Calls Tryz.prog 120 #[.pointer (some ⟨C2.g, 0, none⟩), .agg #[.int .i64 kind, .int .i64 ag, .int .i64 sh, .int .i64 seq, .int .i64 ep, .slice Ad ds.length cd, .string ser, .int .i64 fr, .int .i64 etg]] W fun e w' => ApA C2.g C2.X (ac, an, st') (C2.N + 12) W e w') := fun W hk => by
    obtain ⟨x1, x2, x3, x4, x5, x6⟩ := eok_i64 Heok.out
    have hkw := Hk4.out.trans hk (by simp)
    have hv := Hv2.out.keep0 HR.out.x.lt hkw
    have hX : ∀ x ∈ C2.X, x < W.heap.size := fun x hx => Nat.lt_of_lt_of_le (HR.out.x.lt x (Hv2.out.xM x hx).1) hkw.size
    have hN := Hv2.out.nN
    have hA := Ho2.out.2.2.1.2
    have h9 := mcapply_all C2.g C2.X R2.st C2.N (C2.N + 12) ⟨kind, ag, sh, seq, ep, ds, ser, fr, etg⟩ (.slice Ad ds.length cd) mx W hv.mc hX (by have := Ho2.out.2.2.2.2.1 (pk ag sh); show (R2.st.get (pk ag sh)).f ≤ _; omega) x1 x2 x3 x4 ((hDs.keep hkw (by simp)).avoid (fun g hg => .inl (Hv2.out.xM g hg).1)) x5 (by show ds.length ≤ _; exact Nat.le_trans x6 (by decide)) Heok.out.2.1 (by omega) (by show C2.N + ds.length + 2 ≤ _; have h8 : ds.length ≤ 8 := x6; omega) ((hk.cell (p := ⟨0, 0, none⟩) h0X (by simp)).trans hm4.out)
    rw [Hap2.out] at h9
    exact h9
   have HE4 := Lib.hid (HE.out.keep hk4 (by simp))
   clear hcell hDs hg hgM hk4 hB4 h0X
   go_upto_region 5 with (fail)
   rw [← hw4, ← HgE.out]
   clear hw4 p0 p1 p2 p3 p4 p5 p6 p7 p8
   refine wp_region_held_drew (S := (fun W => W.cell? ⟨r, 3, none⟩ = some (.pointer (some ⟨C2.g, 0, none⟩)) ∧ W.cell? ⟨gE, 0, none⟩ = some (.int .i64 kind) ∧ W.cell? ⟨gE, 1, none⟩ = some (.int .i64 ag) ∧ W.cell? ⟨gE, 2, none⟩ = some (.int .i64 sh) ∧ W.cell? ⟨gE, 3, none⟩ = some (.int .i64 seq) ∧ W.cell? ⟨gE, 4, none⟩ = some (.int .i64 ep) ∧ W.cell? ⟨gE, 5, none⟩ = some (.slice Ad ds.length cd) ∧ W.cell? ⟨gE, 6, none⟩ = some (.string ser) ∧ W.cell? ⟨gE, 7, none⟩ = some (.int .i64 fr) ∧ W.cell? ⟨gE, 8, none⟩ = some (.int .i64 etg))) (by kernel_rfl) (HS5.out _ (Keeps.refl _ _).drew) (fun hHeld => ?_)
   refine wT 0 (v := ?v0u1) (by kernel_rfl) rfl (by rfl) ?y0u1 (fun _ _ _ h => h) (by assumption) ?r0u1
   case y0u1 => (intro w hSw; (obtain ⟨hS0, hS1, hS2, hS3, hS4, hS5, hS6, hS7, hS8, hS9⟩ := hSw); go_simp <;> with_reducible rfl)
   try simp only [sgl, Act.put]
   refine wT 1 (v := ?v1u2) (by kernel_rfl) rfl (by rfl) ?y1u2 (fun _ _ _ h => h) (by assumption) ?r1u2
   case y1u2 => (intro w hSw; (obtain ⟨hS0, hS1, hS2, hS3, hS4, hS5, hS6, hS7, hS8, hS9⟩ := hSw); go_simp <;> with_reducible rfl)
   try simp only [sgl, Act.put]
   refine wT 2 (v := ?v2u3) (by kernel_rfl) rfl (by rfl) ?y2u3 (fun _ _ _ h => h) (by assumption) ?r2u3
   case y2u3 => (intro w hSw; (obtain ⟨hS0, hS1, hS2, hS3, hS4, hS5, hS6, hS7, hS8, hS9⟩ := hSw); go_simp <;> with_reducible rfl)
   try simp only [sgl, Act.put]
   refine wT 3 (v := ?v3u4) (by kernel_rfl) rfl (by rfl) ?y3u4 (fun _ _ _ h => h) (by assumption) ?r3u4
   case y3u4 => (intro w hSw; (obtain ⟨hS0, hS1, hS2, hS3, hS4, hS5, hS6, hS7, hS8, hS9⟩ := hSw); go_simp <;> with_reducible rfl)
   try simp only [sgl, Act.put]
   refine wT 4 (v := ?v4u5) (by kernel_rfl) rfl (by rfl) ?y4u5 (fun _ _ _ h => h) (by assumption) ?r4u5
   case y4u5 => (intro w hSw; (obtain ⟨hS0, hS1, hS2, hS3, hS4, hS5, hS6, hS7, hS8, hS9⟩ := hSw); go_simp <;> with_reducible rfl)
   try simp only [sgl, Act.put]
   refine wpAnyH_ready (rs := [5]) (by kernel_rfl) (by simp) ?_
   refine AllReadyH.cons (o := _) rfl (fun K hK => ?_) AllReadyH.nil
   go_simp
   refine (Hapc.out _ (Keeps.refl _ _).drew).mono ?_
   rintro e w5 ⟨rfl, X5, hmc5, hX5, hn5, hk5⟩
   have HV5 : Hid (∃ M5 tg5, RpV w5 M5 tg5 r { R2 with st := st', ap := R2.ap + 1 } { C2 with X := X5, N := C2.N + 12 } ∧ Ext w4.drew M2 tg2 w5 M5 tg5 ∧ Keeps (sel M2 tg2 [5]) w4.drew w5) := (Hv2.out.keep0 HR.out.x.lt (Hk4.out.drew)).applied (fun g hg => Nat.lt_of_lt_of_le (HR.out.x.lt g hg) Hk4.out.size) hmc5 hX5 hn5 hk5 (by have := Hv2.out.nN; omega)
   have hgEX : gE ∉ C2.X := fun hm => by have h1 := HR.out.x.lt gE (Hv2.out.xM gE hm).1; have := HgE.out; omega
   have hrX : r ∉ C2.X := fun hm => by have h1 := (Hv2.out.xM r hm).2; have h2 := Hv2.out.tr; omega
   have HB5 := Lib.hid (hk5.blk (show Blk w4.drew gE _ _ from HB4.out) hgEX)
   have HS5b : Hid (∀ W, Keeps [] w5 W → W.cell? ⟨r, 3, none⟩ = some (.pointer (some ⟨C2.g, 0, none⟩)) ∧ W.cell? ⟨gE, 0, none⟩ = some (.int .i64 kind) ∧ W.cell? ⟨gE, 1, none⟩ = some (.int .i64 ag) ∧ W.cell? ⟨gE, 2, none⟩ = some (.int .i64 sh) ∧ W.cell? ⟨gE, 3, none⟩ = some (.int .i64 seq) ∧ W.cell? ⟨gE, 4, none⟩ = some (.int .i64 ep) ∧ W.cell? ⟨gE, 5, none⟩ = some (.slice Ad ds.length cd) ∧ W.cell? ⟨gE, 6, none⟩ = some (.string ser) ∧ W.cell? ⟨gE, 7, none⟩ = some (.int .i64 fr) ∧ W.cell? ⟨gE, 8, none⟩ = some (.int .i64 etg)) := fun W hk => by
    have h1 := (hk5.cell (p := ⟨r, 3, none⟩) (Nat.lt_of_lt_of_le (HR.out.x.lt r Hv2.out.rM) Hk4.out.size) hrX).trans (HS5.out _ (Keeps.refl _ _).drew).1
    have h2 := hk.blk HB5.out (by simp)
    exact ⟨(hk.cell (p := ⟨r, 3, none⟩) (Nat.lt_of_lt_of_le (HR.out.x.lt r Hv2.out.rM) (Nat.le_trans Hk4.out.size hk5.size)) (by simp)).trans h1, h2.cell 0, h2.cell 1, h2.cell 2, h2.cell 3, h2.cell 4, h2.cell 5, h2.cell 6, h2.cell 7, h2.cell 8⟩
   clear hmc5 hX5 hn5 hk5 hgEX hrX
   refine hK.out _ _ (HS5b.out _ (Keeps.refl _ _)) (fun hHeld2 => ?_)
   clear hK K hHeld
   have hHeld := hHeld2
   clear hHeld2
   try simp only [sgl, Act.put]
   refine wT 6 (v := ?v6u6) (by kernel_rfl) rfl (by rfl) ?y6u6 (fun _ _ _ h => h) (by assumption) ?r6u6
   case y6u6 => (intro w hSw; (obtain ⟨hS0, hS1, hS2, hS3, hS4, hS5, hS6, hS7, hS8, hS9⟩ := hSw); go_simp <;> with_reducible rfl)
   try simp only [sgl, Act.put]
   refine wT 7 (v := ?v7u7) (by kernel_rfl) rfl (by rfl) ?y7u7 (fun _ _ _ h => h) (by assumption) ?r7u7
   case y7u7 => (intro w hSw; (obtain ⟨hS0, hS1, hS2, hS3, hS4, hS5, hS6, hS7, hS8, hS9⟩ := hSw); go_simp <;> with_reducible rfl)
   try simp only [sgl, Act.put]
   refine wT 8 (v := ?v8u8) (by kernel_rfl) rfl (by rfl) ?y8u8 (fun _ _ _ h => h) (by assumption) ?r8u8
   case y8u8 => (intro w hSw; (obtain ⟨hS0, hS1, hS2, hS3, hS4, hS5, hS6, hS7, hS8, hS9⟩ := hSw); go_simp <;> with_reducible rfl)
   try simp only [sgl, Act.put]
   refine wT 9 (v := ?v9u9) (by kernel_rfl) rfl (by rfl) ?y9u9 (fun _ _ _ h => h) (by assumption) ?r9u9
   case y9u9 => (intro w hSw; (obtain ⟨hS0, hS1, hS2, hS3, hS4, hS5, hS6, hS7, hS8, hS9⟩ := hSw); go_simp <;> with_reducible rfl)
   try simp only [sgl, Act.put]
   refine wT 10 (v := ?v10u10) (by kernel_rfl) rfl (by rfl) ?y10u10 (fun _ _ _ h => h) (by assumption) ?r10u10
   case y10u10 => (intro w hSw; (obtain ⟨hS0, hS1, hS2, hS3, hS4, hS5, hS6, hS7, hS8, hS9⟩ := hSw); go_simp <;> with_reducible rfl)
   try simp only [sgl, Act.put]
   refine wpAnyH_done (by kernel_rfl) ?_ _
   clear hHeld
   obtain ⟨M5, tg5, hv5, hx5, hk5⟩ := HV5.out
   have hok5 : RpOk { R2 with st := st', ap := R2.ap + 1 } := ⟨Ho2.out.1, Ho2.out.2.1, ⟨Ho2.out.2.2.1.1, by show R2.ap + 1 ≤ 129; have := HX.out.2; omega⟩, Ho2.out.2.2.2.1, HF5.out, Ho2.out.2.2.2.2.2⟩
   have HR5 := Lib.hid ((HR.out.keep0 Hk4.out.drew).step hx5 (hk5.sel_mono (by simp)) ⟨hok5, _, (by exact HC2.out), hv5⟩)
   have HE5 : Hid (Ens w5 M5 (.slice (some ⟨g, off, none⟩) R.x.log.length R.x.log.length) R.x.log) := ((HE4.out.keep (M' := []) ((Keeps.refl _ _).drew) (by simp)).avoid (M' := M5) hx5.new).keep hk5 (fun q hq => .inl (hx5.sub q (mem_sel.1 hq).1))
   have HE6 : Hid (∀ W, Keeps [] w5 W → Ens (W.setCell ⟨r, 4, none⟩ (.int .i64 ((R2.com : Int) + 1))) M5 (.slice (some ⟨g, off, none⟩) R.x.log.length R.x.log.length) R.x.log) := fun W hk => HE5.out.keep (M' := [r]) ((hk.mono (M' := [r]) (by simp)).setCell (by simp) _) (fun x hx => by simp at hx; subst hx; exact .inl hv5.rM)
   have HX6 : Hid (({ R2 with st := st', ap := R2.ap + 1, com := R2.com + 1 } : RpD).x = R.x ∧ R2.ap + 1 = R2.com + 1) := ⟨HX.out.1, by have := HX.out.2; omega⟩
   have HQ5 := Lib.hid (HQe.out ac an st' Hap2.out)
   obtain ⟨-, -, -, -, d4, -, c6, c7, hrl⟩ := rpcells hv5
   have f4 := hv5.blk.frozen 4
   have d4 : w5.cell? ⟨r, 4, none⟩ = some (.int .i64 R2.com) := d4
   have c6 : w5.cell? ⟨r, 6, none⟩ = some (.bool R2.leads) := c6
   have c7 : w5.cell? ⟨r, 7, none⟩ = some (.int .i64 R2.own) := c7
   clear hv5 hx5 hk5 hok5 HV5 HS5 HS5b Hapc HE4 HQe
   go_upto_region 6 with (fail)
   cases hld : R2.leads with
   | false =>
     rw [hld] at c6
     have HQ6 : Hid (rpApply R n = ((rpSteps ((R.x.log.take n.toNat).drop (R2.com + 1)) { R2 with st := st', ap := R2.ap + 1, com := R2.com + 1 }).1, out2 ++ (rpSteps ((R.x.log.take n.toNat).drop (R2.com + 1)) { R2 with st := st', ap := R2.ap + 1, com := R2.com + 1 }).2)) := by
      have h9 := HQ5.out
      rw [if_neg (by rw [hld]; simp), List.append_nil] at h9
      exact h9
     clear HQ5 hld
     refine wp_region_held_drew (S := (fun W => W.cell? ⟨r, 6, none⟩ = some (.bool false) ∧ W.cell? ⟨r, 4, none⟩ = some (.int .i64 R2.com) ∧ W.cell? ⟨r, 7, none⟩ = some (.int .i64 R2.own))) (by kernel_rfl) ⟨c6, d4, c7⟩ (fun hHeld => ?_)
     refine wT 0 (v := ?v0u11) (by kernel_rfl) rfl (by rfl) ?y0u11 (fun _ _ _ h => h) (by assumption) ?r0u11
     case y0u11 => (intro w hSw; (obtain ⟨hS0, hS1, hS2⟩ := hSw); go_simp <;> with_reducible rfl)
     try simp only [sgl, Act.put]
     refine wT 1 (v := ?v1u12) (by kernel_rfl) rfl (by rfl) ?y1u12 (fun _ _ _ h => h) (by assumption) ?r1u12
     case y1u12 => (intro w hSw; (obtain ⟨hS0, hS1, hS2⟩ := hSw); go_simp <;> with_reducible rfl)
     try simp only [sgl, Act.put]
     refine wT 2 (v := ?v2u13) (by kernel_rfl) rfl (by rfl) ?y2u13 (fun _ _ _ h => h) (by assumption) ?r2u13
     case y2u13 => (intro w hSw; (obtain ⟨hS0, hS1, hS2⟩ := hSw); go_simp <;> with_reducible rfl)
     try simp only [sgl, Act.put]
     refine wT 3 (v := ?v3u14) (by kernel_rfl) rfl (by rfl) ?y3u14 (fun _ _ _ h => h) (by assumption) ?r3u14
     case y3u14 => (intro w hSw; (obtain ⟨hS0, hS1, hS2⟩ := hSw); go_simp <;> with_reducible rfl)
     try simp only [sgl, Act.put]
     refine wT 4 (v := ?v4u15) (by kernel_rfl) rfl (by rfl) ?y4u15 (fun _ _ _ h => h) (by assumption) ?r4u15
     case y4u15 => (intro w hSw; (obtain ⟨hS0, hS1, hS2⟩ := hSw); go_simp <;> with_reducible rfl)
     try simp only [sgl, Act.put]
     refine wS 5 (by kernel_rfl) rfl (by rfl) (fun _ _ _ h => h) (by assumption) ?_
     try simp only [sgl, Act.put]
     refine wS 6 (by kernel_rfl) rfl (by rfl) (fun _ _ _ h => h) (by assumption) ?_
     try simp only [sgl, Act.put]
     refine wS 7 (by kernel_rfl) rfl (by rfl) (fun _ _ _ h => h) (by assumption) ?_
     try simp only [sgl, Act.put]
     refine wS 8 (by kernel_rfl) rfl (by rfl) (fun _ _ _ h => h) (by assumption) ?_
     try simp only [sgl, Act.put]
     refine wS 9 (by kernel_rfl) rfl (by rfl) (fun _ _ _ h => h) (by assumption) ?_
     try simp only [sgl, Act.put]
     refine wS 10 (by kernel_rfl) rfl (by rfl) (fun _ _ _ h => h) (by assumption) ?_
     try simp only [sgl, Act.put]
     refine wS 11 (by kernel_rfl) rfl (by rfl) (fun _ _ _ h => h) (by assumption) ?_
     try simp only [sgl, Act.put]
     refine wS 12 (by kernel_rfl) rfl (by rfl) (fun _ _ _ h => h) (by assumption) ?_
     try simp only [sgl, Act.put]
     refine wS 13 (by kernel_rfl) rfl (by rfl) (fun _ _ _ h => h) (by assumption) ?_
     try simp only [sgl, Act.put]
     refine wT 14 (v := ?v14u16) (by kernel_rfl) rfl (by rfl) ?y14u16 (fun _ _ _ h => h) (by assumption) ?r14u16
     case y14u16 => (intro w hSw; (obtain ⟨hS0, hS1, hS2⟩ := hSw); go_simp <;> with_reducible rfl)
     try simp only [sgl, Act.put]
     refine wpAnyH_done (by kernel_rfl) ?_ _
     clear hHeld
     clear c6 c7
     go_wp2_with fail
     have HR6 := Lib.hid ((HR5.out.keep0 ((Keeps.refl [] w5).drew)).setCom (R2.com + 1) (by omega) ((R2.com : Int) + 1) (by omega))
     obtain ⟨_, C6, _, hv6⟩ := HR6.out.ag
     have c46 : ((w5.setCell ⟨r, 4, none⟩ (.int .i64 ((R2.com : Int) + 1))).drew).cell? ⟨r, 4, none⟩ = some (.int .i64 ((R2.com + 1 : Nat) : Int)) := (rpcells hv6).2.2.2.2.1
     clear hv6
     go_roundw
     case rel => exact ⟨{ R2 with st := st', ap := R2.ap + 1, com := R2.com + 1 }, out2, M5, tg5, by show _ ≤ R2.com + 1; omega, HR6, HE6.out w5.drew ((Keeps.refl [] w5).drew), HX6, HQ6⟩
     case measure => rw [c46, c4]; simp [intOf]; omega
   | true =>
    rw [hld] at c6
    by_cases hown : R2.own ≤ R2.com
    ·have hown2 : (R2.own : Int) ≤ (R2.com : Int) := by omega
     have HQ6 : Hid (rpApply R n = ((rpSteps ((R.x.log.take n.toNat).drop (R2.com + 1)) { R2 with st := st', ap := R2.ap + 1, com := R2.com + 1 }).1, (out2 ++ [⟨fr, answerM etg ac an⟩]) ++ (rpSteps ((R.x.log.take n.toNat).drop (R2.com + 1)) { R2 with st := st', ap := R2.ap + 1, com := R2.com + 1 }).2)) := by
      have h9 := HQ5.out
      rw [if_pos ⟨hld, hown⟩] at h9
      exact h9
     clear HQ5 hld
     refine wp_region_held_drew (S := (fun W => W.cell? ⟨r, 6, none⟩ = some (.bool true) ∧ W.cell? ⟨r, 4, none⟩ = some (.int .i64 R2.com) ∧ W.cell? ⟨r, 7, none⟩ = some (.int .i64 R2.own))) (by kernel_rfl) ⟨c6, d4, c7⟩ (fun hHeld => ?_)
     refine wT 0 (v := ?v0u17) (by kernel_rfl) rfl (by rfl) ?y0u17 (fun _ _ _ h => h) (by assumption) ?r0u17
     case y0u17 => (intro w hSw; (obtain ⟨hS0, hS1, hS2⟩ := hSw); go_simp <;> with_reducible rfl)
     try simp only [sgl, Act.put]
     refine wT 1 (v := ?v1u18) (by kernel_rfl) rfl (by rfl) ?y1u18 (fun _ _ _ h => h) (by assumption) ?r1u18
     case y1u18 => (intro w hSw; (obtain ⟨hS0, hS1, hS2⟩ := hSw); go_simp <;> with_reducible rfl)
     try simp only [sgl, Act.put]
     refine wT 2 (v := ?v2u19) (by kernel_rfl) rfl (by rfl) ?y2u19 (fun _ _ _ h => h) (by assumption) ?r2u19
     case y2u19 => (intro w hSw; (obtain ⟨hS0, hS1, hS2⟩ := hSw); go_simp <;> with_reducible rfl)
     try simp only [sgl, Act.put]
     refine wT 3 (v := ?v3u20) (by kernel_rfl) rfl (by rfl) ?y3u20 (fun _ _ _ h => h) (by assumption) ?r3u20
     case y3u20 => (intro w hSw; (obtain ⟨hS0, hS1, hS2⟩ := hSw); go_simp <;> with_reducible rfl)
     try simp only [sgl, Act.put]
     refine wT 4 (v := ?v4u21) (by kernel_rfl) rfl (by rfl) ?y4u21 (fun _ _ _ h => h) (by assumption) ?r4u21
     case y4u21 => (intro w hSw; (obtain ⟨hS0, hS1, hS2⟩ := hSw); go_simp <;> with_reducible rfl)
     try simp only [sgl, Act.put]
     refine wT 5 (v := ?v5u22) (by kernel_rfl) rfl (by rfl) ?y5u22 (fun _ _ _ h => h) (by assumption) ?r5u22
     case y5u22 => (intro w hSw; (obtain ⟨hS0, hS1, hS2⟩ := hSw); go_simp <;> with_reducible rfl)
     try simp only [sgl, Act.put]
     refine wT 6 (v := ?v6u23) (by kernel_rfl) rfl (by rfl) ?y6u23 (fun _ _ _ h => h) (by assumption) ?r6u23
     case y6u23 => (intro w hSw; (obtain ⟨hS0, hS1, hS2⟩ := hSw); go_simp <;> with_reducible rfl)
     try simp only [sgl, Act.put]
     refine wT 7 (v := ?v7u24) (by kernel_rfl) rfl (by rfl) ?y7u24 (fun _ _ _ h => h) (by assumption) ?r7u24
     case y7u24 => (intro w hSw; (obtain ⟨hS0, hS1, hS2⟩ := hSw); go_simp <;> with_reducible rfl)
     try simp only [sgl, Act.put]
     refine wT 8 (v := ?v8u25) (by kernel_rfl) rfl (by rfl) ?y8u25 (fun _ _ _ h => h) (by assumption) ?r8u25
     case y8u25 => (intro w hSw; (obtain ⟨hS0, hS1, hS2⟩ := hSw); go_simp <;> with_reducible rfl)
     try simp only [sgl, Act.put]
     refine wT 9 (v := ?v9u26) (by kernel_rfl) rfl (by rfl) ?y9u26 (fun _ _ _ h => h) (by assumption) ?r9u26
     case y9u26 => (intro w hSw; (obtain ⟨hS0, hS1, hS2⟩ := hSw); go_simp <;> with_reducible rfl)
     try simp only [sgl, Act.put]
     refine wT 10 (v := ?v10u27) (by kernel_rfl) rfl (by rfl) ?y10u27 (fun _ _ _ h => h) (by assumption) ?r10u27
     case y10u27 => (intro w hSw; (obtain ⟨hS0, hS1, hS2⟩ := hSw); go_simp <;> with_reducible rfl)
     try simp only [sgl, Act.put]
     refine wT 11 (v := ?v11u28) (by kernel_rfl) rfl (by rfl) ?y11u28 (fun _ _ _ h => h) (by assumption) ?r11u28
     case y11u28 => (intro w hSw; (obtain ⟨hS0, hS1, hS2⟩ := hSw); go_simp <;> with_reducible rfl)
     try simp only [sgl, Act.put]
     refine wT 12 (v := ?v12u29) (by kernel_rfl) rfl (by rfl) ?y12u29 (fun _ _ _ h => h) (by assumption) ?r12u29
     case y12u29 => (intro w hSw; (obtain ⟨hS0, hS1, hS2⟩ := hSw); go_simp <;> with_reducible rfl)
     try simp only [sgl, Act.put]
     refine wT 13 (v := ?v13u30) (by kernel_rfl) rfl (by rfl) ?y13u30 (fun _ _ _ h => h) (by assumption) ?r13u30
     case y13u30 => (intro w hSw; (obtain ⟨hS0, hS1, hS2⟩ := hSw); go_simp <;> with_reducible rfl)
     try simp only [sgl, Act.put]
     refine wT 14 (v := ?v14u31) (by kernel_rfl) rfl (by rfl) ?y14u31 (fun _ _ _ h => h) (by assumption) ?r14u31
     case y14u31 => (intro w hSw; (obtain ⟨hS0, hS1, hS2⟩ := hSw); go_simp <;> with_reducible rfl)
     try simp only [sgl, Act.put]
     refine wpAnyH_done (by kernel_rfl) ?_ _
     clear hHeld
     have q7 : w5.drew.cell? ⟨gE, 7, none⟩ = some (.int .i64 fr) := HB5.out.cell 7
     have q8 : w5.drew.cell? ⟨gE, 8, none⟩ = some (.int .i64 etg) := HB5.out.cell 8
     have HR5d := Lib.hid (HR5.out.keep0 ((Keeps.refl [] w5).drew))
     obtain ⟨qs, e1, e2, e3⟩ := HR5d.out.qs
     have He1 := Lib.hid e1; have He2 := Lib.hid e2; have He3 := Lib.hid e3
     obtain ⟨Ao, co, rfl, _⟩ := own_slice3 e2
     have hbs := Lib.hid HR5d.out.k.size
     have hoc : out2.length ≤ 128 := Nat.le_trans hol hcm2
     have HE5d := Lib.hid (HE5.out.keep (M' := []) ((Keeps.refl [] w5).drew) (by simp))
     have d4d : w5.drew.cell? ⟨r, 4, none⟩ = some (.int .i64 R2.com) := d4
     have f4d : w5.drew.frozen? ⟨r, 4, none⟩ = false := f4
     have hrld : r < w5.drew.heap.size := hrl
     clear e1 e2 e3 c6 c7 d4 f4 hrl HE6 HE5 HR5 HB5
     generalize w5.drew = w6 at *
     go_wp2_with (at_builtin; go_must (refine wpList_append_any _ rfl (.tmp 55) (.tmp 64) 27 rfl w.heap.size 39 i0 _ 19 192 Tryz.underlying27 Hi0.out Hz0.out Hz1.out Hz2.out rfl (by omega) (.slice Ao out2.length co) out2.length (qs.flatMap srCell) rfl (own_below He2.out (below_new' w6 _)) (w6.heap.size + 1) (some ⟨w6.heap.size, 0, none⟩) 1 1 [.int .i64 fr, .int .i64 2, .int .i64 0, .int .i64 0, .int .i64 0, .int .i64 0, .int .i64 0, .slice none 0 0, .string ⟨#[]⟩, .int .i64 0, .int .i64 0, .int .i64 etg, .int .i64 ac, .int .u64 an, .int .i64 0, .int .i64 0, .slice none 0 0, .int .i64 0, .int .i64 0] rfl (reads_new w6 _ 19 1 _ rfl) (by intro u hu; simp only [List.mem_cons, List.not_mem_nil, or_false] at hu; rcases hu with rfl | rfl | rfl | rfl | rfl | rfl | rfl | rfl | rfl | rfl | rfl | rfl | rfl | rfl | rfl | rfl | rfl | rfl | rfl <;> rfl) (by unfold maxLen; omega) (by omega) (by have := hbs.out; rw [World.size_alloc]; omega) ?_))
     intro v9 w9 hown9 hg9 hat9
     obtain ⟨M9, tg9, hr9, hx9, hk9⟩ := HR5d.out.put (s := ⟨fr, answerM etg ac an⟩) (dv := .slice none 0 0) (lv := .slice none 0 0) He1.out He2.out He3.out (fun L hL => ⟨Ds.nil _ _, Ens.nil _ _⟩) hg9 (by rw [World.size_alloc]; exact hat9) hown9
     have HE9 : Hid (Ens w9 M9 (.slice (some ⟨g, off, none⟩) R.x.log.length R.x.log.length) R.x.log) := (HE5d.out.avoid (M' := M9) hx9.new).keep hk9 (fun q hq => .inl (hx9.sub q (mem_sel.1 hq).1))
     have HE9b : Hid (Ens (w9.setCell ⟨r, 4, none⟩ (.int .i64 ((R2.com : Int) + 1))) M9 (.slice (some ⟨g, off, none⟩) R.x.log.length R.x.log.length) R.x.log) := HE9.out.keep (M' := [r]) ((Keeps.refl [r] w9).setCell (by simp) _) (fun x hx => by
      obtain ⟨_, C9, _, hv9⟩ := hr9.ag
      simp at hx; subst hx; exact .inl hv9.rM)
     obtain ⟨_, C9, _, hv9⟩ := id hr9.ag
     have c49 : w9.cell? ⟨r, 4, none⟩ = some (.int .i64 R2.com) := (rpcells hv9).2.2.2.2.1
     have f49 := hv9.blk.frozen 4
     have hr9s := hv9.blk.lt
     have HR6 := Lib.hid (hr9.setCom (R2.com + 1) (by omega) ((R2.com : Int) + 1) (by omega))
     obtain ⟨_, C6, _, hv6⟩ := HR6.out.ag
     have c46 : (w9.setCell ⟨r, 4, none⟩ (.int .i64 ((R2.com : Int) + 1))).cell? ⟨r, 4, none⟩ = some (.int .i64 ((R2.com + 1 : Nat) : Int)) := (rpcells hv6).2.2.2.2.1
     clear hv6 hv9 hr9 hx9 hk9 hown9 hg9 hat9 HR5d HE5d He1 He2 He3 q7 q8 d4d f4d hrld
     go_wp2_with fail
     go_roundw
     case rel => exact ⟨{ R2 with st := st', ap := R2.ap + 1, com := R2.com + 1 }, out2 ++ [⟨fr, answerM etg ac an⟩], M9, tg9, by rw [List.length_append]; show _ ≤ R2.com + 1; simp; exact hol, HR6, HE9b, HX6, HQ6⟩
     case measure => rw [c46, c4]; simp [intOf]; omega
    ·have hown2 : ¬ (R2.own : Int) ≤ (R2.com : Int) := by omega
     have HQ6 : Hid (rpApply R n = ((rpSteps ((R.x.log.take n.toNat).drop (R2.com + 1)) { R2 with st := st', ap := R2.ap + 1, com := R2.com + 1 }).1, out2 ++ (rpSteps ((R.x.log.take n.toNat).drop (R2.com + 1)) { R2 with st := st', ap := R2.ap + 1, com := R2.com + 1 }).2)) := by
      have h9 := HQ5.out
      rw [if_neg (fun h => hown h.2), List.append_nil] at h9
      exact h9
     clear HQ5 hld
     refine wp_region_held_drew (S := (fun W => W.cell? ⟨r, 6, none⟩ = some (.bool true) ∧ W.cell? ⟨r, 4, none⟩ = some (.int .i64 R2.com) ∧ W.cell? ⟨r, 7, none⟩ = some (.int .i64 R2.own))) (by kernel_rfl) ⟨c6, d4, c7⟩ (fun hHeld => ?_)
     refine wT 0 (v := ?v0u32) (by kernel_rfl) rfl (by rfl) ?y0u32 (fun _ _ _ h => h) (by assumption) ?r0u32
     case y0u32 => (intro w hSw; (obtain ⟨hS0, hS1, hS2⟩ := hSw); go_simp <;> with_reducible rfl)
     try simp only [sgl, Act.put]
     refine wT 1 (v := ?v1u33) (by kernel_rfl) rfl (by rfl) ?y1u33 (fun _ _ _ h => h) (by assumption) ?r1u33
     case y1u33 => (intro w hSw; (obtain ⟨hS0, hS1, hS2⟩ := hSw); go_simp <;> with_reducible rfl)
     try simp only [sgl, Act.put]
     refine wT 2 (v := ?v2u34) (by kernel_rfl) rfl (by rfl) ?y2u34 (fun _ _ _ h => h) (by assumption) ?r2u34
     case y2u34 => (intro w hSw; (obtain ⟨hS0, hS1, hS2⟩ := hSw); go_simp <;> with_reducible rfl)
     try simp only [sgl, Act.put]
     refine wT 3 (v := ?v3u35) (by kernel_rfl) rfl (by rfl) ?y3u35 (fun _ _ _ h => h) (by assumption) ?r3u35
     case y3u35 => (intro w hSw; (obtain ⟨hS0, hS1, hS2⟩ := hSw); go_simp <;> with_reducible rfl)
     try simp only [sgl, Act.put]
     refine wT 4 (v := ?v4u36) (by kernel_rfl) rfl (by rfl) ?y4u36 (fun _ _ _ h => h) (by assumption) ?r4u36
     case y4u36 => (intro w hSw; (obtain ⟨hS0, hS1, hS2⟩ := hSw); go_simp <;> with_reducible rfl)
     try simp only [sgl, Act.put]
     refine wT 5 (v := ?v5u37) (by kernel_rfl) rfl (by rfl) ?y5u37 (fun _ _ _ h => h) (by assumption) ?r5u37
     case y5u37 => (intro w hSw; (obtain ⟨hS0, hS1, hS2⟩ := hSw); go_simp <;> with_reducible rfl)
     try simp only [sgl, Act.put]
     refine wT 6 (v := ?v6u38) (by kernel_rfl) rfl (by rfl) ?y6u38 (fun _ _ _ h => h) (by assumption) ?r6u38
     case y6u38 => (intro w hSw; (obtain ⟨hS0, hS1, hS2⟩ := hSw); go_simp <;> with_reducible rfl)
     try simp only [sgl, Act.put]
     refine wT 7 (v := ?v7u39) (by kernel_rfl) rfl (by rfl) ?y7u39 (fun _ _ _ h => h) (by assumption) ?r7u39
     case y7u39 => (intro w hSw; (obtain ⟨hS0, hS1, hS2⟩ := hSw); go_simp <;> with_reducible rfl)
     try simp only [sgl, Act.put]
     refine wT 8 (v := ?v8u40) (by kernel_rfl) rfl (by rfl) ?y8u40 (fun _ _ _ h => h) (by assumption) ?r8u40
     case y8u40 => (intro w hSw; (obtain ⟨hS0, hS1, hS2⟩ := hSw); go_simp <;> with_reducible rfl)
     try simp only [sgl, Act.put]
     refine wT 9 (v := ?v9u41) (by kernel_rfl) rfl (by rfl) ?y9u41 (fun _ _ _ h => h) (by assumption) ?r9u41
     case y9u41 => (intro w hSw; (obtain ⟨hS0, hS1, hS2⟩ := hSw); go_simp <;> with_reducible rfl)
     try simp only [sgl, Act.put]
     refine wT 10 (v := ?v10u42) (by kernel_rfl) rfl (by rfl) ?y10u42 (fun _ _ _ h => h) (by assumption) ?r10u42
     case y10u42 => (intro w hSw; (obtain ⟨hS0, hS1, hS2⟩ := hSw); go_simp <;> with_reducible rfl)
     try simp only [sgl, Act.put]
     refine wT 11 (v := ?v11u43) (by kernel_rfl) rfl (by rfl) ?y11u43 (fun _ _ _ h => h) (by assumption) ?r11u43
     case y11u43 => (intro w hSw; (obtain ⟨hS0, hS1, hS2⟩ := hSw); go_simp <;> with_reducible rfl)
     try simp only [sgl, Act.put]
     refine wT 12 (v := ?v12u44) (by kernel_rfl) rfl (by rfl) ?y12u44 (fun _ _ _ h => h) (by assumption) ?r12u44
     case y12u44 => (intro w hSw; (obtain ⟨hS0, hS1, hS2⟩ := hSw); go_simp <;> with_reducible rfl)
     try simp only [sgl, Act.put]
     refine wT 13 (v := ?v13u45) (by kernel_rfl) rfl (by rfl) ?y13u45 (fun _ _ _ h => h) (by assumption) ?r13u45
     case y13u45 => (intro w hSw; (obtain ⟨hS0, hS1, hS2⟩ := hSw); go_simp <;> with_reducible rfl)
     try simp only [sgl, Act.put]
     refine wT 14 (v := ?v14u46) (by kernel_rfl) rfl (by rfl) ?y14u46 (fun _ _ _ h => h) (by assumption) ?r14u46
     case y14u46 => (intro w hSw; (obtain ⟨hS0, hS1, hS2⟩ := hSw); go_simp <;> with_reducible rfl)
     try simp only [sgl, Act.put]
     refine wpAnyH_done (by kernel_rfl) ?_ _
     clear hHeld
     clear c6 c7
     go_wp2_with fail
     have HR6 := Lib.hid ((HR5.out.keep0 ((Keeps.refl [] w5).drew)).setCom (R2.com + 1) (by omega) ((R2.com : Int) + 1) (by omega))
     obtain ⟨_, C6, _, hv6⟩ := HR6.out.ag
     have c46 : ((w5.setCell ⟨r, 4, none⟩ (.int .i64 ((R2.com : Int) + 1))).drew).cell? ⟨r, 4, none⟩ = some (.int .i64 ((R2.com + 1 : Nat) : Int)) := (rpcells hv6).2.2.2.2.1
     clear hv6
     go_roundw
     case rel => exact ⟨{ R2 with st := st', ap := R2.ap + 1, com := R2.com + 1 }, out2, M5, tg5, by show _ ≤ R2.com + 1; omega, HR6, HE6.out w5.drew ((Keeps.refl [] w5).drew), HX6, HQ6⟩
     case measure => rw [c46, c4]; simp [intOf]; omega
  ·have hP : Hid (∀ ov, RoSt w M tg r d R2 out2 ov wr M2 tg2 → ROPost M tg r d (rpApply R n) w (.returned ov) wr) := fun ov h => by
    have h1 : (R.x.log.take n.toNat).drop R2.com = [] := List.drop_eq_nil_of_le (by rw [List.length_take]; omega)
    have h2 := HQ.out
    rw [h1] at h2
    rw [h2]
    exact ⟨ov, M2, tg2, rfl, by show RoSt w M tg r d R2 (out2 ++ []) ov wr M2 tg2; rw [List.append_nil]; exact h⟩
   have hPP := Lib.hid (hP.out _ HR.out)
   clear hP HR HE HQ HX Hv2
   go_wp2_with fail
   go_ret
   exact hPP.out
end
end Go.Proofs.YtdaceeijifjpeaaGreatDoor.Vi
end
section
namespace Go.Proofs.YtdaceeijifjpeaaGreatDoor.Vi
open Go.RowKit Base Mem Go.Shelf Tape
open Lead (VoteD VoteAt promiseS wonS accS medS termS newVote)
section
variable {w w' wx wy : World} {M M' Mk My : List Nat} {tg tg' tgk tgy : Nat → Nat} {r d : Nat} {R R' : RpD} {C : RpC} {T : List Nat} {out : List SentD} {ov : Value}
/-- More messages. -/
theorem RoSt.grow {w1 w2 : World} {ov' : Value} {news : List (SentD × Value × Value)} {qs : List (SentD × Value × Value)} (h1 : RoSt w M tg r d R' out ov w1 My tgy) (e1 : qs.map (·.1) = out) (e2 : w1.ownsRow w.heap.size 39 19 ov out.length (qs.flatMap srCell)) (e3 : ∀ q ∈ qs, ∀ L, (∀ g ∈ L, g < w.heap.size) → MsgAt w1 (L ++ My) q.1.m q.2.1 q.2.2)
  (hds : ∀ q ∈ news, ∀ L, (∀ g ∈ L, g < w.heap.size) → MsgAt w1 (L ++ My) q.1.m q.2.1 q.2.2) (hg : w1.grownBy w2 ov.ownBlock) (hat : ov'.ownBlock = ov.ownBlock ∨ ov'.ownBlock = some w1.heap.size)
  (hrw : w2.ownsRow w.heap.size 39 19 ov' (out.length + news.length) (qs.flatMap srCell ++ news.flatMap srCell)) :
  ∃ M2 tg2, RoSt w M tg r d R' (out ++ news.map (·.1)) ov' w2 M2 tg2 ∧ Ext w1 My tgy w2 M2 tg2 ∧ Keeps (sel My tgy [99]) w1 w2 := by
 have k12 : Keeps ov.ownBlock.toList w1 w2 := ((Keeps.refl [] w1).mono (by simp)).grown hg (fun g hg => .inl (by simpa using hg))
 have hks : Keeps (sel My tgy [99]) w1 w2 := k12.to_sel (fun g hg => .inl (by have := h1.far g (by simpa using hg); simp [this.1, this.2]))
 have hx2 : Ext w1 My tgy w2 (ov'.ownBlock.toList ++ My) (fun x => if ov'.ownBlock = some x then 99 else tgy x) := Ext.add h1.x.lt hks.size _ _ (fun g hg => by
  refine ⟨?_, (hrw.lt g hg).2⟩
  rcases hat with h4 | h4
  ·exact .inl (h1.far g (by rw [← h4, hg]))
  ·rw [h4] at hg; injection hg with hg; subst hg; right; omega)
 obtain ⟨ho, C, hC, hv⟩ := h1.ag
 refine ⟨_, _, ⟨⟨ho, C, hC, hv.keepT hx2 hks (by simp)⟩, h1.x.trans hx2 h1.k.size, h1.k.trans k12 (fun g hg => .inr ?_), ⟨qs ++ news, by rw [List.map_append, e1], ?_, fun q hq L hL => ?_⟩, fun g hg => ⟨List.mem_append_left _ (by simpa using hg), by simp [hg]⟩⟩, hx2, hks⟩
 ·exact (e2.lt g (by simpa using hg)).1
 ·rw [List.length_append, List.flatMap_append, List.length_map]
  exact hrw
 ·have hout : ∀ q' : SentD × Value × Value, MsgAt w1 (L ++ My) q'.1.m q'.2.1 q'.2.2 → MsgAt w2 (L ++ (ov'.ownBlock.toList ++ My)) q'.1.m q'.2.1 q'.2.2 := fun q' hq' => by
   refine (hq'.avoid (M' := L ++ (ov'.ownBlock.toList ++ My)) (fun g hg => ?_)).keep k12 (fun g hg => .inl ?_)
   ·rcases List.mem_append.1 hg with h4 | h4
    ·exact .inl (List.mem_append_left _ h4)
    ·rcases hx2.new g h4 with h5 | h5
     ·exact .inl (List.mem_append_right _ h5)
     ·exact .inr h5
   ·exact List.mem_append_right _ (hx2.sub g (h1.far g (by simpa using hg)).1)
  rcases List.mem_append.1 hq with h4 | h4
  ·exact hout q (e3 q h4 L hL)
  ·exact hout _ (hds q h4 L hL)
/-- From an elder world on. -/
theorem RoSt.base {w1 : World} {M1 : List Nat} {tg1 : Nat → Nat} (h : RoSt w1 M1 tg1 r d R out ov wx Mk tgk) (hx : Ext w M tg w1 M1 tg1) (hk : Keeps (sel M tg (List.range 30)) w w1) : RoSt w M tg r d R out ov wx Mk tgk := by
 obtain ⟨qs, h1, h2, h3⟩ := h.qs
 exact ⟨h.ag, hx.trans h.x hk.size, Ext.keeps hx hk h.k, ⟨qs, h1, own_low3 h2 hk.size, fun q hq L hL => h3 q hq L (fun g hg => Nat.lt_of_lt_of_le (hL g hg) hk.size)⟩, h.far⟩
theorem ROPost.base {w1 : World} {M1 : List Nat} {tg1 : Nat → Nat} {P : RpD × List SentD} {e : Ending} (h : ROPost M1 tg1 r d P w1 e w') (hx : Ext w M tg w1 M1 tg1) (hk : Keeps (sel M tg (List.range 30)) w w1) : ROPost M tg r d P w e w' := by
 obtain ⟨v, M', tg', h1, h2⟩ := h
 exact ⟨v, M', tg', h1, h2.base hx hk⟩
/-- The vote turned. -/
theorem RpV.setV (h : RpV w M tg r R C) (hM : ∀ g ∈ M, g < w.heap.size) {v v' : VoteD} (hv : R.v = some v) (hk : Keeps [C.vb] w w') (hb : VoteAt w' M C.vb v') : RpV w' M tg r { R with v := some v' } C ∧ Ext w M tg w' M tg ∧ Keeps (sel M tg [6]) w w' := by
 obtain ⟨h1, h2, h3⟩ := h.vt v hv
 have hn : ∀ g t, tg g = t → t ≠ 6 → g ∉ [C.vb] := fun g t e1 e2 hm => by simp at hm; subst hm; exact e2 (e1 ▸ h3)
 refine ⟨⟨?_, ?_, h.mc.keep hk (fun x hx => hn x _ (h.xM x hx).2 (by omega)), fun x hx => ?_, h.rM, h.tr, h.sM, h.ts, h.pM, h.tp, h.yM, h.xM, h.nN⟩, Ext.refl hM hk.size, hk.to_sel (fun g hg => by simp at hg; subst hg; exact .inl ⟨h2, by rw [h3]; simp⟩)⟩
 ·have h9 := hk.blk h.blk (hn _ _ h.tr (by omega))
  simpa [rpCells, hv] using h9
 ·refine h.st.keepZ hk (fun g hg => by simp at hg; subst hg; exact .inl h2) (fun g hg => ?_)
  rcases List.mem_cons.1 hg with rfl | hg
  ·exact hn _ _ h.ts (by omega)
  ·rcases List.mem_cons.1 hg with rfl | hg
   ·exact hn _ _ h.tp (by omega)
   ·exact hn _ _ (h.yM g hg).2 (by omega)
 ·injection hx with hx
  subst hx
  exact ⟨hb, h2, h3⟩
theorem sr_one {W : World} {L : List Nat} {q : SentD × Value × Value} (h : MsgAt W L q.1.m q.2.1 q.2.2) : ∀ u ∈ srCell q, u.oneCell' = true := by
 obtain ⟨⟨dst, m⟩, dv, lv⟩ := q
 obtain ⟨Aa, na, e1, _⟩ := h.1.len
 obtain ⟨Ba, nb, e2, _⟩ := h.2.len
 simp only [] at e1 e2
 subst e1 e2
 intro u hu
 simp only [srCell, sCell, mCell, eCell, List.cons_append, List.nil_append, List.mem_cons, List.not_mem_nil, or_false] at hu
 rcases hu with rfl | rfl | rfl | rfl | rfl | rfl | rfl | rfl | rfl | rfl | rfl | rfl | rfl | rfl | rfl | rfl | rfl | rfl | rfl <;> rfl
theorem acc_vt {nodes : Int} {v : VoteD} (h : VtOk nodes v) (l : List Int) : VtOk nodes { v with acc := l } := h
set_option maxRecDepth 100000 in
set_option maxHeartbeats 2000000 in
theorem rpcounted_any (h : RpAt w M tg r d R) (hM : ∀ g ∈ M, g < w.heap.size) (h0 : 0 ∉ M) (hap : R.ap = R.com) (v : VoteD) (hv : R.v = some v) (fr n : Int) (mx : Int) (hm : w.cell? ⟨0, 0, none⟩ = some (.int .i64 mx)) :
  Calls Tryz.prog 44 #[.pointer (some ⟨r, 0, none⟩), .int .i64 fr, .int .i64 n] w fun e w' => ROPost M tg r d (rpCounted R v fr n) w e w' := by
 have hw0 : 0 < w.heap.size := by
  have := World.block_lt_of_cell? w _ hm
  simpa using this
 obtain ⟨ho, C, hC, hV⟩ := h
 have hvo := ho.2.2.2.2.2.1 v hv
 have hn := hvo.1
 have hnn := ho.1
 obtain ⟨hva, hvM, hvt⟩ := hV.vt v hv
 have hac := Lib.hid (Lead.accepted_any M C.vb v fr n w hva (by omega) (by omega))
 obtain ⟨-, -, -, -, -, c5, -⟩ := rpcells hV
 rw [hv] at c5
 have c5 : w.cell? ⟨r, 5, none⟩ = some (.pointer (some ⟨C.vb, 0, none⟩)) := c5
 have HP : Hid (∀ w1, VoteAt w1 M C.vb { v with acc := accS v fr n } → Keeps [C.vb] w w1 → Calls Tryz.prog 77 #[.pointer (some ⟨r, 0, none⟩), .int .i64 (medS (accS v fr n) v.nodes.toNat)] w1 fun e w' => ROPost M tg r d (rpCounted R v fr n) w e w') := fun w1 hb hk => by
  obtain ⟨a1, a2, a3⟩ := hV.setV hM hv hk hb
  have hc0 : w1.cell? ⟨0, 0, none⟩ = some (.int .i64 mx) := (hk.cell (p := ⟨0, 0, none⟩) hw0 (by simp; intro h; exact h0 (h ▸ hvM))).trans hm
  have hok : RpOk { R with v := some { v with acc := accS v fr n } } := ⟨ho.1, ho.2.1, ho.2.2.1, ho.2.2.2.1, ho.2.2.2.2.1, fun x hx => by injection hx with hx; subst hx; exact acc_vt hvo _, fun _ => rfl⟩
  refine (rpapply_any ⟨hok, C, hC, a1⟩ a2.lt h0 hap _ mx hc0).mono ?_
  intro e w' hp
  exact ROPost.base hp a2 (a3.sel_mono (by simp))
 have HV : Hid (∀ e w', ROPost M tg r d (rpCounted R v fr n) w e w' → ∃ x, e = .returned x) := fun e w' h => by obtain ⟨x, _, _, h1, _⟩ := h; exact ⟨x, h1⟩
 generalize rpCounted R v fr n = P at *
 clear ho hV hva hvo hm hv hn hnn
 go_enter Tryz.func44, Tryz.ntmps44
 go_wp2_with fail
 refine hac.out.mono ?_
 rintro e w1 ⟨rfl, hb1, hk1⟩
 have hP1 := Lib.hid (HP.out w1 hb1 hk1)
 clear hb1 hk1 hac HP
 go_wp2_with fail
 refine hP1.out.mono ?_
 intro e w2 hp
 obtain ⟨x, rfl⟩ := HV.out _ _ hp
 have Hp := Lib.hid hp
 clear hp
 go_wp2_with fail
 go_ret
 exact Hp.out
/-- It leads no longer. -/
def DnPost (M : List Nat) (tg : Nat → Nat) (r d : Nat) (R : RpD) (w : World) (e : Ending) (w' : World) : Prop := e = .returned (.tuple #[]) ∧ RpAt w' M tg r d (rpDown R) ∧ Ext w M tg w' M tg ∧ Keeps (sel M tg [1]) w w'
theorem RpV.down (h : RpV w M tg r R C) (hM : ∀ g ∈ M, g < w.heap.size) (hk : Keeps [r] w w') (hb : Blk w' r 72 (rpCells (rpDown R) C)) : RpV w' M tg r (rpDown R) C ∧ Ext w M tg w' M tg ∧ Keeps (sel M tg [1]) w w' := by
 have hn : ∀ g t, tg g = t → t ≠ 1 → g ∉ [r] := fun g t h1 h2 hm => by simp at hm; subst hm; exact h2 (h1 ▸ h.tr)
 refine ⟨⟨hb, ?_, h.mc.keep hk (fun x hx => hn x _ (h.xM x hx).2 (by omega)), fun v hv => (nomatch hv), h.rM, h.tr, h.sM, h.ts, h.pM, h.tp, h.yM, h.xM, h.nN⟩, Ext.refl hM hk.size, hk.to_sel (fun g hg => by simp at hg; subst hg; exact .inl ⟨h.rM, by rw [h.tr]; simp⟩)⟩
 refine h.st.keepZ hk (fun g hg => by simp at hg; subst hg; exact .inl h.rM) (fun g hg => ?_)
 rcases List.mem_cons.1 hg with rfl | hg
 ·exact hn _ _ h.ts (by omega)
 ·rcases List.mem_cons.1 hg with rfl | hg
  ·exact hn _ _ h.tp (by omega)
  ·exact hn _ _ (h.yM g hg).2 (by omega)
theorem down_ok (h : RpOk R) : RpOk (rpDown R) := ⟨h.1, h.2.1, h.2.2.1, h.2.2.2.1, h.2.2.2.2.1, fun v hv => (nomatch hv), fun hl => (nomatch hl)⟩
set_option maxRecDepth 100000 in
theorem rpdown_any (h : RpAt w M tg r d R) (hM : ∀ g ∈ M, g < w.heap.size) :
  Calls Tryz.prog 31 #[.pointer (some ⟨r, 0, none⟩)] w fun e w' => DnPost M tg r d R w e w' := by
 obtain ⟨ho, C, hC, hV⟩ := h
 obtain ⟨-, -, -, -, -, c5, c6, -, hrl⟩ := rpcells hV
 have f5 := hV.blk.frozen 5; have f6 := hV.blk.frozen 6
 have hk : Keeps [r] w ((w.setCell ⟨r, 6, none⟩ (.bool false)).setCell ⟨r, 5, none⟩ (.pointer none)) := ((Keeps.refl _ _).setCell (by simp) _).setCell (by simp) _
 have hb : Blk ((w.setCell ⟨r, 6, none⟩ (.bool false)).setCell ⟨r, 5, none⟩ (.pointer none)) r 72 (rpCells (rpDown R) C) := by
  have h9 := (hV.blk.set_ 6 (.bool false)).set_ 5 (.pointer none)
  simpa [rpCells, rpDown] using h9
 obtain ⟨a1, a2, a3⟩ := hV.down hM hk hb
 have HP : Hid (∀ e, e = .returned (.tuple #[]) → DnPost M tg r d R w e ((w.setCell ⟨r, 6, none⟩ (.bool false)).setCell ⟨r, 5, none⟩ (.pointer none))) := fun e he => ⟨he, ⟨down_ok ho, C, hC, a1⟩, a2, a3⟩
 clear ho hV hk hb a1 a2 a3 hC
 go_enter Tryz.func31, Tryz.ntmps31
 go_wp2
 go_end0
 exact HP.out _ rfl
set_option maxRecDepth 100000 in
theorem rptick_any (h : RpAt w M tg r d R) (hM : ∀ g ∈ M, g < w.heap.size) :
  Calls Tryz.prog 17 #[.pointer (some ⟨r, 0, none⟩)] w fun e w' => AllPost (rpTick R) w e w' := by
 have hac := Lib.hid (rpaccepts_any h hM)
 obtain ⟨ho, C, hC, hV⟩ := h
 obtain ⟨-, -, -, -, -, -, c6, -, hrl⟩ := rpcells hV
 have HT : Hid (R.leads = true → rpTick R = rpAccepts R) := fun h => if_pos h
 have HF : Hid (R.leads = false → rpTick R = []) := fun h => if_neg (by rw [h]; simp)
 clear ho hV hC
 cases hl : R.leads with
 | false =>
  rw [hl] at c6
  rw [HF.out hl]
  clear HF HT hac hl
  go_enter Tryz.func17, Tryz.ntmps17
  go_wp2
  go_ret
  exact ⟨.slice none 0 0, [], rfl, rfl, fun M' _ => SrAt.nil _ _ _, Below.refl _ _⟩
 | true =>
  rw [hl] at c6
  rw [HT.out hl]
  clear HF HT hl
  have HV : Hid (∀ e w', AllPost (rpAccepts R) w e w' → ∃ x, e = .returned x) := fun e w' h => by obtain ⟨x, _, h1, _⟩ := h; exact ⟨x, h1⟩
  go_enter Tryz.func17, Tryz.ntmps17
  go_wp2_with fail
  refine hac.out.mono ?_
  intro e w2 hp
  obtain ⟨x, rfl⟩ := HV.out _ _ hp
  have Hp := Lib.hid hp
  clear hp
  go_wp2_with fail
  go_ret
  exact Hp.out
end
section
variable {w w' : World} {M : List Nat} {tg : Nat → Nat} {r d : Nat} {R : RpD} {C : RpC}
theorem RpV.setWord (h : RpV w M tg r R C) (hM : ∀ g ∈ M, g < w.heap.size) {Y' : List Nat} {y : WordD} {b' : List UInt8} {k' n' : Nat} (hz : StZ w' C.s C.p Y' M y C.d b' k' n') (hg : Grows C.Y w Y') (hk : Keeps (C.s :: C.p :: C.Y) w w') :
  ∃ M' tg', RpV w' M' tg' r { R with x := y, b := b', k := k', n := n' } { C with Y := Y' } ∧ Ext w M tg w' M' tg' ∧ Keeps (sel M tg [2, 3, 4]) w w' := by
 have hks : Keeps (sel M tg [2, 3, 4]) w w' := hk.to_sel (fun g hg => by
  left
  rcases List.mem_cons.1 hg with rfl | hg
  ·exact ⟨h.sM, by rw [h.ts]; simp⟩
  ·rcases List.mem_cons.1 hg with rfl | hg
   ·exact ⟨h.pM, by rw [h.tp]; simp⟩
   ·exact ⟨(h.yM g hg).1, by rw [(h.yM g hg).2]; simp⟩)
 have hYl : ∀ g ∈ Y', g < w'.heap.size := fun g hg => hz.old g (by simp [hg])
 have hx : Ext w M tg w' (Y' ++ M) (fun x => if x ∈ Y' then 4 else tg x) := ⟨fun g hg => List.mem_append_right _ hg, fun g hg' => by
  rcases List.mem_append.1 hg' with h1 | h1
  ·exact (hg g h1).imp (fun h2 => (h.yM g h2).1) id
  ·exact .inl h1, fun g hg' => by
  show (if g ∈ Y' then 4 else tg g) = tg g
  split
  ·rename_i h1
   rcases hg g h1 with h2 | h2
   ·exact (h.yM g h2).2.symm
   ·omega
  ·rfl, hM, fun g hg' => by
  rcases List.mem_append.1 hg' with h1 | h1
  ·exact hYl g h1
  ·exact Nat.lt_of_lt_of_le (hM g h1) hk.size⟩
 have hn : ∀ g t, tg g = t → t ≠ 2 → t ≠ 3 → t ≠ 4 → g ∉ sel M tg [2, 3, 4] := fun g t h1 h2 h3 h4 hm => by
  have h5 := (mem_sel.1 hm).2
  simp at h5
  omega
 have hmt : ∀ g t, g ∈ M ∧ tg g = t → g ∈ Y' ++ M ∧ (fun x => if x ∈ Y' then 4 else tg x) g = t := fun g t h1 => ⟨hx.sub g h1.1, (hx.tag g (hM g h1.1)).trans h1.2⟩
 refine ⟨Y' ++ M, _, ⟨hks.blk h.blk (hn _ _ h.tr (by omega) (by omega) (by omega)), ?_, h.mc.keep hks (fun x hx' => hn x _ (h.xM x hx').2 (by omega) (by omega) (by omega)), fun v hv => ?_, (hmt _ _ ⟨h.rM, h.tr⟩).1, (hmt _ _ ⟨h.rM, h.tr⟩).2, (hmt _ _ ⟨h.sM, h.ts⟩).1, (hmt _ _ ⟨h.sM, h.ts⟩).2, (hmt _ _ ⟨h.pM, h.tp⟩).1, (hmt _ _ ⟨h.pM, h.tp⟩).2, fun g hg' => ⟨List.mem_append_left _ hg', by show (if g ∈ Y' then 4 else tg g) = 4; rw [if_pos hg']⟩, fun g hg' => hmt _ _ (h.xM g hg'), h.nN⟩, hx, hks⟩
 ·obtain ⟨lv, hb, he, hr⟩ := hz
  refine ⟨lv, hb, he.avoid (fun g hg' => ?_), hr⟩
  rcases List.mem_append.1 hg' with h1 | h1
  ·exact .inl (List.mem_append_left _ h1)
  ·rcases List.mem_append.1 h1 with h2 | h2
   ·exact .inl (List.mem_append_left _ (by simp [h2]))
   ·exact .inl (List.mem_append_right _ h2)
 ·obtain ⟨h1, h2, h3⟩ := h.vt v hv
  exact ⟨(h1.more hx.new).keep hks (hn _ _ h3 (by omega) (by omega) (by omega)) (fun g hg' => .inl (hx.sub g (mem_sel.1 hg').1)), hmt _ _ ⟨h2, h3⟩⟩
/-- What a write of the word leaves. -/
def RwPost (M : List Nat) (tg : Nat → Nat) (r : Nat) (C : RpC) (P : Bool × RpD) (w : World) (e : Ending) (w' : World) : Prop :=
 e = .returned (.bool P.1) ∧ ∃ M' tg' Y', RpV w' M' tg' r P.2 { C with Y := Y' } ∧ Ext w M tg w' M' tg' ∧ Keeps (sel M tg [2, 3, 4]) w w'
theorem RwPost.same (h : RpV w M tg r R C) (hM : ∀ g ∈ M, g < w.heap.size) (hk : Keeps [] w w') (b : Bool) : RwPost M tg r C (b, R) w (.returned (.bool b)) w' :=
 ⟨rfl, M, tg, C.Y, h.keep0 hM hk, Ext.refl hM hk.size, hk.to_sel (by simp)⟩
theorem RwPost.kept (h : RpV w M tg r R C) (hM : ∀ g ∈ M, g < w.heap.size) {y : WordD} {e : Ending} (hp : KpPostZ C.s C.p C.Y M y C.d R.b R.n w e w') : RwPost M tg r C (rpKeep R y) w e w' := by
 unfold KpPostZ at hp
 unfold rpKeep
 split at hp
 ·rename_i hc
  rw [if_pos hc]
  obtain ⟨rfl, Y', h1, h2, h3⟩ := hp
  obtain ⟨M', tg', a1, a2, a3⟩ := h.setWord hM h1 h2 h3
  exact ⟨rfl, M', tg', Y', a1, a2, a3⟩
 ·rename_i hc
  rw [if_neg hc]
  obtain ⟨rfl, h1⟩ := hp
  exact RwPost.same h hM h1 false
theorem rppromise_any (h : RpV w M tg r R C) (hM : ∀ g ∈ M, g < w.heap.size) (term : Int) (ht : term ≤ 9223372036854775807) (mx : Int) (hm : w.cell? ⟨0, 0, none⟩ = some (.int .i64 mx)) :
  Calls Tryz.prog 30 #[.pointer (some ⟨C.s, 0, none⟩), .int .i64 term] w fun e w' => RwPost M tg r C (rpPromise R term) w e w' := by
 refine (vpromise_z C.s C.p C.Y M R.x C.d R.k R.n R.b w h.st term ht mx hm).mono ?_
 intro e w' hp
 unfold PmPostZ at hp
 unfold rpPromise
 split at hp
 ·rename_i hc
  rw [if_pos hc]
  exact RwPost.kept h hM hp
 ·rename_i hc
  rw [if_neg hc]
  obtain ⟨rfl, h1⟩ := hp
  exact RwPost.same h hM h1 false
theorem rptake_any (h : RpV w M tg r R C) (hM : ∀ g ∈ M, g < w.heap.size) (term : Int) (ht : term ≤ 9223372036854775807) (lv : Value) (l : List EntryD) (hl : Ens w [] lv l) (hs : ∀ e ∈ l, Short e ∧ Wf e) (mx : Int) (hm : w.cell? ⟨0, 0, none⟩ = some (.int .i64 mx)) :
  Calls Tryz.prog 71 #[.pointer (some ⟨C.s, 0, none⟩), .int .i64 term, lv] w fun e w' => RwPost M tg r C (rpTake R term l) w e w' := by
 refine (vaccept_z C.s C.p C.Y M R.x C.d R.k R.n R.b w h.st term ht lv l hl hs hM mx hm).mono ?_
 intro e w' hp
 unfold AcPostZ at hp
 unfold rpTake
 split at hp
 ·rename_i hc
  rw [if_pos hc]
  split at hp
  ·rename_i hc2
   rw [if_pos hc2]
   obtain ⟨rfl, h1⟩ := hp
   exact RwPost.same h hM h1 true
  ·rename_i hc2
   rw [if_neg hc2]
   exact RwPost.kept h hM hp
 ·rename_i hc
  rw [if_neg hc]
  obtain ⟨rfl, h1⟩ := hp
  exact RwPost.same h hM h1 false
end
theorem rpSteps_same : ∀ (l : List EntryD) (R : RpD), (rpSteps l R).1.node = R.node ∧ (rpSteps l R).1.nodes = R.nodes ∧ (rpSteps l R).1.x = R.x ∧ (rpSteps l R).1.v = R.v ∧ (rpSteps l R).1.leads = R.leads ∧ (rpSteps l R).1.own = R.own ∧ (rpSteps l R).2.length ≤ l.length ∧ (R.ap = R.com → (rpSteps l R).1.ap = (rpSteps l R).1.com)
 | [], R => ⟨rfl, rfl, rfl, rfl, rfl, rfl, Nat.le_refl _, fun h => h⟩
 | e :: l, R => by
  obtain ⟨h1, h2, h3, h4, h5, h6, h7, h8⟩ := rpSteps_same l (rpStep R e).1
  refine ⟨h1, h2, h3, h4, h5, h6, ?_, fun h => h8 (by show R.ap + 1 = R.com + 1; omega)⟩
  show ((rpStep R e).2 ++ _).length ≤ _
  rw [List.length_append, List.length_cons]
  have : (rpStep R e).2.length ≤ 1 := by unfold rpStep; show (if _ then _ else _ : List SentD).length ≤ 1; split <;> simp
  omega
theorem rpCounted_same (R : RpD) (v : VoteD) (fr n : Int) : (rpCounted R v fr n).1.node = R.node ∧ (rpCounted R v fr n).1.nodes = R.nodes ∧ (rpCounted R v fr n).1.x = R.x ∧ (rpCounted R v fr n).1.leads = R.leads ∧ (rpCounted R v fr n).1.own = R.own ∧ (rpCounted R v fr n).2.length ≤ R.x.log.length ∧ (R.ap = R.com → (rpCounted R v fr n).1.ap = (rpCounted R v fr n).1.com) := by
 obtain ⟨h1, h2, h3, -, h5, h6, h7, h8⟩ := rpSteps_same ((R.x.log.take (medS (accS v fr n) v.nodes.toNat).toNat).drop R.com) { R with v := some { v with acc := accS v fr n } }
 refine ⟨h1, h2, h3, h5, h6, Nat.le_trans h7 ?_, h8⟩
 rw [List.length_drop, List.length_take]
 omega
theorem rpTake_same (R : RpD) (t : Int) (l : List EntryD) : (rpTake R t l).2.node = R.node ∧ (rpTake R t l).2.nodes = R.nodes ∧ (rpTake R t l).2.v = R.v ∧ (rpTake R t l).2.leads = R.leads ∧ (rpTake R t l).2.own = R.own ∧ (rpTake R t l).2.com = R.com ∧ (rpTake R t l).2.ap = R.ap ∧ (rpTake R t l).2.st = R.st ∧ ((rpTake R t l).1 = false → (rpTake R t l).2 = R) := by
 unfold rpTake rpKeep
 split
 ·split
  ·exact ⟨rfl, rfl, rfl, rfl, rfl, rfl, rfl, rfl, fun _ => rfl⟩
  ·split
   ·exact ⟨rfl, rfl, rfl, rfl, rfl, rfl, rfl, rfl, fun h => (nomatch h)⟩
   ·exact ⟨rfl, rfl, rfl, rfl, rfl, rfl, rfl, rfl, fun _ => rfl⟩
 ·exact ⟨rfl, rfl, rfl, rfl, rfl, rfl, rfl, rfl, fun _ => rfl⟩
section
variable {w w' : World} {M : List Nat} {tg : Nat → Nat} {r d : Nat} {R : RpD} {C : RpC}
theorem rpTake_ok (h : RpOk R) (t : Int) (l : List EntryD) : RpOk (rpTake R t l).2 := by
 obtain ⟨e1, e2, e3, e4, e5, e6, e7, e8, _⟩ := rpTake_same R t l
 obtain ⟨h1, h2, h3, h4, h5, h6, h7⟩ := h
 exact ⟨by rw [e2]; exact h1, by rw [e1, e2]; exact h2, by rw [e6, e7]; exact h3, by rw [e5]; exact h4, by rw [e7, e8]; exact h5, by rw [e2, e3]; exact h6, by rw [e3, e4]; exact h7⟩
theorem vlen_any {s p : Nat} {Y : List Nat} {x : WordD} {d k n : Nat} {b : List UInt8} (w : World) (h : StAt w s p Y x d b k n) :
  Calls Tryz.prog 72 #[.pointer (some ⟨s, 0, none⟩)] w fun e w' => e = .returned (.int .i64 x.log.length) ∧ w = w' := by
 obtain ⟨A, c, hb, he⟩ := h.lv
 obtain ⟨c0, c1, c2, c3, hlt⟩ := blk4 hb
 clear h hb he
 go_enter Tryz.func72, Tryz.ntmps72
 go_wp2
 go_ret
 exact ⟨rfl, rfl⟩
set_option maxRecDepth 100000 in
set_option maxHeartbeats 4000000 in
theorem rpwon_any (h : RpAt w M tg r d R) (hM : ∀ g ∈ M, g < w.heap.size) (h0 : 0 ∉ M) (hap : R.ap = R.com) (v : VoteD) (hv : R.v = some v) (mx : Int) (hm : w.cell? ⟨0, 0, none⟩ = some (.int .i64 mx)) :
  Calls Tryz.prog 36 #[.pointer (some ⟨r, 0, none⟩)] w fun e w' => ROPost M tg r d (rpWon R v) w e w' := by
 have hw0 : 0 < w.heap.size := by
  have := World.block_lt_of_cell? w _ hm
  simpa using this
 obtain ⟨i0, hi0, hz0, hz1, hz2⟩ := info_parts infoSentR
 have Hi0 := Lib.hid hi0; have Hz0 := Lib.hid hz0; have Hz1 := Lib.hid hz1; have Hz2 := Lib.hid hz2
 obtain ⟨ho, C, hC, hV⟩ := h
 have hvo := ho.2.2.2.2.2.1 v hv
 have hsm : Lead.Small v.best := ⟨by have := hvo.2.2.2.1; omega, fun e he => by have := eok_ds8 (hvo.2.2.2.2.1 e he); omega⟩
 have hbe := Lib.hid (Lead.best_any M C.vb v w (hV.vt v hv).1 hsm)
 have HMl := Lib.hid hM; have HV := Lib.hid hV; have Hho := Lib.hid ho; have Hvo := Lib.hid hvo; have HCd := Lib.hid hC; have Hap := Lib.hid hap; have H0 := Lib.hid h0; have Hm := Lib.hid hm; have Hv := Lib.hid hv
 have HD : Hid (rpWon R v = if (rpTake R v.term v.best).1 = true then rpBoth { (rpTake R v.term v.best).2 with leads := true, own := (rpTake R v.term v.best).2.x.log.length, v := some v } v else (rpDown R, [])) := rfl
 have HTs := Lib.hid (rpTake_same R v.term v.best)
 have HTo := Lib.hid (rpTake_ok ho v.term v.best)
 have HS : Hid (∀ W, Keeps [] w W → W.cell? ⟨r, 2, none⟩ = some (.pointer (some ⟨C.s, 0, none⟩)) ∧ W.cell? ⟨r, 5, none⟩ = some (.pointer (some ⟨C.vb, 0, none⟩))) := fun W hk => by
  obtain ⟨-, -, d2, -, -, d5, -⟩ := rpcells (HV.out.keep0 HMl.out hk)
  rw [Hv.out] at d5
  exact ⟨d2, d5⟩
 obtain ⟨c2, c5⟩ := HS.out w (Keeps.refl _ _)
 clear hi0 hz0 hz1 hz2 ho hvo hsm hM hV hC hap h0 hm hv
 go_enter Tryz.func36, Tryz.ntmps36
 go_wp2_with fail
 refine hbe.out.mono ?_
 rintro e w1 ⟨A1, rfl, hE1, hb1⟩
 have Hk1 : Hid (Keeps [] w w1) := Keeps.of_below (M := []) hb1
 have HE1 := Lib.hid (hE1 [] (by simp))
 have HT : Hid (∀ W, Keeps [] w1 W → Calls Tryz.prog 41 #[.pointer (some ⟨C.vb, 0, none⟩)] W fun e w' => e = .returned (.int .i64 v.term) ∧ W = w') := fun W hk => Lead.vterm_any M C.vb v W ((HV.out.keep0 HMl.out (Hk1.out.trans hk (by simp))).vt v Hv.out).1
 have HA : Hid (∀ W, Keeps [] w1 W → Calls Tryz.prog 71 #[.pointer (some ⟨C.s, 0, none⟩), .int .i64 v.term, .slice A1 v.best.length v.best.length] W fun e w' => RwPost M tg r C (rpTake R v.term v.best) W e w') := fun W hk => by
  have hk' := Hk1.out.trans hk (by simp)
  exact rptake_any (HV.out.keep0 HMl.out hk') (fun g hg => Nat.lt_of_lt_of_le (HMl.out g hg) hk'.size) v.term Hvo.out.2.2.1 _ v.best (HE1.out.keep hk (by simp)) (fun e he => (Hvo.out.2.2.2.2.1 e he).2) mx ((hk'.cell (p := ⟨0, 0, none⟩) hw0 (by simp)).trans Hm.out)
 have hr1 := Lib.hid (Nat.lt_of_lt_of_le HV.out.blk.lt Hk1.out.size)
 clear hE1 hb1 hbe c2 c5
 go_upto_region 2 with (fail)
 refine wp_region_held_drew (S := (fun W => W.cell? ⟨r, 2, none⟩ = some (.pointer (some ⟨C.s, 0, none⟩)) ∧ W.cell? ⟨r, 5, none⟩ = some (.pointer (some ⟨C.vb, 0, none⟩)))) (by kernel_rfl) (HS.out _ Hk1.out.drew) (fun hHeld => ?_)
 refine wT 0 (v := ?v0u1) (by kernel_rfl) rfl (by rfl) ?y0u1 (fun _ _ _ h => h) (by assumption) ?r0u1
 case y0u1 => (intro w hSw; (obtain ⟨hS0, hS1⟩ := hSw); go_simp <;> with_reducible rfl)
 try simp only [sgl, Act.put]
 refine wT 1 (v := ?v1u2) (by kernel_rfl) rfl (by rfl) ?y1u2 (fun _ _ _ h => h) (by assumption) ?r1u2
 case y1u2 => (intro w hSw; (obtain ⟨hS0, hS1⟩ := hSw); go_simp <;> with_reducible rfl)
 try simp only [sgl, Act.put]
 refine wT 2 (v := ?v2u3) (by kernel_rfl) rfl (by rfl) ?y2u3 (fun _ _ _ h => h) (by assumption) ?r2u3
 case y2u3 => (intro w hSw; (obtain ⟨hS0, hS1⟩ := hSw); go_simp <;> with_reducible rfl)
 try simp only [sgl, Act.put]
 refine wT 3 (v := ?v3u4) (by kernel_rfl) rfl (by rfl) ?y3u4 (fun _ _ _ h => h) (by assumption) ?r3u4
 case y3u4 => (intro w hSw; (obtain ⟨hS0, hS1⟩ := hSw); go_simp <;> with_reducible rfl)
 try simp only [sgl, Act.put]
 refine wT 4 (v := ?v4u5) (by kernel_rfl) rfl (by rfl) ?y4u5 (fun _ _ _ h => h) (by assumption) ?r4u5
 case y4u5 => (intro w hSw; (obtain ⟨hS0, hS1⟩ := hSw); go_simp <;> with_reducible rfl)
 try simp only [sgl, Act.put]
 refine wT 5 (v := ?v5u6) (by kernel_rfl) rfl (by rfl) ?y5u6 (fun _ _ _ h => h) (by assumption) ?r5u6
 case y5u6 => (intro w hSw; (obtain ⟨hS0, hS1⟩ := hSw); go_simp <;> with_reducible rfl)
 try simp only [sgl, Act.put]
 refine wT 6 (v := ?v6u7) (by kernel_rfl) rfl (by rfl) ?y6u7 (fun _ _ _ h => h) (by assumption) ?r6u7
 case y6u7 => (intro w hSw; (obtain ⟨hS0, hS1⟩ := hSw); go_simp <;> with_reducible rfl)
 try simp only [sgl, Act.put]
 refine wT 7 (v := ?v7u8) (by kernel_rfl) rfl (by rfl) ?y7u8 (fun _ _ _ h => h) (by assumption) ?r7u8
 case y7u8 => (intro w hSw; (obtain ⟨hS0, hS1⟩ := hSw); go_simp <;> with_reducible rfl)
 try simp only [sgl, Act.put]
 refine wT 9 (v := ?v9u9) (by kernel_rfl) rfl (by rfl) ?y9u9 (fun _ _ _ h => h) (by assumption) ?r9u9
 case y9u9 => (intro w hSw; (obtain ⟨hS0, hS1⟩ := hSw); go_simp <;> with_reducible rfl)
 try simp only [sgl, Act.put]
 refine wpAnyH_ready (rs := [8]) (by kernel_rfl) (by simp) ?_
 refine AllReadyH.cons (o := _) rfl (fun K hK => ?_) AllReadyH.nil
 go_simp
 refine (HT.out _ (Keeps.refl _ _).drew).mono ?_
 rintro e wl ⟨rfl, rfl⟩
 refine hK.out _ _ (HS.out _ Hk1.out.drew) (fun hHeld2 => ?_)
 clear hK K hHeld
 have hHeld := hHeld2
 clear hHeld2
 try simp only [sgl, Act.put]
 generalize rpTake R v.term v.best = T at *
 obtain ⟨tb, R1⟩ := T
 refine wpAnyH_ready (rs := [10]) (by kernel_rfl) (by simp) ?_
 refine AllReadyH.cons (o := _) rfl (fun K hK => ?_) AllReadyH.nil
 go_simp
 refine (HA.out _ (Keeps.refl _ _).drew).mono ?_
 rintro e w2 ⟨rfl, M2, tg2, Y2, hV2, hx2, hk2⟩
 have HV2 := Lib.hid hV2; have Hx2 := Lib.hid hx2; have Hk2 := Lib.hid hk2
 have hnr : r ∉ sel M tg [2, 3, 4] := fun hm => by
  have h1 := (mem_sel.1 hm).2
  rw [HV.out.tr] at h1
  simp at h1
 have HS2 : Hid (w2.cell? ⟨r, 2, none⟩ = some (.pointer (some ⟨C.s, 0, none⟩)) ∧ w2.cell? ⟨r, 5, none⟩ = some (.pointer (some ⟨C.vb, 0, none⟩))) := ⟨(hk2.cell (p := ⟨r, 2, none⟩) hr1.out hnr).trans (HS.out _ Hk1.out.drew).1, (hk2.cell (p := ⟨r, 5, none⟩) hr1.out hnr).trans (HS.out _ Hk1.out.drew).2⟩
 clear hV2 hx2 hk2 hnr
 refine hK.out _ _ HS2.out (fun hHeld2 => ?_)
 clear hK K hHeld
 have hHeld := hHeld2
 clear hHeld2
 try simp only [sgl, Act.put]
 refine wT 11 (v := ?v11u10) (by kernel_rfl) rfl (by rfl) ?y11u10 (fun _ _ _ h => h) (by assumption) ?r11u10
 case y11u10 => (intro w hSw; (obtain ⟨hS0, hS1⟩ := hSw); go_simp <;> with_reducible rfl)
 try simp only [sgl, Act.put]
 refine wpAnyH_done (by kernel_rfl) ?_ _
 clear hHeld
 simp only [] at HD HTs HTo HV2
 have HX2 : Hid (Ext w M tg w2 M2 tg2 ∧ Keeps (sel M tg (List.range 30)) w w2) := ⟨(Ext.refl HMl.out Hk1.out.drew.size).trans Hx2.out Hk1.out.drew.size, Ext.keeps (Ext.refl HMl.out Hk1.out.drew.size) (Hk1.out.drew.to_sel (by simp)) (Hk2.out.sel_mono (by simp))⟩
 clear HS HS2 HT HA Hk2 Hx2 HE1
 cases tb with
 | false =>
  obtain rfl : R1 = R := HTs.out.2.2.2.2.2.2.2.2 rfl
  have hdn := Lib.hid (rpdown_any ⟨HTo.out, _, (by exact HCd.out), HV2.out⟩ HX2.out.1.lt)
  clear HTs
  go_wp2_with fail
  refine hdn.out.mono ?_
  rintro e w3 ⟨rfl, h1, h2, h3⟩
  have HP : Hid (ROPost M tg r d (rpWon R1 v) w (.returned (.slice none 0 0)) w3) := by
   rw [HD.out, if_neg (by simp)]
   exact ROPost.base (w1 := w3) ⟨_, M2, tg2, rfl, RoSt.start h1 h2.lt⟩ (HX2.out.1.trans h2 HX2.out.2.size) (Ext.keeps HX2.out.1 HX2.out.2 (h3.sel_mono (by simp)))
  clear h1 h2 h3 hdn
  go_wp2_with fail
  go_ret
  exact HP.out
 | true =>
  have hle := Lib.hid (vlen_any w2 HV2.out.st.st)
  obtain ⟨-, -, c2, -, -, c5, c6, c7, hrl⟩ := rpcells HV2.out
  have f6 := HV2.out.blk.frozen 6; have f7 := HV2.out.blk.frozen 7
  go_wp2_with fail
  refine hle.out.mono ?_
  rintro e w3 ⟨rfl, rfl⟩
  clear hle
  go_upto_region 6 with (fail)
  obtain ⟨w3, hw3⟩ : ∃ w3, w3 = (w2.setCell ⟨r, 6, none⟩ (.bool true)).setCell ⟨r, 7, none⟩ (.int .i64 R1.x.log.length) := ⟨_, rfl⟩
  rw [← hw3]
  have hk3 : Keeps [r] w2 w3 := by rw [hw3]; exact ((Keeps.refl _ _).setCell (by simp) _).setCell (by simp) _
  have hv1 : R1.v = some v := HTs.out.2.2.1.trans Hv.out
  have hap1 : R1.ap = R1.com := by rw [HTs.out.2.2.2.2.2.2.1, HTs.out.2.2.2.2.2.1]; exact Hap.out
  obtain ⟨RR, HRR⟩ : ∃ RR : RpD, Hid (RR = { R1 with leads := true, own := R1.x.log.length, v := some v }) := ⟨_, rfl⟩
  have hRR : RR = { R1 with leads := true, own := R1.x.log.length } := by rw [HRR.out, ← hv1]
  have hb3 : Blk w3 r 72 (rpCells RR { C with Y := Y2 }) := by
   have h9 := (HV2.out.blk.set_ 6 (.bool true)).set_ 7 (.int .i64 R1.x.log.length)
   rw [hw3, hRR]
   simpa [rpCells] using h9
  obtain ⟨a1, a2, a3⟩ := HV2.out.setR HX2.out.1.lt hk3 hb3 (by rw [hRR]; exact ⟨rfl, rfl, rfl, rfl, rfl, rfl, rfl⟩)
  have hll : RR.x.log.length ≤ 128 := by rw [hRR]; exact HV2.out.st.ok.2.2.1
  have hokR : RpOk RR := by
   rw [hRR]
   exact ⟨HTo.out.1, HTo.out.2.1, HTo.out.2.2.1, HV2.out.st.ok.2.2.1, HTo.out.2.2.2.2.1, HTo.out.2.2.2.2.2.1, fun _ => by show R1.v.isSome = true; rw [hv1]; rfl⟩
  have hRA : RpAt w3 M2 tg2 r d RR := ⟨hokR, _, (by exact HCd.out), a1⟩
  have HX3 : Hid (Ext w M tg w3 M2 tg2 ∧ Keeps (sel M tg (List.range 30)) w w3) := ⟨HX2.out.1.trans a2 HX2.out.2.size, Ext.keeps HX2.out.1 HX2.out.2 (a3.sel_mono (by simp))⟩
  have hm3 : w3.cell? ⟨0, 0, none⟩ = some (.int .i64 mx) := (HX3.out.2.cell (p := ⟨0, 0, none⟩) hw0 (fun hm => H0.out (mem_sel.1 hm).1)).trans Hm.out
  have h03 : 0 ∉ M2 := fun hm => by
   rcases HX3.out.1.new 0 hm with h1 | h1
   ·exact H0.out h1
   ·omega
  have hvR : RR.v = some v := by rw [HRR.out]
  have hapR : RR.ap = RR.com := by rw [hRR]; exact hap1
  obtain ⟨vv, Hvv⟩ : ∃ vv, Hid (vv = v) := ⟨v, rfl⟩
  have HJC : Hid (Calls Tryz.prog 44 #[.pointer (some ⟨r, 0, none⟩), .int .i64 RR.node, .int .i64 RR.x.log.length] w3.drew fun e w' => ROPost M tg r d (rpCounted RR vv RR.node RR.x.log.length) w e w') := by
   rw [Hvv.out]
   refine (rpcounted_any (hRA.keep0 a2.lt ((Keeps.refl [] w3).drew)) a2.lt h03 hapR v hvR RR.node RR.x.log.length mx hm3).mono ?_
   intro e w' hp
   exact ROPost.base hp (HX3.out.1.later (Nat.le_refl _)) HX3.out.2.drew
  obtain ⟨Cs, hcs⟩ : ∃ Cs, Cs = C.s := ⟨_, rfl⟩
  have HJL : Hid (Calls Tryz.prog 72 #[.pointer (some ⟨Cs, 0, none⟩)] w3.drew fun e w' => e = .returned (.int .i64 RR.x.log.length) ∧ w3.drew = w') := by
   rw [hcs]
   exact vlen_any w3.drew ((show StZ w3.drew _ _ _ _ _ _ _ _ _ from a1.st.keep0 ((Keeps.refl [] w3).drew)).st)
  obtain ⟨d0, -, d2, -⟩ := rpcells a1
  have d2 : w3.cell? ⟨r, 2, none⟩ = some (.pointer (some ⟨Cs, 0, none⟩)) := by rw [hcs]; exact d2
  have HJ0 : Hid (w3.drew.cell? ⟨r, 0, none⟩ = some (.int .i64 RR.node)) := d0
  have d2d : w3.drew.cell? ⟨r, 2, none⟩ = some (.pointer (some ⟨Cs, 0, none⟩)) := d2
  have HD2 : Hid (rpWon R v = rpBoth RR vv) := by
   show _ = _
   rw [HD.out]
   simp only [if_true]
   rw [Hvv.out, HRR.out]
  clear hw3 hk3 hb3 a1 a2 a3 hokR hRA hm3 h03 hvR hapR hv1 hap1 hRR c2 c5 c6 c7 f6 f7 d0 d2 hcs
  refine wp_region_held_drew (S := (fun W => W.cell? ⟨r, 0, none⟩ = some (.int .i64 RR.node))) (by kernel_rfl) HJ0.out (fun hHeld => ?_)
  refine wT 0 (v := ?v0u11) (by kernel_rfl) rfl (by rfl) ?y0u11 (fun _ _ _ h => h) (by assumption) ?r0u11
  case y0u11 => (intro w hSw; (have hS0 := hSw); go_simp <;> with_reducible rfl)
  try simp only [sgl, Act.put]
  refine wT 1 (v := ?v1u12) (by kernel_rfl) rfl (by rfl) ?y1u12 (fun _ _ _ h => h) (by assumption) ?r1u12
  case y1u12 => (intro w hSw; (have hS0 := hSw); go_simp <;> with_reducible rfl)
  try simp only [sgl, Act.put]
  refine wT 2 (v := ?v2u13) (by kernel_rfl) rfl (by rfl) ?y2u13 (fun _ _ _ h => h) (by assumption) ?r2u13
  case y2u13 => (intro w hSw; (have hS0 := hSw); go_simp <;> with_reducible rfl)
  try simp only [sgl, Act.put]
  refine wT 3 (v := ?v3u14) (by kernel_rfl) rfl (by rfl) ?y3u14 (fun _ _ _ h => h) (by assumption) ?r3u14
  case y3u14 => (intro w hSw; (have hS0 := hSw); go_simp <;> with_reducible rfl)
  try simp only [sgl, Act.put]
  refine wT 4 (v := ?v4u15) (by kernel_rfl) rfl (by rfl) ?y4u15 (fun _ _ _ h => h) (by assumption) ?r4u15
  case y4u15 => (intro w hSw; (have hS0 := hSw); go_simp <;> with_reducible rfl)
  try simp only [sgl, Act.put]
  refine wT 5 (v := ?v5u16) (by kernel_rfl) rfl (by rfl) ?y5u16 (fun _ _ _ h => h) (by assumption) ?r5u16
  case y5u16 => (intro w hSw; (have hS0 := hSw); go_simp <;> with_reducible rfl)
  try simp only [sgl, Act.put]
  refine wT 6 (v := ?v6u17) (by kernel_rfl) rfl (by rfl) ?y6u17 (fun _ _ _ h => h) (by assumption) ?r6u17
  case y6u17 => (intro w hSw; (have hS0 := hSw); go_simp <;> with_reducible rfl)
  try simp only [sgl, Act.put]
  refine wT 7 (v := ?v7u18) (by kernel_rfl) rfl (by rfl) ?y7u18 (fun _ _ _ h => h) (by assumption) ?r7u18
  case y7u18 => (intro w hSw; (have hS0 := hSw); go_simp <;> with_reducible rfl)
  try simp only [sgl, Act.put]
  refine wT 11 (v := ?v11u19) (by kernel_rfl) rfl (by rfl) ?y11u19 (fun _ _ _ h => h) (by assumption) ?r11u19
  case y11u19 => (intro w hSw; (have hS0 := hSw); go_simp <;> with_reducible rfl)
  try simp only [sgl, Act.put]
  refine wpAnyH_ready (rs := [8]) (by kernel_rfl) (by simp) ?_
  refine AllReadyH.cons (o := _) rfl (fun K hK => ?_) AllReadyH.nil
  go_simp
  refine hK.out _ _ HJ0.out (fun hHeld2 => ?_)
  clear hK K hHeld
  have hHeld := hHeld2
  clear hHeld2
  try simp only [sgl, Act.put]
  refine wpAnyH_ready (rs := [9]) (by kernel_rfl) (by simp) ?_
  refine AllReadyH.cons (o := _) rfl (fun K hK => ?_) AllReadyH.nil
  go_simp
  refine (HJL.out).mono ?_
  rintro e wl ⟨rfl, rfl⟩
  refine hK.out _ _ HJ0.out (fun hHeld2 => ?_)
  clear hK K hHeld
  have hHeld := hHeld2
  clear hHeld2
  try simp only [sgl, Act.put]
  refine wpAnyH_ready (rs := [10]) (by kernel_rfl) (by simp) ?_
  refine AllReadyH.cons (o := _) rfl (fun K hK => ?_) AllReadyH.nil
  go_simp
  refine (HJC.out).mono ?_
  rintro e wc ⟨v1, M3, tg3, rfl, hro⟩
  obtain ⟨k1, k2, k3, k4, k5, k6, k7⟩ := rpCounted_same RR vv RR.node RR.x.log.length
  have hc0 : wc.cell? ⟨r, 0, none⟩ = some (.int .i64 RR.node) := by
   obtain ⟨_, C3, _, hv3⟩ := hro.ag
   rw [← k1]; exact (rpcells hv3).1
  have Hro := Lib.hid hro; have Hc0 := Lib.hid hc0
  have hac := Lib.hid (rpaccepts_any hro.ag hro.x.lt)
  have hl6 : (rpCounted RR vv RR.node RR.x.log.length).2.length ≤ 128 := Nat.le_trans k6 hll
  have HB : Hid (rpBoth RR vv = ((rpCounted RR vv RR.node RR.x.log.length).1, (rpCounted RR vv RR.node RR.x.log.length).2 ++ rpAccepts (rpCounted RR vv RR.node RR.x.log.length).1)) := rfl
  clear hro hc0 k1 k2 k3 k4 k5 k6 k7
  refine hK.out _ _ Hc0.out (fun hHeld2 => ?_)
  clear hK K hHeld
  have hHeld := hHeld2
  clear hHeld2
  try simp only [sgl, Act.put]
  generalize rpBoth RR vv = PB at *
  generalize rpCounted RR vv RR.node RR.x.log.length = PC at *
  obtain ⟨R3, out3⟩ := PC
  simp only [] at hl6 HB Hro hac
  refine wpAnyH_ready (rs := [12]) (by kernel_rfl) (by simp) ?_
  refine AllReadyH.cons (o := _) rfl (fun K hK => ?_) AllReadyH.nil
  go_simp
  refine hac.out.mono ?_
  rintro e wa ⟨v2, qs2, rfl, hq2, hsr, hba⟩
  have hka : Keeps [] wc wa := Keeps.of_below (M := []) hba
  have HroA := Lib.hid (Hro.out.keep0 hka)
  have HsrA := Lib.hid (hsr M3 Hro.out.x.lt)
  have Hq2 := Lib.hid hq2
  have Hca : Hid (wa.cell? ⟨r, 0, none⟩ = some (.int .i64 RR.node)) := (hka.cell (p := ⟨r, 0, none⟩) (by obtain ⟨_, C3, _, hv3⟩ := Hro.out.ag; exact hv3.blk.lt) (by simp)).trans Hc0.out
  have hql : qs2.length ≤ 8 := by
   have h1 := congrArg List.length hq2
   rw [List.length_map] at h1
   rw [h1]
   have h2 := toAll_len R3.node (acceptM R3.x.t R3.x.log R3.com) R3.nodes.toNat
   have h3 := Hro.out.ag.1.1
   exact Nat.le_trans h2 (by omega)
  clear hka hq2 hsr hba hac Hc0
  refine hK.out _ _ Hca.out (fun hHeld2 => ?_)
  clear hK K hHeld
  have hHeld := hHeld2
  clear hHeld2
  try simp only [sgl, Act.put]
  obtain ⟨qs1, e1, e2, e3⟩ := HroA.out.qs
  obtain ⟨A1, c1, rfl, _⟩ := own_slice3 e2
  obtain ⟨A2, c2, rfl, _⟩ := own_slice3 HsrA.out.row
  have HR2 : Hid (Reads wa wa.heap.size 19 A2 qs2.length (qs2.flatMap srCell)) := by
   obtain ⟨A9, c9, e9, h9a, h9b, h9c⟩ := Rd.of_own (M := []) HsrA.out.row (by simp)
   injection e9 with e9 _ _
   subst e9
   refine ⟨h9b, fun hn => ?_⟩
   obtain ⟨g9, o9, rfl, hg9, _, hx9⟩ := h9c hn
   exact ⟨⟨g9, o9, none⟩, rfl, hg9, fun j u hu => by rw [addr_add]; exact hx9 j u hu⟩
  have He1 := Lib.hid e1; have He2 := Lib.hid e2; have He3 := Lib.hid e3
  clear e1 e2 e3
  refine wpAnyH_ready (rs := [13]) (by kernel_rfl) (by simp) ?_
  refine AllReadyH.cons (o := _) rfl (fun K hK => ?_) AllReadyH.nil
  refine step_append_any _ rfl (.tmp 44) (.tmp 46) 27 rfl w.heap.size 39 i0 _ 19 192 Tryz.underlying27 Hi0.out Hz0.out Hz1.out Hz2.out rfl (by omega) (.slice A1 out3.length c1) out3.length (qs1.flatMap srCell) (by simp [Act.eval, Act.put]) He2.out wa.heap.size A2 qs2.length c2 (qs2.flatMap srCell) (by simp [Act.eval, Act.put]) HR2.out (fun u hu => by
   obtain ⟨q, hq, hu⟩ := List.mem_flatMap.1 hu
   exact sr_one (HsrA.out.val q hq [] (by simp)) u hu) (by unfold maxLen; omega) (by omega) HroA.out.k.size ?_
  intro v5 w5 hown5 hg5 hat5
  obtain ⟨M5, tg5, hr5, hx5, hk5⟩ := HroA.out.grow (news := qs2) He1.out He2.out He3.out (fun q hq L hL => HsrA.out.val q hq (L ++ M3) (fun g hg => by
   rcases List.mem_append.1 hg with h1 | h1
   ·exact .inl (Nat.lt_of_lt_of_le (hL g h1) Hro.out.k.size)
   ·exact .inr (.inl h1))) hg5 hat5 hown5
  have HF5 : Hid (ROPost M tg r d PB w (.returned v5) w5) := by
   rw [HB.out]
   refine ⟨v5, M5, tg5, rfl, ?_⟩
   have h9 := hr5
   rw [Hq2.out] at h9
   exact h9
  have Hc5 : Hid (w5.cell? ⟨r, 0, none⟩ = some (.int .i64 RR.node)) := (hk5.cell (p := ⟨r, 0, none⟩) (by obtain ⟨_, C3, _, hv3⟩ := HroA.out.ag; exact hv3.blk.lt) (fun hm => by
   obtain ⟨_, C3, _, hv3⟩ := HroA.out.ag
   have h1 := (mem_sel.1 hm).2
   rw [hv3.tr] at h1
   simp at h1)).trans Hca.out
  clear hown5 hg5 hat5 hr5 hx5 hk5
  refine hK.out _ _ Hc5.out (fun hHeld2 => ?_)
  clear hK K hHeld
  have hHeld := hHeld2
  clear hHeld2
  try simp only [sgl, Act.put]
  refine wT 14 (v := ?v14u20) (by kernel_rfl) rfl (by rfl) ?y14u20 (fun _ _ _ h => h) (by assumption) ?r14u20
  case y14u20 => (intro w hSw; (have hS0 := hSw); go_simp <;> with_reducible rfl)
  try simp only [sgl, Act.put]
  refine wpAnyH_done (by kernel_rfl) ?_ _
  clear hHeld
  have HP : Hid (ROPost M tg r d (rpWon R v) w (.returned v5) w5) := by rw [HD2.out]; exact HF5.out
  go_wp2_with fail
  go_ret
  exact HP.out
end
end Go.Proofs.YtdaceeijifjpeaaGreatDoor.Vi
end
