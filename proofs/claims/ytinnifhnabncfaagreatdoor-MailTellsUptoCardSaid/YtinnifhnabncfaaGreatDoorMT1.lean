/- Texts put together: MoT, OpS, OpM. -/
import Derived.Test.YtinnifhnabncfaaGreatDoorRows
import Derived.Deep.Slices
import Derived.Deep.SlicePairs
import Derived.Deep.Strs
import Derived.Test.YtinnifhnabncfaaGreatDoorMN14
set_option linter.unusedVariables false
set_option linter.unusedSimpArgs false
section
namespace Go.Proofs.YtinnifhnabncfaaGreatDoor.Vi
open Go.RowKit Base Mem Tape Go.Shelf
theorem and7_bd (n : Int) : 0 ≤ bits .and .i64 n 7 ∧ bits .and .i64 n 7 ≤ 7 := by
 have h : (BitVec.ofInt 64 n &&& BitVec.ofInt 64 7).toNat ≤ 7 := by
  rw [BitVec.toNat_and]
  exact Nat.le_trans Nat.and_le_right (by decide)
 show 0 ≤ IntKind.i64.wrap ((BitVec.ofInt 64 n &&& BitVec.ofInt 64 7).toNat : Int) ∧ IntKind.i64.wrap ((BitVec.ofInt 64 n &&& BitVec.ofInt 64 7).toNat : Int) ≤ 7
 rw [IntKind.wrap_i64]
 omega
theorem and7_within (x n : Int) : withinS (bits .and .i64 x 7) 0 10 = 10 → n = 128 ∨ n = 129 := by
 obtain ⟨h0, h1⟩ := and7_bd x
 unfold withinS
 rw [if_pos ⟨by omega, by omega⟩]
 omega
theorem bodyL_pos (m : MsgD) : 0 < (bodyL m).length := by
 rw [bodyL_rest]
 simp
set_option maxRecDepth 100000 in
set_option maxHeartbeats 16000000 in
theorem mtells_walk (At : Option Addr) (ct : Nat) (t : List Int) (what n : Int) (raw : MsgD) (rdv rlv : Value) (Ab : Option Addr) (cb : Nat) (b : List UInt8) (at_ : Int) (turn : Nat) (mx : Int) (w : World)
  (ht : Nums w At ct t) (hn : n ≤ 9223372036854775807) (hrd : MsgAt w [] raw rdv rlv) (hrs : MShort raw) (hrw : MWf raw) (hbb : Bs w [] (.slice Ab b.length cb) b) (hbl : b.length ≤ 1048576) (hturn : turn < 256) (hm : w.cell? ⟨0, 0, none⟩ = some (.int .i64 mx)) :
  Calls Tryz.prog 10 #[.slice At t.length ct, .int .i64 what, .int .i64 n, .agg (mCell raw rdv rlv).toArray, .slice Ab b.length cb, .int .i64 at_, .int .u8 turn] w fun e w' => SamePost true w e w' := by
 have hw0 : 0 < w.heap.size := by
  have := World.block_lt_of_cell? w _ hm
  simpa using this
 have Hm : Hid (∀ W, Below w.heap.size w W → W.cell? ⟨0, 0, none⟩ = some (.int .i64 mx)) := fun W hb => (hb.cell (p := ⟨0, 0, none⟩) hw0).trans hm
 have Ht := Lib.hid ht; have Hrd := Lib.hid hrd; have Hrs := Lib.hid hrs; have Hrw := Lib.hid hrw; have Hbb := Lib.hid hbb
 clear hm ht hrd hrs hrw hbb
 obtain ⟨LR, hLR⟩ : ∃ LR, LR = mCell raw rdv rlv := ⟨_, rfl⟩
 have hlr : LR.length = 18 := by rw [hLR]; rfl
 rw [← hLR]
 have HLR := Lib.hid hLR
 clear hLR
 have hBr := Blk.new w 68 LR.toArray
 have hbr := below_new' w (.cells LR.toArray 68)
 obtain ⟨w1, hw1⟩ : ∃ w1, w1 = w.alloc (.cells LR.toArray 68) := ⟨_, rfl⟩
 rw [← hw1] at hBr hbr
 have HBr := Lib.hid hBr; have Hbr := Lib.hid hbr; have Hw1 := Lib.hid hw1
 have hg0 : w.heap.size < w1.heap.size := hBr.lt
 clear hBr hbr hw1
 have hnums : Nums w1 At ct t := by
  obtain ⟨h1, h2, h3⟩ := Ht.out
  refine ⟨h1, h2, fun h0 => ?_⟩
  obtain ⟨g, off, e, hg, hx⟩ := h3 h0
  exact ⟨g, off, e, by have := Hbr.out.size; omega, fun j x hj => (Hbr.out.cell (p := ⟨g, off + j, none⟩) hg).trans (hx j x hj)⟩
 have Hen := Lib.hid (tmsg_any hnums (Below.refl _ w1))
 clear hnums Ht
 go_enter Tryz.func10, Tryz.ntmps10
 go_upto_region 1 with (fail)
 rw [← Hw1.out]
 clear Hw1
 go_wp2_with fail
 refine Hen.out.mono ?_
 rintro e w2 ⟨m, dv, lv, rfl, hok, hD, hb2⟩
 have Hb2 := Lib.hid (below_then Hbr.out hb2)
 have HBr2 := Lib.hid (HBr.out.below hb2 HBr.out.lt)
 have HD2 := Lib.hid (hD [] (by simp))
 have Hok := Lib.hid hok
 obtain ⟨Ad, nd, rfl, _⟩ := HD2.out.1.len
 obtain ⟨Bd, kd, rfl, _⟩ := HD2.out.2.len
 clear hok hD hb2 Hen HBr Hbr
 go_upto_region 2 with (refine wpList_store_blk rfl 68 (.tmp 15) (.tmp 24) rfl w2.heap.size 0 68 zeroR (mCell m (.slice Ad m.en.ds.length nd) (.slice Bd m.log.length kd)).toArray (mCell m (.slice Ad m.en.ds.length nd) (.slice Bd m.log.length kd)).toArray rfl rfl (Blk.new w2 _ _) (by show 0 + 18 ≤ 18; omega) rfl (by kernel_rfl) rfl ?_; intro w3 hk3 hB3; have HB3 := Lib.hid hB3; have HK3 : Hid (Keeps [] w2 w3) := ((Keeps.refl _ _).alloc _).trans hk3 (by intro q hq; simp at hq; right; omega); clear hk3 hB3)
 have HD3 := Lib.hid (HD2.out.keep HK3.out (by simp))
 have Hb3 := Lib.hid (((Keeps.of_below (M := []) Hb2.out).trans HK3.out (by simp)).below)
 have HBr3 := Lib.hid (HK3.out.blk HBr2.out (by simp))
 have hg3 : w2.heap.size < w3.heap.size := HB3.out.lt
 have hg10 : w.heap.size < w3.heap.size := HBr3.out.lt
 have HQ := Lib.hid (mok_know Hok.out _ _ mx _ w3 HD3.out HB3.out (Hm.out w3 Hb3.out))
 have hbdl := msg_body Hok.out
 have hbd0 := bodyL_pos m
 have Hrd3 : Hid (∀ W, Below w3.heap.size w3 W → MsgAt W [] raw rdv rlv) := fun W hb => Hrd.out.keep (M' := []) (Keeps.of_below (below_then Hb3.out hb)) (by simp)
 have HSR : Hid (∀ W, Below w3.heap.size w3 W → Calls Tryz.prog 44 #[.agg LR.toArray] W fun e w' => SamePost true W e w') := fun W hb => by
  rw [HLR.out]
  exact lawsame6_any raw rdv rlv mx W (Hrd3.out W hb) Hrs.out Hrw.out (HQ.out.hm W hb)
 obtain ⟨sm, hsm⟩ : ∃ sm, sm = sameM m raw := ⟨_, rfl⟩
 have HMS : Hid (∀ W, Below w3.heap.size w3 W → Calls Tryz.prog 50 #[.agg (mCell m (.slice Ad m.en.ds.length nd) (.slice Bd m.log.length kd)).toArray, .agg LR.toArray] W fun r w' => SamePost sm W r w') := fun W hb => by
  rw [HLR.out, hsm]
  exact msame_any m raw _ _ _ _ W (HD3.out.keep (M' := []) (Keeps.of_below hb) (by simp)) (Hrd3.out W hb) (msg_short Hok.out).cnt Hrs.out.cnt
 have HRS : Hid (∀ W, Below w3.heap.size w3 W → Calls Tryz.prog 51 #[.agg (mCell m (.slice Ad m.en.ds.length nd) (.slice Bd m.log.length kd)).toArray, .agg LR.toArray] W fun r w' => SamePost sm W r w') := fun W hb => by
  rw [HLR.out, hsm]
  exact rmsgsame_any m raw _ _ _ _ W (HD3.out.keep (M' := []) (Keeps.of_below hb) (by simp)) (Hrd3.out W hb) (msg_short Hok.out).cnt Hrs.out.cnt
 have HSB3 : Hid (∀ W, Below w3.heap.size w3 W → W.rangeAt w2.heap.size 0 (mCell m (.slice Ad m.en.ds.length nd) (.slice Bd m.log.length kd)) ∧ W.rangeAt w.heap.size 0 LR) := fun W hb =>
  ⟨HQ.out.range W hb, blk_range (HBr3.out.below hb hg10)⟩
 have HbW : Hid (∀ W, Below w3.heap.size w3 W → Bs W [] (.slice Ab b.length cb) b) := fun W hb => Hbb.out.keep (M' := []) (Keeps.of_below (below_then Hb3.out hb)) (by simp)
 have HKW : Hid (∀ W, Below w3.heap.size w3 W → Below w.heap.size w W) := fun W hb => below_then Hb3.out hb
 clear hsm HD3 HB3 HK3 HD2 Hb2 Hok HBr2 HBr3 Hrd Hrd3 Hrs Hrw Hbb Hm HLR Hb3
 obtain ⟨LM, hLM⟩ : ∃ LM, LM = mCell m (.slice Ad m.en.ds.length nd) (.slice Bd m.log.length kd) := ⟨_, rfl⟩
 have hla : LM.length = 18 := by rw [hLM]; rfl
 try simp only [← hLM] at HQ HMS HRS HSB3 ⊢
 clear hLM
 generalize bodyL m = bd at *
 generalize w2.heap.size = g15 at *
 have HRD : Hid (∀ (q : List UInt8) v W, q.length ≤ 1100000 → Bs W [] v q → Below w3.heap.size w3 W → Calls Tryz.prog 48 #[v] W fun e w' => SamePost true W e w') := fun q v W hq hv hb => reads6_any v q mx W hv (by omega) (HQ.out.hm W hb)
 have HSO : Hid (∀ K W m' dv' lv', Below w3.heap.size w3 W → MsgAt W [] m' dv' lv' → MBig K m' → Calls Tryz.prog 44 #[.agg (mCell m' dv' lv').toArray] W fun e w' => SamePost true W e w') := fun K W m' dv' lv' hb hd hw => lawsame6_any m' dv' lv' mx W hd hw.short hw.wf (HQ.out.hm W hb)
 obtain ⟨hfl0, hfl1⟩ := frameL_bd bd hbdl
 have HRF := Lib.hid (readF_put bd [] hbdl)
 rw [List.append_nil] at HRF
 go_wp2_with (refine wpList_load_mid rfl 68 (.tmp 15) rfl g15 0 rfl _ _ (HQ.out.range w3 (Below.refl _ _)) Tryz.underlying68 rfl (by rw [hla]; kernel_rfl) ?_)
 refine (HQ.out.bytes w3 (Below.refl _ _)).mono ?_
 rintro r w4 ⟨Ac, cc, rfl, hvb, hb4⟩
 have Hb4 := Lib.hid hb4
 have hrr := rread_any _ _ w4 (hvb [] (by simp)) (by show (frameL bd).length ≤ _; omega)
 unfold RReadP at hrr
 simp only [] at hrr
 rw [HRF.out] at hrr
 have HRR := Lib.hid hrr
 clear hrr HRF hvb hb4
 simp only [] at HRR ⊢
 generalize frameL bd = fb at *
 go_wp2_with fail
 refine HRR.out.mono ?_
 rintro r w5 ⟨vx, rfl, hownx, hb5⟩
 obtain ⟨g9, cap9, rfl, hg9, hgl9⟩ := hownx.form hbd0
 have Hb5 := Lib.hid (Hb4.out.trans (hb5.mono Hb4.out.size))
 have Hownb := Lib.hid hownx
 have hg9' : w3.heap.size ≤ g9 := by have := Hb4.out.size; omega
 clear hownx hb5 HRR
 have hwi := Lib.hid (fun W => within_any at_ 0 ((bd.length : Int) - 1) W (by omega) (by omega) (by omega))
 obtain ⟨hj0, hj1⟩ := within_bd at_ 0 ((bd.length : Int) - 1) (by omega)
 generalize withinS at_ 0 ((bd.length : Int) - 1) = j at *
 have hwl : IntKind.i64.wrap ((bd.length : Int) - 1) = (bd.length : Int) - 1 := by rw [IntKind.wrap_i64]; omega
 have hbdi : (0 : Int) < (bd.length : Int) := by omega
 go_wp2_with fail
 refine (hwi.out _).mono ?_
 rintro r w' ⟨rfl, rfl⟩
 clear hwi
 obtain ⟨z, rfl⟩ := Int.eq_ofNat_of_zero_le hj0
 have hzl2 : z < bd.length := by omega
 have hzi : (z : Int) < (bd.length : Int) := by omega
 have hcell9 : w5.cell? ⟨g9, z, none⟩ = some (.int .u8 bd[z].toNat) := by
  obtain ⟨A2, c2', he, _, _, hx⟩ := Rd.of_own (M := []) Hownb.out (by simp)
  obtain ⟨g', off', rfl, _, _, hcc⟩ := hx (by omega)
  injection he with h1 _ _
  injection h1 with h1
  injection h1 with h1 h2 _
  subst h1 h2
  have := hcc z (bV bd[z]) (by rw [List.getElem?_map, List.getElem?_eq_getElem hzl2]; rfl)
  rwa [Nat.zero_add] at this
 have hfz9 : w5.frozen? ⟨g9, z, none⟩ = false := by
  rcases Hownb.out.2 with ⟨h, _⟩ | ⟨g', cap', cur, hv, _, hg, _⟩
  ·cases h
  ·injection hv with h1 _ _
   injection h1 with h1
   injection h1 with h1 _ _
   subst h1
   exact Base.Blk.frozen hg _
 obtain ⟨yy, hyy⟩ := u8_xor_some bd[z] turn hturn
 have hownX : (w5.setCell ⟨g9, z, none⟩ (.int .u8 yy.toNat)).ownsRow w4.heap.size 5 1 (.slice (some ⟨g9, 0, none⟩) bd.length cap9) (bd.set z yy).length ((bd.set z yy).map bV) := by
  have := own_set Hownb.out z (bV yy) (by omega)
  rw [List.length_set, List.map_set]
  exact this
 have HbX : Hid (Below w3.heap.size w3 (w5.setCell ⟨g9, z, none⟩ (.int .u8 yy.toNat))) := Hb5.out.setCell hg9' _
 have HxX := Lib.hid (own_bs hownX)
 have hxl : (bd.set z yy).length ≤ 65536 := by rw [List.length_set]; omega
 have hzi0 : (0 : Int) ≤ (z : Int) := by omega
 clear hownX Hownb hwl hj0 hj1
 go_upto_region 6 with (fail)
 try rw [hyy]
 generalize w5.setCell ⟨g9, z, none⟩ (.int .u8 yy.toNat) = w6 at *
 clear hcell9 hfz9 hyy Hb4 Hb5
 generalize bd.set z yy = xs at *
 have H5 : Hid (∀ W, Below w6.heap.size w6 W → Below w3.heap.size w3 W) := fun W hb0 => HbX.out.trans (hb0.mono HbX.out.size)
 have HFin : Hid (∀ W, Below w6.heap.size w6 W → SamePost true w (.returned (.bool true)) W) := fun W hb => ⟨rfl, HKW.out W (H5.out W hb)⟩
 generalize w.heap.size = g10 at *
 have HSB : Hid (∀ W, Below w6.heap.size w6 W → W.rangeAt g15 0 LM ∧ W.rangeAt g10 0 LR) := fun W hb0 => HSB3.out W (H5.out W hb0)
 have HxW : Hid (∀ W, Below w6.heap.size w6 W → Bs W [] (.slice (some ⟨g9, 0, none⟩) bd.length cap9) xs) := fun W hb => HxX.out.keep (M' := []) (Keeps.of_below hb) (by simp)
 obtain ⟨_, hxf⟩ := frameL_bd xs hxl
 have hbf : (frameL b).length ≤ 1100000 := by
  have h1 := frameL_len b
  have u := Lib.uvarint_length64 (x := b.length) (by omega)
  omega
 have HFx := Lib.hid (fun W (hb : Below w6.heap.size w6 W) => rframe_any _ xs W (HxW.out W hb) (by omega))
 have HFb := Lib.hid (fun W (hb : Below w6.heap.size w6 W) => rframe_any _ b W (HbW.out W (H5.out W hb)) (by omega))
 have hn7 : bits .and .i64 n 7 ≤ 9223372036854775807 := by have := (and7_bd n).2; omega
 have Hq0 : Hid (Below w6.heap.size w6 w6.drew) := bdrewG (Below.refl _ w6)
 refine wp_region_held_drew (S := (fun W => W.rangeAt g15 0 LM ∧ W.rangeAt g10 0 LR)) (by kernel_rfl) (HSB.out _ Hq0.out) (fun hHeld => ?_)
 refine wpAnyH_take (i := 0) (oi := _) (v := .agg LM.toArray) rfl (by kernel_rfl) (by kernel_rfl) (by kernel_rfl) (fun _ _ _ h => h) (yieldsIf_load_mid (by rfl) _ _ rfl _ _ rfl LM _ (fun w hSw => hSw.1) Tryz.underlying68 rfl (by rw [hla]; kernel_rfl)) (by assumption) ?_
 try simp only [List.getElem_toArray, List.getElem_cons_succ, List.getElem_cons_zero, Act.put, List.setIfInBounds_toArray, List.set_cons_zero, List.set_cons_succ]
 refine wpAnyH_ready (rs := [1]) (by kernel_rfl) (by simp) ?_
 refine AllReadyH.cons (o := _) rfl (fun K hK => ?_) AllReadyH.nil
 go_simp
 refine (HQ.out.same _ (H5.out _ Hq0.out)).mono ?_
 rintro r v7 ⟨rfl, hbz⟩
 have Hq7 := Lib.hid (bthenG Hq0.out hbz)
 clear hbz
 refine hK.out _ _ (HSB.out _ Hq7.out) (fun hHeld2 => ?_)
 clear hK K hHeld
 have hHeld := hHeld2
 clear hHeld2
 try simp only [List.getElem_toArray, List.getElem_cons_succ, List.getElem_cons_zero, Act.put, List.setIfInBounds_toArray, List.set_cons_zero, List.set_cons_succ]
 refine wpAnyH_take (i := 2) (oi := _) (v := _) rfl (by kernel_rfl) (by kernel_rfl) (by kernel_rfl) (fun _ _ _ h => h) (Or.inl ⟨by rfl, by intro w hSw; go_simp <;> with_reducible rfl⟩) (by assumption) ?_
 try simp only [List.getElem_toArray, List.getElem_cons_succ, List.getElem_cons_zero, Act.put, List.setIfInBounds_toArray, List.set_cons_zero, List.set_cons_succ]
 refine wpAnyH_take (i := 3) (oi := _) (v := .agg LM.toArray) rfl (by kernel_rfl) (by kernel_rfl) (by kernel_rfl) (fun _ _ _ h => h) (yieldsIf_load_mid (by rfl) _ _ rfl _ _ rfl LM _ (fun w hSw => hSw.1) Tryz.underlying68 rfl (by rw [hla]; kernel_rfl)) (by assumption) ?_
 try simp only [List.getElem_toArray, List.getElem_cons_succ, List.getElem_cons_zero, Act.put, List.setIfInBounds_toArray, List.set_cons_zero, List.set_cons_succ]
 refine wpAnyH_take (i := 4) (oi := _) (v := _) rfl (by kernel_rfl) (by kernel_rfl) (by kernel_rfl) (fun _ _ _ h => h) (Or.inl ⟨by rfl, by intro w hSw; go_simp <;> with_reducible rfl⟩) (by assumption) ?_
 refine wpAnyH_take (i := 5) (oi := _) (v := _) rfl (by kernel_rfl) (by kernel_rfl) (by kernel_rfl) (fun _ _ _ h => h) (Or.inl ⟨by rfl, by intro w hSw; go_simp <;> with_reducible rfl⟩) (by assumption) ?_
 refine wpAnyH_take (i := 6) (oi := _) (v := _) rfl (by kernel_rfl) (by kernel_rfl) (by kernel_rfl) (fun _ _ _ h => h) (Or.inl ⟨by rfl, by intro w hSw; go_simp <;> with_reducible rfl⟩) (by assumption) ?_
 try simp only [List.getElem_toArray, List.getElem_cons_succ, List.getElem_cons_zero, Act.put, List.setIfInBounds_toArray, List.set_cons_zero, List.set_cons_succ]
 refine wpAnyH_ready (rs := [7]) (by kernel_rfl) (by simp) ?_
 refine AllReadyH.cons (o := _) rfl (fun K hK => ?_) AllReadyH.nil
 go_simp
 refine (HQ.out.odd _ (bits .and .i64 what 7) n hn (and7_within what n) (H5.out _ Hq7.out)).mono ?_
 rintro r v8 ⟨mo1, dvo1, lvo1, rfl, hdz, hwz, hbz⟩
 have Hq8 := Lib.hid (bthenG Hq7.out hbz)
 have Hdo1 := Lib.hid hdz; have Hwo1 := Lib.hid hwz
 clear hbz hdz hwz
 refine hK.out _ _ (HSB.out _ Hq8.out) (fun hHeld2 => ?_)
 clear hK K hHeld
 have hHeld := hHeld2
 clear hHeld2
 try simp only [List.getElem_toArray, List.getElem_cons_succ, List.getElem_cons_zero, Act.put, List.setIfInBounds_toArray, List.set_cons_zero, List.set_cons_succ]
 refine wpAnyH_ready (rs := [8]) (by kernel_rfl) (by simp) ?_
 refine AllReadyH.cons (o := _) rfl (fun K hK => ?_) AllReadyH.nil
 go_simp
 refine (HSO.out _ _ mo1 dvo1 lvo1 (H5.out _ Hq8.out) Hdo1.out Hwo1.out).mono ?_
 rintro r v9 ⟨rfl, hbz⟩
 have Hq9 := Lib.hid (bthenG Hq8.out hbz)
 clear hbz
 refine hK.out _ _ (HSB.out _ Hq9.out) (fun hHeld2 => ?_)
 clear hK K hHeld
 have hHeld := hHeld2
 clear hHeld2
 try simp only [List.getElem_toArray, List.getElem_cons_succ, List.getElem_cons_zero, Act.put, List.setIfInBounds_toArray, List.set_cons_zero, List.set_cons_succ]
 refine wpAnyH_take (i := 9) (oi := _) (v := _) rfl (by kernel_rfl) (by kernel_rfl) (by kernel_rfl) (fun _ _ _ h => h) (Or.inl ⟨by rfl, by intro w hSw; go_simp <;> with_reducible rfl⟩) (by assumption) ?_
 refine wpAnyH_take (i := 10) (oi := _) (v := _) rfl (by kernel_rfl) (by kernel_rfl) (by kernel_rfl) (fun _ _ _ h => h) (Or.inl ⟨by rfl, by intro w hSw; go_simp <;> with_reducible rfl⟩) (by assumption) ?_
 try simp only [List.getElem_toArray, List.getElem_cons_succ, List.getElem_cons_zero, Act.put, List.setIfInBounds_toArray, List.set_cons_zero, List.set_cons_succ]
 refine wpAnyH_take (i := 11) (oi := _) (v := .agg LM.toArray) rfl (by kernel_rfl) (by kernel_rfl) (by kernel_rfl) (fun _ _ _ h => h) (yieldsIf_load_mid (by rfl) _ _ rfl _ _ rfl LM _ (fun w hSw => hSw.1) Tryz.underlying68 rfl (by rw [hla]; kernel_rfl)) (by assumption) ?_
 try simp only [List.getElem_toArray, List.getElem_cons_succ, List.getElem_cons_zero, Act.put, List.setIfInBounds_toArray, List.set_cons_zero, List.set_cons_succ]
 refine wpAnyH_take (i := 12) (oi := _) (v := _) rfl (by kernel_rfl) (by kernel_rfl) (by kernel_rfl) (fun _ _ _ h => h) (Or.inl ⟨by rfl, by intro w hSw; go_simp <;> with_reducible rfl⟩) (by assumption) ?_
 refine wpAnyH_take (i := 13) (oi := _) (v := _) rfl (by kernel_rfl) (by kernel_rfl) (by kernel_rfl) (fun _ _ _ h => h) (Or.inl ⟨by rfl, by intro w hSw; go_simp <;> with_reducible rfl⟩) (by assumption) ?_
 refine wpAnyH_take (i := 14) (oi := _) (v := _) rfl (by kernel_rfl) (by kernel_rfl) (by kernel_rfl) (fun _ _ _ h => h) (Or.inl ⟨by rfl, by intro w hSw; go_simp <;> with_reducible rfl⟩) (by assumption) ?_
 refine wpAnyH_take (i := 16) (oi := _) (v := _) rfl (by kernel_rfl) (by kernel_rfl) (by kernel_rfl) (fun _ _ _ h => h) (Or.inl ⟨by rfl, by intro w hSw; go_simp <;> with_reducible rfl⟩) (by assumption) ?_
 refine wpAnyH_take (i := 17) (oi := _) (v := _) rfl (by kernel_rfl) (by kernel_rfl) (by kernel_rfl) (fun _ _ _ h => h) (Or.inl ⟨by rfl, by intro w hSw; go_simp <;> with_reducible rfl⟩) (by assumption) ?_
 refine wpAnyH_take (i := 18) (oi := _) (v := _) rfl (by kernel_rfl) (by kernel_rfl) (by kernel_rfl) (fun _ _ _ h => h) (Or.inl ⟨by rfl, by intro w hSw; go_simp <;> with_reducible rfl⟩) (by assumption) ?_
 refine wpAnyH_take (i := 19) (oi := _) (v := _) rfl (by kernel_rfl) (by kernel_rfl) (by kernel_rfl) (fun _ _ _ h => h) (Or.inl ⟨by rfl, by intro w hSw; go_simp <;> with_reducible rfl⟩) (by assumption) ?_
 try simp only [List.getElem_toArray, List.getElem_cons_succ, List.getElem_cons_zero, Act.put, List.setIfInBounds_toArray, List.set_cons_zero, List.set_cons_succ]
 refine wpAnyH_ready (rs := [15]) (by kernel_rfl) (by simp) ?_
 refine AllReadyH.cons (o := _) rfl (fun K hK => ?_) AllReadyH.nil
 go_simp
 refine (HQ.out.odd _ (bits .and .i64 what 7) n hn (and7_within what n) (H5.out _ Hq9.out)).mono ?_
 rintro r v10 ⟨mo2, dvo2, lvo2, rfl, hdz, hwz, hbz⟩
 have Hq10 := Lib.hid (bthenG Hq9.out hbz)
 have Hdo2 := Lib.hid hdz; have Hwo2 := Lib.hid hwz
 clear hbz hdz hwz
 refine hK.out _ _ (HSB.out _ Hq10.out) (fun hHeld2 => ?_)
 clear hK K hHeld
 have hHeld := hHeld2
 clear hHeld2
 try simp only [List.getElem_toArray, List.getElem_cons_succ, List.getElem_cons_zero, Act.put, List.setIfInBounds_toArray, List.set_cons_zero, List.set_cons_succ]
 refine wpAnyH_ready (rs := [20]) (by kernel_rfl) (by simp) ?_
 refine AllReadyH.cons (o := _) rfl (fun K hK => ?_) AllReadyH.nil
 go_simp
 refine (odd6_any 134 mo2 dvo2 lvo2 (bits .and .i64 at_ 7) (bits .and .i64 n 7) _ Hdo2.out (by omega) Hwo2.out hn7 (and7_within at_ _)).mono ?_
 rintro r v11 ⟨mo3, dvo3, lvo3, rfl, hdz, hwz, hbz⟩
 have Hq11 := Lib.hid (bthenG Hq10.out hbz)
 have Hdo3 := Lib.hid hdz; have Hwo3 := Lib.hid hwz
 clear hbz hdz hwz
 refine hK.out _ _ (HSB.out _ Hq11.out) (fun hHeld2 => ?_)
 clear hK K hHeld
 have hHeld := hHeld2
 clear hHeld2
 try simp only [List.getElem_toArray, List.getElem_cons_succ, List.getElem_cons_zero, Act.put, List.setIfInBounds_toArray, List.set_cons_zero, List.set_cons_succ]
 refine wpAnyH_ready (rs := [21]) (by kernel_rfl) (by simp) ?_
 refine AllReadyH.cons (o := _) rfl (fun K hK => ?_) AllReadyH.nil
 go_simp
 refine (HSO.out _ _ mo3 dvo3 lvo3 (H5.out _ Hq11.out) Hdo3.out Hwo3.out).mono ?_
 rintro r v12 ⟨rfl, hbz⟩
 have Hq12 := Lib.hid (bthenG Hq11.out hbz)
 clear hbz
 refine hK.out _ _ (HSB.out _ Hq12.out) (fun hHeld2 => ?_)
 clear hK K hHeld
 have hHeld := hHeld2
 clear hHeld2
 try simp only [List.getElem_toArray, List.getElem_cons_succ, List.getElem_cons_zero, Act.put, List.setIfInBounds_toArray, List.set_cons_zero, List.set_cons_succ]
 refine wpAnyH_take (i := 22) (oi := _) (v := _) rfl (by kernel_rfl) (by kernel_rfl) (by kernel_rfl) (fun _ _ _ h => h) (Or.inl ⟨by rfl, by intro w hSw; go_simp <;> with_reducible rfl⟩) (by assumption) ?_
 refine wpAnyH_take (i := 23) (oi := _) (v := _) rfl (by kernel_rfl) (by kernel_rfl) (by kernel_rfl) (fun _ _ _ h => h) (Or.inl ⟨by rfl, by intro w hSw; go_simp <;> with_reducible rfl⟩) (by assumption) ?_
 try simp only [List.getElem_toArray, List.getElem_cons_succ, List.getElem_cons_zero, Act.put, List.setIfInBounds_toArray, List.set_cons_zero, List.set_cons_succ]
 refine wpAnyH_take (i := 24) (oi := _) (v := .agg LR.toArray) rfl (by kernel_rfl) (by kernel_rfl) (by kernel_rfl) (fun _ _ _ h => h) (yieldsIf_load_mid (by rfl) _ _ rfl _ _ rfl LR _ (fun w hSw => hSw.2) Tryz.underlying68 rfl (by rw [hlr]; kernel_rfl)) (by assumption) ?_
 try simp only [List.getElem_toArray, List.getElem_cons_succ, List.getElem_cons_zero, Act.put, List.setIfInBounds_toArray, List.set_cons_zero, List.set_cons_succ]
 refine wpAnyH_ready (rs := [25]) (by kernel_rfl) (by simp) ?_
 refine AllReadyH.cons (o := _) rfl (fun K hK => ?_) AllReadyH.nil
 go_simp
 refine (HSR.out _ (H5.out _ Hq12.out)).mono ?_
 rintro r v13 ⟨rfl, hbz⟩
 have Hq13 := Lib.hid (bthenG Hq12.out hbz)
 clear hbz
 refine hK.out _ _ (HSB.out _ Hq13.out) (fun hHeld2 => ?_)
 clear hK K hHeld
 have hHeld := hHeld2
 clear hHeld2
 try simp only [List.getElem_toArray, List.getElem_cons_succ, List.getElem_cons_zero, Act.put, List.setIfInBounds_toArray, List.set_cons_zero, List.set_cons_succ]
 refine wpAnyH_take (i := 26) (oi := _) (v := _) rfl (by kernel_rfl) (by kernel_rfl) (by kernel_rfl) (fun _ _ _ h => h) (Or.inl ⟨by rfl, by intro w hSw; go_simp <;> with_reducible rfl⟩) (by assumption) ?_
 refine wpAnyH_take (i := 27) (oi := _) (v := _) rfl (by kernel_rfl) (by kernel_rfl) (by kernel_rfl) (fun _ _ _ h => h) (Or.inl ⟨by rfl, by intro w hSw; go_simp <;> with_reducible rfl⟩) (by assumption) ?_
 refine wpAnyH_take (i := 28) (oi := _) (v := _) rfl (by kernel_rfl) (by kernel_rfl) (by kernel_rfl) (fun _ _ _ h => h) (Or.inl ⟨by rfl, by intro w hSw; go_simp <;> with_reducible rfl⟩) (by assumption) ?_
 try simp only [List.getElem_toArray, List.getElem_cons_succ, List.getElem_cons_zero, Act.put, List.setIfInBounds_toArray, List.set_cons_zero, List.set_cons_succ]
 refine wpAnyH_ready (rs := [29]) (by kernel_rfl) (by simp) ?_
 refine AllReadyH.cons (o := _) rfl (fun K hK => ?_) AllReadyH.nil
 go_simp
 refine (HFx.out _ Hq13.out).mono ?_
 rintro r v14 ⟨vF1, rfl, hoz, hbz⟩
 have Hq14 := Lib.hid (bthenG Hq13.out hbz)
 have HoF1 := Lib.hid (own_bs hoz)
 clear hbz hoz
 refine hK.out _ _ (HSB.out _ Hq14.out) (fun hHeld2 => ?_)
 clear hK K hHeld
 have hHeld := hHeld2
 clear hHeld2
 try simp only [List.getElem_toArray, List.getElem_cons_succ, List.getElem_cons_zero, Act.put, List.setIfInBounds_toArray, List.set_cons_zero, List.set_cons_succ]
 refine wpAnyH_ready (rs := [30]) (by kernel_rfl) (by simp) ?_
 refine AllReadyH.cons (o := _) rfl (fun K hK => ?_) AllReadyH.nil
 go_simp
 refine (HRD.out _ _ _ (by omega) HoF1.out (H5.out _ Hq14.out)).mono ?_
 rintro r v15 ⟨rfl, hbz⟩
 have Hq15 := Lib.hid (bthenG Hq14.out hbz)
 clear hbz
 refine hK.out _ _ (HSB.out _ Hq15.out) (fun hHeld2 => ?_)
 clear hK K hHeld
 have hHeld := hHeld2
 clear hHeld2
 try simp only [List.getElem_toArray, List.getElem_cons_succ, List.getElem_cons_zero, Act.put, List.setIfInBounds_toArray, List.set_cons_zero, List.set_cons_succ]
 refine wpAnyH_take (i := 31) (oi := _) (v := _) rfl (by kernel_rfl) (by kernel_rfl) (by kernel_rfl) (fun _ _ _ h => h) (Or.inl ⟨by rfl, by intro w hSw; go_simp <;> with_reducible rfl⟩) (by assumption) ?_
 refine wpAnyH_take (i := 32) (oi := _) (v := _) rfl (by kernel_rfl) (by kernel_rfl) (by kernel_rfl) (fun _ _ _ h => h) (Or.inl ⟨by rfl, by intro w hSw; go_simp <;> with_reducible rfl⟩) (by assumption) ?_
 refine wpAnyH_take (i := 33) (oi := _) (v := _) rfl (by kernel_rfl) (by kernel_rfl) (by kernel_rfl) (fun _ _ _ h => h) (Or.inl ⟨by rfl, by intro w hSw; go_simp <;> with_reducible rfl⟩) (by assumption) ?_
 try simp only [List.getElem_toArray, List.getElem_cons_succ, List.getElem_cons_zero, Act.put, List.setIfInBounds_toArray, List.set_cons_zero, List.set_cons_succ]
 refine wpAnyH_ready (rs := [34]) (by kernel_rfl) (by simp) ?_
 refine AllReadyH.cons (o := _) rfl (fun K hK => ?_) AllReadyH.nil
 go_simp
 refine (HRD.out b _ _ (by omega) (HbW.out _ (H5.out _ Hq15.out)) (H5.out _ Hq15.out)).mono ?_
 rintro r v16 ⟨rfl, hbz⟩
 have Hq16 := Lib.hid (bthenG Hq15.out hbz)
 clear hbz
 refine hK.out _ _ (HSB.out _ Hq16.out) (fun hHeld2 => ?_)
 clear hK K hHeld
 have hHeld := hHeld2
 clear hHeld2
 try simp only [List.getElem_toArray, List.getElem_cons_succ, List.getElem_cons_zero, Act.put, List.setIfInBounds_toArray, List.set_cons_zero, List.set_cons_succ]
 refine wpAnyH_take (i := 35) (oi := _) (v := _) rfl (by kernel_rfl) (by kernel_rfl) (by kernel_rfl) (fun _ _ _ h => h) (Or.inl ⟨by rfl, by intro w hSw; go_simp <;> with_reducible rfl⟩) (by assumption) ?_
 refine wpAnyH_take (i := 36) (oi := _) (v := _) rfl (by kernel_rfl) (by kernel_rfl) (by kernel_rfl) (fun _ _ _ h => h) (Or.inl ⟨by rfl, by intro w hSw; go_simp <;> with_reducible rfl⟩) (by assumption) ?_
 refine wpAnyH_take (i := 37) (oi := _) (v := _) rfl (by kernel_rfl) (by kernel_rfl) (by kernel_rfl) (fun _ _ _ h => h) (Or.inl ⟨by rfl, by intro w hSw; go_simp <;> with_reducible rfl⟩) (by assumption) ?_
 try simp only [List.getElem_toArray, List.getElem_cons_succ, List.getElem_cons_zero, Act.put, List.setIfInBounds_toArray, List.set_cons_zero, List.set_cons_succ]
 refine wpAnyH_ready (rs := [38]) (by kernel_rfl) (by simp) ?_
 refine AllReadyH.cons (o := _) rfl (fun K hK => ?_) AllReadyH.nil
 go_simp
 refine (HFb.out _ Hq16.out).mono ?_
 rintro r v17 ⟨vF2, rfl, hoz, hbz⟩
 have Hq17 := Lib.hid (bthenG Hq16.out hbz)
 have HoF2 := Lib.hid (own_bs hoz)
 clear hbz hoz
 refine hK.out _ _ (HSB.out _ Hq17.out) (fun hHeld2 => ?_)
 clear hK K hHeld
 have hHeld := hHeld2
 clear hHeld2
 try simp only [List.getElem_toArray, List.getElem_cons_succ, List.getElem_cons_zero, Act.put, List.setIfInBounds_toArray, List.set_cons_zero, List.set_cons_succ]
 refine wpAnyH_ready (rs := [39]) (by kernel_rfl) (by simp) ?_
 refine AllReadyH.cons (o := _) rfl (fun K hK => ?_) AllReadyH.nil
 go_simp
 refine (HRD.out _ _ _ hbf HoF2.out (H5.out _ Hq17.out)).mono ?_
 rintro r v18 ⟨rfl, hbz⟩
 have Hq18 := Lib.hid (bthenG Hq17.out hbz)
 clear hbz
 refine hK.out _ _ (HSB.out _ Hq18.out) (fun hHeld2 => ?_)
 clear hK K hHeld
 have hHeld := hHeld2
 clear hHeld2
 try simp only [List.getElem_toArray, List.getElem_cons_succ, List.getElem_cons_zero, Act.put, List.setIfInBounds_toArray, List.set_cons_zero, List.set_cons_succ]
 refine wpAnyH_take (i := 40) (oi := _) (v := _) rfl (by kernel_rfl) (by kernel_rfl) (by kernel_rfl) (fun _ _ _ h => h) (Or.inl ⟨by rfl, by intro w hSw; go_simp <;> with_reducible rfl⟩) (by assumption) ?_
 refine wpAnyH_take (i := 41) (oi := _) (v := _) rfl (by kernel_rfl) (by kernel_rfl) (by kernel_rfl) (fun _ _ _ h => h) (Or.inl ⟨by rfl, by intro w hSw; go_simp <;> with_reducible rfl⟩) (by assumption) ?_
 try simp only [List.getElem_toArray, List.getElem_cons_succ, List.getElem_cons_zero, Act.put, List.setIfInBounds_toArray, List.set_cons_zero, List.set_cons_succ]
 refine wpAnyH_take (i := 42) (oi := _) (v := .agg LM.toArray) rfl (by kernel_rfl) (by kernel_rfl) (by kernel_rfl) (fun _ _ _ h => h) (yieldsIf_load_mid (by rfl) _ _ rfl _ _ rfl LM _ (fun w hSw => hSw.1) Tryz.underlying68 rfl (by rw [hla]; kernel_rfl)) (by assumption) ?_
 try simp only [List.getElem_toArray, List.getElem_cons_succ, List.getElem_cons_zero, Act.put, List.setIfInBounds_toArray, List.set_cons_zero, List.set_cons_succ]
 refine wpAnyH_take (i := 43) (oi := _) (v := .agg LR.toArray) rfl (by kernel_rfl) (by kernel_rfl) (by kernel_rfl) (fun _ _ _ h => h) (yieldsIf_load_mid (by rfl) _ _ rfl _ _ rfl LR _ (fun w hSw => hSw.2) Tryz.underlying68 rfl (by rw [hlr]; kernel_rfl)) (by assumption) ?_
 try simp only [List.getElem_toArray, List.getElem_cons_succ, List.getElem_cons_zero, Act.put, List.setIfInBounds_toArray, List.set_cons_zero, List.set_cons_succ]
 refine wpAnyH_take (i := 45) (oi := _) (v := .agg LM.toArray) rfl (by kernel_rfl) (by kernel_rfl) (by kernel_rfl) (fun _ _ _ h => h) (yieldsIf_load_mid (by rfl) _ _ rfl _ _ rfl LM _ (fun w hSw => hSw.1) Tryz.underlying68 rfl (by rw [hla]; kernel_rfl)) (by assumption) ?_
 try simp only [List.getElem_toArray, List.getElem_cons_succ, List.getElem_cons_zero, Act.put, List.setIfInBounds_toArray, List.set_cons_zero, List.set_cons_succ]
 refine wpAnyH_take (i := 46) (oi := _) (v := .agg LR.toArray) rfl (by kernel_rfl) (by kernel_rfl) (by kernel_rfl) (fun _ _ _ h => h) (yieldsIf_load_mid (by rfl) _ _ rfl _ _ rfl LR _ (fun w hSw => hSw.2) Tryz.underlying68 rfl (by rw [hlr]; kernel_rfl)) (by assumption) ?_
 try simp only [List.getElem_toArray, List.getElem_cons_succ, List.getElem_cons_zero, Act.put, List.setIfInBounds_toArray, List.set_cons_zero, List.set_cons_succ]
 refine wpAnyH_ready (rs := [44]) (by kernel_rfl) (by simp) ?_
 refine AllReadyH.cons (o := _) rfl (fun K hK => ?_) AllReadyH.nil
 go_simp
 refine (HMS.out _ (H5.out _ Hq18.out)).mono ?_
 rintro r v19 ⟨rfl, hbz⟩
 have Hq19 := Lib.hid (bthenG Hq18.out hbz)
 clear hbz
 refine hK.out _ _ (HSB.out _ Hq19.out) (fun hHeld2 => ?_)
 clear hK K hHeld
 have hHeld := hHeld2
 clear hHeld2
 try simp only [List.getElem_toArray, List.getElem_cons_succ, List.getElem_cons_zero, Act.put, List.setIfInBounds_toArray, List.set_cons_zero, List.set_cons_succ]
 refine wpAnyH_ready (rs := [47]) (by kernel_rfl) (by simp) ?_
 refine AllReadyH.cons (o := _) rfl (fun K hK => ?_) AllReadyH.nil
 go_simp
 refine (HRS.out _ (H5.out _ Hq19.out)).mono ?_
 rintro r v20 ⟨rfl, hbz⟩
 have Hq20 := Lib.hid (bthenG Hq19.out hbz)
 clear hbz
 refine hK.out _ _ (HSB.out _ Hq20.out) (fun hHeld2 => ?_)
 clear hK K hHeld
 have hHeld := hHeld2
 clear hHeld2
 try simp only [List.getElem_toArray, List.getElem_cons_succ, List.getElem_cons_zero, Act.put, List.setIfInBounds_toArray, List.set_cons_zero, List.set_cons_succ]
 refine wpAnyH_take (i := 48) (oi := _) (v := _) rfl (by kernel_rfl) (by kernel_rfl) (by kernel_rfl) (fun _ _ _ h => h) (Or.inl ⟨by rfl, by intro w hSw; go_simp <;> with_reducible rfl⟩) (by assumption) ?_
 refine wpAnyH_take (i := 49) (oi := _) (v := _) rfl (by kernel_rfl) (by kernel_rfl) (by kernel_rfl) (fun _ _ _ h => h) (Or.inl ⟨by rfl, by intro w hSw; go_simp <;> with_reducible rfl⟩) (by assumption) ?_
 refine wpAnyH_take (i := 50) (oi := _) (v := _) rfl (by kernel_rfl) (by kernel_rfl) (by kernel_rfl) (fun _ _ _ h => h) (Or.inl ⟨by rfl, by intro w hSw; go_simp <;> with_reducible rfl⟩) (by assumption) ?_
 try simp only [List.getElem_toArray, List.getElem_cons_succ, List.getElem_cons_zero, Act.put, List.setIfInBounds_toArray, List.set_cons_zero, List.set_cons_succ]
 refine wpAnyH_ready (rs := [51]) (by kernel_rfl) (by simp) ?_
 refine AllReadyH.cons (o := _) rfl (fun K hK => ?_) AllReadyH.nil
 go_simp
 refine (mknown_any mx _ (HQ.out.hm _ (H5.out _ Hq20.out))).mono ?_
 rintro r v21 ⟨rfl, hbz⟩
 have Hq21 := Lib.hid (bthenG Hq20.out hbz)
 clear hbz
 refine hK.out _ _ (HSB.out _ Hq21.out) (fun hHeld2 => ?_)
 clear hK K hHeld
 have hHeld := hHeld2
 clear hHeld2
 try simp only [List.getElem_toArray, List.getElem_cons_succ, List.getElem_cons_zero, Act.put, List.setIfInBounds_toArray, List.set_cons_zero, List.set_cons_succ]
 refine wpAnyH_take (i := 52) (oi := _) (v := _) rfl (by kernel_rfl) (by kernel_rfl) (by kernel_rfl) (fun _ _ _ h => h) (Or.inl ⟨by rfl, by intro w hSw; go_simp <;> with_reducible rfl⟩) (by assumption) ?_
 refine wpAnyH_take (i := 53) (oi := _) (v := _) rfl (by kernel_rfl) (by kernel_rfl) (by kernel_rfl) (fun _ _ _ h => h) (Or.inl ⟨by rfl, by intro w hSw; go_simp <;> with_reducible rfl⟩) (by assumption) ?_
 try simp only [List.getElem_toArray, List.getElem_cons_succ, List.getElem_cons_zero, Act.put, List.setIfInBounds_toArray, List.set_cons_zero, List.set_cons_succ]
 refine wpAnyH_done (by kernel_rfl) ?_ _
 have HF := Lib.hid (HFin.out _ Hq21.out)
 clear hHeld
 go_wp2
 go_ret
 exact HF.out
end Go.Proofs.YtinnifhnabncfaaGreatDoor.Vi
end
section
namespace Go.Proofs.YtinnifhnabncfaaGreatDoor.Vi
open Go.RowKit Base Mem Go.ChangeShapes Go.WideShapes Go.Deep
theorem bulk_one {H : Type} (d : DataW H) : 1 ≤ Rows.uptoBulk d := by
 cases d with
 | lit l => cases l <;> simp [Rows.uptoBulk]
 | nil => simp [Rows.uptoBulk]
 | ptr d => simp [Rows.uptoBulk]
 | slice elems spare => simp [Rows.uptoBulk]
 | agg parts => simp [Rows.uptoBulk]
 | iface t d => simp [Rows.uptoBulk]
 | map entries => simp [Rows.uptoBulk]
 | held h => simp [Rows.uptoBulk]
theorem bulk_part {H : Type} {d : DataW H} {l : List (DataW H)} (h : d ∈ l) : Rows.uptoBulk d ≤ Rows.uptoBulkAll l := by
 induction l with
 | nil => cases h
 | cons x r ih =>
  simp only [Rows.uptoBulkAll]
  rcases List.mem_cons.1 h with e | e
  ·subst e; omega
  ·have := ih e; omega
theorem bulk_len {H : Type} (l : List (DataW H)) : l.length ≤ Rows.uptoBulkAll l := by
 induction l with
 | nil => simp [Rows.uptoBulkAll]
 | cons x r ih => have := bulk_one x; simp only [Rows.uptoBulkAll, List.length_cons]; omega
theorem bulk_slice {H : Type} (elems spare : List (DataW H)) : Rows.uptoBulkAll elems ≤ Rows.uptoBulk (.slice elems spare) := by
 simp only [Rows.uptoBulk]
 omega
theorem bulk_agg {H : Type} (parts : List (DataW H)) : Rows.uptoBulkAll parts ≤ Rows.uptoBulk (.agg parts) := by
 simp only [Rows.uptoBulk]
 omega
theorem bulk_str {H : Type} (bytes : List UInt8) : bytes.length ≤ Rows.uptoBulk (DataW.lit (H := H) (.string bytes)) := by
 simp [Rows.uptoBulk]
theorem bulk_bound {H : Type} {l : List (DataW H)} (hk : Rows.uptoSmall H l = true) : Rows.uptoBulkAll l ≤ 1048576 := of_decide_eq_true hk
theorem wfE_u64 {n : Int} (h : (Lit.int .u64 n).wf = true) : 0 ≤ n ∧ n < 18446744073709551616 := by
 have h2 := h
 unfold Lit.wf at h2
 rw [Bool.and_eq_true, decide_eq_true_eq, decide_eq_true_eq] at h2
 have e1 : IntKind.u64.min = 0 := by decide
 have e2 : IntKind.u64.max = 18446744073709551615 := by decide
 rw [e1, e2] at h2
 omega
theorem wfE_u8 {n : Int} (h : (Lit.int .u8 n).wf = true) : 0 ≤ n ∧ n < 256 := by
 have h2 := h
 unfold Lit.wf at h2
 rw [Bool.and_eq_true, decide_eq_true_eq, decide_eq_true_eq] at h2
 have e1 : IntKind.u8.min = 0 := by decide
 have e2 : IntKind.u8.max = 255 := by decide
 rw [e1, e2] at h2
 omega
theorem wfE_i64 {n : Int} (h : (Lit.int .i64 n).wf = true) : n ≤ 9223372036854775807 := by
 have h2 := h
 unfold Lit.wf at h2
 rw [Bool.and_eq_true, decide_eq_true_eq, decide_eq_true_eq] at h2
 have e1 : IntKind.i64.min = -9223372036854775808 := by decide
 have e2 : IntKind.i64.max = 9223372036854775807 := by decide
 rw [e1, e2] at h2
 omega
theorem open_ds {H : Type} {enc : TypeId × Value → H} {W : World} {fuel : Nat} {a : Option Addr} {len cap : Nat} {d : DataW H} {p : List MemPlace}
  (h : DataW.trod enc Tryz.prog W 0 (fun _ => true) true fuel 24 [.slice a len cap] = some (d, p)) :
  ∃ l : List DeltaD, l.length = len ∧ Ds W [] (.slice a len cap) l ∧ (∀ x ∈ l, NOk x ∧ x.ser.size ≤ Rows.uptoBulk d) ∧ len ≤ Rows.uptoBulk d := by
 rcases open_slice_pairs Tryz.underlying24 Tryz.underlying86 (by kernel_rfl) rfl rfl (by kernel_rfl) (by kernel_rfl) h with ⟨hcs, _⟩ | ⟨x, l, c, m, n, V0, V1, D0, D1, P0, P1, hcs, _, hl, hm, hmm, hx, hall⟩
 ·simp at hcs
  obtain ⟨rfl, rfl, rfl⟩ := hcs
  exact ⟨[], rfl, Ds.nil _ _, by simp, Nat.zero_le _⟩
 ·simp at hcs
  obtain ⟨rfl, rfl, rfl⟩ := hcs
  simp only [if_true] at hmm
  subst hmm
  have hd : d = .slice ((List.range len).map fun i => .agg [D0 i, D1 i]) ((List.range (m - len)).map fun j => .agg [D0 (len + j), D1 (len + j)]) := by injection hx
  have hel : ∀ i, i < m → ∃ e : DeltaD, (∀ j u, (dCell e)[j]? = some u → W.cell? (x.add (i * 2 + j)) = some u) ∧ NOk e ∧ D0 i = .lit (.string e.ser.data.toList) := by
   intro i hi
   obtain ⟨h1, h2, t0, t1⟩ := hall i hi
   obtain ⟨s, e0, ex, _⟩ := DataW.trod_string Tryz.underlying9 t0
   obtain ⟨k, e1, _, hwf⟩ := DataW.trod_int Tryz.underlying66 t1
   obtain ⟨hk0, hk1⟩ := wfE_u64 hwf
   injection e0 with e0
   injection e1 with e1
   rw [e0] at h1
   rw [e1] at h2
   refine ⟨⟨s, k⟩, fun j u hu => ?_, ⟨hk0, hk1⟩, by injection ex⟩
   match j, hu with
   | 0, hu => simp [dCell] at hu; subst hu; exact h1
   | 1, hu => simp [dCell] at hu; subst hu; exact h2
  obtain ⟨f, hf⟩ : ∃ f : Nat → DeltaD, ∀ i, i < m → (∀ j u, (dCell (f i))[j]? = some u → W.cell? (x.add (i * 2 + j)) = some u) ∧ NOk (f i) ∧ D0 i = .lit (.string (f i).ser.data.toList) := by
   refine ⟨fun i => if h : i < m then (hel i h).choose else ⟨⟨#[]⟩, 0⟩, fun i hi => ?_⟩
   simp only [dif_pos hi]
   exact (hel i hi).choose_spec
  refine ⟨(List.range len).map f, by simp, ?_, ?_, ?_⟩
  ·refine ⟨some x, m, by simp, by simpa using hl, by rw [show dCells ((List.range len).map f) = ((List.range len).map f).flatMap dCell from rfl, flat_len dCell 2 (fun _ => rfl)], fun hn => ?_⟩
   have hn' : 0 < len := by simpa using hn
   have hc0 := (hf 0 (by omega)).1 0 _ rfl
   have hsp : x.spot = none := by simpa [Addr.add] using World.cell?_spot hc0
   obtain ⟨g, off, spot⟩ := x
   subst hsp
   refine ⟨g, off, rfl, ?_, by simp, fun j u hu => ?_⟩
   ·have := block_lt_of_cell hc0
    rwa [block_of_add] at this
   ·have hj : j < len * 2 := by
     have := (List.getElem?_eq_some_iff.1 hu).1
     rw [show dCells ((List.range len).map f) = ((List.range len).map f).flatMap dCell from rfl, flat_len dCell 2 (fun _ => rfl)] at this
     simpa using this
    have hk : j / 2 < ((List.range len).map f).length := by simp; omega
    have hfa := flat_at dCell 2 (fun _ => rfl) ((List.range len).map f) (j / 2) (j % 2) hk (by omega)
    rw [show j / 2 * 2 + j % 2 = j by omega] at hfa
    rw [show dCells ((List.range len).map f) = ((List.range len).map f).flatMap dCell from rfl, hfa] at hu
    have hg : ((List.range len).map f)[j / 2] = f (j / 2) := by simp
    rw [hg] at hu
    have := (hf (j / 2) (by omega)).1 (j % 2) u hu
    rw [show j / 2 * 2 + j % 2 = j by omega, addr_add] at this
    exact this
  ·intro y hy
   obtain ⟨i, hi, rfl⟩ := List.mem_map.1 hy
   have hi' : i < len := List.mem_range.1 hi
   obtain ⟨_, h2, h3⟩ := hf i (by omega)
   refine ⟨h2, ?_⟩
   have b1 : Rows.uptoBulk (DataW.agg [D0 i, D1 i]) ≤ Rows.uptoBulkAll ((List.range len).map fun i => DataW.agg [D0 i, D1 i]) := bulk_part (List.mem_map.2 ⟨i, hi, rfl⟩)
   have b2 := bulk_slice ((List.range len).map fun i => DataW.agg [D0 i, D1 i]) ((List.range (m - len)).map fun j => DataW.agg [D0 (len + j), D1 (len + j)])
   have b3 : Rows.uptoBulk (D0 i) ≤ Rows.uptoBulkAll [D0 i, D1 i] := bulk_part (by simp)
   have b4 := bulk_agg [D0 i, D1 i]
   have b5 := bulk_str (H := H) (f i).ser.data.toList
   rw [← h3] at b5
   rw [hd]
   have : (f i).ser.data.toList.length = (f i).ser.size := rfl
   omega
  ·rw [hd]
   have b1 := bulk_len ((List.range len).map fun i => DataW.agg [D0 i, D1 i])
   have b2 := bulk_slice ((List.range len).map fun i => DataW.agg [D0 i, D1 i]) ((List.range (m - len)).map fun j => DataW.agg [D0 (len + j), D1 (len + j)])
   rw [List.length_map, List.length_range] at b1
   omega
theorem open_bs {H : Type} {enc : TypeId × Value → H} {W : World} {fuel : Nat} {a : Option Addr} {len cap : Nat} {d : DataW H} {p : List MemPlace}
  (h : DataW.trod enc Tryz.prog W 0 (fun _ => true) true fuel 36 [.slice a len cap] = some (d, p)) :
  ∃ l : List UInt8, l.length = len ∧ Bs W [] (.slice a len cap) l ∧ len ≤ Rows.uptoBulk d := by
 rcases open_ints Tryz.underlying36 Tryz.underlying5 (by kernel_rfl) h with ⟨hcs, _⟩ | ⟨x, l, c, zs, hcs, _, hl, hm, hz, hx, hcell, hwz⟩
 ·simp at hcs
  obtain ⟨rfl, rfl, rfl⟩ := hcs
  exact ⟨[], rfl, Bs.nil _ _, Nat.zero_le _⟩
 ·simp at hcs
  obtain ⟨rfl, rfl, rfl⟩ := hcs
  simp only [if_true] at hz
  have hlen : ((zs.take len).map fun z => UInt8.ofNat z.toNat).length = len := by rw [List.length_map, List.length_take]; omega
  have hat : ∀ i, i < cap → W.cell? (x.add i) = some (.int .u8 (UInt8.ofNat (zs.getD i 0).toNat).toNat) := by
   intro i hi
   have h1 := hcell i (by omega)
   have hmem : zs.getD i 0 ∈ zs := by
    rw [List.getD_eq_getElem?_getD, List.getElem?_eq_getElem (by omega : i < zs.length)]
    exact List.getElem_mem _
   obtain ⟨h2, h3⟩ := wfE_u8 (hwz _ hmem)
   rw [h1, UInt8.toNat_ofNat_of_lt' (by show (zs.getD i 0).toNat < 256; omega)]
   congr 2
   omega
  refine ⟨(zs.take len).map fun z => UInt8.ofNat z.toNat, hlen, ?_, ?_⟩
  ·refine ⟨some x, cap, by rw [hlen], by rw [hlen]; exact hl, by rw [List.length_map, Nat.mul_one], fun hn => ?_⟩
   rw [hlen] at hn
   have hc0 := hat 0 (by omega)
   have hsp : x.spot = none := by simpa [Addr.add] using World.cell?_spot hc0
   obtain ⟨g, off, spot⟩ := x
   subst hsp
   refine ⟨g, off, rfl, ?_, by simp, fun j u hu => ?_⟩
   ·have := block_lt_of_cell hc0
    rwa [block_of_add] at this
   ·have hj : j < len := by
     have := (List.getElem?_eq_some_iff.1 hu).1
     rw [List.length_map, hlen] at this
     exact this
    have hjz : j < zs.length := by omega
    have h1 := hat j (by omega)
    rw [addr_add] at h1
    rw [List.getElem?_map, List.getElem?_map, List.getElem?_take, if_pos hj, List.getElem?_eq_getElem hjz] at hu
    simp only [Option.map_some, Option.some.injEq] at hu
    rw [← hu]
    rw [List.getD_eq_getElem?_getD, List.getElem?_eq_getElem hjz] at h1
    exact h1
  ·have hd : d = .slice (lits .u8 (zs.take len)) (lits .u8 (zs.drop len)) := by injection hx
   have b1 := bulk_len (lits (H := H) .u8 (zs.take len))
   have b2 := bulk_slice (lits (H := H) .u8 (zs.take len)) (lits .u8 (zs.drop len))
   have b3 : (lits (H := H) .u8 (zs.take len)).length = len := by simp [lits]; omega
   rw [hd]
   omega
end Go.Proofs.YtinnifhnabncfaaGreatDoor.Vi
end
section
namespace Go.Proofs.YtinnifhnabncfaaGreatDoor.Vi
open Go.RowKit Base Mem Go.ChangeShapes Go.WideShapes Go.Deep
/-- An entry that came in: what its bulk bounds, its numbers within their types. -/
structure EBulk (K : Nat) (e : EntryD) : Prop where
 tag : e.tag ≤ 9223372036854775807
 seq : e.seq ≤ 9223372036854775807
 ep : e.ep ≤ 9223372036854775807
 ser : e.ser.size ≤ K
 ds : ∀ x ∈ e.ds, NOk x ∧ x.ser.size ≤ K
 len : e.ds.length ≤ K
theorem EBulk.short {K : Nat} {e : EntryD} (h : EBulk K e) (hK : K ≤ 1048576) : Short e :=
 ⟨by have := h.ser; omega, fun d hd => by have := (h.ds d hd).2; omega, by have := h.len; omega⟩
theorem EBulk.wf {K : Nat} {e : EntryD} (h : EBulk K e) : Wf e := ⟨h.tag, h.seq, h.ep, fun d hd => (h.ds d hd).1⟩
set_option maxRecDepth 100000 in
theorem open_ecells {H : Type} {enc : TypeId × Value → H} {W : World} {fuel : Nat} {cs : List Value} {d : DataW H} {p : List MemPlace}
  (h : DataW.trod enc Tryz.prog W 0 (fun _ => true) true fuel 26 cs = some (d, p)) :
  ∃ (e : EntryD) (dv : Value), cs = eCell (e, dv) ∧ Ds W [] dv e.ds ∧ EBulk (Rows.uptoBulk d) e := by
 have h9 : Tryz.prog.cellsOf 26 = 9 := by kernel_rfl
 have h3 : Tryz.prog.cellsOf 23 = 3 := by kernel_rfl
 have hi : Tryz.prog.cellsOf 3 = 1 := by kernel_rfl
 have hj : Tryz.prog.cellsOf 2 = 1 := by kernel_rfl
 have hsl : Tryz.prog.cellsOf 24 = 1 := by kernel_rfl
 have hst : Tryz.prog.cellsOf 9 = 1 := by kernel_rfl
 obtain ⟨xs, n, _, hx0, hsz, hlen, hF⟩ := DataW.trod_struct Tryz.underlying26 h
 obtain ⟨y0, y1, y2, y3, y4, y5, y6, rfl⟩ : ∃ y0 y1 y2 y3 y4 y5 y6, xs = [y0, y1, y2, y3, y4, y5, y6] := match xs, hlen with | [y0, y1, y2, y3, y4, y5, y6], _ => ⟨y0, y1, y2, y3, y4, y5, y6, rfl⟩
 have hx := congrArg (·.1) hx0
 obtain ⟨c0, c1, c2, c3, c4, c5, c6, c7, c8, rfl⟩ : ∃ c0 c1 c2 c3 c4 c5 c6 c7 c8, cs = [c0, c1, c2, c3, c4, c5, c6, c7, c8] := by
  rw [h9] at hsz
  rcases cs with _ | ⟨c0, _ | ⟨c1, _ | ⟨c2, _ | ⟨c3, _ | ⟨c4, _ | ⟨c5, _ | ⟨c6, _ | ⟨c7, _ | ⟨c8, _ | ⟨c9, r⟩⟩⟩⟩⟩⟩⟩⟩⟩⟩ <;> simp at hsz
  exact ⟨c0, c1, c2, c3, c4, c5, c6, c7, c8, rfl⟩
 have t0' : DataW.trod enc Tryz.prog W 0 (fun _ => true) true n 3 [c0] = some y0 := by simpa [hi] using hF 0 _ rfl
 have t1' : DataW.trod enc Tryz.prog W 0 (fun _ => true) true n 23 [c1, c2, c3] = some y1 := by simpa [h3] using hF 1 _ rfl
 have t2' : DataW.trod enc Tryz.prog W 0 (fun _ => true) true n 2 [c4] = some y2 := by simpa [hj] using hF 2 _ rfl
 have t3' : DataW.trod enc Tryz.prog W 0 (fun _ => true) true n 24 [c5] = some y3 := by simpa [hsl] using hF 3 _ rfl
 have t4' : DataW.trod enc Tryz.prog W 0 (fun _ => true) true n 9 [c6] = some y4 := by simpa [hst] using hF 4 _ rfl
 have t5' : DataW.trod enc Tryz.prog W 0 (fun _ => true) true n 3 [c7] = some y5 := by simpa [hi] using hF 5 _ rfl
 have t6' : DataW.trod enc Tryz.prog W 0 (fun _ => true) true n 2 [c8] = some y6 := by simpa [hj] using hF 6 _ rfl
 obtain ⟨z0, z1, z2, n', _, _, s0, s1, s2⟩ := trod_struct3 Tryz.underlying23 t1'
 have s0' : DataW.trod enc Tryz.prog W 0 (fun _ => true) true n' 3 [c1] = some z0 := by rw [← s0, hi]; rfl
 have s1' : DataW.trod enc Tryz.prog W 0 (fun _ => true) true n' 3 [c2] = some z1 := by rw [← s1, hi]; rfl
 have s2' : DataW.trod enc Tryz.prog W 0 (fun _ => true) true n' 2 [c3] = some z2 := by rw [← s2, hj]; rfl
 obtain ⟨k0, e0, _, _⟩ := DataW.trod_int Tryz.underlying3 t0'
 obtain ⟨k1, e1, _, _⟩ := DataW.trod_int Tryz.underlying3 s0'
 obtain ⟨k2, e2, _, _⟩ := DataW.trod_int Tryz.underlying3 s1'
 obtain ⟨k3, e3, _, w3⟩ := DataW.trod_int Tryz.underlying2 s2'
 obtain ⟨k4, e4, _, w4⟩ := DataW.trod_int Tryz.underlying2 t2'
 obtain ⟨k6, e6, x6, _⟩ := DataW.trod_string Tryz.underlying9 t4'
 obtain ⟨k7, e7, _, _⟩ := DataW.trod_int Tryz.underlying3 t5'
 obtain ⟨k8, e8, _, w8⟩ := DataW.trod_int Tryz.underlying2 t6'
 injection e0 with e0; injection e1 with e1; injection e2 with e2; injection e3 with e3; injection e4 with e4; injection e6 with e6; injection e7 with e7; injection e8 with e8
 subst e0 e1 e2 e3 e4 e6 e7 e8
 obtain ⟨a5, n5, cp5, rfl⟩ : ∃ a n c, c5 = .slice a n c := by
  rcases open_slice Tryz.underlying24 t3' with ⟨hcs, _⟩ | ⟨x, l, c, m, n, D, Pl, hcs, _⟩
  ·injection hcs with h _; exact ⟨_, _, _, h⟩
  ·injection hcs with h _; exact ⟨_, _, _, h⟩
 obtain ⟨d3, p3⟩ := y3
 obtain ⟨l, rfl, hD, hl1, hl2⟩ := open_ds t3'
 have hd : d = .agg [y0.1, y1.1, y2.1, d3, y4.1, y5.1, y6.1] := hx
 have b1 := bulk_agg [y0.1, y1.1, y2.1, d3, y4.1, y5.1, y6.1]
 have b2 : Rows.uptoBulk d3 ≤ Rows.uptoBulkAll [y0.1, y1.1, y2.1, d3, y4.1, y5.1, y6.1] := bulk_part (by simp)
 have b3 : Rows.uptoBulk y4.1 ≤ Rows.uptoBulkAll [y0.1, y1.1, y2.1, d3, y4.1, y5.1, y6.1] := bulk_part (by simp)
 have b4 := bulk_str (H := H) k6.data.toList
 have hy4 : y4.1 = .lit (.string k6.data.toList) := by rw [x6]
 rw [← hy4] at b4
 rw [← hd] at b1
 have hk6 : k6.data.toList.length = k6.size := rfl
 refine ⟨⟨k0, k1, k2, k3, k4, l, k6, k7, k8⟩, .slice a5 l.length cp5, rfl, hD, wfE_i64 w8, wfE_i64 w3, wfE_i64 w4, ?_, fun x hx => ⟨(hl1 x hx).1, ?_⟩, ?_⟩
 ·show k6.size ≤ _; omega
 ·have := (hl1 x hx).2; omega
 ·show l.length ≤ _; omega
theorem open_ens {H : Type} {enc : TypeId × Value → H} {W : World} {fuel : Nat} {a : Option Addr} {len cap : Nat} {d : DataW H} {p : List MemPlace}
  (h : DataW.trod enc Tryz.prog W 0 (fun _ => true) true fuel 52 [.slice a len cap] = some (d, p)) :
  ∃ l : List EntryD, l.length = len ∧ Ens W [] (.slice a len cap) l ∧ (∀ e ∈ l, EBulk (Rows.uptoBulk d) e) ∧ len ≤ Rows.uptoBulk d := by
 have h9 : Tryz.prog.cellsOf 26 = 9 := by kernel_rfl
 rcases open_slice Tryz.underlying52 h with ⟨hcs, _⟩ | ⟨x, l, c, m, n, D, Pl, hcs, _, hl, hm, hmm, hx, hall⟩
 ·simp at hcs
  obtain ⟨rfl, rfl, rfl⟩ := hcs
  exact ⟨[], rfl, ⟨[], rfl, ⟨none, 0, rfl, Nat.le_refl _, rfl, fun h => absurd h (Nat.lt_irrefl _)⟩, by simp⟩, by simp, Nat.zero_le _⟩
 ·simp at hcs
  obtain ⟨rfl, rfl, rfl⟩ := hcs
  simp only [if_true] at hmm
  subst hmm
  rw [h9] at hall
  have hd : d = .slice ((List.range len).map D) ((List.range (m - len)).map fun j => D (len + j)) := by injection hx
  have hel : ∀ i, i < m → ∃ e : EntryD × Value, (∀ j u, (eCell e)[j]? = some u → W.cell? (x.add (i * 9 + j)) = some u) ∧ Ds W [] e.2 e.1.ds ∧ EBulk (Rows.uptoBulk (D i)) e.1 := by
   intro i hi
   obtain ⟨cs', h1, h2⟩ := hall i hi
   obtain ⟨e, dv, rfl, hD, hE⟩ := open_ecells h2
   obtain ⟨_, _, hc⟩ := World.cells?_some h1
   refine ⟨(e, dv), fun j u hu => ?_, hD, hE⟩
   have hj : j < 9 := by
    have := (List.getElem?_eq_some_iff.1 hu).1
    simpa [eCell] using this
   have := hc j hj
   rw [Addr.add_add] at this
   rw [this]; exact hu
  obtain ⟨f, hf⟩ : ∃ f : Nat → EntryD × Value, ∀ i, i < m → (∀ j u, (eCell (f i))[j]? = some u → W.cell? (x.add (i * 9 + j)) = some u) ∧ Ds W [] (f i).2 (f i).1.ds ∧ EBulk (Rows.uptoBulk (D i)) (f i).1 := by
   refine ⟨fun i => if h : i < m then (hel i h).choose else (⟨0, 0, 0, 0, 0, [], ⟨#[]⟩, 0, 0⟩, .slice none 0 0), fun i hi => ?_⟩
   simp only [dif_pos hi]
   exact (hel i hi).choose_spec
  have hb1 := bulk_len ((List.range len).map D)
  have hb2 := bulk_slice ((List.range len).map D) ((List.range (m - len)).map fun j => D (len + j))
  rw [List.length_map, List.length_range] at hb1
  refine ⟨((List.range len).map f).map (·.1), by simp, ⟨(List.range len).map f, rfl, ?_, ?_⟩, ?_, by rw [hd]; omega⟩
  ·refine ⟨some x, m, by simp, by simpa using hl, by rw [flat_len eCell 9 (fun _ => rfl)], fun hn => ?_⟩
   have hn' : 0 < len := by simpa using hn
   have hc0 := (hf 0 (by omega)).1 0 _ rfl
   have hsp : x.spot = none := by simpa [Addr.add] using World.cell?_spot hc0
   obtain ⟨g, off, spot⟩ := x
   subst hsp
   refine ⟨g, off, rfl, ?_, by simp, fun j u hu => ?_⟩
   ·have := block_lt_of_cell hc0
    rwa [block_of_add] at this
   ·have hj : j < len * 9 := by
     have := (List.getElem?_eq_some_iff.1 hu).1
     rw [flat_len eCell 9 (fun _ => rfl)] at this
     simpa using this
    have hk : j / 9 < ((List.range len).map f).length := by simp; omega
    have hfa := flat_at eCell 9 (fun _ => rfl) ((List.range len).map f) (j / 9) (j % 9) hk (by omega)
    rw [show j / 9 * 9 + j % 9 = j by omega] at hfa
    rw [hfa] at hu
    have hg : ((List.range len).map f)[j / 9] = f (j / 9) := by simp
    rw [hg] at hu
    have := (hf (j / 9) (by omega)).1 (j % 9) u hu
    rw [show j / 9 * 9 + j % 9 = j by omega, addr_add] at this
    exact this
  ·intro y hy
   obtain ⟨i, hi, rfl⟩ := List.mem_map.1 hy
   exact (hf i (by have := List.mem_range.1 hi; omega)).2.1
  ·intro y hy
   obtain ⟨q, hq, rfl⟩ := List.mem_map.1 hy
   obtain ⟨i, hi, rfl⟩ := List.mem_map.1 hq
   have hi' : i < len := List.mem_range.1 hi
   have hE := (hf i (by omega)).2.2
   have b1 : Rows.uptoBulk (D i) ≤ Rows.uptoBulkAll ((List.range len).map D) := bulk_part (List.mem_map.2 ⟨i, hi, rfl⟩)
   rw [hd]
   have hle : Rows.uptoBulk (D i) ≤ Rows.uptoBulk (DataW.slice ((List.range len).map D) ((List.range (m - len)).map fun j => D (len + j))) := Nat.le_trans b1 hb2
   exact ⟨hE.tag, hE.seq, hE.ep, Nat.le_trans hE.ser hle, fun z hz => ⟨(hE.ds z hz).1, Nat.le_trans (hE.ds z hz).2 hle⟩, Nat.le_trans hE.len hle⟩
set_option maxRecDepth 100000 in
theorem open_msg {H : Type} {enc : TypeId × Value → H} {W : World} {base : Nat} {v : Value} {d : DataW H} {p : List MemPlace}
  (hval : Value.okWide Tryz.prog W .any base 68 v) (h : DataW.Trod enc Tryz.prog W 0 (fun _ => true) true 68 v d p) :
  ∃ (m : MsgD) (dv lv : Value), v = .agg (mCell m dv lv).toArray ∧ MsgAt W [] m dv lv ∧ (Rows.uptoBulk d ≤ 1048576 → MBig 1048576 m) := by
 obtain ⟨cs, rfl, hsz⟩ := okWide_struct Tryz.underlying68 hval
 have h18 : Tryz.prog.cellsOf 68 = 18 := by kernel_rfl
 have h9 : Tryz.prog.cellsOf 26 = 9 := by kernel_rfl
 have hi : Tryz.prog.cellsOf 3 = 1 := by kernel_rfl
 have hj : Tryz.prog.cellsOf 2 = 1 := by kernel_rfl
 have hu : Tryz.prog.cellsOf 66 = 1 := by kernel_rfl
 have hsl : Tryz.prog.cellsOf 52 = 1 := by kernel_rfl
 rw [h18] at hsz
 obtain ⟨fuel, hf⟩ := h
 replace hf : DataW.trod enc Tryz.prog W 0 (fun _ => true) true fuel 68 cs.toList = some (d, p) := hf
 obtain ⟨xs, n, _, hx0, _, hlen, hF⟩ := DataW.trod_struct Tryz.underlying68 hf
 obtain ⟨y0, y1, y2, y3, y4, y5, y6, y7, y8, y9, rfl⟩ : ∃ y0 y1 y2 y3 y4 y5 y6 y7 y8 y9, xs = [y0, y1, y2, y3, y4, y5, y6, y7, y8, y9] := match xs, hlen with | [y0, y1, y2, y3, y4, y5, y6, y7, y8, y9], _ => ⟨y0, y1, y2, y3, y4, y5, y6, y7, y8, y9, rfl⟩
 have hx := congrArg (·.1) hx0
 obtain ⟨c0, c1, c2, c3, c4, c5, c6, c7, c8, c9, c10, c11, c12, c13, c14, c15, c16, c17, rfl⟩ : ∃ c0 c1 c2 c3 c4 c5 c6 c7 c8 c9 c10 c11 c12 c13 c14 c15 c16 c17, cs = #[c0, c1, c2, c3, c4, c5, c6, c7, c8, c9, c10, c11, c12, c13, c14, c15, c16, c17] := by
  obtain ⟨cs⟩ := cs
  rcases cs with _ | ⟨c0, _ | ⟨c1, _ | ⟨c2, _ | ⟨c3, _ | ⟨c4, _ | ⟨c5, _ | ⟨c6, _ | ⟨c7, _ | ⟨c8, _ | ⟨c9, _ | ⟨c10, _ | ⟨c11, _ | ⟨c12, _ | ⟨c13, _ | ⟨c14, _ | ⟨c15, _ | ⟨c16, _ | ⟨c17, _ | ⟨c18, r⟩⟩⟩⟩⟩⟩⟩⟩⟩⟩⟩⟩⟩⟩⟩⟩⟩⟩⟩ <;> simp at hsz
  exact ⟨c0, c1, c2, c3, c4, c5, c6, c7, c8, c9, c10, c11, c12, c13, c14, c15, c16, c17, rfl⟩
 have t0' : DataW.trod enc Tryz.prog W 0 (fun _ => true) true n 3 [c0] = some y0 := by simpa [hi] using hF 0 _ rfl
 have t1' : DataW.trod enc Tryz.prog W 0 (fun _ => true) true n 26 [c1, c2, c3, c4, c5, c6, c7, c8, c9] = some y1 := by simpa [h9] using hF 1 _ rfl
 have t2' : DataW.trod enc Tryz.prog W 0 (fun _ => true) true n 2 [c10] = some y2 := by simpa [hj] using hF 2 _ rfl
 have t3' : DataW.trod enc Tryz.prog W 0 (fun _ => true) true n 3 [c11] = some y3 := by simpa [hi] using hF 3 _ rfl
 have t4' : DataW.trod enc Tryz.prog W 0 (fun _ => true) true n 66 [c12] = some y4 := by simpa [hu] using hF 4 _ rfl
 have t5' : DataW.trod enc Tryz.prog W 0 (fun _ => true) true n 2 [c13] = some y5 := by simpa [hj] using hF 5 _ rfl
 have t6' : DataW.trod enc Tryz.prog W 0 (fun _ => true) true n 2 [c14] = some y6 := by simpa [hj] using hF 6 _ rfl
 have t7' : DataW.trod enc Tryz.prog W 0 (fun _ => true) true n 52 [c15] = some y7 := by simpa [hsl] using hF 7 _ rfl
 have t8' : DataW.trod enc Tryz.prog W 0 (fun _ => true) true n 3 [c16] = some y8 := by simpa [hi] using hF 8 _ rfl
 have t9' : DataW.trod enc Tryz.prog W 0 (fun _ => true) true n 3 [c17] = some y9 := by simpa [hi] using hF 9 _ rfl
 clear hF hf
 obtain ⟨k0, e0, _, w0⟩ := DataW.trod_int Tryz.underlying3 t0'
 obtain ⟨k2, e2, _, w2⟩ := DataW.trod_int Tryz.underlying2 t2'
 obtain ⟨k3, e3, _, w3⟩ := DataW.trod_int Tryz.underlying3 t3'
 obtain ⟨k4, e4, _, w4⟩ := DataW.trod_int Tryz.underlying66 t4'
 obtain ⟨k5, e5, _, w5⟩ := DataW.trod_int Tryz.underlying2 t5'
 obtain ⟨k6, e6, _, w6⟩ := DataW.trod_int Tryz.underlying2 t6'
 obtain ⟨k8, e8, _, w8⟩ := DataW.trod_int Tryz.underlying3 t8'
 obtain ⟨k9, e9, _, w9⟩ := DataW.trod_int Tryz.underlying3 t9'
 injection e0 with e0; injection e2 with e2; injection e3 with e3; injection e4 with e4; injection e5 with e5; injection e6 with e6; injection e8 with e8; injection e9 with e9
 subst e0 e2 e3 e4 e5 e6 e8 e9
 obtain ⟨a7, n7, cp7, rfl⟩ : ∃ a n c, c15 = .slice a n c := by
  rcases open_slice Tryz.underlying52 t7' with ⟨hcs, _⟩ | ⟨x, l, c, m, n, D, Pl, hcs, _⟩
  ·injection hcs with h _; exact ⟨_, _, _, h⟩
  ·injection hcs with h _; exact ⟨_, _, _, h⟩
 obtain ⟨d1, p1⟩ := y1
 obtain ⟨d7, p7⟩ := y7
 obtain ⟨en, dv, hec, hD, hE⟩ := open_ecells t1'
 obtain ⟨l, rfl, hL, hl1, hl2⟩ := open_ens t7'
 have hd : d = .agg [y0.1, d1, y2.1, y3.1, y4.1, y5.1, y6.1, d7, y8.1, y9.1] := hx
 have b1 := bulk_agg [y0.1, d1, y2.1, y3.1, y4.1, y5.1, y6.1, d7, y8.1, y9.1]
 have b2 : Rows.uptoBulk d1 ≤ Rows.uptoBulkAll [y0.1, d1, y2.1, y3.1, y4.1, y5.1, y6.1, d7, y8.1, y9.1] := bulk_part (by simp)
 have b3 : Rows.uptoBulk d7 ≤ Rows.uptoBulkAll [y0.1, d1, y2.1, y3.1, y4.1, y5.1, y6.1, d7, y8.1, y9.1] := bulk_part (by simp)
 rw [← hd] at b1
 obtain ⟨q0, q1, q2, q3, q4, q5, q6, q7, q8⟩ := en
 simp only [eCell, List.cons.injEq, and_true] at hec
 obtain ⟨rfl, rfl, rfl, rfl, rfl, rfl, rfl, rfl, rfl⟩ := hec
 refine ⟨⟨k0, ⟨q0, q1, q2, q3, q4, q5, q6, q7, q8⟩, k2, k3, k4, k5, k6, l, k8, k9⟩, _, .slice a7 l.length cp7, rfl, ⟨hD, hL⟩, fun hb => ⟨⟨hE.short (by omega), ?_, fun e he => (hl1 e he).short (by omega)⟩, ⟨wfE_i64 w2, wfE_i64 w5, wfE_i64 w6, (wfE_u64 w4).1, (wfE_u64 w4).2, hE.wf, fun e he => (hl1 e he).wf⟩, ?_⟩⟩
 ·show l.length ≤ _; omega
 ·show l.length ≤ _; omega
end Go.Proofs.YtinnifhnabncfaaGreatDoor.Vi
end
