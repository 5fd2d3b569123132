/- Texts put together: EnT, OpE. -/
import Derived.Test.YtinnifhnabncfaaGreatDoorRows
import Derived.Deep.Slices
import Derived.Deep.SlicePairs
import Derived.Deep.Strs
import Derived.Test.YtinnifhnabncfaaGreatDoorET9
import Derived.Test.YtinnifhnabncfaaGreatDoorET10
set_option linter.unusedVariables false
set_option linter.unusedSimpArgs false
/- The walk of hopperlaw4.EntryTells. -/
section
namespace Go.Proofs.YtinnifhnabncfaaGreatDoor.Vi
open Go.RowKit Base Mem Tape Go.Shelf
theorem and7_le (n : Int) : bits .and .i64 n 7 ≤ 9223372036854775807 := by
  show IntKind.i64.wrap _ ≤ _
  rw [IntKind.wrap_i64]
  omega
theorem ds_head {w : World} {A : Option Addr} {c : Nat} {l : List DeltaD} (h : Ds w [] (.slice A l.length c) l) {k : Nat} (hk : k ≤ l.length) : Ds w [] (.slice A k c) (l.take k) := by
  obtain ⟨A', c', e, hc, hl, hx⟩ := h
  injection e with e1 _ e3
  subst e1 e3
  have hlen : (l.take k).length = k := List.length_take_of_le hk
  unfold Ds
  rw [hlen]
  refine ⟨A, c, rfl, by omega, by rw [show dCells (l.take k) = (l.take k).flatMap dCell from rfl, flat_len dCell 2 (fun _ => rfl), hlen], fun h0 => ?_⟩
  obtain ⟨g, off, e, hg, hM, hcell⟩ := hx (by omega)
  refine ⟨g, off, e, hg, hM, fun j u hu => hcell j u ?_⟩
  have : dCells l = dCells (l.take k) ++ dCells (l.drop k) := by
    show l.flatMap dCell = (l.take k).flatMap dCell ++ (l.drop k).flatMap dCell
    rw [← List.flatMap_append, List.take_append_drop]
  rw [this, List.getElem?_append_left (List.getElem?_eq_some_iff.1 hu).1]
  exact hu
set_option maxRecDepth 100000 in
set_option maxHeartbeats 16000000 in
theorem etells_walk (At : Option Addr) (ct : Nat) (t : List Int) (what n : Int) (raw : EntryD) (rdv : Value) (Ab : Option Addr) (cb : Nat) (b : List UInt8) (at_ : Int) (turn : Nat) (Al : Option Addr) (cl : Nat) (l : List DeltaD) (m : Int) (w : World)
    (ht : Nums w At ct t) (hn : n ≤ 9223372036854775807) (hrd : Ds w [] rdv raw.ds) (hrw : Wide 1048576 raw) (hbb : Bs w [] (.slice Ab b.length cb) b) (hbl : b.length ≤ 1048576) (hturn : turn < 256)
    (hld : Ds w [] (.slice Al l.length cl) l) (hln : ∀ d ∈ l, NOk d) (hll : l.length ≤ 1048576) (hm : w.cell? ⟨0, 0, none⟩ = some (.int .i64 m)) :
    Calls Tryz.prog 4 #[.slice At t.length ct, .int .i64 what, .int .i64 n, .agg (eCell (raw, rdv)).toArray, .slice Ab b.length cb, .int .i64 at_, .int .u8 turn, .slice Al l.length cl] w fun e w' => SamePost true w e w' := by
  have hw0 : 0 < w.heap.size := by
    have := World.block_lt_of_cell? w _ hm
    simpa using this
  have Hm : Hid (∀ W, Below w.heap.size w W → W.cell? ⟨0, 0, none⟩ = some (.int .i64 m)) := fun W hb => (hb.cell (p := ⟨0, 0, none⟩) hw0).trans hm
  have Ht := Lib.hid ht; have Hrd := Lib.hid hrd; have Hrw := Lib.hid hrw; have Hbb := Lib.hid hbb; have Hld := Lib.hid hld; have Hln := Lib.hid hln
  have hlc : l.length ≤ cl := by obtain ⟨A', c', e, h, _⟩ := hld; injection e with _ _ e3; omega
  obtain ⟨A', c', rfl, _⟩ := hrd.len
  clear hm ht hrd hrw hbb hld hln
  obtain ⟨kind', ag', sh', seq', ep', ds', ser', fr', tag'⟩ := raw
  simp only [eCell] at *
  go_enter Tryz.func4, Tryz.ntmps4
  go_upto_region 1 with (fail)
  have hBr := Blk.new w 26 #[.int .i64 kind', .int .i64 ag', .int .i64 sh', .int .i64 seq', .int .i64 ep', .slice A' ds'.length c', .string ser', .int .i64 fr', .int .i64 tag']
  have hbr := below_new' w (.cells #[.int .i64 kind', .int .i64 ag', .int .i64 sh', .int .i64 seq', .int .i64 ep', .slice A' ds'.length c', .string ser', .int .i64 fr', .int .i64 tag'] 26)
  have hg0 : w.heap.size < (w.alloc (.cells #[.int .i64 kind', .int .i64 ag', .int .i64 sh', .int .i64 seq', .int .i64 ep', .slice A' ds'.length c', .string ser', .int .i64 fr', .int .i64 tag'] 26)).heap.size := hBr.lt
  have HBr := Lib.hid hBr; have Hbr := Lib.hid hbr
  clear hBr hbr
  generalize w.alloc (.cells #[.int .i64 kind', .int .i64 ag', .int .i64 sh', .int .i64 seq', .int .i64 ep', .slice A' ds'.length c', .string ser', .int .i64 fr', .int .i64 tag'] 26) = w1 at *
  have hnums : Nums w1 At ct t := by
    obtain ⟨h1, h2, h3⟩ := Ht.out
    refine ⟨h1, h2, fun h0 => ?_⟩
    obtain ⟨g, off, e, hg, hx⟩ := h3 h0
    exact ⟨g, off, e, by have := Hbr.out.size; omega, fun j x hj => (Hbr.out.cell (p := ⟨g, off + j, none⟩) hg).trans (hx j x hj)⟩
  have hT := tape_new hnums (Below.refl _ w1)
  have Hen := Lib.hid (entry_any w1.heap.size _ 0 _ hT)
  have Hba := Lib.hid (Hbr.out.alloc Hbr.out.size (.cells #[.slice At t.length ct, .int .i64 0] 31))
  have HBa := Lib.hid (HBr.out.below (below_new' w1 (.cells #[.slice At t.length ct, .int .i64 0] 31)) hg0)
  have hz1 : w.heap.size ≤ w1.heap.size := Hbr.out.size
  clear hnums hT Hbr HBr Ht
  go_wp2_with fail
  refine Hen.out.mono ?_
  rintro e w2 ⟨en, dv, k1, rfl, hok, hD, _, hk2⟩
  have Hb2 := Lib.hid ((Keeps.of_below (M := []) Hba.out).trans hk2 (by intro g hg; simp at hg; right; omega)).below
  have HB2 := Lib.hid (hk2.blk HBa.out (by simp; omega))
  have HD2 := Lib.hid (hD [] (by simp))
  have HW := Lib.hid (entry_wide hok)
  obtain ⟨hr0, hsh, hwf⟩ := entry_right hok
  have hbel := bytesE_len hok
  have Hr0 := Lib.hid hr0; have Hsh := Lib.hid hsh; have Hwf := Lib.hid hwf; have Hbel := Lib.hid hbel
  obtain ⟨A, c, rfl, _⟩ := HD2.out.len
  clear hok hD hk2 hr0 hsh hwf hbel Hen Hba HBa
  obtain ⟨kind, ag, sh, seq, ep, ds, ser, fr, tag⟩ := en
  simp only [eCell] at *
  go_upto_region 2 with (fail)
  have hg11a : w.heap.size < w2.heap.size := HB2.out.lt
  have hB := Blk.new w2 26 #[.int .i64 kind, .int .i64 ag, .int .i64 sh, .int .i64 seq, .int .i64 ep, .slice A ds.length c, .string ser, .int .i64 fr, .int .i64 tag]
  have HD3 : Hid (Ds (w2.alloc (.cells #[.int .i64 kind, .int .i64 ag, .int .i64 sh, .int .i64 seq, .int .i64 ep, .slice A ds.length c, .string ser, .int .i64 fr, .int .i64 tag] 26)) [] (.slice A ds.length c) ds) := HD2.out.keep (M' := []) ((Keeps.refl _ _).alloc _) (by simp)
  have Hb3 := Lib.hid (Hb2.out.alloc Hb2.out.size (.cells #[.int .i64 kind, .int .i64 ag, .int .i64 sh, .int .i64 seq, .int .i64 ep, .slice A ds.length c, .string ser, .int .i64 fr, .int .i64 tag] 26))
  have HB11 := Lib.hid (HB2.out.below (below_new' w2 (.cells #[.int .i64 kind, .int .i64 ag, .int .i64 sh, .int .i64 seq, .int .i64 ep, .slice A ds.length c, .string ser, .int .i64 fr, .int .i64 tag] 26)) hg11a)
  have hg17 : w2.heap.size < (w2.alloc (.cells #[.int .i64 kind, .int .i64 ag, .int .i64 sh, .int .i64 seq, .int .i64 ep, .slice A ds.length c, .string ser, .int .i64 fr, .int .i64 tag] 26)).heap.size := hB.lt
  have hg11 : w.heap.size < (w2.alloc (.cells #[.int .i64 kind, .int .i64 ag, .int .i64 sh, .int .i64 seq, .int .i64 ep, .slice A ds.length c, .string ser, .int .i64 fr, .int .i64 tag] 26)).heap.size := HB11.out.lt
  have HB17 := Lib.hid hB
  clear hB HD2 Hb2 HB2 hg11a hg0 hz1
  generalize w2.alloc (.cells #[.int .i64 kind, .int .i64 ag, .int .i64 sh, .int .i64 seq, .int .i64 ep, .slice A ds.length c, .string ser, .int .i64 fr, .int .i64 tag] 26) = w3 at *
  generalize w2.heap.size = g17 at *
  obtain ⟨c0, c1, c2, c3, c4, c5, c6, c7, c8, _⟩ := rblk9 HB17.out
  have HKW : Hid (∀ W, Below w3.heap.size w3 W → Below w.heap.size w W) := fun W hb => below_then Hb3.out hb
  have HmW : Hid (∀ W, Below w3.heap.size w3 W → W.cell? ⟨0, 0, none⟩ = some (.int .i64 m)) := fun W hb => Hm.out W (HKW.out W hb)
  have HDW : Hid (∀ W, Below w3.heap.size w3 W → Ds W [] (.slice A ds.length c) ds) := fun W hb => HD3.out.keep (M' := []) (Keeps.of_below hb) (by simp)
  have HDR : Hid (∀ W, Below w3.heap.size w3 W → Ds W [] (.slice A' ds'.length c') ds') := fun W hb => Hrd.out.keep (M' := []) (Keeps.of_below (HKW.out W hb)) (by simp)
  have HSA : Hid (∀ W, Below w3.heap.size w3 W → Calls Tryz.prog 17 #[.agg #[.int .i64 kind, .int .i64 ag, .int .i64 sh, .int .i64 seq, .int .i64 ep, .slice A ds.length c, .string ser, .int .i64 fr, .int .i64 tag]] W fun e w' => SamePost true W e w') := fun W hb => lawsame_any 10 ⟨kind, ag, sh, seq, ep, ds, ser, fr, tag⟩ (.slice A ds.length c) m W (HDW.out W hb) (by omega) HW.out (HmW.out W hb)
  have HSR : Hid (∀ W, Below w3.heap.size w3 W → Calls Tryz.prog 17 #[.agg #[.int .i64 kind', .int .i64 ag', .int .i64 sh', .int .i64 seq', .int .i64 ep', .slice A' ds'.length c', .string ser', .int .i64 fr', .int .i64 tag']] W fun e w' => SamePost true W e w') := fun W hb => lawsame_any 1048576 ⟨kind', ag', sh', seq', ep', ds', ser', fr', tag'⟩ (.slice A' ds'.length c') m W (HDR.out W hb) (by omega) Hrw.out (HmW.out W hb)
  have HOD : Hid (∀ W (what n : Int), n ≤ 9223372036854775807 → Below w3.heap.size w3 W → Calls Tryz.prog 18 #[.agg #[.int .i64 kind, .int .i64 ag, .int .i64 sh, .int .i64 seq, .int .i64 ep, .slice A ds.length c, .string ser, .int .i64 fr, .int .i64 tag], .int .i64 what, .int .i64 n] W fun e w' => OddPost 20 W e w') := fun W what n hn hb => odd_any 10 ⟨kind, ag, sh, seq, ep, ds, ser, fr, tag⟩ (.slice A ds.length c) what n W (HDW.out W hb) (by omega) HW.out hn
  have HOO : Hid (∀ W e dv (what n : Int), n ≤ 9223372036854775807 → Ds W [] dv e.ds → Wide 20 e → Calls Tryz.prog 18 #[.agg (eCell (e, dv)).toArray, .int .i64 what, .int .i64 n] W fun e w' => OddPost 30 W e w') := fun W e dv what n hn hd hw => odd_any 20 e dv what n W hd (by omega) hw hn
  have HSO : Hid (∀ W e dv, Below w3.heap.size w3 W → Ds W [] dv e.ds → Wide 30 e → Calls Tryz.prog 17 #[.agg (eCell (e, dv)).toArray] W fun r w' => SamePost true W r w') := fun W e dv hb hd hw => lawsame_any 30 e dv m W hd (by omega) hw (HmW.out W hb)
  have HBy : Hid (Calls Tryz.prog 19 #[.agg #[.int .i64 kind, .int .i64 ag, .int .i64 sh, .int .i64 seq, .int .i64 ep, .slice A ds.length c, .string ser, .int .i64 fr, .int .i64 tag]] w3 fun r w' => OwnB (bytesE ⟨kind, ag, sh, seq, ep, ds, ser, fr, tag⟩) w3 r w') := rbytes_any ⟨kind, ag, sh, seq, ep, ds, ser, fr, tag⟩ (.slice A ds.length c) w3 Hr0.out HD3.out Hsh.out Hwf.out
  have HRD : Hid (∀ (q : List UInt8) v W, q.length ≤ 1048576 → Bs W [] v q → Below w3.heap.size w3 W → Calls Tryz.prog 20 #[v] W fun e w' => SamePost true W e w') := fun q v W hq hv hb => reads_any v q m W hv (by omega) (HmW.out W hb)
  obtain ⟨sm, hsm⟩ : ∃ sm, sm = sameE ⟨kind, ag, sh, seq, ep, ds, ser, fr, tag⟩ ⟨kind', ag', sh', seq', ep', ds', ser', fr', tag'⟩ := ⟨_, rfl⟩
  have HES : Hid (∀ W, Below w3.heap.size w3 W → Calls Tryz.prog 23 #[.agg #[.int .i64 kind, .int .i64 ag, .int .i64 sh, .int .i64 seq, .int .i64 ep, .slice A ds.length c, .string ser, .int .i64 fr, .int .i64 tag], .agg #[.int .i64 kind', .int .i64 ag', .int .i64 sh', .int .i64 seq', .int .i64 ep', .slice A' ds'.length c', .string ser', .int .i64 fr', .int .i64 tag']] W fun r w' => SamePost sm W r w') := fun W hb => by
    rw [hsm]
    exact same_any ⟨kind, ag, sh, seq, ep, ds, ser, fr, tag⟩ ⟨kind', ag', sh', seq', ep', ds', ser', fr', tag'⟩ (.slice A ds.length c) (.slice A' ds'.length c') W (HDW.out W hb) (HDR.out W hb) Hsh.out.2.2 (Nat.le_trans Hrw.out.len (by omega))
  have HRS : Hid (∀ W, Below w3.heap.size w3 W → Calls Tryz.prog 24 #[.agg #[.int .i64 kind, .int .i64 ag, .int .i64 sh, .int .i64 seq, .int .i64 ep, .slice A ds.length c, .string ser, .int .i64 fr, .int .i64 tag], .agg #[.int .i64 kind', .int .i64 ag', .int .i64 sh', .int .i64 seq', .int .i64 ep', .slice A' ds'.length c', .string ser', .int .i64 fr', .int .i64 tag']] W fun r w' => SamePost sm W r w') := fun W hb => by
    rw [hsm]
    exact rsame_any (.slice A ds.length c) (.slice A' ds'.length c') ⟨kind, ag, sh, seq, ep, ds, ser, fr, tag⟩ ⟨kind', ag', sh', seq', ep', ds', ser', fr', tag'⟩ W (HDW.out W hb) (HDR.out W hb) Hsh.out.2.2 (Nat.le_trans Hrw.out.len (by omega))
  have HbW : Hid (∀ W, Below w3.heap.size w3 W → Bs W [] (.slice Ab b.length cb) b) := fun W hb => Hbb.out.keep (M' := []) (Keeps.of_below (HKW.out W hb)) (by simp)
  have HlW : Hid (∀ W, Below w3.heap.size w3 W → Ds W [] (.slice Al l.length cl) l) := fun W hb => Hld.out.keep (M' := []) (Keeps.of_below (HKW.out W hb)) (by simp)
  clear hsm HD3 HDW HDR Hr0 Hsh Hwf HW Hrw Hrd Hbb Hld Hm
  have hbe0 : 0 < (bytesE ⟨kind, ag, sh, seq, ep, ds, ser, fr, tag⟩).length := by
    show 0 < (headB _ _ _ ++ _).length
    unfold headB
    simp only [List.length_append, List.length_singleton]
    omega
  generalize bytesE ⟨kind, ag, sh, seq, ep, ds, ser, fr, tag⟩ = be at *
  go_wp2_with fail
  refine HBy.out.mono ?_
  rintro r w4 ⟨vb, rfl, hownb, hb4⟩
  obtain ⟨g9, cap9, rfl, hg9, hgl9⟩ := hownb.form hbe0
  have Hb4 := Lib.hid hb4; have Hownb := Lib.hid hownb
  have hbel2 : be.length ≤ 1200 := Hbel.out
  clear hownb hb4 HBy c0 c1 c2 c3 c4 c5 c6 c7 c8
  have hwi := Lib.hid (fun W => within_any at_ 0 ((be.length : Int) - 1) W (by omega) (by omega) (by omega))
  obtain ⟨hj0, hj1⟩ := within_bd at_ 0 ((be.length : Int) - 1) (by omega)
  generalize withinS at_ 0 ((be.length : Int) - 1) = j at *
  have hwl : IntKind.i64.wrap ((be.length : Int) - 1) = (be.length : Int) - 1 := by rw [IntKind.wrap_i64]; omega
  go_wp2_with fail
  refine (hwi.out _).mono ?_
  rintro r w' ⟨rfl, rfl⟩
  clear hwi
  obtain ⟨z, rfl⟩ := Int.eq_ofNat_of_zero_le hj0
  have hzl2 : z < be.length := by omega
  have hzi : (z : Int) < (be.length : Int) := by omega
  have hcell9 : w4.cell? ⟨g9, z, none⟩ = some (.int .u8 be[z].toNat) := by
    obtain ⟨A2, c2', he, _, _, hx⟩ := Rd.of_own (M := []) Hownb.out (by simp)
    obtain ⟨g', off', rfl, _, _, hcc⟩ := hx (by omega)
    injection he with h1 _ _
    injection h1 with h1
    injection h1 with h1 h2 _
    subst h1 h2
    have := hcc z (bV be[z]) (by rw [List.getElem?_map, List.getElem?_eq_getElem hzl2]; rfl)
    rwa [Nat.zero_add] at this
  have hfz9 : w4.frozen? ⟨g9, z, none⟩ = false := by
    rcases Hownb.out.2 with ⟨h, _⟩ | ⟨g', cap', cur, hv, _, hg, _⟩
    · cases h
    · injection hv with h1 _ _
      injection h1 with h1
      injection h1 with h1 _ _
      subst h1
      exact Base.Blk.frozen hg _
  obtain ⟨yy, hyy⟩ := u8_xor_some be[z] turn hturn
  have hownX : (w4.setCell ⟨g9, z, none⟩ (.int .u8 yy.toNat)).ownsRow w3.heap.size 5 1 (.slice (some ⟨g9, 0, none⟩) be.length cap9) (be.set z yy).length ((be.set z yy).map bV) := by
    have := own_set Hownb.out z (bV yy) (by omega)
    rw [List.length_set, List.map_set]
    exact this
  have HbX : Hid (Below w3.heap.size w3 (w4.setCell ⟨g9, z, none⟩ (.int .u8 yy.toNat))) := Hb4.out.setCell hg9 _
  have HxX := Lib.hid (own_bs hownX)
  have hxl : (be.set z yy).length ≤ 1048576 := by rw [List.length_set]; omega
  have hzi0 : (0 : Int) ≤ (z : Int) := by omega
  clear hownX Hownb hwl hj0 hj1
  go_upto_region 4 with (fail)
  try rw [hyy]
  generalize w4.setCell ⟨g9, z, none⟩ (.int .u8 yy.toNat) = w5 at *
  clear hcell9 hfz9 hyy Hb4
  generalize be.set z yy = xs at *
  have HSB : Hid (∀ W, Below w5.heap.size w5 W → W.cell? ⟨g17, 0, none⟩ = some (.int .i64 kind) ∧ W.cell? ⟨g17, 1, none⟩ = some (.int .i64 ag) ∧ W.cell? ⟨g17, 2, none⟩ = some (.int .i64 sh) ∧ W.cell? ⟨g17, 3, none⟩ = some (.int .i64 seq) ∧ W.cell? ⟨g17, 4, none⟩ = some (.int .i64 ep) ∧ W.cell? ⟨g17, 5, none⟩ = some (.slice A ds.length c) ∧ W.cell? ⟨g17, 6, none⟩ = some (.string ser) ∧ W.cell? ⟨g17, 7, none⟩ = some (.int .i64 fr) ∧ W.cell? ⟨g17, 8, none⟩ = some (.int .i64 tag) ∧ W.cell? ⟨w.heap.size, 0, none⟩ = some (.int .i64 kind') ∧ W.cell? ⟨w.heap.size, 1, none⟩ = some (.int .i64 ag') ∧ W.cell? ⟨w.heap.size, 2, none⟩ = some (.int .i64 sh') ∧ W.cell? ⟨w.heap.size, 3, none⟩ = some (.int .i64 seq') ∧ W.cell? ⟨w.heap.size, 4, none⟩ = some (.int .i64 ep') ∧ W.cell? ⟨w.heap.size, 5, none⟩ = some (.slice A' ds'.length c') ∧ W.cell? ⟨w.heap.size, 6, none⟩ = some (.string ser') ∧ W.cell? ⟨w.heap.size, 7, none⟩ = some (.int .i64 fr') ∧ W.cell? ⟨w.heap.size, 8, none⟩ = some (.int .i64 tag')) := by
    show ∀ W, _
    intro W hb0
    have hb := HbX.out.trans (hb0.mono HbX.out.size)
    obtain ⟨c0, c1, c2, c3, c4, c5, c6, c7, c8, _⟩ := rblk9 HB17.out
    obtain ⟨d0, d1, d2, d3, d4, d5, d6, d7, d8, _⟩ := rblk9 HB11.out
    exact ⟨(hb.cell (p := ⟨g17, 0, none⟩) hg17).trans c0, (hb.cell (p := ⟨g17, 1, none⟩) hg17).trans c1, (hb.cell (p := ⟨g17, 2, none⟩) hg17).trans c2, (hb.cell (p := ⟨g17, 3, none⟩) hg17).trans c3, (hb.cell (p := ⟨g17, 4, none⟩) hg17).trans c4, (hb.cell (p := ⟨g17, 5, none⟩) hg17).trans c5, (hb.cell (p := ⟨g17, 6, none⟩) hg17).trans c6, (hb.cell (p := ⟨g17, 7, none⟩) hg17).trans c7, (hb.cell (p := ⟨g17, 8, none⟩) hg17).trans c8, (hb.cell (p := ⟨w.heap.size, 0, none⟩) hg11).trans d0, (hb.cell (p := ⟨w.heap.size, 1, none⟩) hg11).trans d1, (hb.cell (p := ⟨w.heap.size, 2, none⟩) hg11).trans d2, (hb.cell (p := ⟨w.heap.size, 3, none⟩) hg11).trans d3, (hb.cell (p := ⟨w.heap.size, 4, none⟩) hg11).trans d4, (hb.cell (p := ⟨w.heap.size, 5, none⟩) hg11).trans d5, (hb.cell (p := ⟨w.heap.size, 6, none⟩) hg11).trans d6, (hb.cell (p := ⟨w.heap.size, 7, none⟩) hg11).trans d7, (hb.cell (p := ⟨w.heap.size, 8, none⟩) hg11).trans d8⟩
  have H5 : Hid (∀ W, Below w5.heap.size w5 W → Below w3.heap.size w3 W) := fun W hb0 => HbX.out.trans (hb0.mono HbX.out.size)
  have HxW : Hid (∀ W, Below w5.heap.size w5 W → Bs W [] (.slice (some ⟨g9, 0, none⟩) be.length cap9) xs) := fun W hb => HxX.out.keep (M' := []) (Keeps.of_below hb) (by simp)
  have HFin : Hid (∀ W, Below w5.heap.size w5 W → SamePost true w (.returned (.bool true)) W) := fun W hb => ⟨rfl, HKW.out W (H5.out W hb)⟩
  have ha7 := and7_le n
  generalize w.heap.size = g11 at *
  by_cases hl20 : 20 < l.length
  · have hl20i : (20 : Int) < (l.length : Int) := by omega
    have hlci : (20 : Int) ≤ (cl : Int) := by omega
    have HD7 : Hid (∀ W, Below w3.heap.size w3 W → Ds W [] (.slice Al 20 cl) (l.take 20)) := fun W hb => ds_head (HlW.out W hb) (by omega)
    have HN7 : Hid (∀ d ∈ l.take 20, NOk d) := fun d hd => Hln.out d (List.mem_of_mem_take hd)
    have hl7 : (l.take 20).length ≤ 20 := by rw [List.length_take]; omega
    generalize l.take 20 = l7 at *
    go_upto_region 6 with (fail)
    have hJ := Lib.hid (fun W (hb : Below w5.heap.size w5 W) => deltas_join (.slice Al 20 cl) l7 W (HD7.out W (H5.out W hb)) HN7.out (by omega))
    have hRJ := Lib.hid (fun W (hb : Below w5.heap.size w5 W) => rjoin_any (.slice Al 20 cl) l7 W (HD7.out W (H5.out W hb)) HN7.out (by omega))
    have hjl : Hid ((joinD l7).length ≤ 4611686018427387904) := by
      have := take_fold_len l7 []
      simp at this
      show (joinD l7).length ≤ _
      unfold joinD
      omega
    refine wp_region_held_drew (S := (fun W => W.cell? ⟨g17, 0, none⟩ = some (.int .i64 kind) ∧ W.cell? ⟨g17, 1, none⟩ = some (.int .i64 ag) ∧ W.cell? ⟨g17, 2, none⟩ = some (.int .i64 sh) ∧ W.cell? ⟨g17, 3, none⟩ = some (.int .i64 seq) ∧ W.cell? ⟨g17, 4, none⟩ = some (.int .i64 ep) ∧ W.cell? ⟨g17, 5, none⟩ = some (.slice A ds.length c) ∧ W.cell? ⟨g17, 6, none⟩ = some (.string ser) ∧ W.cell? ⟨g17, 7, none⟩ = some (.int .i64 fr) ∧ W.cell? ⟨g17, 8, none⟩ = some (.int .i64 tag) ∧ W.cell? ⟨g11, 0, none⟩ = some (.int .i64 kind') ∧ W.cell? ⟨g11, 1, none⟩ = some (.int .i64 ag') ∧ W.cell? ⟨g11, 2, none⟩ = some (.int .i64 sh') ∧ W.cell? ⟨g11, 3, none⟩ = some (.int .i64 seq') ∧ W.cell? ⟨g11, 4, none⟩ = some (.int .i64 ep') ∧ W.cell? ⟨g11, 5, none⟩ = some (.slice A' ds'.length c') ∧ W.cell? ⟨g11, 6, none⟩ = some (.string ser') ∧ W.cell? ⟨g11, 7, none⟩ = some (.int .i64 fr') ∧ W.cell? ⟨g11, 8, none⟩ = some (.int .i64 tag'))) (by kernel_rfl) (HSB.out _ (bdrewG (Below.refl _ w5))) (fun hHeld => ?_)
    have hq0 : Hid (Below w5.heap.size w5 w5.drew) := bdrewG (Below.refl _ w5)
    refine wpAnyH_take (i := 0) (oi := _) (v := ?v0t1) rfl (by kernel_rfl) (by kernel_rfl) (by kernel_rfl) (fun _ _ _ h => h) (Or.inl ⟨by rfl, ?y0t1⟩) (by assumption) ?r0t1
    case y0t1 => (intro w hSw; (obtain ⟨hS0, hS1, hS2, hS3, hS4, hS5, hS6, hS7, hS8, hS9, hS10, hS11, hS12, hS13, hS14, hS15, hS16, hS17⟩ := hSw); go_simp <;> with_reducible rfl)
    try simp only [List.getElem_toArray, List.getElem_cons_succ, List.getElem_cons_zero, Act.put, List.setIfInBounds_toArray, List.set_cons_zero, List.set_cons_succ]
    refine wpAnyH_ready (rs := [1]) (by kernel_rfl) (by simp) ?_
    refine AllReadyH.cons (o := _) rfl (fun K hK => ?_) AllReadyH.nil
    go_simp
    refine (HSA.out _ (H5.out _ hq0.out)).mono ?_
    rintro r wv2 ⟨rfl, hbz⟩
    have hq3 := Lib.hid (bthenG hq0.out hbz)
    clear hbz
    refine hK.out _ _ (HSB.out _ hq3.out) (fun hHeld2 => ?_)
    clear hK K hHeld
    have hHeld := hHeld2
    clear hHeld2
    try simp only [List.getElem_toArray, List.getElem_cons_succ, List.getElem_cons_zero, Act.put, List.setIfInBounds_toArray, List.set_cons_zero, List.set_cons_succ]
    refine wpAnyH_take (i := 2) (oi := _) (v := ?v2t1) rfl (by kernel_rfl) (by kernel_rfl) (by kernel_rfl) (fun _ _ _ h => h) (Or.inl ⟨by rfl, ?y2t1⟩) (by assumption) ?r2t1
    case y2t1 => (intro w hSw; (obtain ⟨hS0, hS1, hS2, hS3, hS4, hS5, hS6, hS7, hS8, hS9, hS10, hS11, hS12, hS13, hS14, hS15, hS16, hS17⟩ := hSw); go_simp <;> with_reducible rfl)
    try simp only [List.getElem_toArray, List.getElem_cons_succ, List.getElem_cons_zero, Act.put, List.setIfInBounds_toArray, List.set_cons_zero, List.set_cons_succ]
    refine wpAnyH_take (i := 3) (oi := _) (v := ?v3t1) rfl (by kernel_rfl) (by kernel_rfl) (by kernel_rfl) (fun _ _ _ h => h) (Or.inl ⟨by rfl, ?y3t1⟩) (by assumption) ?r3t1
    case y3t1 => (intro w hSw; (obtain ⟨hS0, hS1, hS2, hS3, hS4, hS5, hS6, hS7, hS8, hS9, hS10, hS11, hS12, hS13, hS14, hS15, hS16, hS17⟩ := hSw); go_simp <;> with_reducible rfl)
    try simp only [List.getElem_toArray, List.getElem_cons_succ, List.getElem_cons_zero, Act.put, List.setIfInBounds_toArray, List.set_cons_zero, List.set_cons_succ]
    refine wpAnyH_take (i := 4) (oi := _) (v := ?v4t1) rfl (by kernel_rfl) (by kernel_rfl) (by kernel_rfl) (fun _ _ _ h => h) (Or.inl ⟨by rfl, ?y4t1⟩) (by assumption) ?r4t1
    case y4t1 => (intro w hSw; (obtain ⟨hS0, hS1, hS2, hS3, hS4, hS5, hS6, hS7, hS8, hS9, hS10, hS11, hS12, hS13, hS14, hS15, hS16, hS17⟩ := hSw); go_simp <;> with_reducible rfl)
    try simp only [List.getElem_toArray, List.getElem_cons_succ, List.getElem_cons_zero, Act.put, List.setIfInBounds_toArray, List.set_cons_zero, List.set_cons_succ]
    refine wpAnyH_take (i := 5) (oi := _) (v := ?v5t1) rfl (by kernel_rfl) (by kernel_rfl) (by kernel_rfl) (fun _ _ _ h => h) (Or.inl ⟨by rfl, ?y5t1⟩) (by assumption) ?r5t1
    case y5t1 => (intro w hSw; (obtain ⟨hS0, hS1, hS2, hS3, hS4, hS5, hS6, hS7, hS8, hS9, hS10, hS11, hS12, hS13, hS14, hS15, hS16, hS17⟩ := hSw); go_simp <;> with_reducible rfl)
    try simp only [List.getElem_toArray, List.getElem_cons_succ, List.getElem_cons_zero, Act.put, List.setIfInBounds_toArray, List.set_cons_zero, List.set_cons_succ]
    refine wpAnyH_ready (rs := [6]) (by kernel_rfl) (by simp) ?_
    refine AllReadyH.cons (o := _) rfl (fun K hK => ?_) AllReadyH.nil
    go_simp
    refine (HOD.out _ what n hn (H5.out _ hq3.out)).mono ?_
    rintro r wv4 ⟨eo6, dvo7, rfl, hdz, hwz, hbz⟩
    have hq5 := Lib.hid (bthenG hq3.out hbz)
    have Hdo8 := Lib.hid hdz; have Hwo9 := Lib.hid hwz
    clear hbz hdz hwz
    refine hK.out _ _ (HSB.out _ hq5.out) (fun hHeld2 => ?_)
    clear hK K hHeld
    have hHeld := hHeld2
    clear hHeld2
    try simp only [List.getElem_toArray, List.getElem_cons_succ, List.getElem_cons_zero, Act.put, List.setIfInBounds_toArray, List.set_cons_zero, List.set_cons_succ]
    refine wpAnyH_ready (rs := [7]) (by kernel_rfl) (by simp) ?_
    refine AllReadyH.cons (o := _) rfl (fun K hK => ?_) AllReadyH.nil
    go_simp
    refine (HSO.out _ eo6 dvo7 (H5.out _ hq5.out) Hdo8.out (Hwo9.out.more (by omega))).mono ?_
    rintro r wv10 ⟨rfl, hbz⟩
    have hq11 := Lib.hid (bthenG hq5.out hbz)
    clear hbz
    refine hK.out _ _ (HSB.out _ hq11.out) (fun hHeld2 => ?_)
    clear hK K hHeld
    have hHeld := hHeld2
    clear hHeld2
    try simp only [List.getElem_toArray, List.getElem_cons_succ, List.getElem_cons_zero, Act.put, List.setIfInBounds_toArray, List.set_cons_zero, List.set_cons_succ]
    refine wpAnyH_take (i := 8) (oi := _) (v := ?v8t1) rfl (by kernel_rfl) (by kernel_rfl) (by kernel_rfl) (fun _ _ _ h => h) (Or.inl ⟨by rfl, ?y8t1⟩) (by assumption) ?r8t1
    case y8t1 => (intro w hSw; (obtain ⟨hS0, hS1, hS2, hS3, hS4, hS5, hS6, hS7, hS8, hS9, hS10, hS11, hS12, hS13, hS14, hS15, hS16, hS17⟩ := hSw); go_simp <;> with_reducible rfl)
    try simp only [List.getElem_toArray, List.getElem_cons_succ, List.getElem_cons_zero, Act.put, List.setIfInBounds_toArray, List.set_cons_zero, List.set_cons_succ]
    refine wpAnyH_take (i := 9) (oi := _) (v := ?v9t1) rfl (by kernel_rfl) (by kernel_rfl) (by kernel_rfl) (fun _ _ _ h => h) (Or.inl ⟨by rfl, ?y9t1⟩) (by assumption) ?r9t1
    case y9t1 => (intro w hSw; (obtain ⟨hS0, hS1, hS2, hS3, hS4, hS5, hS6, hS7, hS8, hS9, hS10, hS11, hS12, hS13, hS14, hS15, hS16, hS17⟩ := hSw); go_simp <;> with_reducible rfl)
    try simp only [List.getElem_toArray, List.getElem_cons_succ, List.getElem_cons_zero, Act.put, List.setIfInBounds_toArray, List.set_cons_zero, List.set_cons_succ]
    refine wpAnyH_take (i := 10) (oi := _) (v := ?v10t1) rfl (by kernel_rfl) (by kernel_rfl) (by kernel_rfl) (fun _ _ _ h => h) (Or.inl ⟨by rfl, ?y10t1⟩) (by assumption) ?r10t1
    case y10t1 => (intro w hSw; (obtain ⟨hS0, hS1, hS2, hS3, hS4, hS5, hS6, hS7, hS8, hS9, hS10, hS11, hS12, hS13, hS14, hS15, hS16, hS17⟩ := hSw); go_simp <;> with_reducible rfl)
    try simp only [List.getElem_toArray, List.getElem_cons_succ, List.getElem_cons_zero, Act.put, List.setIfInBounds_toArray, List.set_cons_zero, List.set_cons_succ]
    refine wpAnyH_take (i := 11) (oi := _) (v := ?v11t1) rfl (by kernel_rfl) (by kernel_rfl) (by kernel_rfl) (fun _ _ _ h => h) (Or.inl ⟨by rfl, ?y11t1⟩) (by assumption) ?r11t1
    case y11t1 => (intro w hSw; (obtain ⟨hS0, hS1, hS2, hS3, hS4, hS5, hS6, hS7, hS8, hS9, hS10, hS11, hS12, hS13, hS14, hS15, hS16, hS17⟩ := hSw); go_simp <;> with_reducible rfl)
    try simp only [List.getElem_toArray, List.getElem_cons_succ, List.getElem_cons_zero, Act.put, List.setIfInBounds_toArray, List.set_cons_zero, List.set_cons_succ]
    refine wpAnyH_take (i := 12) (oi := _) (v := ?v12t1) rfl (by kernel_rfl) (by kernel_rfl) (by kernel_rfl) (fun _ _ _ h => h) (Or.inl ⟨by rfl, ?y12t1⟩) (by assumption) ?r12t1
    case y12t1 => (intro w hSw; (obtain ⟨hS0, hS1, hS2, hS3, hS4, hS5, hS6, hS7, hS8, hS9, hS10, hS11, hS12, hS13, hS14, hS15, hS16, hS17⟩ := hSw); go_simp <;> with_reducible rfl)
    try simp only [List.getElem_toArray, List.getElem_cons_succ, List.getElem_cons_zero, Act.put, List.setIfInBounds_toArray, List.set_cons_zero, List.set_cons_succ]
    refine wpAnyH_take (i := 14) (oi := _) (v := ?v14t1) rfl (by kernel_rfl) (by kernel_rfl) (by kernel_rfl) (fun _ _ _ h => h) (Or.inl ⟨by rfl, ?y14t1⟩) (by assumption) ?r14t1
    case y14t1 => (intro w hSw; (obtain ⟨hS0, hS1, hS2, hS3, hS4, hS5, hS6, hS7, hS8, hS9, hS10, hS11, hS12, hS13, hS14, hS15, hS16, hS17⟩ := hSw); go_simp <;> with_reducible rfl)
    try simp only [List.getElem_toArray, List.getElem_cons_succ, List.getElem_cons_zero, Act.put, List.setIfInBounds_toArray, List.set_cons_zero, List.set_cons_succ]
    refine wpAnyH_take (i := 15) (oi := _) (v := ?v15t1) rfl (by kernel_rfl) (by kernel_rfl) (by kernel_rfl) (fun _ _ _ h => h) (Or.inl ⟨by rfl, ?y15t1⟩) (by assumption) ?r15t1
    case y15t1 => (intro w hSw; (obtain ⟨hS0, hS1, hS2, hS3, hS4, hS5, hS6, hS7, hS8, hS9, hS10, hS11, hS12, hS13, hS14, hS15, hS16, hS17⟩ := hSw); go_simp <;> with_reducible rfl)
    try simp only [List.getElem_toArray, List.getElem_cons_succ, List.getElem_cons_zero, Act.put, List.setIfInBounds_toArray, List.set_cons_zero, List.set_cons_succ]
    refine wpAnyH_take (i := 16) (oi := _) (v := ?v16t1) rfl (by kernel_rfl) (by kernel_rfl) (by kernel_rfl) (fun _ _ _ h => h) (Or.inl ⟨by rfl, ?y16t1⟩) (by assumption) ?r16t1
    case y16t1 => (intro w hSw; (obtain ⟨hS0, hS1, hS2, hS3, hS4, hS5, hS6, hS7, hS8, hS9, hS10, hS11, hS12, hS13, hS14, hS15, hS16, hS17⟩ := hSw); go_simp <;> with_reducible rfl)
    try simp only [List.getElem_toArray, List.getElem_cons_succ, List.getElem_cons_zero, Act.put, List.setIfInBounds_toArray, List.set_cons_zero, List.set_cons_succ]
    refine wpAnyH_ready (rs := [13]) (by kernel_rfl) (by simp) ?_
    refine AllReadyH.cons (o := _) rfl (fun K hK => ?_) AllReadyH.nil
    go_simp
    refine (HOD.out _ what n hn (H5.out _ hq11.out)).mono ?_
    rintro r wv12 ⟨eo14, dvo15, rfl, hdz, hwz, hbz⟩
    have hq13 := Lib.hid (bthenG hq11.out hbz)
    have Hdo16 := Lib.hid hdz; have Hwo17 := Lib.hid hwz
    clear hbz hdz hwz
    refine hK.out _ _ (HSB.out _ hq13.out) (fun hHeld2 => ?_)
    clear hK K hHeld
    have hHeld := hHeld2
    clear hHeld2
    try simp only [List.getElem_toArray, List.getElem_cons_succ, List.getElem_cons_zero, Act.put, List.setIfInBounds_toArray, List.set_cons_zero, List.set_cons_succ]
    refine wpAnyH_ready (rs := [17]) (by kernel_rfl) (by simp) ?_
    refine AllReadyH.cons (o := _) rfl (fun K hK => ?_) AllReadyH.nil
    go_simp
    refine (HOO.out _ eo14 dvo15 at_ (bits .and .i64 n 7) ha7 Hdo16.out Hwo17.out).mono ?_
    rintro r wv18 ⟨eo20, dvo21, rfl, hdz, hwz, hbz⟩
    have hq19 := Lib.hid (bthenG hq13.out hbz)
    have Hdo22 := Lib.hid hdz; have Hwo23 := Lib.hid hwz
    clear hbz hdz hwz
    refine hK.out _ _ (HSB.out _ hq19.out) (fun hHeld2 => ?_)
    clear hK K hHeld
    have hHeld := hHeld2
    clear hHeld2
    try simp only [List.getElem_toArray, List.getElem_cons_succ, List.getElem_cons_zero, Act.put, List.setIfInBounds_toArray, List.set_cons_zero, List.set_cons_succ]
    refine wpAnyH_ready (rs := [18]) (by kernel_rfl) (by simp) ?_
    refine AllReadyH.cons (o := _) rfl (fun K hK => ?_) AllReadyH.nil
    go_simp
    refine (HSO.out _ eo20 dvo21 (H5.out _ hq19.out) Hdo22.out Hwo23.out).mono ?_
    rintro r wv24 ⟨rfl, hbz⟩
    have hq25 := Lib.hid (bthenG hq19.out hbz)
    clear hbz
    refine hK.out _ _ (HSB.out _ hq25.out) (fun hHeld2 => ?_)
    clear hK K hHeld
    have hHeld := hHeld2
    clear hHeld2
    try simp only [List.getElem_toArray, List.getElem_cons_succ, List.getElem_cons_zero, Act.put, List.setIfInBounds_toArray, List.set_cons_zero, List.set_cons_succ]
    refine wpAnyH_take (i := 19) (oi := _) (v := ?v19t1) rfl (by kernel_rfl) (by kernel_rfl) (by kernel_rfl) (fun _ _ _ h => h) (Or.inl ⟨by rfl, ?y19t1⟩) (by assumption) ?r19t1
    case y19t1 => (intro w hSw; (obtain ⟨hS0, hS1, hS2, hS3, hS4, hS5, hS6, hS7, hS8, hS9, hS10, hS11, hS12, hS13, hS14, hS15, hS16, hS17⟩ := hSw); go_simp <;> with_reducible rfl)
    try simp only [List.getElem_toArray, List.getElem_cons_succ, List.getElem_cons_zero, Act.put, List.setIfInBounds_toArray, List.set_cons_zero, List.set_cons_succ]
    refine wpAnyH_take (i := 20) (oi := _) (v := ?v20t1) rfl (by kernel_rfl) (by kernel_rfl) (by kernel_rfl) (fun _ _ _ h => h) (Or.inl ⟨by rfl, ?y20t1⟩) (by assumption) ?r20t1
    case y20t1 => (intro w hSw; (obtain ⟨hS0, hS1, hS2, hS3, hS4, hS5, hS6, hS7, hS8, hS9, hS10, hS11, hS12, hS13, hS14, hS15, hS16, hS17⟩ := hSw); go_simp <;> with_reducible rfl)
    try simp only [List.getElem_toArray, List.getElem_cons_succ, List.getElem_cons_zero, Act.put, List.setIfInBounds_toArray, List.set_cons_zero, List.set_cons_succ]
    refine wpAnyH_take (i := 21) (oi := _) (v := ?v21t1) rfl (by kernel_rfl) (by kernel_rfl) (by kernel_rfl) (fun _ _ _ h => h) (Or.inl ⟨by rfl, ?y21t1⟩) (by assumption) ?r21t1
    case y21t1 => (intro w hSw; (obtain ⟨hS0, hS1, hS2, hS3, hS4, hS5, hS6, hS7, hS8, hS9, hS10, hS11, hS12, hS13, hS14, hS15, hS16, hS17⟩ := hSw); go_simp <;> with_reducible rfl)
    try simp only [List.getElem_toArray, List.getElem_cons_succ, List.getElem_cons_zero, Act.put, List.setIfInBounds_toArray, List.set_cons_zero, List.set_cons_succ]
    refine wpAnyH_ready (rs := [22]) (by kernel_rfl) (by simp) ?_
    refine AllReadyH.cons (o := _) rfl (fun K hK => ?_) AllReadyH.nil
    go_simp
    refine (HSR.out _ (H5.out _ hq25.out)).mono ?_
    rintro r wv26 ⟨rfl, hbz⟩
    have hq27 := Lib.hid (bthenG hq25.out hbz)
    clear hbz
    refine hK.out _ _ (HSB.out _ hq27.out) (fun hHeld2 => ?_)
    clear hK K hHeld
    have hHeld := hHeld2
    clear hHeld2
    try simp only [List.getElem_toArray, List.getElem_cons_succ, List.getElem_cons_zero, Act.put, List.setIfInBounds_toArray, List.set_cons_zero, List.set_cons_succ]
    refine wpAnyH_take (i := 23) (oi := _) (v := ?v23t1) rfl (by kernel_rfl) (by kernel_rfl) (by kernel_rfl) (fun _ _ _ h => h) (Or.inl ⟨by rfl, ?y23t1⟩) (by assumption) ?r23t1
    case y23t1 => (intro w hSw; (obtain ⟨hS0, hS1, hS2, hS3, hS4, hS5, hS6, hS7, hS8, hS9, hS10, hS11, hS12, hS13, hS14, hS15, hS16, hS17⟩ := hSw); go_simp <;> with_reducible rfl)
    try simp only [List.getElem_toArray, List.getElem_cons_succ, List.getElem_cons_zero, Act.put, List.setIfInBounds_toArray, List.set_cons_zero, List.set_cons_succ]
    refine wpAnyH_take (i := 24) (oi := _) (v := ?v24t1) rfl (by kernel_rfl) (by kernel_rfl) (by kernel_rfl) (fun _ _ _ h => h) (Or.inl ⟨by rfl, ?y24t1⟩) (by assumption) ?r24t1
    case y24t1 => (intro w hSw; (obtain ⟨hS0, hS1, hS2, hS3, hS4, hS5, hS6, hS7, hS8, hS9, hS10, hS11, hS12, hS13, hS14, hS15, hS16, hS17⟩ := hSw); go_simp <;> with_reducible rfl)
    try simp only [List.getElem_toArray, List.getElem_cons_succ, List.getElem_cons_zero, Act.put, List.setIfInBounds_toArray, List.set_cons_zero, List.set_cons_succ]
    refine wpAnyH_take (i := 25) (oi := _) (v := ?v25t1) rfl (by kernel_rfl) (by kernel_rfl) (by kernel_rfl) (fun _ _ _ h => h) (Or.inl ⟨by rfl, ?y25t1⟩) (by assumption) ?r25t1
    case y25t1 => (intro w hSw; (obtain ⟨hS0, hS1, hS2, hS3, hS4, hS5, hS6, hS7, hS8, hS9, hS10, hS11, hS12, hS13, hS14, hS15, hS16, hS17⟩ := hSw); go_simp <;> with_reducible rfl)
    try simp only [List.getElem_toArray, List.getElem_cons_succ, List.getElem_cons_zero, Act.put, List.setIfInBounds_toArray, List.set_cons_zero, List.set_cons_succ]
    refine wpAnyH_ready (rs := [26]) (by kernel_rfl) (by simp) ?_
    refine AllReadyH.cons (o := _) rfl (fun K hK => ?_) AllReadyH.nil
    go_simp
    refine (HRD.out xs _ _ hxl (HxW.out _ hq27.out) (H5.out _ hq27.out)).mono ?_
    rintro r wv28 ⟨rfl, hbz⟩
    have hq29 := Lib.hid (bthenG hq27.out hbz)
    clear hbz
    refine hK.out _ _ (HSB.out _ hq29.out) (fun hHeld2 => ?_)
    clear hK K hHeld
    have hHeld := hHeld2
    clear hHeld2
    try simp only [List.getElem_toArray, List.getElem_cons_succ, List.getElem_cons_zero, Act.put, List.setIfInBounds_toArray, List.set_cons_zero, List.set_cons_succ]
    refine wpAnyH_take (i := 27) (oi := _) (v := ?v27t1) rfl (by kernel_rfl) (by kernel_rfl) (by kernel_rfl) (fun _ _ _ h => h) (Or.inl ⟨by rfl, ?y27t1⟩) (by assumption) ?r27t1
    case y27t1 => (intro w hSw; (obtain ⟨hS0, hS1, hS2, hS3, hS4, hS5, hS6, hS7, hS8, hS9, hS10, hS11, hS12, hS13, hS14, hS15, hS16, hS17⟩ := hSw); go_simp <;> with_reducible rfl)
    try simp only [List.getElem_toArray, List.getElem_cons_succ, List.getElem_cons_zero, Act.put, List.setIfInBounds_toArray, List.set_cons_zero, List.set_cons_succ]
    refine wpAnyH_take (i := 28) (oi := _) (v := ?v28t1) rfl (by kernel_rfl) (by kernel_rfl) (by kernel_rfl) (fun _ _ _ h => h) (Or.inl ⟨by rfl, ?y28t1⟩) (by assumption) ?r28t1
    case y28t1 => (intro w hSw; (obtain ⟨hS0, hS1, hS2, hS3, hS4, hS5, hS6, hS7, hS8, hS9, hS10, hS11, hS12, hS13, hS14, hS15, hS16, hS17⟩ := hSw); go_simp <;> with_reducible rfl)
    try simp only [List.getElem_toArray, List.getElem_cons_succ, List.getElem_cons_zero, Act.put, List.setIfInBounds_toArray, List.set_cons_zero, List.set_cons_succ]
    refine wpAnyH_take (i := 29) (oi := _) (v := ?v29t1) rfl (by kernel_rfl) (by kernel_rfl) (by kernel_rfl) (fun _ _ _ h => h) (Or.inl ⟨by rfl, ?y29t1⟩) (by assumption) ?r29t1
    case y29t1 => (intro w hSw; (obtain ⟨hS0, hS1, hS2, hS3, hS4, hS5, hS6, hS7, hS8, hS9, hS10, hS11, hS12, hS13, hS14, hS15, hS16, hS17⟩ := hSw); go_simp <;> with_reducible rfl)
    try simp only [List.getElem_toArray, List.getElem_cons_succ, List.getElem_cons_zero, Act.put, List.setIfInBounds_toArray, List.set_cons_zero, List.set_cons_succ]
    refine wpAnyH_ready (rs := [30]) (by kernel_rfl) (by simp) ?_
    refine AllReadyH.cons (o := _) rfl (fun K hK => ?_) AllReadyH.nil
    go_simp
    refine (HRD.out b _ _ hbl (HbW.out _ (H5.out _ hq29.out)) (H5.out _ hq29.out)).mono ?_
    rintro r wv30 ⟨rfl, hbz⟩
    have hq31 := Lib.hid (bthenG hq29.out hbz)
    clear hbz
    refine hK.out _ _ (HSB.out _ hq31.out) (fun hHeld2 => ?_)
    clear hK K hHeld
    have hHeld := hHeld2
    clear hHeld2
    try simp only [List.getElem_toArray, List.getElem_cons_succ, List.getElem_cons_zero, Act.put, List.setIfInBounds_toArray, List.set_cons_zero, List.set_cons_succ]
    refine wpAnyH_take (i := 31) (oi := _) (v := ?v31t1) rfl (by kernel_rfl) (by kernel_rfl) (by kernel_rfl) (fun _ _ _ h => h) (Or.inl ⟨by rfl, ?y31t1⟩) (by assumption) ?r31t1
    case y31t1 => (intro w hSw; (obtain ⟨hS0, hS1, hS2, hS3, hS4, hS5, hS6, hS7, hS8, hS9, hS10, hS11, hS12, hS13, hS14, hS15, hS16, hS17⟩ := hSw); go_simp <;> with_reducible rfl)
    try simp only [List.getElem_toArray, List.getElem_cons_succ, List.getElem_cons_zero, Act.put, List.setIfInBounds_toArray, List.set_cons_zero, List.set_cons_succ]
    refine wpAnyH_take (i := 32) (oi := _) (v := ?v32t1) rfl (by kernel_rfl) (by kernel_rfl) (by kernel_rfl) (fun _ _ _ h => h) (Or.inl ⟨by rfl, ?y32t1⟩) (by assumption) ?r32t1
    case y32t1 => (intro w hSw; (obtain ⟨hS0, hS1, hS2, hS3, hS4, hS5, hS6, hS7, hS8, hS9, hS10, hS11, hS12, hS13, hS14, hS15, hS16, hS17⟩ := hSw); go_simp <;> with_reducible rfl)
    try simp only [List.getElem_toArray, List.getElem_cons_succ, List.getElem_cons_zero, Act.put, List.setIfInBounds_toArray, List.set_cons_zero, List.set_cons_succ]
    refine wpAnyH_take (i := 33) (oi := _) (v := ?v33t1) rfl (by kernel_rfl) (by kernel_rfl) (by kernel_rfl) (fun _ _ _ h => h) (Or.inl ⟨by rfl, ?y33t1⟩) (by assumption) ?r33t1
    case y33t1 => (intro w hSw; (obtain ⟨hS0, hS1, hS2, hS3, hS4, hS5, hS6, hS7, hS8, hS9, hS10, hS11, hS12, hS13, hS14, hS15, hS16, hS17⟩ := hSw); go_simp <;> with_reducible rfl)
    try simp only [List.getElem_toArray, List.getElem_cons_succ, List.getElem_cons_zero, Act.put, List.setIfInBounds_toArray, List.set_cons_zero, List.set_cons_succ]
    refine wpAnyH_take (i := 34) (oi := _) (v := ?v34t1) rfl (by kernel_rfl) (by kernel_rfl) (by kernel_rfl) (fun _ _ _ h => h) (Or.inl ⟨by rfl, ?y34t1⟩) (by assumption) ?r34t1
    case y34t1 => (intro w hSw; (obtain ⟨hS0, hS1, hS2, hS3, hS4, hS5, hS6, hS7, hS8, hS9, hS10, hS11, hS12, hS13, hS14, hS15, hS16, hS17⟩ := hSw); go_simp <;> with_reducible rfl)
    try simp only [List.getElem_toArray, List.getElem_cons_succ, List.getElem_cons_zero, Act.put, List.setIfInBounds_toArray, List.set_cons_zero, List.set_cons_succ]
    refine wpAnyH_take (i := 36) (oi := _) (v := ?v36t1) rfl (by kernel_rfl) (by kernel_rfl) (by kernel_rfl) (fun _ _ _ h => h) (Or.inl ⟨by rfl, ?y36t1⟩) (by assumption) ?r36t1
    case y36t1 => (intro w hSw; (obtain ⟨hS0, hS1, hS2, hS3, hS4, hS5, hS6, hS7, hS8, hS9, hS10, hS11, hS12, hS13, hS14, hS15, hS16, hS17⟩ := hSw); go_simp <;> with_reducible rfl)
    try simp only [List.getElem_toArray, List.getElem_cons_succ, List.getElem_cons_zero, Act.put, List.setIfInBounds_toArray, List.set_cons_zero, List.set_cons_succ]
    refine wpAnyH_take (i := 37) (oi := _) (v := ?v37t1) rfl (by kernel_rfl) (by kernel_rfl) (by kernel_rfl) (fun _ _ _ h => h) (Or.inl ⟨by rfl, ?y37t1⟩) (by assumption) ?r37t1
    case y37t1 => (intro w hSw; (obtain ⟨hS0, hS1, hS2, hS3, hS4, hS5, hS6, hS7, hS8, hS9, hS10, hS11, hS12, hS13, hS14, hS15, hS16, hS17⟩ := hSw); go_simp <;> with_reducible rfl)
    try simp only [List.getElem_toArray, List.getElem_cons_succ, List.getElem_cons_zero, Act.put, List.setIfInBounds_toArray, List.set_cons_zero, List.set_cons_succ]
    refine wpAnyH_ready (rs := [35]) (by kernel_rfl) (by simp) ?_
    refine AllReadyH.cons (o := _) rfl (fun K hK => ?_) AllReadyH.nil
    go_simp
    refine (HES.out _ (H5.out _ hq31.out)).mono ?_
    rintro r wv32 ⟨rfl, hbz⟩
    have hq33 := Lib.hid (bthenG hq31.out hbz)
    clear hbz
    refine hK.out _ _ (HSB.out _ hq33.out) (fun hHeld2 => ?_)
    clear hK K hHeld
    have hHeld := hHeld2
    clear hHeld2
    try simp only [List.getElem_toArray, List.getElem_cons_succ, List.getElem_cons_zero, Act.put, List.setIfInBounds_toArray, List.set_cons_zero, List.set_cons_succ]
    refine wpAnyH_ready (rs := [38]) (by kernel_rfl) (by simp) ?_
    refine AllReadyH.cons (o := _) rfl (fun K hK => ?_) AllReadyH.nil
    go_simp
    refine (HRS.out _ (H5.out _ hq33.out)).mono ?_
    rintro r wv34 ⟨rfl, hbz⟩
    have hq35 := Lib.hid (bthenG hq33.out hbz)
    clear hbz
    refine hK.out _ _ (HSB.out _ hq35.out) (fun hHeld2 => ?_)
    clear hK K hHeld
    have hHeld := hHeld2
    clear hHeld2
    try simp only [List.getElem_toArray, List.getElem_cons_succ, List.getElem_cons_zero, Act.put, List.setIfInBounds_toArray, List.set_cons_zero, List.set_cons_succ]
    refine wpAnyH_take (i := 39) (oi := _) (v := ?v39t1) rfl (by kernel_rfl) (by kernel_rfl) (by kernel_rfl) (fun _ _ _ h => h) (Or.inl ⟨by rfl, ?y39t1⟩) (by assumption) ?r39t1
    case y39t1 => (intro w hSw; (obtain ⟨hS0, hS1, hS2, hS3, hS4, hS5, hS6, hS7, hS8, hS9, hS10, hS11, hS12, hS13, hS14, hS15, hS16, hS17⟩ := hSw); go_simp <;> with_reducible rfl)
    try simp only [List.getElem_toArray, List.getElem_cons_succ, List.getElem_cons_zero, Act.put, List.setIfInBounds_toArray, List.set_cons_zero, List.set_cons_succ]
    refine wpAnyH_take (i := 40) (oi := _) (v := ?v40t1) rfl (by kernel_rfl) (by kernel_rfl) (by kernel_rfl) (fun _ _ _ h => h) (Or.inl ⟨by rfl, ?y40t1⟩) (by assumption) ?r40t1
    case y40t1 => (intro w hSw; (obtain ⟨hS0, hS1, hS2, hS3, hS4, hS5, hS6, hS7, hS8, hS9, hS10, hS11, hS12, hS13, hS14, hS15, hS16, hS17⟩ := hSw); go_simp <;> with_reducible rfl)
    try simp only [List.getElem_toArray, List.getElem_cons_succ, List.getElem_cons_zero, Act.put, List.setIfInBounds_toArray, List.set_cons_zero, List.set_cons_succ]
    refine wpAnyH_take (i := 41) (oi := _) (v := ?v41t1) rfl (by kernel_rfl) (by kernel_rfl) (by kernel_rfl) (fun _ _ _ h => h) (Or.inl ⟨by rfl, ?y41t1⟩) (by assumption) ?r41t1
    case y41t1 => (intro w hSw; (obtain ⟨hS0, hS1, hS2, hS3, hS4, hS5, hS6, hS7, hS8, hS9, hS10, hS11, hS12, hS13, hS14, hS15, hS16, hS17⟩ := hSw); go_simp <;> with_reducible rfl)
    try simp only [List.getElem_toArray, List.getElem_cons_succ, List.getElem_cons_zero, Act.put, List.setIfInBounds_toArray, List.set_cons_zero, List.set_cons_succ]
    refine wpAnyH_take (i := 42) (oi := _) (v := ?v42t1) rfl (by kernel_rfl) (by kernel_rfl) (by kernel_rfl) (fun _ _ _ h => h) (Or.inl ⟨by rfl, ?y42t1⟩) (by assumption) ?r42t1
    case y42t1 => (intro w hSw; (obtain ⟨hS0, hS1, hS2, hS3, hS4, hS5, hS6, hS7, hS8, hS9, hS10, hS11, hS12, hS13, hS14, hS15, hS16, hS17⟩ := hSw); go_simp <;> with_reducible rfl)
    try simp only [List.getElem_toArray, List.getElem_cons_succ, List.getElem_cons_zero, Act.put, List.setIfInBounds_toArray, List.set_cons_zero, List.set_cons_succ]
    refine wpAnyH_take (i := 44) (oi := _) (v := ?v44t1) rfl (by kernel_rfl) (by kernel_rfl) (by kernel_rfl) (fun _ _ _ h => h) (Or.inl ⟨by rfl, ?y44t1⟩) (by assumption) ?r44t1
    case y44t1 => (intro w hSw; (obtain ⟨hS0, hS1, hS2, hS3, hS4, hS5, hS6, hS7, hS8, hS9, hS10, hS11, hS12, hS13, hS14, hS15, hS16, hS17⟩ := hSw); go_simp <;> with_reducible rfl)
    try simp only [List.getElem_toArray, List.getElem_cons_succ, List.getElem_cons_zero, Act.put, List.setIfInBounds_toArray, List.set_cons_zero, List.set_cons_succ]
    refine wpAnyH_ready (rs := [43]) (by kernel_rfl) (by simp) ?_
    refine AllReadyH.cons (o := _) rfl (fun K hK => ?_) AllReadyH.nil
    go_simp
    refine (hJ.out _ hq35.out).mono ?_
    rintro r wv36 ⟨Aj, rfl, hdz, hbz⟩
    have hq37 := Lib.hid (bthenG hq35.out hbz)
    have HJ1 := Lib.hid (hdz [] (by simp))
    clear hbz hdz
    refine hK.out _ _ (HSB.out _ hq37.out) (fun hHeld2 => ?_)
    clear hK K hHeld
    have hHeld := hHeld2
    clear hHeld2
    try simp only [List.getElem_toArray, List.getElem_cons_succ, List.getElem_cons_zero, Act.put, List.setIfInBounds_toArray, List.set_cons_zero, List.set_cons_succ]
    refine wpAnyH_ready (rs := [45]) (by kernel_rfl) (by simp) ?_
    refine AllReadyH.cons (o := _) rfl (fun K hK => ?_) AllReadyH.nil
    go_simp
    refine (hRJ.out _ hq37.out).mono ?_
    rintro r wv38 ⟨vj, rfl, hoz, hbz⟩
    have hq39 := Lib.hid (bthenG hq37.out hbz)
    have HJ2 := Lib.hid (HJ1.out.keep (M' := []) (Keeps.of_below hbz) (by simp))
    have HJ3 := Lib.hid (show Ds wv38 [] vj (joinD l7) from Rd.of_own hoz (by simp))
    clear hbz hoz
    refine hK.out _ _ (HSB.out _ hq39.out) (fun hHeld2 => ?_)
    clear hK K hHeld
    have hHeld := hHeld2
    clear hHeld2
    try simp only [List.getElem_toArray, List.getElem_cons_succ, List.getElem_cons_zero, Act.put, List.setIfInBounds_toArray, List.set_cons_zero, List.set_cons_succ]
    refine wpAnyH_ready (rs := [46]) (by kernel_rfl) (by simp) ?_
    refine AllReadyH.cons (o := _) rfl (fun K hK => ?_) AllReadyH.nil
    go_simp
    have hsd := rsameDs_any _ _ (joinD l7) (joinD l7) wv38 HJ2.out HJ3.out hjl.out hjl.out
    rw [(dsEq_iff _ _).2 rfl] at hsd
    refine hsd.mono ?_
    rintro r wv40 ⟨rfl, hbz⟩
    have hq41 := Lib.hid (bthenG hq39.out hbz)
    clear hbz hsd
    refine hK.out _ _ (HSB.out _ hq41.out) (fun hHeld2 => ?_)
    clear hK K hHeld
    have hHeld := hHeld2
    clear hHeld2
    try simp only [List.getElem_toArray, List.getElem_cons_succ, List.getElem_cons_zero, Act.put, List.setIfInBounds_toArray, List.set_cons_zero, List.set_cons_succ]
    refine wpAnyH_take (i := 47) (oi := _) (v := ?v47t1) rfl (by kernel_rfl) (by kernel_rfl) (by kernel_rfl) (fun _ _ _ h => h) (Or.inl ⟨by rfl, ?y47t1⟩) (by assumption) ?r47t1
    case y47t1 => (intro w hSw; (obtain ⟨hS0, hS1, hS2, hS3, hS4, hS5, hS6, hS7, hS8, hS9, hS10, hS11, hS12, hS13, hS14, hS15, hS16, hS17⟩ := hSw); go_simp <;> with_reducible rfl)
    try simp only [List.getElem_toArray, List.getElem_cons_succ, List.getElem_cons_zero, Act.put, List.setIfInBounds_toArray, List.set_cons_zero, List.set_cons_succ]
    refine wpAnyH_take (i := 48) (oi := _) (v := ?v48t1) rfl (by kernel_rfl) (by kernel_rfl) (by kernel_rfl) (fun _ _ _ h => h) (Or.inl ⟨by rfl, ?y48t1⟩) (by assumption) ?r48t1
    case y48t1 => (intro w hSw; (obtain ⟨hS0, hS1, hS2, hS3, hS4, hS5, hS6, hS7, hS8, hS9, hS10, hS11, hS12, hS13, hS14, hS15, hS16, hS17⟩ := hSw); go_simp <;> with_reducible rfl)
    try simp only [List.getElem_toArray, List.getElem_cons_succ, List.getElem_cons_zero, Act.put, List.setIfInBounds_toArray, List.set_cons_zero, List.set_cons_succ]
    refine wpAnyH_ready (rs := [49]) (by kernel_rfl) (by simp) ?_
    refine AllReadyH.cons (o := _) rfl (fun K hK => ?_) AllReadyH.nil
    go_simp
    refine (known_any m _ (HmW.out _ (H5.out _ hq41.out))).mono ?_
    rintro r wv42 ⟨rfl, hbz⟩
    have hq43 := Lib.hid (bthenG hq41.out hbz)
    clear hbz
    refine hK.out _ _ (HSB.out _ hq43.out) (fun hHeld2 => ?_)
    clear hK K hHeld
    have hHeld := hHeld2
    clear hHeld2
    try simp only [List.getElem_toArray, List.getElem_cons_succ, List.getElem_cons_zero, Act.put, List.setIfInBounds_toArray, List.set_cons_zero, List.set_cons_succ]
    refine wpAnyH_take (i := 50) (oi := _) (v := ?v50t1) rfl (by kernel_rfl) (by kernel_rfl) (by kernel_rfl) (fun _ _ _ h => h) (Or.inl ⟨by rfl, ?y50t1⟩) (by assumption) ?r50t1
    case y50t1 => (intro w hSw; (obtain ⟨hS0, hS1, hS2, hS3, hS4, hS5, hS6, hS7, hS8, hS9, hS10, hS11, hS12, hS13, hS14, hS15, hS16, hS17⟩ := hSw); go_simp <;> with_reducible rfl)
    try simp only [List.getElem_toArray, List.getElem_cons_succ, List.getElem_cons_zero, Act.put, List.setIfInBounds_toArray, List.set_cons_zero, List.set_cons_succ]
    refine wpAnyH_take (i := 51) (oi := _) (v := ?v51t1) rfl (by kernel_rfl) (by kernel_rfl) (by kernel_rfl) (fun _ _ _ h => h) (Or.inl ⟨by rfl, ?y51t1⟩) (by assumption) ?r51t1
    case y51t1 => (intro w hSw; (obtain ⟨hS0, hS1, hS2, hS3, hS4, hS5, hS6, hS7, hS8, hS9, hS10, hS11, hS12, hS13, hS14, hS15, hS16, hS17⟩ := hSw); go_simp <;> with_reducible rfl)
    try simp only [List.getElem_toArray, List.getElem_cons_succ, List.getElem_cons_zero, Act.put, List.setIfInBounds_toArray, List.set_cons_zero, List.set_cons_succ]
    refine wpAnyH_done (by kernel_rfl) ?_ _
    have HF := Lib.hid (HFin.out _ hq43.out)
    clear hHeld
    go_wp2
    go_ret
    exact HF.out
  · have hl20i : decide ((20 : Int) < (l.length : Int)) = false := decide_eq_false (by omega)
    have HD7 := HlW
    have HN7 := Hln
    have hl7 : l.length ≤ 20 := by omega
    go_upto_region 6 with (fail)
    have hJ := Lib.hid (fun W (hb : Below w5.heap.size w5 W) => deltas_join (.slice Al l.length cl) l W (HD7.out W (H5.out W hb)) HN7.out (by omega))
    have hRJ := Lib.hid (fun W (hb : Below w5.heap.size w5 W) => rjoin_any (.slice Al l.length cl) l W (HD7.out W (H5.out W hb)) HN7.out (by omega))
    have hjl : Hid ((joinD l).length ≤ 4611686018427387904) := by
      have := take_fold_len l []
      simp at this
      show (joinD l).length ≤ _
      unfold joinD
      omega
    refine wp_region_held_drew (S := (fun W => W.cell? ⟨g17, 0, none⟩ = some (.int .i64 kind) ∧ W.cell? ⟨g17, 1, none⟩ = some (.int .i64 ag) ∧ W.cell? ⟨g17, 2, none⟩ = some (.int .i64 sh) ∧ W.cell? ⟨g17, 3, none⟩ = some (.int .i64 seq) ∧ W.cell? ⟨g17, 4, none⟩ = some (.int .i64 ep) ∧ W.cell? ⟨g17, 5, none⟩ = some (.slice A ds.length c) ∧ W.cell? ⟨g17, 6, none⟩ = some (.string ser) ∧ W.cell? ⟨g17, 7, none⟩ = some (.int .i64 fr) ∧ W.cell? ⟨g17, 8, none⟩ = some (.int .i64 tag) ∧ W.cell? ⟨g11, 0, none⟩ = some (.int .i64 kind') ∧ W.cell? ⟨g11, 1, none⟩ = some (.int .i64 ag') ∧ W.cell? ⟨g11, 2, none⟩ = some (.int .i64 sh') ∧ W.cell? ⟨g11, 3, none⟩ = some (.int .i64 seq') ∧ W.cell? ⟨g11, 4, none⟩ = some (.int .i64 ep') ∧ W.cell? ⟨g11, 5, none⟩ = some (.slice A' ds'.length c') ∧ W.cell? ⟨g11, 6, none⟩ = some (.string ser') ∧ W.cell? ⟨g11, 7, none⟩ = some (.int .i64 fr') ∧ W.cell? ⟨g11, 8, none⟩ = some (.int .i64 tag'))) (by kernel_rfl) (HSB.out _ (bdrewG (Below.refl _ w5))) (fun hHeld => ?_)
    have hq0 : Hid (Below w5.heap.size w5 w5.drew) := bdrewG (Below.refl _ w5)
    refine wpAnyH_take (i := 0) (oi := _) (v := ?v0t44) rfl (by kernel_rfl) (by kernel_rfl) (by kernel_rfl) (fun _ _ _ h => h) (Or.inl ⟨by rfl, ?y0t44⟩) (by assumption) ?r0t44
    case y0t44 => (intro w hSw; (obtain ⟨hS0, hS1, hS2, hS3, hS4, hS5, hS6, hS7, hS8, hS9, hS10, hS11, hS12, hS13, hS14, hS15, hS16, hS17⟩ := hSw); go_simp <;> with_reducible rfl)
    try simp only [List.getElem_toArray, List.getElem_cons_succ, List.getElem_cons_zero, Act.put, List.setIfInBounds_toArray, List.set_cons_zero, List.set_cons_succ]
    refine wpAnyH_ready (rs := [1]) (by kernel_rfl) (by simp) ?_
    refine AllReadyH.cons (o := _) rfl (fun K hK => ?_) AllReadyH.nil
    go_simp
    refine (HSA.out _ (H5.out _ hq0.out)).mono ?_
    rintro r wv45 ⟨rfl, hbz⟩
    have hq46 := Lib.hid (bthenG hq0.out hbz)
    clear hbz
    refine hK.out _ _ (HSB.out _ hq46.out) (fun hHeld2 => ?_)
    clear hK K hHeld
    have hHeld := hHeld2
    clear hHeld2
    try simp only [List.getElem_toArray, List.getElem_cons_succ, List.getElem_cons_zero, Act.put, List.setIfInBounds_toArray, List.set_cons_zero, List.set_cons_succ]
    refine wpAnyH_take (i := 2) (oi := _) (v := ?v2t44) rfl (by kernel_rfl) (by kernel_rfl) (by kernel_rfl) (fun _ _ _ h => h) (Or.inl ⟨by rfl, ?y2t44⟩) (by assumption) ?r2t44
    case y2t44 => (intro w hSw; (obtain ⟨hS0, hS1, hS2, hS3, hS4, hS5, hS6, hS7, hS8, hS9, hS10, hS11, hS12, hS13, hS14, hS15, hS16, hS17⟩ := hSw); go_simp <;> with_reducible rfl)
    try simp only [List.getElem_toArray, List.getElem_cons_succ, List.getElem_cons_zero, Act.put, List.setIfInBounds_toArray, List.set_cons_zero, List.set_cons_succ]
    refine wpAnyH_take (i := 3) (oi := _) (v := ?v3t44) rfl (by kernel_rfl) (by kernel_rfl) (by kernel_rfl) (fun _ _ _ h => h) (Or.inl ⟨by rfl, ?y3t44⟩) (by assumption) ?r3t44
    case y3t44 => (intro w hSw; (obtain ⟨hS0, hS1, hS2, hS3, hS4, hS5, hS6, hS7, hS8, hS9, hS10, hS11, hS12, hS13, hS14, hS15, hS16, hS17⟩ := hSw); go_simp <;> with_reducible rfl)
    try simp only [List.getElem_toArray, List.getElem_cons_succ, List.getElem_cons_zero, Act.put, List.setIfInBounds_toArray, List.set_cons_zero, List.set_cons_succ]
    refine wpAnyH_take (i := 4) (oi := _) (v := ?v4t44) rfl (by kernel_rfl) (by kernel_rfl) (by kernel_rfl) (fun _ _ _ h => h) (Or.inl ⟨by rfl, ?y4t44⟩) (by assumption) ?r4t44
    case y4t44 => (intro w hSw; (obtain ⟨hS0, hS1, hS2, hS3, hS4, hS5, hS6, hS7, hS8, hS9, hS10, hS11, hS12, hS13, hS14, hS15, hS16, hS17⟩ := hSw); go_simp <;> with_reducible rfl)
    try simp only [List.getElem_toArray, List.getElem_cons_succ, List.getElem_cons_zero, Act.put, List.setIfInBounds_toArray, List.set_cons_zero, List.set_cons_succ]
    refine wpAnyH_take (i := 5) (oi := _) (v := ?v5t44) rfl (by kernel_rfl) (by kernel_rfl) (by kernel_rfl) (fun _ _ _ h => h) (Or.inl ⟨by rfl, ?y5t44⟩) (by assumption) ?r5t44
    case y5t44 => (intro w hSw; (obtain ⟨hS0, hS1, hS2, hS3, hS4, hS5, hS6, hS7, hS8, hS9, hS10, hS11, hS12, hS13, hS14, hS15, hS16, hS17⟩ := hSw); go_simp <;> with_reducible rfl)
    try simp only [List.getElem_toArray, List.getElem_cons_succ, List.getElem_cons_zero, Act.put, List.setIfInBounds_toArray, List.set_cons_zero, List.set_cons_succ]
    refine wpAnyH_ready (rs := [6]) (by kernel_rfl) (by simp) ?_
    refine AllReadyH.cons (o := _) rfl (fun K hK => ?_) AllReadyH.nil
    go_simp
    refine (HOD.out _ what n hn (H5.out _ hq46.out)).mono ?_
    rintro r wv47 ⟨eo49, dvo50, rfl, hdz, hwz, hbz⟩
    have hq48 := Lib.hid (bthenG hq46.out hbz)
    have Hdo51 := Lib.hid hdz; have Hwo52 := Lib.hid hwz
    clear hbz hdz hwz
    refine hK.out _ _ (HSB.out _ hq48.out) (fun hHeld2 => ?_)
    clear hK K hHeld
    have hHeld := hHeld2
    clear hHeld2
    try simp only [List.getElem_toArray, List.getElem_cons_succ, List.getElem_cons_zero, Act.put, List.setIfInBounds_toArray, List.set_cons_zero, List.set_cons_succ]
    refine wpAnyH_ready (rs := [7]) (by kernel_rfl) (by simp) ?_
    refine AllReadyH.cons (o := _) rfl (fun K hK => ?_) AllReadyH.nil
    go_simp
    refine (HSO.out _ eo49 dvo50 (H5.out _ hq48.out) Hdo51.out (Hwo52.out.more (by omega))).mono ?_
    rintro r wv53 ⟨rfl, hbz⟩
    have hq54 := Lib.hid (bthenG hq48.out hbz)
    clear hbz
    refine hK.out _ _ (HSB.out _ hq54.out) (fun hHeld2 => ?_)
    clear hK K hHeld
    have hHeld := hHeld2
    clear hHeld2
    try simp only [List.getElem_toArray, List.getElem_cons_succ, List.getElem_cons_zero, Act.put, List.setIfInBounds_toArray, List.set_cons_zero, List.set_cons_succ]
    refine wpAnyH_take (i := 8) (oi := _) (v := ?v8t44) rfl (by kernel_rfl) (by kernel_rfl) (by kernel_rfl) (fun _ _ _ h => h) (Or.inl ⟨by rfl, ?y8t44⟩) (by assumption) ?r8t44
    case y8t44 => (intro w hSw; (obtain ⟨hS0, hS1, hS2, hS3, hS4, hS5, hS6, hS7, hS8, hS9, hS10, hS11, hS12, hS13, hS14, hS15, hS16, hS17⟩ := hSw); go_simp <;> with_reducible rfl)
    try simp only [List.getElem_toArray, List.getElem_cons_succ, List.getElem_cons_zero, Act.put, List.setIfInBounds_toArray, List.set_cons_zero, List.set_cons_succ]
    refine wpAnyH_take (i := 9) (oi := _) (v := ?v9t44) rfl (by kernel_rfl) (by kernel_rfl) (by kernel_rfl) (fun _ _ _ h => h) (Or.inl ⟨by rfl, ?y9t44⟩) (by assumption) ?r9t44
    case y9t44 => (intro w hSw; (obtain ⟨hS0, hS1, hS2, hS3, hS4, hS5, hS6, hS7, hS8, hS9, hS10, hS11, hS12, hS13, hS14, hS15, hS16, hS17⟩ := hSw); go_simp <;> with_reducible rfl)
    try simp only [List.getElem_toArray, List.getElem_cons_succ, List.getElem_cons_zero, Act.put, List.setIfInBounds_toArray, List.set_cons_zero, List.set_cons_succ]
    refine wpAnyH_take (i := 10) (oi := _) (v := ?v10t44) rfl (by kernel_rfl) (by kernel_rfl) (by kernel_rfl) (fun _ _ _ h => h) (Or.inl ⟨by rfl, ?y10t44⟩) (by assumption) ?r10t44
    case y10t44 => (intro w hSw; (obtain ⟨hS0, hS1, hS2, hS3, hS4, hS5, hS6, hS7, hS8, hS9, hS10, hS11, hS12, hS13, hS14, hS15, hS16, hS17⟩ := hSw); go_simp <;> with_reducible rfl)
    try simp only [List.getElem_toArray, List.getElem_cons_succ, List.getElem_cons_zero, Act.put, List.setIfInBounds_toArray, List.set_cons_zero, List.set_cons_succ]
    refine wpAnyH_take (i := 11) (oi := _) (v := ?v11t44) rfl (by kernel_rfl) (by kernel_rfl) (by kernel_rfl) (fun _ _ _ h => h) (Or.inl ⟨by rfl, ?y11t44⟩) (by assumption) ?r11t44
    case y11t44 => (intro w hSw; (obtain ⟨hS0, hS1, hS2, hS3, hS4, hS5, hS6, hS7, hS8, hS9, hS10, hS11, hS12, hS13, hS14, hS15, hS16, hS17⟩ := hSw); go_simp <;> with_reducible rfl)
    try simp only [List.getElem_toArray, List.getElem_cons_succ, List.getElem_cons_zero, Act.put, List.setIfInBounds_toArray, List.set_cons_zero, List.set_cons_succ]
    refine wpAnyH_take (i := 12) (oi := _) (v := ?v12t44) rfl (by kernel_rfl) (by kernel_rfl) (by kernel_rfl) (fun _ _ _ h => h) (Or.inl ⟨by rfl, ?y12t44⟩) (by assumption) ?r12t44
    case y12t44 => (intro w hSw; (obtain ⟨hS0, hS1, hS2, hS3, hS4, hS5, hS6, hS7, hS8, hS9, hS10, hS11, hS12, hS13, hS14, hS15, hS16, hS17⟩ := hSw); go_simp <;> with_reducible rfl)
    try simp only [List.getElem_toArray, List.getElem_cons_succ, List.getElem_cons_zero, Act.put, List.setIfInBounds_toArray, List.set_cons_zero, List.set_cons_succ]
    refine wpAnyH_take (i := 14) (oi := _) (v := ?v14t44) rfl (by kernel_rfl) (by kernel_rfl) (by kernel_rfl) (fun _ _ _ h => h) (Or.inl ⟨by rfl, ?y14t44⟩) (by assumption) ?r14t44
    case y14t44 => (intro w hSw; (obtain ⟨hS0, hS1, hS2, hS3, hS4, hS5, hS6, hS7, hS8, hS9, hS10, hS11, hS12, hS13, hS14, hS15, hS16, hS17⟩ := hSw); go_simp <;> with_reducible rfl)
    try simp only [List.getElem_toArray, List.getElem_cons_succ, List.getElem_cons_zero, Act.put, List.setIfInBounds_toArray, List.set_cons_zero, List.set_cons_succ]
    refine wpAnyH_take (i := 15) (oi := _) (v := ?v15t44) rfl (by kernel_rfl) (by kernel_rfl) (by kernel_rfl) (fun _ _ _ h => h) (Or.inl ⟨by rfl, ?y15t44⟩) (by assumption) ?r15t44
    case y15t44 => (intro w hSw; (obtain ⟨hS0, hS1, hS2, hS3, hS4, hS5, hS6, hS7, hS8, hS9, hS10, hS11, hS12, hS13, hS14, hS15, hS16, hS17⟩ := hSw); go_simp <;> with_reducible rfl)
    try simp only [List.getElem_toArray, List.getElem_cons_succ, List.getElem_cons_zero, Act.put, List.setIfInBounds_toArray, List.set_cons_zero, List.set_cons_succ]
    refine wpAnyH_take (i := 16) (oi := _) (v := ?v16t44) rfl (by kernel_rfl) (by kernel_rfl) (by kernel_rfl) (fun _ _ _ h => h) (Or.inl ⟨by rfl, ?y16t44⟩) (by assumption) ?r16t44
    case y16t44 => (intro w hSw; (obtain ⟨hS0, hS1, hS2, hS3, hS4, hS5, hS6, hS7, hS8, hS9, hS10, hS11, hS12, hS13, hS14, hS15, hS16, hS17⟩ := hSw); go_simp <;> with_reducible rfl)
    try simp only [List.getElem_toArray, List.getElem_cons_succ, List.getElem_cons_zero, Act.put, List.setIfInBounds_toArray, List.set_cons_zero, List.set_cons_succ]
    refine wpAnyH_ready (rs := [13]) (by kernel_rfl) (by simp) ?_
    refine AllReadyH.cons (o := _) rfl (fun K hK => ?_) AllReadyH.nil
    go_simp
    refine (HOD.out _ what n hn (H5.out _ hq54.out)).mono ?_
    rintro r wv55 ⟨eo57, dvo58, rfl, hdz, hwz, hbz⟩
    have hq56 := Lib.hid (bthenG hq54.out hbz)
    have Hdo59 := Lib.hid hdz; have Hwo60 := Lib.hid hwz
    clear hbz hdz hwz
    refine hK.out _ _ (HSB.out _ hq56.out) (fun hHeld2 => ?_)
    clear hK K hHeld
    have hHeld := hHeld2
    clear hHeld2
    try simp only [List.getElem_toArray, List.getElem_cons_succ, List.getElem_cons_zero, Act.put, List.setIfInBounds_toArray, List.set_cons_zero, List.set_cons_succ]
    refine wpAnyH_ready (rs := [17]) (by kernel_rfl) (by simp) ?_
    refine AllReadyH.cons (o := _) rfl (fun K hK => ?_) AllReadyH.nil
    go_simp
    refine (HOO.out _ eo57 dvo58 at_ (bits .and .i64 n 7) ha7 Hdo59.out Hwo60.out).mono ?_
    rintro r wv61 ⟨eo63, dvo64, rfl, hdz, hwz, hbz⟩
    have hq62 := Lib.hid (bthenG hq56.out hbz)
    have Hdo65 := Lib.hid hdz; have Hwo66 := Lib.hid hwz
    clear hbz hdz hwz
    refine hK.out _ _ (HSB.out _ hq62.out) (fun hHeld2 => ?_)
    clear hK K hHeld
    have hHeld := hHeld2
    clear hHeld2
    try simp only [List.getElem_toArray, List.getElem_cons_succ, List.getElem_cons_zero, Act.put, List.setIfInBounds_toArray, List.set_cons_zero, List.set_cons_succ]
    refine wpAnyH_ready (rs := [18]) (by kernel_rfl) (by simp) ?_
    refine AllReadyH.cons (o := _) rfl (fun K hK => ?_) AllReadyH.nil
    go_simp
    refine (HSO.out _ eo63 dvo64 (H5.out _ hq62.out) Hdo65.out Hwo66.out).mono ?_
    rintro r wv67 ⟨rfl, hbz⟩
    have hq68 := Lib.hid (bthenG hq62.out hbz)
    clear hbz
    refine hK.out _ _ (HSB.out _ hq68.out) (fun hHeld2 => ?_)
    clear hK K hHeld
    have hHeld := hHeld2
    clear hHeld2
    try simp only [List.getElem_toArray, List.getElem_cons_succ, List.getElem_cons_zero, Act.put, List.setIfInBounds_toArray, List.set_cons_zero, List.set_cons_succ]
    refine wpAnyH_take (i := 19) (oi := _) (v := ?v19t44) rfl (by kernel_rfl) (by kernel_rfl) (by kernel_rfl) (fun _ _ _ h => h) (Or.inl ⟨by rfl, ?y19t44⟩) (by assumption) ?r19t44
    case y19t44 => (intro w hSw; (obtain ⟨hS0, hS1, hS2, hS3, hS4, hS5, hS6, hS7, hS8, hS9, hS10, hS11, hS12, hS13, hS14, hS15, hS16, hS17⟩ := hSw); go_simp <;> with_reducible rfl)
    try simp only [List.getElem_toArray, List.getElem_cons_succ, List.getElem_cons_zero, Act.put, List.setIfInBounds_toArray, List.set_cons_zero, List.set_cons_succ]
    refine wpAnyH_take (i := 20) (oi := _) (v := ?v20t44) rfl (by kernel_rfl) (by kernel_rfl) (by kernel_rfl) (fun _ _ _ h => h) (Or.inl ⟨by rfl, ?y20t44⟩) (by assumption) ?r20t44
    case y20t44 => (intro w hSw; (obtain ⟨hS0, hS1, hS2, hS3, hS4, hS5, hS6, hS7, hS8, hS9, hS10, hS11, hS12, hS13, hS14, hS15, hS16, hS17⟩ := hSw); go_simp <;> with_reducible rfl)
    try simp only [List.getElem_toArray, List.getElem_cons_succ, List.getElem_cons_zero, Act.put, List.setIfInBounds_toArray, List.set_cons_zero, List.set_cons_succ]
    refine wpAnyH_take (i := 21) (oi := _) (v := ?v21t44) rfl (by kernel_rfl) (by kernel_rfl) (by kernel_rfl) (fun _ _ _ h => h) (Or.inl ⟨by rfl, ?y21t44⟩) (by assumption) ?r21t44
    case y21t44 => (intro w hSw; (obtain ⟨hS0, hS1, hS2, hS3, hS4, hS5, hS6, hS7, hS8, hS9, hS10, hS11, hS12, hS13, hS14, hS15, hS16, hS17⟩ := hSw); go_simp <;> with_reducible rfl)
    try simp only [List.getElem_toArray, List.getElem_cons_succ, List.getElem_cons_zero, Act.put, List.setIfInBounds_toArray, List.set_cons_zero, List.set_cons_succ]
    refine wpAnyH_ready (rs := [22]) (by kernel_rfl) (by simp) ?_
    refine AllReadyH.cons (o := _) rfl (fun K hK => ?_) AllReadyH.nil
    go_simp
    refine (HSR.out _ (H5.out _ hq68.out)).mono ?_
    rintro r wv69 ⟨rfl, hbz⟩
    have hq70 := Lib.hid (bthenG hq68.out hbz)
    clear hbz
    refine hK.out _ _ (HSB.out _ hq70.out) (fun hHeld2 => ?_)
    clear hK K hHeld
    have hHeld := hHeld2
    clear hHeld2
    try simp only [List.getElem_toArray, List.getElem_cons_succ, List.getElem_cons_zero, Act.put, List.setIfInBounds_toArray, List.set_cons_zero, List.set_cons_succ]
    refine wpAnyH_take (i := 23) (oi := _) (v := ?v23t44) rfl (by kernel_rfl) (by kernel_rfl) (by kernel_rfl) (fun _ _ _ h => h) (Or.inl ⟨by rfl, ?y23t44⟩) (by assumption) ?r23t44
    case y23t44 => (intro w hSw; (obtain ⟨hS0, hS1, hS2, hS3, hS4, hS5, hS6, hS7, hS8, hS9, hS10, hS11, hS12, hS13, hS14, hS15, hS16, hS17⟩ := hSw); go_simp <;> with_reducible rfl)
    try simp only [List.getElem_toArray, List.getElem_cons_succ, List.getElem_cons_zero, Act.put, List.setIfInBounds_toArray, List.set_cons_zero, List.set_cons_succ]
    refine wpAnyH_take (i := 24) (oi := _) (v := ?v24t44) rfl (by kernel_rfl) (by kernel_rfl) (by kernel_rfl) (fun _ _ _ h => h) (Or.inl ⟨by rfl, ?y24t44⟩) (by assumption) ?r24t44
    case y24t44 => (intro w hSw; (obtain ⟨hS0, hS1, hS2, hS3, hS4, hS5, hS6, hS7, hS8, hS9, hS10, hS11, hS12, hS13, hS14, hS15, hS16, hS17⟩ := hSw); go_simp <;> with_reducible rfl)
    try simp only [List.getElem_toArray, List.getElem_cons_succ, List.getElem_cons_zero, Act.put, List.setIfInBounds_toArray, List.set_cons_zero, List.set_cons_succ]
    refine wpAnyH_take (i := 25) (oi := _) (v := ?v25t44) rfl (by kernel_rfl) (by kernel_rfl) (by kernel_rfl) (fun _ _ _ h => h) (Or.inl ⟨by rfl, ?y25t44⟩) (by assumption) ?r25t44
    case y25t44 => (intro w hSw; (obtain ⟨hS0, hS1, hS2, hS3, hS4, hS5, hS6, hS7, hS8, hS9, hS10, hS11, hS12, hS13, hS14, hS15, hS16, hS17⟩ := hSw); go_simp <;> with_reducible rfl)
    try simp only [List.getElem_toArray, List.getElem_cons_succ, List.getElem_cons_zero, Act.put, List.setIfInBounds_toArray, List.set_cons_zero, List.set_cons_succ]
    refine wpAnyH_ready (rs := [26]) (by kernel_rfl) (by simp) ?_
    refine AllReadyH.cons (o := _) rfl (fun K hK => ?_) AllReadyH.nil
    go_simp
    refine (HRD.out xs _ _ hxl (HxW.out _ hq70.out) (H5.out _ hq70.out)).mono ?_
    rintro r wv71 ⟨rfl, hbz⟩
    have hq72 := Lib.hid (bthenG hq70.out hbz)
    clear hbz
    refine hK.out _ _ (HSB.out _ hq72.out) (fun hHeld2 => ?_)
    clear hK K hHeld
    have hHeld := hHeld2
    clear hHeld2
    try simp only [List.getElem_toArray, List.getElem_cons_succ, List.getElem_cons_zero, Act.put, List.setIfInBounds_toArray, List.set_cons_zero, List.set_cons_succ]
    refine wpAnyH_take (i := 27) (oi := _) (v := ?v27t44) rfl (by kernel_rfl) (by kernel_rfl) (by kernel_rfl) (fun _ _ _ h => h) (Or.inl ⟨by rfl, ?y27t44⟩) (by assumption) ?r27t44
    case y27t44 => (intro w hSw; (obtain ⟨hS0, hS1, hS2, hS3, hS4, hS5, hS6, hS7, hS8, hS9, hS10, hS11, hS12, hS13, hS14, hS15, hS16, hS17⟩ := hSw); go_simp <;> with_reducible rfl)
    try simp only [List.getElem_toArray, List.getElem_cons_succ, List.getElem_cons_zero, Act.put, List.setIfInBounds_toArray, List.set_cons_zero, List.set_cons_succ]
    refine wpAnyH_take (i := 28) (oi := _) (v := ?v28t44) rfl (by kernel_rfl) (by kernel_rfl) (by kernel_rfl) (fun _ _ _ h => h) (Or.inl ⟨by rfl, ?y28t44⟩) (by assumption) ?r28t44
    case y28t44 => (intro w hSw; (obtain ⟨hS0, hS1, hS2, hS3, hS4, hS5, hS6, hS7, hS8, hS9, hS10, hS11, hS12, hS13, hS14, hS15, hS16, hS17⟩ := hSw); go_simp <;> with_reducible rfl)
    try simp only [List.getElem_toArray, List.getElem_cons_succ, List.getElem_cons_zero, Act.put, List.setIfInBounds_toArray, List.set_cons_zero, List.set_cons_succ]
    refine wpAnyH_take (i := 29) (oi := _) (v := ?v29t44) rfl (by kernel_rfl) (by kernel_rfl) (by kernel_rfl) (fun _ _ _ h => h) (Or.inl ⟨by rfl, ?y29t44⟩) (by assumption) ?r29t44
    case y29t44 => (intro w hSw; (obtain ⟨hS0, hS1, hS2, hS3, hS4, hS5, hS6, hS7, hS8, hS9, hS10, hS11, hS12, hS13, hS14, hS15, hS16, hS17⟩ := hSw); go_simp <;> with_reducible rfl)
    try simp only [List.getElem_toArray, List.getElem_cons_succ, List.getElem_cons_zero, Act.put, List.setIfInBounds_toArray, List.set_cons_zero, List.set_cons_succ]
    refine wpAnyH_ready (rs := [30]) (by kernel_rfl) (by simp) ?_
    refine AllReadyH.cons (o := _) rfl (fun K hK => ?_) AllReadyH.nil
    go_simp
    refine (HRD.out b _ _ hbl (HbW.out _ (H5.out _ hq72.out)) (H5.out _ hq72.out)).mono ?_
    rintro r wv73 ⟨rfl, hbz⟩
    have hq74 := Lib.hid (bthenG hq72.out hbz)
    clear hbz
    refine hK.out _ _ (HSB.out _ hq74.out) (fun hHeld2 => ?_)
    clear hK K hHeld
    have hHeld := hHeld2
    clear hHeld2
    try simp only [List.getElem_toArray, List.getElem_cons_succ, List.getElem_cons_zero, Act.put, List.setIfInBounds_toArray, List.set_cons_zero, List.set_cons_succ]
    refine wpAnyH_take (i := 31) (oi := _) (v := ?v31t44) rfl (by kernel_rfl) (by kernel_rfl) (by kernel_rfl) (fun _ _ _ h => h) (Or.inl ⟨by rfl, ?y31t44⟩) (by assumption) ?r31t44
    case y31t44 => (intro w hSw; (obtain ⟨hS0, hS1, hS2, hS3, hS4, hS5, hS6, hS7, hS8, hS9, hS10, hS11, hS12, hS13, hS14, hS15, hS16, hS17⟩ := hSw); go_simp <;> with_reducible rfl)
    try simp only [List.getElem_toArray, List.getElem_cons_succ, List.getElem_cons_zero, Act.put, List.setIfInBounds_toArray, List.set_cons_zero, List.set_cons_succ]
    refine wpAnyH_take (i := 32) (oi := _) (v := ?v32t44) rfl (by kernel_rfl) (by kernel_rfl) (by kernel_rfl) (fun _ _ _ h => h) (Or.inl ⟨by rfl, ?y32t44⟩) (by assumption) ?r32t44
    case y32t44 => (intro w hSw; (obtain ⟨hS0, hS1, hS2, hS3, hS4, hS5, hS6, hS7, hS8, hS9, hS10, hS11, hS12, hS13, hS14, hS15, hS16, hS17⟩ := hSw); go_simp <;> with_reducible rfl)
    try simp only [List.getElem_toArray, List.getElem_cons_succ, List.getElem_cons_zero, Act.put, List.setIfInBounds_toArray, List.set_cons_zero, List.set_cons_succ]
    refine wpAnyH_take (i := 33) (oi := _) (v := ?v33t44) rfl (by kernel_rfl) (by kernel_rfl) (by kernel_rfl) (fun _ _ _ h => h) (Or.inl ⟨by rfl, ?y33t44⟩) (by assumption) ?r33t44
    case y33t44 => (intro w hSw; (obtain ⟨hS0, hS1, hS2, hS3, hS4, hS5, hS6, hS7, hS8, hS9, hS10, hS11, hS12, hS13, hS14, hS15, hS16, hS17⟩ := hSw); go_simp <;> with_reducible rfl)
    try simp only [List.getElem_toArray, List.getElem_cons_succ, List.getElem_cons_zero, Act.put, List.setIfInBounds_toArray, List.set_cons_zero, List.set_cons_succ]
    refine wpAnyH_take (i := 34) (oi := _) (v := ?v34t44) rfl (by kernel_rfl) (by kernel_rfl) (by kernel_rfl) (fun _ _ _ h => h) (Or.inl ⟨by rfl, ?y34t44⟩) (by assumption) ?r34t44
    case y34t44 => (intro w hSw; (obtain ⟨hS0, hS1, hS2, hS3, hS4, hS5, hS6, hS7, hS8, hS9, hS10, hS11, hS12, hS13, hS14, hS15, hS16, hS17⟩ := hSw); go_simp <;> with_reducible rfl)
    try simp only [List.getElem_toArray, List.getElem_cons_succ, List.getElem_cons_zero, Act.put, List.setIfInBounds_toArray, List.set_cons_zero, List.set_cons_succ]
    refine wpAnyH_take (i := 36) (oi := _) (v := ?v36t44) rfl (by kernel_rfl) (by kernel_rfl) (by kernel_rfl) (fun _ _ _ h => h) (Or.inl ⟨by rfl, ?y36t44⟩) (by assumption) ?r36t44
    case y36t44 => (intro w hSw; (obtain ⟨hS0, hS1, hS2, hS3, hS4, hS5, hS6, hS7, hS8, hS9, hS10, hS11, hS12, hS13, hS14, hS15, hS16, hS17⟩ := hSw); go_simp <;> with_reducible rfl)
    try simp only [List.getElem_toArray, List.getElem_cons_succ, List.getElem_cons_zero, Act.put, List.setIfInBounds_toArray, List.set_cons_zero, List.set_cons_succ]
    refine wpAnyH_take (i := 37) (oi := _) (v := ?v37t44) rfl (by kernel_rfl) (by kernel_rfl) (by kernel_rfl) (fun _ _ _ h => h) (Or.inl ⟨by rfl, ?y37t44⟩) (by assumption) ?r37t44
    case y37t44 => (intro w hSw; (obtain ⟨hS0, hS1, hS2, hS3, hS4, hS5, hS6, hS7, hS8, hS9, hS10, hS11, hS12, hS13, hS14, hS15, hS16, hS17⟩ := hSw); go_simp <;> with_reducible rfl)
    try simp only [List.getElem_toArray, List.getElem_cons_succ, List.getElem_cons_zero, Act.put, List.setIfInBounds_toArray, List.set_cons_zero, List.set_cons_succ]
    refine wpAnyH_ready (rs := [35]) (by kernel_rfl) (by simp) ?_
    refine AllReadyH.cons (o := _) rfl (fun K hK => ?_) AllReadyH.nil
    go_simp
    refine (HES.out _ (H5.out _ hq74.out)).mono ?_
    rintro r wv75 ⟨rfl, hbz⟩
    have hq76 := Lib.hid (bthenG hq74.out hbz)
    clear hbz
    refine hK.out _ _ (HSB.out _ hq76.out) (fun hHeld2 => ?_)
    clear hK K hHeld
    have hHeld := hHeld2
    clear hHeld2
    try simp only [List.getElem_toArray, List.getElem_cons_succ, List.getElem_cons_zero, Act.put, List.setIfInBounds_toArray, List.set_cons_zero, List.set_cons_succ]
    refine wpAnyH_ready (rs := [38]) (by kernel_rfl) (by simp) ?_
    refine AllReadyH.cons (o := _) rfl (fun K hK => ?_) AllReadyH.nil
    go_simp
    refine (HRS.out _ (H5.out _ hq76.out)).mono ?_
    rintro r wv77 ⟨rfl, hbz⟩
    have hq78 := Lib.hid (bthenG hq76.out hbz)
    clear hbz
    refine hK.out _ _ (HSB.out _ hq78.out) (fun hHeld2 => ?_)
    clear hK K hHeld
    have hHeld := hHeld2
    clear hHeld2
    try simp only [List.getElem_toArray, List.getElem_cons_succ, List.getElem_cons_zero, Act.put, List.setIfInBounds_toArray, List.set_cons_zero, List.set_cons_succ]
    refine wpAnyH_take (i := 39) (oi := _) (v := ?v39t44) rfl (by kernel_rfl) (by kernel_rfl) (by kernel_rfl) (fun _ _ _ h => h) (Or.inl ⟨by rfl, ?y39t44⟩) (by assumption) ?r39t44
    case y39t44 => (intro w hSw; (obtain ⟨hS0, hS1, hS2, hS3, hS4, hS5, hS6, hS7, hS8, hS9, hS10, hS11, hS12, hS13, hS14, hS15, hS16, hS17⟩ := hSw); go_simp <;> with_reducible rfl)
    try simp only [List.getElem_toArray, List.getElem_cons_succ, List.getElem_cons_zero, Act.put, List.setIfInBounds_toArray, List.set_cons_zero, List.set_cons_succ]
    refine wpAnyH_take (i := 40) (oi := _) (v := ?v40t44) rfl (by kernel_rfl) (by kernel_rfl) (by kernel_rfl) (fun _ _ _ h => h) (Or.inl ⟨by rfl, ?y40t44⟩) (by assumption) ?r40t44
    case y40t44 => (intro w hSw; (obtain ⟨hS0, hS1, hS2, hS3, hS4, hS5, hS6, hS7, hS8, hS9, hS10, hS11, hS12, hS13, hS14, hS15, hS16, hS17⟩ := hSw); go_simp <;> with_reducible rfl)
    try simp only [List.getElem_toArray, List.getElem_cons_succ, List.getElem_cons_zero, Act.put, List.setIfInBounds_toArray, List.set_cons_zero, List.set_cons_succ]
    refine wpAnyH_take (i := 41) (oi := _) (v := ?v41t44) rfl (by kernel_rfl) (by kernel_rfl) (by kernel_rfl) (fun _ _ _ h => h) (Or.inl ⟨by rfl, ?y41t44⟩) (by assumption) ?r41t44
    case y41t44 => (intro w hSw; (obtain ⟨hS0, hS1, hS2, hS3, hS4, hS5, hS6, hS7, hS8, hS9, hS10, hS11, hS12, hS13, hS14, hS15, hS16, hS17⟩ := hSw); go_simp <;> with_reducible rfl)
    try simp only [List.getElem_toArray, List.getElem_cons_succ, List.getElem_cons_zero, Act.put, List.setIfInBounds_toArray, List.set_cons_zero, List.set_cons_succ]
    refine wpAnyH_take (i := 42) (oi := _) (v := ?v42t44) rfl (by kernel_rfl) (by kernel_rfl) (by kernel_rfl) (fun _ _ _ h => h) (Or.inl ⟨by rfl, ?y42t44⟩) (by assumption) ?r42t44
    case y42t44 => (intro w hSw; (obtain ⟨hS0, hS1, hS2, hS3, hS4, hS5, hS6, hS7, hS8, hS9, hS10, hS11, hS12, hS13, hS14, hS15, hS16, hS17⟩ := hSw); go_simp <;> with_reducible rfl)
    try simp only [List.getElem_toArray, List.getElem_cons_succ, List.getElem_cons_zero, Act.put, List.setIfInBounds_toArray, List.set_cons_zero, List.set_cons_succ]
    refine wpAnyH_take (i := 44) (oi := _) (v := ?v44t44) rfl (by kernel_rfl) (by kernel_rfl) (by kernel_rfl) (fun _ _ _ h => h) (Or.inl ⟨by rfl, ?y44t44⟩) (by assumption) ?r44t44
    case y44t44 => (intro w hSw; (obtain ⟨hS0, hS1, hS2, hS3, hS4, hS5, hS6, hS7, hS8, hS9, hS10, hS11, hS12, hS13, hS14, hS15, hS16, hS17⟩ := hSw); go_simp <;> with_reducible rfl)
    try simp only [List.getElem_toArray, List.getElem_cons_succ, List.getElem_cons_zero, Act.put, List.setIfInBounds_toArray, List.set_cons_zero, List.set_cons_succ]
    refine wpAnyH_ready (rs := [43]) (by kernel_rfl) (by simp) ?_
    refine AllReadyH.cons (o := _) rfl (fun K hK => ?_) AllReadyH.nil
    go_simp
    refine (hJ.out _ hq78.out).mono ?_
    rintro r wv79 ⟨Aj, rfl, hdz, hbz⟩
    have hq80 := Lib.hid (bthenG hq78.out hbz)
    have HJ1 := Lib.hid (hdz [] (by simp))
    clear hbz hdz
    refine hK.out _ _ (HSB.out _ hq80.out) (fun hHeld2 => ?_)
    clear hK K hHeld
    have hHeld := hHeld2
    clear hHeld2
    try simp only [List.getElem_toArray, List.getElem_cons_succ, List.getElem_cons_zero, Act.put, List.setIfInBounds_toArray, List.set_cons_zero, List.set_cons_succ]
    refine wpAnyH_ready (rs := [45]) (by kernel_rfl) (by simp) ?_
    refine AllReadyH.cons (o := _) rfl (fun K hK => ?_) AllReadyH.nil
    go_simp
    refine (hRJ.out _ hq80.out).mono ?_
    rintro r wv81 ⟨vj, rfl, hoz, hbz⟩
    have hq82 := Lib.hid (bthenG hq80.out hbz)
    have HJ2 := Lib.hid (HJ1.out.keep (M' := []) (Keeps.of_below hbz) (by simp))
    have HJ3 := Lib.hid (show Ds wv81 [] vj (joinD l) from Rd.of_own hoz (by simp))
    clear hbz hoz
    refine hK.out _ _ (HSB.out _ hq82.out) (fun hHeld2 => ?_)
    clear hK K hHeld
    have hHeld := hHeld2
    clear hHeld2
    try simp only [List.getElem_toArray, List.getElem_cons_succ, List.getElem_cons_zero, Act.put, List.setIfInBounds_toArray, List.set_cons_zero, List.set_cons_succ]
    refine wpAnyH_ready (rs := [46]) (by kernel_rfl) (by simp) ?_
    refine AllReadyH.cons (o := _) rfl (fun K hK => ?_) AllReadyH.nil
    go_simp
    have hsd := rsameDs_any _ _ (joinD l) (joinD l) wv81 HJ2.out HJ3.out hjl.out hjl.out
    rw [(dsEq_iff _ _).2 rfl] at hsd
    refine hsd.mono ?_
    rintro r wv83 ⟨rfl, hbz⟩
    have hq84 := Lib.hid (bthenG hq82.out hbz)
    clear hbz hsd
    refine hK.out _ _ (HSB.out _ hq84.out) (fun hHeld2 => ?_)
    clear hK K hHeld
    have hHeld := hHeld2
    clear hHeld2
    try simp only [List.getElem_toArray, List.getElem_cons_succ, List.getElem_cons_zero, Act.put, List.setIfInBounds_toArray, List.set_cons_zero, List.set_cons_succ]
    refine wpAnyH_take (i := 47) (oi := _) (v := ?v47t44) rfl (by kernel_rfl) (by kernel_rfl) (by kernel_rfl) (fun _ _ _ h => h) (Or.inl ⟨by rfl, ?y47t44⟩) (by assumption) ?r47t44
    case y47t44 => (intro w hSw; (obtain ⟨hS0, hS1, hS2, hS3, hS4, hS5, hS6, hS7, hS8, hS9, hS10, hS11, hS12, hS13, hS14, hS15, hS16, hS17⟩ := hSw); go_simp <;> with_reducible rfl)
    try simp only [List.getElem_toArray, List.getElem_cons_succ, List.getElem_cons_zero, Act.put, List.setIfInBounds_toArray, List.set_cons_zero, List.set_cons_succ]
    refine wpAnyH_take (i := 48) (oi := _) (v := ?v48t44) rfl (by kernel_rfl) (by kernel_rfl) (by kernel_rfl) (fun _ _ _ h => h) (Or.inl ⟨by rfl, ?y48t44⟩) (by assumption) ?r48t44
    case y48t44 => (intro w hSw; (obtain ⟨hS0, hS1, hS2, hS3, hS4, hS5, hS6, hS7, hS8, hS9, hS10, hS11, hS12, hS13, hS14, hS15, hS16, hS17⟩ := hSw); go_simp <;> with_reducible rfl)
    try simp only [List.getElem_toArray, List.getElem_cons_succ, List.getElem_cons_zero, Act.put, List.setIfInBounds_toArray, List.set_cons_zero, List.set_cons_succ]
    refine wpAnyH_ready (rs := [49]) (by kernel_rfl) (by simp) ?_
    refine AllReadyH.cons (o := _) rfl (fun K hK => ?_) AllReadyH.nil
    go_simp
    refine (known_any m _ (HmW.out _ (H5.out _ hq84.out))).mono ?_
    rintro r wv85 ⟨rfl, hbz⟩
    have hq86 := Lib.hid (bthenG hq84.out hbz)
    clear hbz
    refine hK.out _ _ (HSB.out _ hq86.out) (fun hHeld2 => ?_)
    clear hK K hHeld
    have hHeld := hHeld2
    clear hHeld2
    try simp only [List.getElem_toArray, List.getElem_cons_succ, List.getElem_cons_zero, Act.put, List.setIfInBounds_toArray, List.set_cons_zero, List.set_cons_succ]
    refine wpAnyH_take (i := 50) (oi := _) (v := ?v50t44) rfl (by kernel_rfl) (by kernel_rfl) (by kernel_rfl) (fun _ _ _ h => h) (Or.inl ⟨by rfl, ?y50t44⟩) (by assumption) ?r50t44
    case y50t44 => (intro w hSw; (obtain ⟨hS0, hS1, hS2, hS3, hS4, hS5, hS6, hS7, hS8, hS9, hS10, hS11, hS12, hS13, hS14, hS15, hS16, hS17⟩ := hSw); go_simp <;> with_reducible rfl)
    try simp only [List.getElem_toArray, List.getElem_cons_succ, List.getElem_cons_zero, Act.put, List.setIfInBounds_toArray, List.set_cons_zero, List.set_cons_succ]
    refine wpAnyH_take (i := 51) (oi := _) (v := ?v51t44) rfl (by kernel_rfl) (by kernel_rfl) (by kernel_rfl) (fun _ _ _ h => h) (Or.inl ⟨by rfl, ?y51t44⟩) (by assumption) ?r51t44
    case y51t44 => (intro w hSw; (obtain ⟨hS0, hS1, hS2, hS3, hS4, hS5, hS6, hS7, hS8, hS9, hS10, hS11, hS12, hS13, hS14, hS15, hS16, hS17⟩ := hSw); go_simp <;> with_reducible rfl)
    try simp only [List.getElem_toArray, List.getElem_cons_succ, List.getElem_cons_zero, Act.put, List.setIfInBounds_toArray, List.set_cons_zero, List.set_cons_succ]
    refine wpAnyH_done (by kernel_rfl) ?_ _
    have HF := Lib.hid (HFin.out _ hq86.out)
    clear hHeld
    go_wp2
    go_ret
    exact HF.out
end Go.Proofs.YtinnifhnabncfaaGreatDoor.Vi
end
/- Arguments opened: bytes, deltas, an entry that came in, and their bulk. -/
section
namespace Go.Proofs.YtinnifhnabncfaaGreatDoor.Vi
open Go.RowKit Base Mem Go.ChangeShapes Go.WideShapes Go.Deep
theorem bulk_one {H : Type} (d : DataW H) : 1 ≤ Rows.uptoBulk d := by
  cases d with
  | lit l => cases l <;> simp [Rows.uptoBulk]
  | nil => simp [Rows.uptoBulk]
  | ptr d => simp [Rows.uptoBulk]
  | slice elems spare => simp [Rows.uptoBulk]
  | agg parts => simp [Rows.uptoBulk]
  | iface t d => simp [Rows.uptoBulk]
  | map entries => simp [Rows.uptoBulk]
  | held h => simp [Rows.uptoBulk]
theorem bulk_part {H : Type} {d : DataW H} {l : List (DataW H)} (h : d ∈ l) : Rows.uptoBulk d ≤ Rows.uptoBulkAll l := by
  induction l with
  | nil => cases h
  | cons x r ih =>
    simp only [Rows.uptoBulkAll]
    rcases List.mem_cons.1 h with e | e
    · subst e; omega
    · have := ih e; omega
theorem bulk_len {H : Type} (l : List (DataW H)) : l.length ≤ Rows.uptoBulkAll l := by
  induction l with
  | nil => simp [Rows.uptoBulkAll]
  | cons x r ih => have := bulk_one x; simp only [Rows.uptoBulkAll, List.length_cons]; omega
theorem bulk_slice {H : Type} (elems spare : List (DataW H)) : Rows.uptoBulkAll elems ≤ Rows.uptoBulk (.slice elems spare) := by
  simp only [Rows.uptoBulk]
  omega
theorem bulk_agg {H : Type} (parts : List (DataW H)) : Rows.uptoBulkAll parts ≤ Rows.uptoBulk (.agg parts) := by
  simp only [Rows.uptoBulk]
  omega
theorem bulk_str {H : Type} (bytes : List UInt8) : bytes.length ≤ Rows.uptoBulk (DataW.lit (H := H) (.string bytes)) := by
  simp [Rows.uptoBulk]
theorem bulk_bound {H : Type} {l : List (DataW H)} (hk : Rows.uptoSmall H l = true) : Rows.uptoBulkAll l ≤ 1048576 := of_decide_eq_true hk
theorem wfE_u64 {n : Int} (h : (Lit.int .u64 n).wf = true) : 0 ≤ n ∧ n < 18446744073709551616 := by
  have h2 := h
  unfold Lit.wf at h2
  rw [Bool.and_eq_true, decide_eq_true_eq, decide_eq_true_eq] at h2
  have e1 : IntKind.u64.min = 0 := by decide
  have e2 : IntKind.u64.max = 18446744073709551615 := by decide
  rw [e1, e2] at h2
  omega
theorem wfE_u8 {n : Int} (h : (Lit.int .u8 n).wf = true) : 0 ≤ n ∧ n < 256 := by
  have h2 := h
  unfold Lit.wf at h2
  rw [Bool.and_eq_true, decide_eq_true_eq, decide_eq_true_eq] at h2
  have e1 : IntKind.u8.min = 0 := by decide
  have e2 : IntKind.u8.max = 255 := by decide
  rw [e1, e2] at h2
  omega
theorem wfE_i64 {n : Int} (h : (Lit.int .i64 n).wf = true) : n ≤ 9223372036854775807 := by
  have h2 := h
  unfold Lit.wf at h2
  rw [Bool.and_eq_true, decide_eq_true_eq, decide_eq_true_eq] at h2
  have e1 : IntKind.i64.min = -9223372036854775808 := by decide
  have e2 : IntKind.i64.max = 9223372036854775807 := by decide
  rw [e1, e2] at h2
  omega
theorem open_ds {H : Type} {enc : TypeId × Value → H} {W : World} {fuel : Nat} {a : Option Addr} {len cap : Nat} {d : DataW H} {p : List MemPlace}
    (h : DataW.trod enc Tryz.prog W 0 (fun _ => true) true fuel 24 [.slice a len cap] = some (d, p)) :
    ∃ l : List DeltaD, l.length = len ∧ Ds W [] (.slice a len cap) l ∧ (∀ x ∈ l, NOk x ∧ x.ser.size ≤ Rows.uptoBulk d) ∧ len ≤ Rows.uptoBulk d := by
  rcases open_slice_pairs Tryz.underlying24 Tryz.underlying86 (by kernel_rfl) rfl rfl (by kernel_rfl) (by kernel_rfl) h with ⟨hcs, _⟩ | ⟨x, l, c, m, n, V0, V1, D0, D1, P0, P1, hcs, _, hl, hm, hmm, hx, hall⟩
  · simp at hcs
    obtain ⟨rfl, rfl, rfl⟩ := hcs
    exact ⟨[], rfl, Ds.nil _ _, by simp, Nat.zero_le _⟩
  · simp at hcs
    obtain ⟨rfl, rfl, rfl⟩ := hcs
    simp only [if_true] at hmm
    subst hmm
    have hd : d = .slice ((List.range len).map fun i => .agg [D0 i, D1 i]) ((List.range (m - len)).map fun j => .agg [D0 (len + j), D1 (len + j)]) := by injection hx
    have hel : ∀ i, i < m → ∃ e : DeltaD, (∀ j u, (dCell e)[j]? = some u → W.cell? (x.add (i * 2 + j)) = some u) ∧ NOk e ∧ D0 i = .lit (.string e.ser.data.toList) := by
      intro i hi
      obtain ⟨h1, h2, t0, t1⟩ := hall i hi
      obtain ⟨s, e0, ex, _⟩ := DataW.trod_string Tryz.underlying9 t0
      obtain ⟨k, e1, _, hwf⟩ := DataW.trod_int Tryz.underlying66 t1
      obtain ⟨hk0, hk1⟩ := wfE_u64 hwf
      injection e0 with e0
      injection e1 with e1
      rw [e0] at h1
      rw [e1] at h2
      refine ⟨⟨s, k⟩, fun j u hu => ?_, ⟨hk0, hk1⟩, by injection ex⟩
      match j, hu with
      | 0, hu => simp [dCell] at hu; subst hu; exact h1
      | 1, hu => simp [dCell] at hu; subst hu; exact h2
    obtain ⟨f, hf⟩ : ∃ f : Nat → DeltaD, ∀ i, i < m → (∀ j u, (dCell (f i))[j]? = some u → W.cell? (x.add (i * 2 + j)) = some u) ∧ NOk (f i) ∧ D0 i = .lit (.string (f i).ser.data.toList) := by
      refine ⟨fun i => if h : i < m then (hel i h).choose else ⟨⟨#[]⟩, 0⟩, fun i hi => ?_⟩
      simp only [dif_pos hi]
      exact (hel i hi).choose_spec
    refine ⟨(List.range len).map f, by simp, ?_, ?_, ?_⟩
    · refine ⟨some x, m, by simp, by simpa using hl, by rw [show dCells ((List.range len).map f) = ((List.range len).map f).flatMap dCell from rfl, flat_len dCell 2 (fun _ => rfl)], fun hn => ?_⟩
      have hn' : 0 < len := by simpa using hn
      have hc0 := (hf 0 (by omega)).1 0 _ rfl
      have hsp : x.spot = none := by simpa [Addr.add] using World.cell?_spot hc0
      obtain ⟨g, off, spot⟩ := x
      subst hsp
      refine ⟨g, off, rfl, ?_, by simp, fun j u hu => ?_⟩
      · have := block_lt_of_cell hc0
        rwa [block_of_add] at this
      · have hj : j < len * 2 := by
          have := (List.getElem?_eq_some_iff.1 hu).1
          rw [show dCells ((List.range len).map f) = ((List.range len).map f).flatMap dCell from rfl, flat_len dCell 2 (fun _ => rfl)] at this
          simpa using this
        have hk : j / 2 < ((List.range len).map f).length := by simp; omega
        have hfa := flat_at dCell 2 (fun _ => rfl) ((List.range len).map f) (j / 2) (j % 2) hk (by omega)
        rw [show j / 2 * 2 + j % 2 = j by omega] at hfa
        rw [show dCells ((List.range len).map f) = ((List.range len).map f).flatMap dCell from rfl, hfa] at hu
        have hg : ((List.range len).map f)[j / 2] = f (j / 2) := by simp
        rw [hg] at hu
        have := (hf (j / 2) (by omega)).1 (j % 2) u hu
        rw [show j / 2 * 2 + j % 2 = j by omega, addr_add] at this
        exact this
    · intro y hy
      obtain ⟨i, hi, rfl⟩ := List.mem_map.1 hy
      have hi' : i < len := List.mem_range.1 hi
      obtain ⟨_, h2, h3⟩ := hf i (by omega)
      refine ⟨h2, ?_⟩
      have b1 : Rows.uptoBulk (DataW.agg [D0 i, D1 i]) ≤ Rows.uptoBulkAll ((List.range len).map fun i => DataW.agg [D0 i, D1 i]) := bulk_part (List.mem_map.2 ⟨i, hi, rfl⟩)
      have b2 := bulk_slice ((List.range len).map fun i => DataW.agg [D0 i, D1 i]) ((List.range (m - len)).map fun j => DataW.agg [D0 (len + j), D1 (len + j)])
      have b3 : Rows.uptoBulk (D0 i) ≤ Rows.uptoBulkAll [D0 i, D1 i] := bulk_part (by simp)
      have b4 := bulk_agg [D0 i, D1 i]
      have b5 := bulk_str (H := H) (f i).ser.data.toList
      rw [← h3] at b5
      rw [hd]
      have : (f i).ser.data.toList.length = (f i).ser.size := rfl
      omega
    · rw [hd]
      have b1 := bulk_len ((List.range len).map fun i => DataW.agg [D0 i, D1 i])
      have b2 := bulk_slice ((List.range len).map fun i => DataW.agg [D0 i, D1 i]) ((List.range (m - len)).map fun j => DataW.agg [D0 (len + j), D1 (len + j)])
      rw [List.length_map, List.length_range] at b1
      omega
theorem open_bs {H : Type} {enc : TypeId × Value → H} {W : World} {fuel : Nat} {a : Option Addr} {len cap : Nat} {d : DataW H} {p : List MemPlace}
    (h : DataW.trod enc Tryz.prog W 0 (fun _ => true) true fuel 36 [.slice a len cap] = some (d, p)) :
    ∃ l : List UInt8, l.length = len ∧ Bs W [] (.slice a len cap) l ∧ len ≤ Rows.uptoBulk d := by
  rcases open_ints Tryz.underlying36 Tryz.underlying5 (by kernel_rfl) h with ⟨hcs, _⟩ | ⟨x, l, c, zs, hcs, _, hl, hm, hz, hx, hcell, hwz⟩
  · simp at hcs
    obtain ⟨rfl, rfl, rfl⟩ := hcs
    exact ⟨[], rfl, Bs.nil _ _, Nat.zero_le _⟩
  · simp at hcs
    obtain ⟨rfl, rfl, rfl⟩ := hcs
    simp only [if_true] at hz
    have hlen : ((zs.take len).map fun z => UInt8.ofNat z.toNat).length = len := by rw [List.length_map, List.length_take]; omega
    have hat : ∀ i, i < cap → W.cell? (x.add i) = some (.int .u8 (UInt8.ofNat (zs.getD i 0).toNat).toNat) := by
      intro i hi
      have h1 := hcell i (by omega)
      have hmem : zs.getD i 0 ∈ zs := by
        rw [List.getD_eq_getElem?_getD, List.getElem?_eq_getElem (by omega : i < zs.length)]
        exact List.getElem_mem _
      obtain ⟨h2, h3⟩ := wfE_u8 (hwz _ hmem)
      rw [h1, UInt8.toNat_ofNat_of_lt' (by show (zs.getD i 0).toNat < 256; omega)]
      congr 2
      omega
    refine ⟨(zs.take len).map fun z => UInt8.ofNat z.toNat, hlen, ?_, ?_⟩
    · refine ⟨some x, cap, by rw [hlen], by rw [hlen]; exact hl, by rw [List.length_map, Nat.mul_one], fun hn => ?_⟩
      rw [hlen] at hn
      have hc0 := hat 0 (by omega)
      have hsp : x.spot = none := by simpa [Addr.add] using World.cell?_spot hc0
      obtain ⟨g, off, spot⟩ := x
      subst hsp
      refine ⟨g, off, rfl, ?_, by simp, fun j u hu => ?_⟩
      · have := block_lt_of_cell hc0
        rwa [block_of_add] at this
      · have hj : j < len := by
          have := (List.getElem?_eq_some_iff.1 hu).1
          rw [List.length_map, hlen] at this
          exact this
        have hjz : j < zs.length := by omega
        have h1 := hat j (by omega)
        rw [addr_add] at h1
        rw [List.getElem?_map, List.getElem?_map, List.getElem?_take, if_pos hj, List.getElem?_eq_getElem hjz] at hu
        simp only [Option.map_some, Option.some.injEq] at hu
        rw [← hu]
        rw [List.getD_eq_getElem?_getD, List.getElem?_eq_getElem hjz] at h1
        exact h1
    · have hd : d = .slice (lits .u8 (zs.take len)) (lits .u8 (zs.drop len)) := by injection hx
      have b1 := bulk_len (lits (H := H) .u8 (zs.take len))
      have b2 := bulk_slice (lits (H := H) .u8 (zs.take len)) (lits .u8 (zs.drop len))
      have b3 : (lits (H := H) .u8 (zs.take len)).length = len := by simp [lits]; omega
      rw [hd]
      omega
theorem trod_struct7 {H : Type} {enc : TypeId × Value → H} {P : Program} {w : World} {base : Nat} {spare : Nat → Bool} {held : Bool} {t : TypeId} {f0 f1 f2 f3 f4 f5 f6 : Field} {fuel : Nat} {cs : List Value} {x : DataW H × List MemPlace} (ht : P.underlying t = some (.struct #[f0, f1, f2, f3, f4, f5, f6])) (h : DataW.trod enc P w base spare held fuel t cs = some x) :
    ∃ y0 y1 y2 y3 y4 y5 y6 n, x.1 = .agg [y0.1, y1.1, y2.1, y3.1, y4.1, y5.1, y6.1] ∧ cs.length = P.cellsOf t ∧ DataW.trod enc P w base spare held n f0.type ((cs.drop f0.offset).take (P.cellsOf f0.type)) = some y0 ∧
      DataW.trod enc P w base spare held n f1.type ((cs.drop f1.offset).take (P.cellsOf f1.type)) = some y1 ∧ DataW.trod enc P w base spare held n f2.type ((cs.drop f2.offset).take (P.cellsOf f2.type)) = some y2 ∧
      DataW.trod enc P w base spare held n f3.type ((cs.drop f3.offset).take (P.cellsOf f3.type)) = some y3 ∧ DataW.trod enc P w base spare held n f4.type ((cs.drop f4.offset).take (P.cellsOf f4.type)) = some y4 ∧
      DataW.trod enc P w base spare held n f5.type ((cs.drop f5.offset).take (P.cellsOf f5.type)) = some y5 ∧ DataW.trod enc P w base spare held n f6.type ((cs.drop f6.offset).take (P.cellsOf f6.type)) = some y6 := by
  obtain ⟨xs, n, _, rfl, hl, hlen, hf⟩ := DataW.trod_struct ht h
  match xs, hlen with
  | [y0, y1, y2, y3, y4, y5, y6], _ => exact ⟨y0, y1, y2, y3, y4, y5, y6, n, by simp, hl, by simpa using hf 0 f0 rfl, by simpa using hf 1 f1 rfl, by simpa using hf 2 f2 rfl, by simpa using hf 3 f3 rfl, by simpa using hf 4 f4 rfl, by simpa using hf 5 f5 rfl, by simpa using hf 6 f6 rfl⟩
set_option maxRecDepth 100000 in
theorem open_entry {H : Type} {enc : TypeId × Value → H} {W : World} {base : Nat} {v : Value} {d : DataW H} {p : List MemPlace}
    (hval : Value.okWide Tryz.prog W .any base 26 v) (h : DataW.Trod enc Tryz.prog W 0 (fun _ => true) true 26 v d p) :
    ∃ (e : EntryD) (dv : Value), v = .agg (eCell (e, dv)).toArray ∧ Ds W [] dv e.ds ∧ Wide (Rows.uptoBulk d) {e with ser := ⟨#[]⟩, ds := []} ∧ e.ser.size ≤ Rows.uptoBulk d ∧ (∀ x ∈ e.ds, NOk x ∧ x.ser.size ≤ Rows.uptoBulk d) ∧ e.ds.length ≤ Rows.uptoBulk d := by
  obtain ⟨cs, rfl, hsz⟩ := okWide_struct Tryz.underlying26 hval
  have h9 : Tryz.prog.cellsOf 26 = 9 := by kernel_rfl
  have h3 : Tryz.prog.cellsOf 23 = 3 := by kernel_rfl
  have hi : Tryz.prog.cellsOf 3 = 1 := by kernel_rfl
  have hj : Tryz.prog.cellsOf 2 = 1 := by kernel_rfl
  have hsl : Tryz.prog.cellsOf 24 = 1 := by kernel_rfl
  have hst : Tryz.prog.cellsOf 9 = 1 := by kernel_rfl
  rw [h9] at hsz
  obtain ⟨fuel, hf⟩ := h
  obtain ⟨y0, y1, y2, y3, y4, y5, y6, n, hx, _, t0, t1, t2, t3, t4, t5, t6⟩ := trod_struct7 Tryz.underlying26 hf
  have hf' := hf
  obtain ⟨c0, c1, c2, c3, c4, c5, c6, c7, c8, rfl⟩ : ∃ c0 c1 c2 c3 c4 c5 c6 c7 c8, cs = #[c0, c1, c2, c3, c4, c5, c6, c7, c8] := by
    obtain ⟨cs⟩ := cs
    rcases cs with _ | ⟨c0, _ | ⟨c1, _ | ⟨c2, _ | ⟨c3, _ | ⟨c4, _ | ⟨c5, _ | ⟨c6, _ | ⟨c7, _ | ⟨c8, _ | ⟨c9, r⟩⟩⟩⟩⟩⟩⟩⟩⟩⟩ <;> simp at hsz
    exact ⟨c0, c1, c2, c3, c4, c5, c6, c7, c8, rfl⟩
  have t0' : DataW.trod enc Tryz.prog W 0 (fun _ => true) true n 3 [c0] = some y0 := by rw [← t0, hi]; rfl
  have t1' : DataW.trod enc Tryz.prog W 0 (fun _ => true) true n 23 [c1, c2, c3] = some y1 := by rw [← t1, h3]; rfl
  have t2' : DataW.trod enc Tryz.prog W 0 (fun _ => true) true n 2 [c4] = some y2 := by rw [← t2, hj]; rfl
  have t3' : DataW.trod enc Tryz.prog W 0 (fun _ => true) true n 24 [c5] = some y3 := by rw [← t3, hsl]; rfl
  have t4' : DataW.trod enc Tryz.prog W 0 (fun _ => true) true n 9 [c6] = some y4 := by rw [← t4, hst]; rfl
  have t5' : DataW.trod enc Tryz.prog W 0 (fun _ => true) true n 3 [c7] = some y5 := by rw [← t5, hi]; rfl
  have t6' : DataW.trod enc Tryz.prog W 0 (fun _ => true) true n 2 [c8] = some y6 := by rw [← t6, hj]; rfl
  clear t0 t1 t2 t3 t4 t5 t6 hf hf'
  obtain ⟨z0, z1, z2, n', _, _, s0, s1, s2⟩ := trod_struct3 Tryz.underlying23 t1'
  have s0' : DataW.trod enc Tryz.prog W 0 (fun _ => true) true n' 3 [c1] = some z0 := by rw [← s0, hi]; rfl
  have s1' : DataW.trod enc Tryz.prog W 0 (fun _ => true) true n' 3 [c2] = some z1 := by rw [← s1, hi]; rfl
  have s2' : DataW.trod enc Tryz.prog W 0 (fun _ => true) true n' 2 [c3] = some z2 := by rw [← s2, hj]; rfl
  obtain ⟨k0, e0, _, _⟩ := DataW.trod_int Tryz.underlying3 t0'
  obtain ⟨k1, e1, _, _⟩ := DataW.trod_int Tryz.underlying3 s0'
  obtain ⟨k2, e2, _, _⟩ := DataW.trod_int Tryz.underlying3 s1'
  obtain ⟨k3, e3, _, w3⟩ := DataW.trod_int Tryz.underlying2 s2'
  obtain ⟨k4, e4, _, w4⟩ := DataW.trod_int Tryz.underlying2 t2'
  obtain ⟨k6, e6, x6, _⟩ := DataW.trod_string Tryz.underlying9 t4'
  obtain ⟨k7, e7, _, _⟩ := DataW.trod_int Tryz.underlying3 t5'
  obtain ⟨k8, e8, _, w8⟩ := DataW.trod_int Tryz.underlying2 t6'
  injection e0 with e0; injection e1 with e1; injection e2 with e2; injection e3 with e3; injection e4 with e4; injection e6 with e6; injection e7 with e7; injection e8 with e8
  subst e0 e1 e2 e3 e4 e6 e7 e8
  obtain ⟨a5, n5, cp5, rfl⟩ : ∃ a n c, c5 = .slice a n c := by
    rcases open_slice Tryz.underlying24 t3' with ⟨hcs, _⟩ | ⟨x, l, c, m, n, D, Pl, hcs, _⟩
    · injection hcs with h _; exact ⟨_, _, _, h⟩
    · injection hcs with h _; exact ⟨_, _, _, h⟩
  obtain ⟨d3, p3⟩ := y3
  obtain ⟨l, rfl, hD, hl1, hl2⟩ := open_ds t3'
  have hd : d = .agg [y0.1, y1.1, y2.1, d3, y4.1, y5.1, y6.1] := hx
  have b1 := bulk_agg [y0.1, y1.1, y2.1, d3, y4.1, y5.1, y6.1]
  have b2 : Rows.uptoBulk d3 ≤ Rows.uptoBulkAll [y0.1, y1.1, y2.1, d3, y4.1, y5.1, y6.1] := bulk_part (by simp)
  have b3 : Rows.uptoBulk y4.1 ≤ Rows.uptoBulkAll [y0.1, y1.1, y2.1, d3, y4.1, y5.1, y6.1] := bulk_part (by simp)
  have b4 := bulk_str (H := H) k6.data.toList
  have hy4 : y4.1 = .lit (.string k6.data.toList) := by rw [x6]
  rw [← hy4] at b4
  rw [← hd] at b1
  have hk6 : k6.data.toList.length = k6.size := rfl
  refine ⟨⟨k0, k1, k2, k3, k4, l, k6, k7, k8⟩, .slice a5 l.length cp5, rfl, hD, ⟨by show (0 : Nat) ≤ _; omega, by simp, by simp, Nat.zero_le _, wfE_i64 w8, wfE_i64 w3, wfE_i64 w4⟩, ?_, fun x hx => ⟨(hl1 x hx).1, ?_⟩, ?_⟩
  · show k6.size ≤ _; omega
  · have := (hl1 x hx).2; omega
  · show l.length ≤ _; omega
end Go.Proofs.YtinnifhnabncfaaGreatDoor.Vi
end
