/- The walk of hopperlaw4.EntryKinds. -/
import Derived.Test.YtinnifhnabncfaaDoorBack
namespace Go.Proofs.YtinnifhnabncfaaDoor.Vi
open Go.RowKit Base Mem Tape Go.Shelf
/-- What stands behind the switch: an entry that may not be, and why. -/
def KiCut (w wx : World) (g : Nat) (s7 : Value) : Prop := ∃ (e : EntryD) (dv : Value), Blk wx g 27 (eCell (e, dv)).toArray ∧ Ds wx [] dv e.ds ∧ Short e ∧ rightE e ≠ 0 ∧ s7 = .int .i64 (rightE e) ∧ Below w.heap.size w wx
def ki0 (ds : List DeltaD) (fr tag : Int) : EntryD := ⟨1, 1, 1, 3, 2, ds, ⟨#[]⟩, fr, tag⟩
theorem ki_e : (⟨#[]⟩ : ByteArray).toList.isEmpty = true := by decide +kernel
theorem ki_w1 : withinB 1 8 = true := by decide
theorem ki_w2 : withinB 1 4 = true := by decide
/-- Why a batch of agent 1, shard 1, is not right. -/
theorem ki_eq (sq ep : Int) (ds : List DeltaD) (fr tag : Int) (h0 : 0 ≤ fr) (h1 : fr < 8) (ht : 0 ≤ tag) : rightE ⟨1, 1, 1, sq, ep, ds, ⟨#[]⟩, fr, tag⟩ =
    if (decide (sq < 1) || decide (ep < 1)) = true then 1 else if 8 < ds.length then 3 else if (ds.length == 0 || ds.any fun d => d.n == 0) = true then 1 else if (ds.all fun d => serOk d.ser) = true then 0 else 12 := by
  have hw : withinB fr 8 = true := by simp [withinB]; omega
  have htt : decide (tag < 0) = false := decide_eq_false (by omega)
  unfold rightE kindS writtenS badId
  simp only [hw, htt, ki_e, ki_w1, ki_w2, if_true, Bool.not_true, Bool.false_or, Bool.or_self, if_false, reduceCtorEq]
theorem ki_right (ds : List DeltaD) (fr tag : Int) (h0 : 0 ≤ fr) (h1 : fr < 8) (ht : 0 ≤ tag) (hd : ∀ d ∈ ds, DeltaOk d) (hn : 1 ≤ ds.length) (hn2 : ds.length ≤ 3) : rightE (ki0 ds fr tag) = 0 ∧ Short (ki0 ds fr tag) := by
  have hz : (ds.length == 0 || ds.any fun d => d.n == 0) = false := by
    rw [Bool.or_eq_false_iff]
    refine ⟨by simp; intro h; rw [h] at hn; simp at hn, ?_⟩
    rw [List.any_eq_false]
    intro d hx
    have := (hd d hx).2
    simp; omega
  have hall : (ds.all fun d => serOk d.ser) = true := by
    rw [List.all_eq_true]
    exact fun d hx => (name_ser (hd d hx).1).1
  refine ⟨?_, by show (0 : Nat) < _; omega, fun d hx => by have := (name_ser (hd d hx).1).2; omega, by simp only [ki0]; omega⟩
  unfold ki0
  rw [ki_eq 3 2 ds fr tag h0 h1 ht, if_neg (by decide), if_neg (by omega), hz, if_neg (by simp), hall, if_pos rfl]
theorem ki_none (fr tag : Int) (h0 : 0 ≤ fr) (h1 : fr < 8) (ht : 0 ≤ tag) : rightE (ki0 [] fr tag) = 1 := by
  unfold ki0
  rw [ki_eq 3 2 [] fr tag h0 h1 ht]
  rfl
theorem ki_bad (ds : List DeltaD) (fr tag sq ep : Int) (hb : sq < 1 ∨ ep < 1) (h0 : 0 ≤ fr) (h1 : fr < 8) (ht : 0 ≤ tag) : rightE ⟨1, 1, 1, sq, ep, ds, ⟨#[]⟩, fr, tag⟩ = 1 := by
  rw [ki_eq sq ep ds fr tag h0 h1 ht, if_pos (by simpa using hb)]
theorem ki_zero (ds : List DeltaD) (fr tag : Int) (h0 : 0 ≤ fr) (h1 : fr < 8) (ht : 0 ≤ tag) (hn2 : ds.length ≤ 3) (hz : ds.any (fun d => d.n == 0) = true) : rightE (ki0 ds fr tag) = 1 := by
  unfold ki0
  rw [ki_eq 3 2 ds fr tag h0 h1 ht, if_neg (by decide), if_neg (by omega), hz, if_pos (by simp)]
theorem ki_form (ds : List DeltaD) (fr tag : Int) : rightE ⟨1, 1, 1, 3, 2, ds, ⟨#[97, 61, 49]⟩, fr, tag⟩ = 12 := by
  have h : (⟨#[97, 61, 49]⟩ : ByteArray).toList.isEmpty = false := by decide +kernel
  unfold rightE kindS
  simp only [h, if_true]
theorem ki_read : rightE ⟨2, 0, 0, 0, 0, [], ⟨#[]⟩, 0, 0⟩ = 12 := by decide +kernel
theorem own_other {M : List Nat} {w w1 : World} {base : Nat} {e : TypeId} {size n : Nat} {v : Value} {xs : List Value} (h : w.ownsRow base e size v n xs) (hk : Keeps M w w1) (hM : ∀ g, v.ownBlock = some g → g ∉ M) : w1.ownsRow base e size v n xs := by
  obtain ⟨hl, h⟩ := h
  refine ⟨hl, ?_⟩
  rcases h with h | ⟨g, cap, cur, hv, hb, hg, rest⟩
  · exact .inl h
  · exact .inr ⟨g, cap, cur, hv, hb, (hk.block g (Array.getElem?_eq_some_iff.1 hg).1 (hM g (by rw [hv]; rfl))).trans hg, rest⟩
set_option maxRecDepth 100000 in
set_option maxHeartbeats 1000000 in
theorem kinds_walk (A : Option Addr) (c : Nat) (l : List Int) (wh : Int) (m : Int) (w : World) (ha : Nums w A c l) (hm : w.cell? ⟨0, 0, none⟩ = some (.int .i64 m)) :
    Calls Tryd.prog 5 #[.slice A l.length c, .int .i64 wh] w fun e w' => SamePost true w e w' := by
  have hw0 : 0 < w.heap.size := by
    have := World.block_lt_of_cell? w _ hm
    simpa using this
  have hkeepm : Hid (∀ W, Below w.heap.size w W → W.cell? ⟨0, 0, none⟩ = some (.int .i64 m)) := fun W hb => (hb.cell (p := ⟨0, 0, none⟩) hw0).trans hm
  have hT0 := Lib.hid (tape_new ha (Below.refl _ w))
  obtain ⟨b, hb⟩ : ∃ b, b = w.heap.size := ⟨_, rfl⟩
  have Hb := Lib.hid hb
  have hb1 := Lib.hid (below_new' w (.cells #[.slice A l.length c, .int .i64 0] 30))
  clear ha hm hb
  go_enter Tryd.func5, Tryd.ntmps5
  go_wp2_with fail
  refine (entry_any _ _ 0 _ hT0.out).mono ?_
  rw [← Hb.out]
  rintro e w2 ⟨en, dv0, k1, rfl, hok, _, hT2, hk2⟩
  obtain ⟨Av0, cv0, hv0⟩ : ∃ A c, dv0 = .slice A en.ds.length c := by
    rename_i hD
    obtain ⟨A, c, e, _⟩ := (hD [] (by simp)).len
    exact ⟨A, c, e⟩
  subst hv0
  have HT2 := Lib.hid hT2; have Hk2 := Lib.hid ((Keeps.of_below (M := []) hb1.out).trans hk2 (by intro g hg; simp at hg; right; have := Hb.out; omega)).below
  have hbw2 : b < w2.heap.size := hT2.lt
  obtain ⟨f0, f1, t0, _, _⟩ := hok
  clear hT2 hk2 hb1 hT0
  obtain ⟨xk, xag, xsh, xsq, xep, xds, xse, fr, tag⟩ := en
  simp only [] at f0 f1 t0
  simp only [eCell]
  have hB3 := Blk.new w2 27 #[.int .i64 xk, .int .i64 xag, .int .i64 xsh, .int .i64 xsq, .int .i64 xep, .slice Av0 xds.length cv0, .string xse, .int .i64 fr, .int .i64 tag]
  have hk3 : Keeps [] w2 (w2.alloc (.cells #[.int .i64 xk, .int .i64 xag, .int .i64 xsh, .int .i64 xsq, .int .i64 xep, .slice Av0 xds.length cv0, .string xse, .int .i64 fr, .int .i64 tag] 27)) := (Keeps.refl _ _).alloc _
  obtain ⟨w3, hw3⟩ : ∃ w3, w3 = w2.alloc (.cells #[.int .i64 xk, .int .i64 xag, .int .i64 xsh, .int .i64 xsq, .int .i64 xep, .slice Av0 xds.length cv0, .string xse, .int .i64 fr, .int .i64 tag] 27) := ⟨_, rfl⟩
  rw [← hw3] at hB3 hk3
  have HB3 := Lib.hid hB3; have Hw3 := Lib.hid hw3; have HT3 := Lib.hid (HT2.out.keep hk3 (by simp)); have Hb3 := Lib.hid ((Keeps.of_below (M := []) Hk2.out).trans hk3 (by simp)).below
  clear hB3 hk3 hw3 HT2 Hk2
  go_upto_region 3 with (fail)
  rw [← Hw3.out]
  generalize w2.heap.size = g at *
  clear Hw3
  obtain ⟨q0, q1, q2, q3, q4, q5, q6, q7, q8, qf⟩ := blk9 HB3.out
  have hk4 : Keeps [g] w3 ((w3.setCell ⟨g, 0, none⟩ (.int .i64 1)).setCell ⟨g, 6, none⟩ (.string ⟨#[]⟩)) := ((Keeps.refl _ _).setCell (by simp) _).setCell (by simp) _
  have HB4 : Hid (Blk ((w3.setCell ⟨g, 0, none⟩ (.int .i64 1)).setCell ⟨g, 6, none⟩ (.string ⟨#[]⟩)) g 27 #[.int .i64 1, .int .i64 xag, .int .i64 xsh, .int .i64 xsq, .int .i64 xep, .slice Av0 xds.length cv0, .string ⟨#[]⟩, .int .i64 fr, .int .i64 tag]) := (by simpa using (HB3.out.set_ 0 (.int .i64 1)).set_ 6 (.string ⟨#[]⟩) : Blk _ g _ _)
  have HT4 := Lib.hid (HT3.out.keep hk4 (by simp; omega)); have Hb4 := Lib.hid ((Keeps.of_below (M := []) Hb3.out).trans hk4 (by intro x hx; simp at hx; right; have := Hb.out; omega)).below
  clear hk4 HB3 HT3 Hb3
  go_wp2_with fail
  generalize (w3.setCell ⟨g, 0, none⟩ (.int .i64 1)).setCell ⟨g, 6, none⟩ (.string ⟨#[]⟩) = w4 at *
  have hg4 : g < w4.heap.size := HB4.out.lt
  refine (deltas_any b ⟨l, b⟩ k1 3 w4 HT4.out (by omega) (by omega)).mono ?_
  rintro e w5 ⟨dv, ds, k5, rfl, hdok, hd1, hd3, hown, _, hk5⟩
  have HB5 := Lib.hid (hk5.blk HB4.out (by simp; omega))
  have Hb5 := Lib.hid ((Keeps.of_below (M := []) Hb4.out).trans hk5 (by intro x hx; simp at hx; right; have := Hb.out; omega)).below
  obtain ⟨gd, cd, hdv, hgd, hgd2⟩ := hown.form (by omega)
  subst hdv
  have Hown := Lib.hid hown; have Hdok := Lib.hid hdok
  have hgne : g ≠ gd := by omega
  clear hown hk5 hdok HB4 HT4 Hb4 q0 q1 q2 q3 q4 q5 q6 q7 q8 qf
  obtain ⟨q0, q1, q2, q3, q4, q5, q6, q7, q8, qf⟩ := blk9 HB5.out
  have hd3' : ds.length ≤ 3 := by omega
  obtain ⟨w6, hw6⟩ : ∃ w6, w6 = ((((w5.setCell ⟨g, 1, none⟩ (.int .i64 1)).setCell ⟨g, 2, none⟩ (.int .i64 1)).setCell ⟨g, 3, none⟩ (.int .i64 3)).setCell ⟨g, 4, none⟩ (.int .i64 2)).setCell ⟨g, 5, none⟩ (.slice (some ⟨gd, 0, none⟩) ds.length cd) := ⟨_, rfl⟩
  have hk6 : Keeps [g] w5 w6 := by rw [hw6]; exact (((((Keeps.refl _ _).setCell (by simp) _).setCell (by simp) _).setCell (by simp) _).setCell (by simp) _).setCell (by simp) _
  have HB6 : Hid (Blk w6 g 27 #[.int .i64 1, .int .i64 1, .int .i64 1, .int .i64 3, .int .i64 2, .slice (some ⟨gd, 0, none⟩) ds.length cd, .string ⟨#[]⟩, .int .i64 fr, .int .i64 tag]) := by
    rw [hw6]
    exact (by simpa using ((((HB5.out.set_ 1 (.int .i64 1)).set_ 2 (.int .i64 1)).set_ 3 (.int .i64 3)).set_ 4 (.int .i64 2)).set_ 5 (.slice (some ⟨gd, 0, none⟩) ds.length cd) : Blk _ g _ _)
  have Hown6 := Lib.hid (own_other Hown.out hk6 (by simp [Value.ownBlock]; omega))
  have Hb6 := Lib.hid ((Keeps.of_below (M := []) Hb5.out).trans hk6 (by intro x hx; simp at hx; right; have := Hb.out; omega)).below
  have Hw6 := Lib.hid hw6
  have hg6 : g < w6.heap.size := HB6.out.lt
  have hgd6 : gd < w6.heap.size := by have := hk6.size; omega
  clear hk6 hw6 HB5 Hown Hb5
  go_upto_region 5 with (fail)
  rw [← Hw6.out]
  clear Hw6 q0 q1 q2 q3 q4 q5 q6 q7 q8 qf
  obtain ⟨q0, q1, q2, q3, q4, q5, q6, q7, q8, qf⟩ := blk9 HB6.out
  have hkr := Lib.hid (ki_right ds fr tag f0 f1 t0 Hdok.out hd1 hd3')
  have hri := eright_any (ki0 ds fr tag) (.slice (some ⟨gd, 0, none⟩) ds.length cd) m w6 (Rd.of_own Hown6.out (by simp)) hkr.out.2 (hkeepm.out _ Hb6.out)
  rw [hkr.out.1] at hri
  simp only [eCell, ki0] at hri
  have Hri := Lib.hid hri
  clear hri
  go_wp2_with fail
  refine Hri.out.mono ?_
  rintro e w7 ⟨rfl, hb7⟩
  have HB7 := Lib.hid (HB6.out.below hb7 hg6); have Hown7 := Lib.hid (own_below Hown6.out hb7); have Hb7 := Lib.hid (below_then Hb6.out hb7)
  clear hb7 Hri HB6 Hown6 Hb6 q0 q1 q2 q3 q4 q5 q6 q7 q8 qf
  obtain ⟨wq1, wq2⟩ := within_bd wh 0 5 (by omega)
  have hwi := Lib.hid (within_any wh 0 5 w7 (by omega) (by omega) (by omega))
  generalize withinS wh 0 5 = q at *
  go_wp2_with fail
  refine hwi.out.mono ?_
  rintro e w' ⟨rfl, rfl⟩
  obtain ⟨q0, q1, q2, q3, q4, q5, q6, q7, q8, qf⟩ := blk9 HB7.out
  go_upto_block 0 with (fail)
  go_cut [7] (fun s7 wx => KiCut w wx g s7)
  case first =>
    have hgb : w.heap.size < g := by have := Hb.out; omega
    have hq : q = 0 ∨ q = 1 ∨ q = 2 ∨ q = 3 ∨ q = 4 ∨ q = 5 := by omega
    have hDs := Lib.hid (show Ds w7 [g] (.slice (some ⟨gd, 0, none⟩) ds.length cd) ds from Rd.of_own Hown7.out (by simp; omega))
    clear wq1 wq2 hwi
    rcases hq with rfl | rfl | rfl | rfl | rfl | rfl
    · have hC : Hid (KiCut w (w7.setCell ⟨g, 5, none⟩ (.slice none 0 0)) g (.int .i64 1)) :=
        ⟨ki0 [] fr tag, .slice none 0 0, by simpa [eCell, ki0] using HB7.out.set_ 5 (.slice none 0 0), Ds.nil _ _, ⟨by show (0 : Nat) < _; omega, by simp [ki0], by simp [ki0]⟩, by rw [ki_none fr tag f0 f1 t0]; decide, by rw [ki_none fr tag f0 f1 t0]; rfl, Hb7.out.setCell (by simp; omega) _⟩
      go_wp2_with fail
      go_meet
      exact hC.out
    · have hC : Hid (KiCut w (w7.setCell ⟨g, 4, none⟩ (.int .i64 0)) g (.int .i64 1)) :=
        ⟨⟨1, 1, 1, 3, 0, ds, ⟨#[]⟩, fr, tag⟩, .slice (some ⟨gd, 0, none⟩) ds.length cd, by simpa [eCell] using HB7.out.set_ 4 (.int .i64 0), Rd.more (hDs.out.keep (M' := [g]) ((Keeps.refl _ _).setCell (by simp) _) (by simp)), hkr.out.2, by rw [ki_bad ds fr tag 3 0 (.inr (by omega)) f0 f1 t0]; decide, by rw [ki_bad ds fr tag 3 0 (.inr (by omega)) f0 f1 t0]; rfl, Hb7.out.setCell (by simp; omega) _⟩
      go_wp2_with fail
      go_meet
      exact hC.out
    · have hC : Hid (KiCut w (w7.setCell ⟨g, 3, none⟩ (.int .i64 0)) g (.int .i64 1)) :=
        ⟨⟨1, 1, 1, 0, 2, ds, ⟨#[]⟩, fr, tag⟩, .slice (some ⟨gd, 0, none⟩) ds.length cd, by simpa [eCell] using HB7.out.set_ 3 (.int .i64 0), Rd.more (hDs.out.keep (M' := [g]) ((Keeps.refl _ _).setCell (by simp) _) (by simp)), hkr.out.2, by rw [ki_bad ds fr tag 0 2 (.inl (by omega)) f0 f1 t0]; decide, by rw [ki_bad ds fr tag 0 2 (.inl (by omega)) f0 f1 t0]; rfl, Hb7.out.setCell (by simp; omega) _⟩
      go_wp2_with fail
      go_meet
      exact hC.out
    · have hC : Hid (KiCut w (w7.setCell ⟨g, 6, none⟩ (.string ⟨#[97, 61, 49]⟩)) g (.int .i64 12)) :=
        ⟨⟨1, 1, 1, 3, 2, ds, ⟨#[97, 61, 49]⟩, fr, tag⟩, .slice (some ⟨gd, 0, none⟩) ds.length cd, by simpa [eCell] using HB7.out.set_ 6 (.string ⟨#[97, 61, 49]⟩), Rd.more (hDs.out.keep (M' := [g]) ((Keeps.refl _ _).setCell (by simp) _) (by simp)), ⟨by show (3 : Nat) < _; omega, hkr.out.2.2⟩, by rw [ki_form]; decide, by rw [ki_form]; rfl, Hb7.out.setCell (by simp; omega) _⟩
      go_wp2_with fail
      go_meet
      exact hC.out
    · have hB9 : Blk (((((((((w7.setCell ⟨g, 0, none⟩ (.int .i64 2)).setCell ⟨g, 1, none⟩ (.int .i64 0)).setCell ⟨g, 2, none⟩ (.int .i64 0)).setCell ⟨g, 3, none⟩ (.int .i64 0)).setCell ⟨g, 4, none⟩ (.int .i64 0)).setCell ⟨g, 5, none⟩ (.slice none 0 0)).setCell ⟨g, 6, none⟩ (.string ⟨#[]⟩)).setCell ⟨g, 7, none⟩ (.int .i64 0)).setCell ⟨g, 8, none⟩ (.int .i64 0)) g 27 #[.int .i64 2, .int .i64 0, .int .i64 0, .int .i64 0, .int .i64 0, .slice none 0 0, .string ⟨#[]⟩, .int .i64 0, .int .i64 0] :=
        (by simpa using ((((((((HB7.out.set_ 0 (.int .i64 2)).set_ 1 (.int .i64 0)).set_ 2 (.int .i64 0)).set_ 3 (.int .i64 0)).set_ 4 (.int .i64 0)).set_ 5 (.slice none 0 0)).set_ 6 (.string ⟨#[]⟩)).set_ 7 (.int .i64 0)).set_ 8 (.int .i64 0) : Blk _ g _ _)
      have hb9 : Below w.heap.size w (((((((((w7.setCell ⟨g, 0, none⟩ (.int .i64 2)).setCell ⟨g, 1, none⟩ (.int .i64 0)).setCell ⟨g, 2, none⟩ (.int .i64 0)).setCell ⟨g, 3, none⟩ (.int .i64 0)).setCell ⟨g, 4, none⟩ (.int .i64 0)).setCell ⟨g, 5, none⟩ (.slice none 0 0)).setCell ⟨g, 6, none⟩ (.string ⟨#[]⟩)).setCell ⟨g, 7, none⟩ (.int .i64 0)).setCell ⟨g, 8, none⟩ (.int .i64 0)) := by
        repeat (first | (with_reducible exact Hb7.out) | (with_reducible refine Below.setCell ?_ (by simp; omega) _))
      have hC : Hid (KiCut w _ g (.int .i64 12)) :=
        ⟨⟨2, 0, 0, 0, 0, [], ⟨#[]⟩, 0, 0⟩, .slice none 0 0, hB9, Ds.nil _ _, ⟨by decide, by simp, by simp⟩, by rw [ki_read]; decide, by rw [ki_read]; rfl, hb9⟩
      clear hB9 hb9
      go_wp2_with fail
      go_meet
      exact hC.out
    · have hset := dCells_set ds 0 (by omega) 0
      have hown8 := own_set Hown7.out 1 (.int .u64 0) (by omega)
      rw [hset] at hown8
      have hlen : (ds.set 0 ⟨ds[0].ser, 0⟩).length = ds.length := List.length_set
      have hz : (ds.set 0 ⟨ds[0].ser, 0⟩).any (fun d => d.n == 0) = true := by
        rw [List.any_eq_true]
        exact ⟨⟨ds[0].ser, 0⟩, List.mem_iff_getElem.2 ⟨0, by rw [hlen]; omega, by simp⟩, rfl⟩
      have hr := ki_zero (ds.set 0 ⟨ds[0].ser, 0⟩) fr tag f0 f1 t0 (by omega) hz
      have hk8 : Keeps [gd] w7 (w7.setCell ⟨gd, 1, none⟩ (.int .u64 0)) := (Keeps.refl _ _).setCell (by simp) _
      have hD8 : Ds (w7.setCell ⟨gd, 1, none⟩ (.int .u64 0)) [] (.slice (some ⟨gd, 0, none⟩) ds.length cd) (ds.set 0 ⟨ds[0].ser, 0⟩) := by
        unfold Ds
        rw [hlen]
        exact Rd.of_own hown8 (by simp)
      have hshort : Short (ki0 (ds.set 0 ⟨ds[0].ser, 0⟩) fr tag) := by
        refine ⟨by show (0 : Nat) < _; omega, fun d hd => ?_, by simp only [ki0, hlen]; omega⟩
        simp only [ki0] at hd
        rcases List.mem_or_eq_of_mem_set hd with hd | rfl
        · exact hkr.out.2.2.1 d hd
        · exact hkr.out.2.2.1 ds[0] (List.getElem_mem _)
      have hC : Hid (KiCut w (w7.setCell ⟨gd, 1, none⟩ (.int .u64 0)) g (.int .i64 1)) :=
        ⟨ki0 (ds.set 0 ⟨ds[0].ser, 0⟩) fr tag, .slice (some ⟨gd, 0, none⟩) ds.length cd, hk8.blk HB7.out (by simp; omega), hD8, hshort, by rw [hr]; decide, by rw [hr]; rfl, Hb7.out.setCell (by simp; omega) _⟩
      have hfz : w7.frozen? ⟨gd, 1, none⟩ = false := by
        rcases Hown7.out.2 with ⟨h, _⟩ | ⟨g', cap', cur, hv, _, hg, _⟩
        · cases h
        · injection hv with h1 _ _
          injection h1 with h1
          injection h1 with h1 _ _
          subst h1
          exact Base.Blk.frozen hg _
      obtain ⟨g', off', _, e1, _, _, _, hcell⟩ := Rd.at_ dCell 2 (fun _ => rfl) hDs.out (show 0 < ds.length by omega)
      injection e1 with e1 _ e9
      injection e1 with e1
      injection e1 with e1 e2 _
      subst e1 e2
      have c1 : w7.cell? ⟨gd, 1, none⟩ = some (.int .u64 ds[0].n) := by have := hcell 1 _ rfl; simpa using this
      have hpos : (0 : Int) < (ds.length : Int) := by omega
      have hpos2 : 0 < ds.length := by omega
      clear e9 hcell hset hown8 hlen hz hr hk8 hD8 hshort
      go_wp2_with fail
      go_meet
      exact hC.out
  case rest =>
    obtain ⟨e, dv, hB, hD, hsh, hne, rfl, hb⟩ := hcut
    obtain ⟨Av, cv, rfl, _⟩ := hD.len
    have hby := Lib.hid (ebytes_no e (.slice Av e.ds.length cv) m wc hne hD hsh (hkeepm.out wc hb))
    have hri := Lib.hid (fun W (hk : Keeps [] wc W) (hbW : Below w.heap.size w W) => eright_any e (.slice Av e.ds.length cv) m W (hD.keep hk (by simp)) hsh (hkeepm.out W hbW))
    have HB := Lib.hid hB; have Hbc := Lib.hid hb
    clear hB hD hsh hne hb q0 q1 q2 q3 q4 q5 q6 q7 q8 qf hwi HB7 Hown7 Hb7
    generalize rightE e = rr at *
    obtain ⟨kind, ag, sh, seq, ep, eds, ser, efr, etg⟩ := e
    simp only [eCell] at hby hri HB
    obtain ⟨q0, q1, q2, q3, q4, q5, q6, q7, q8, qf⟩ := blk9 HB.out
    have hgc : g < wc.heap.size := HB.out.lt
    go_wp2_with fail
    refine hby.out.mono ?_
    rintro r w8 ⟨rfl, hb8⟩
    have HB8 := Lib.hid (HB.out.below hb8 hgc); have Hb8 := Lib.hid (below_then Hbc.out hb8)
    have hri8 := Lib.hid (hri.out w8 (Keeps.of_below hb8) Hb8.out)
    clear hb8 hby hri HB q0 q1 q2 q3 q4 q5 q6 q7 q8 qf
    obtain ⟨q0, q1, q2, q3, q4, q5, q6, q7, q8, qf⟩ := blk9 HB8.out
    go_wp2_with fail
    refine hri8.out.mono ?_
    rintro r w9 ⟨rfl, hb9⟩
    have Hb9 := Lib.hid (below_then Hb8.out hb9)
    clear hb9 hri8 q0 q1 q2 q3 q4 q5 q6 q7 q8 qf
    go_wp2_with fail
    refine (known_any m w9 (hkeepm.out w9 Hb9.out)).mono ?_
    rintro r wA ⟨rfl, hbA⟩
    have HbA := Lib.hid (below_then Hb9.out hbA)
    clear hbA
    go_wp2
    go_ret
    exact ⟨rfl, HbA.out⟩
end Go.Proofs.YtinnifhnabncfaaDoor.Vi
