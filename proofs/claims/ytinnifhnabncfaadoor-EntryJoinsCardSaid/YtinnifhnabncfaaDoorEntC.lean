/- Contract of entry.Read. -/
import Derived.Test.YtinnifhnabncfaaDoorPlE2
namespace Go.Proofs.YtinnifhnabncfaaDoor.Vi
open Go.RowKit Base Mem Go.Shelf
def zeroA : Array Value := #[.int .i64 0, .int .i64 0, .int .i64 0, .int .i64 0, .int .i64 0, .slice none 0 0, .string ⟨#[]⟩, .int .i64 0, .int .i64 0]
/-- What stands between two calls: the reader, the result's block, the entry's block. -/
structure Re (w0 w : World) (p g0 g5 : Nat) (l : List UInt8) (bad : Bool) (c : Array Value) : Prop where
  rd : RdAt w [g5] p l bad
  keeps : Below w0.heap.size w0 w
  b0 : Blk w g0 27 zeroA
  b5 : Blk w g5 27 c
  o0 : w0.heap.size ≤ g0
  o1 : g0 < p
  o2 : p < g5
theorem Re.step {w0 w w' : World} {p g0 g5 : Nat} {l l' : List UInt8} {bad bad' : Bool} {c : Array Value} (h : Re w0 w p g0 g5 l bad c) (hr : RdAt w' [g5] p l' bad') (hk : Keeps [p] w w') : Re w0 w' p g0 g5 l' bad' c := by
  have h0 := h.o0; have h1 := h.o1; have h2 := h.o2
  exact ⟨hr, ((Keeps.of_below (M := []) h.keeps).trans hk (by intro g hg; simp at hg; right; omega)).below, hk.blk h.b0 (by simp; omega), hk.blk h.b5 (by simp; omega), h0, h1, h2⟩
theorem Re.set {w0 w : World} {p g0 g5 : Nat} {l : List UInt8} {bad : Bool} {c : Array Value} (h : Re w0 w p g0 g5 l bad c) (i : Nat) (v : Value) : Re w0 (w.setCell ⟨g5, i, none⟩ v) p g0 g5 l bad (c.setIfInBounds i v) := by
  have h0 := h.o0; have h1 := h.o1; have h2 := h.o2
  have hk : Keeps [g5] w (w.setCell ⟨g5, i, none⟩ v) := (Keeps.refl _ _).setCell (by simp) v
  exact ⟨h.rd.keep hk (by simp) (by simp; omega), ((Keeps.of_below (M := []) h.keeps).trans hk (by intro g hg; simp at hg; right; omega)).below, hk.blk h.b0 (by simp; omega), h.b5.set_ i v, h0, h1, h2⟩
theorem blk9 {w : World} {g : Nat} {t : TypeId} {c0 c1 c2 c3 c4 c5 c6 c7 c8 : Value} (h : Blk w g t #[c0, c1, c2, c3, c4, c5, c6, c7, c8]) :
    w.cell? ⟨g, 0, none⟩ = some c0 ∧ w.cell? ⟨g, 1, none⟩ = some c1 ∧ w.cell? ⟨g, 2, none⟩ = some c2 ∧ w.cell? ⟨g, 3, none⟩ = some c3 ∧ w.cell? ⟨g, 4, none⟩ = some c4 ∧ w.cell? ⟨g, 5, none⟩ = some c5 ∧ w.cell? ⟨g, 6, none⟩ = some c6 ∧ w.cell? ⟨g, 7, none⟩ = some c7 ∧ w.cell? ⟨g, 8, none⟩ = some c8 ∧ (∀ i, w.frozen? ⟨g, i, none⟩ = false) :=
  ⟨h.cell 0, h.cell 1, h.cell 2, h.cell 3, h.cell 4, h.cell 5, h.cell 6, h.cell 7, h.cell 8, h.frozen⟩
/-- What a read answers. -/
def ReadPost (r : EntryD × Nat) (w : World) (e : Ending) (w' : World) : Prop := ∃ dv, e = .returned (.tuple #[.agg (eCell (r.1, dv)).toArray, .int .i64 r.2]) ∧ (∀ M, (∀ g ∈ M, g < w.heap.size) → Ds w' M dv r.1.ds) ∧ Below w.heap.size w w'
/-- What stands where both ways have met. -/
def ReCut (w wx : World) (p g5 : Nat) (RH : EntryD × List UInt8 × Bool) : Prop := ∃ dv, Re w wx p w.heap.size g5 RH.2.1 RH.2.2 (eCell (RH.1, dv)).toArray ∧ ∀ M, (∀ g ∈ M, g ≤ w.heap.size) → Ds wx M dv RH.1.ds
set_option maxRecDepth 100000 in
set_option maxHeartbeats 1000000 in
theorem eread_any (v : Value) (l : List UInt8) (m : Int) (w : World) (h : Bs w [] v l) (hl : l.length < 4294967281) (hm : w.cell? ⟨0, 0, none⟩ = some (.int .i64 m)) :
    Calls Tryd.prog 9 #[v] w fun e w' => ReadPost (readE l) w e w' := by
  have hw0 : 0 < w.heap.size := by
    have := World.block_lt_of_cell? w _ hm
    simpa using this
  have Hm := Lib.hid hm
  have hsh := Lib.hid (readH_short l hl)
  have HE : Hid (readE l = if (!(readH l).2.2 && (readH l).2.1.isEmpty) = true ∧ rightE (readH l).1 = 0 then ((readH l).1, 0) else (zeroD, 12)) := rfl
  obtain ⟨kt, ft, tt, hk, hf, ht, hH⟩ := readH_eq l
  generalize readE l = RE at *
  generalize readH l = RH at *
  obtain ⟨A, c, rfl, hc⟩ := h.len
  have Hh := Lib.hid h
  have Hk := Lib.hid hk; have Hf := Lib.hid hf; have Ht := Lib.hid ht; have HH := Lib.hid hH
  clear h hm hk hf ht hH
  go_enter Tryd.func9, Tryd.ntmps9
  go_wp2_with fail
  refine (new_any [] _ l (w.alloc (.cells zeroA 27)) (Hh.out.keep (M' := []) ((Keeps.refl _ _).alloc _) (by simp)) (by omega)).mono ?_
  rintro e w1 ⟨rfl, hrd, hb1⟩
  have hsz : (w.alloc (.cells zeroA 27)).heap.size = w.heap.size + 1 := by simp
  rw [hsz] at hrd hb1 ⊢
  have hB0 : Blk w1 w.heap.size 27 zeroA := (Blk.new w 27 zeroA).below (B := w.heap.size + 1) hb1 (by omega)
  have hbw : Below w.heap.size w w1 := ((Below.refl _ _).alloc (Nat.le_refl _) _).trans (hb1.mono (by omega))
  obtain ⟨p, hp⟩ : ∃ p, p = w.heap.size + 1 := ⟨_, rfl⟩
  rw [← hp] at hrd hb1 ⊢
  have Hrd := Lib.hid hrd; have HB0 := Lib.hid hB0; have Hbw := Lib.hid hbw
  have hpw : w.heap.size < p := by omega
  have hpw1 : p < w1.heap.size := hrd.lt
  clear hrd hB0 hbw hb1 hsz hp
  go_wp2_with fail
  have hby := Lib.hid (byte_any [] p l false w1 Hrd.out)
  rw [← Hk.out] at hby
  obtain ⟨k1, k2, k3⟩ := kt
  simp only [] at hby Hf HH
  refine hby.out.mono ?_
  rintro e w2 ⟨rfl, hrd2, hk2⟩
  have HB2 := Lib.hid (hk2.blk HB0.out (by simp; omega))
  have Hbw2 := Lib.hid ((Keeps.of_below (M := []) Hbw.out).trans hk2 (by intro g hg; simp at hg; right; omega)).below
  have Hrd2 := Lib.hid hrd2
  have hp2 : p < w2.heap.size := hrd2.lt
  simp only [bV]
  have hk256 := UInt8.toNat_lt k1
  generalize k1.toNat = k at *
  have hwk : IntKind.i64.wrap (k : Int) = (k : Int) := by rw [IntKind.wrap_i64]; omega
  clear hrd2 hk2 hby Hbw HB0 Hrd Hk hk256
  go_wp2_with fail
  have hst : Re w (w2.alloc (.cells #[.int .i64 k, .int .i64 0, .int .i64 0, .int .i64 0, .int .i64 0, .slice none 0 0, .string ⟨#[]⟩, .int .i64 0, .int .i64 0] 27)) p w.heap.size w2.heap.size k2 k3 #[.int .i64 k, .int .i64 0, .int .i64 0, .int .i64 0, .int .i64 0, .slice none 0 0, .string ⟨#[]⟩, .int .i64 0, .int .i64 0] :=
    ⟨(Hrd2.out.avoid (M' := [w2.heap.size]) (by intro g hg; simp at hg; right; omega)).keep (M' := []) ((Keeps.refl _ _).alloc _) (by simp) (by simp), Hbw2.out.alloc (by omega) _, HB2.out.below (below_new' w2 _) (by omega), Blk.new w2 _ _, Nat.le_refl _, hpw, hp2⟩
  have H3 := Lib.hid hst
  clear hst HB2 Hbw2 Hrd2
  generalize hw3 : w2.alloc _ = w3 at *
  generalize w2.heap.size = g5 at *
  clear hw3
  have hct := Lib.hid (count_any [g5] p k2 k3 8 (by omega) w3 H3.out.rd)
  rw [← Hf.out] at hct
  obtain ⟨f1, f2, f3⟩ := ft
  simp only [] at hct Ht HH
  refine hct.out.mono ?_
  rintro e w4 ⟨rfl, hA4, hk4⟩
  have H4 := Lib.hid (H3.out.step hA4 hk4)
  clear hA4 hk4 H3 hct Hf
  go_wp2_with fail
  have hct := Lib.hid (rint_any [g5] p f2 f3 w4 H4.out.rd)
  rw [← Ht.out] at hct
  obtain ⟨t1, t2, t3⟩ := tt
  simp only [] at hct HH
  refine hct.out.mono ?_
  rintro e w5 ⟨rfl, hA5, hk5⟩
  have H5 := Lib.hid (H4.out.step hA5 hk5)
  clear hA5 hk5 H4 hct Ht
  obtain ⟨q0, q1, q2, q3, q4, q5, q6, q7, q8, qf⟩ := blk9 H5.out.b5
  have H6 : Hid (Re w ((w5.setCell ⟨g5, 7, none⟩ (.int .i64 f1)).setCell ⟨g5, 8, none⟩ (.int .i64 t1)) p w.heap.size g5 t2 t3 #[.int .i64 k, .int .i64 0, .int .i64 0, .int .i64 0, .int .i64 0, .slice none 0 0, .string ⟨#[]⟩, .int .i64 f1, .int .i64 t1]) :=
    (by simpa using (H5.out.set 7 (.int .i64 f1)).set 8 (.int .i64 t1) : Re w _ p w.heap.size g5 t2 t3 _)
  have ho2 := H5.out.o2
  clear H5
  go_upto_if 20 with (fail)
  go_cut [] (fun wx => ReCut w wx p g5 RH)
  case first =>
    generalize (w5.setCell ⟨g5, 7, none⟩ (.int .i64 f1)).setCell ⟨g5, 8, none⟩ (.int .i64 t1) = w6 at *
    clear q0 q1 q2 q3 q4 q5 q6 q7 q8 qf
    obtain ⟨q0, q1, q2, q3, q4, q5, q6, q7, q8, qf⟩ := blk9 H6.out.b5
    by_cases hk2 : k = 2
    · subst hk2
      have HH2 : Hid (RH = (⟨(2 : Nat), 0, 0, 0, 0, [], ⟨(textS t2 t3).1.toArray⟩, f1, t1⟩, (textS t2 t3).2)) := by show _ = _; rw [HH.out, readX_two]
      clear HH
      have hct := Lib.hid (rtext_any [g5] p t2 t3 w6 H6.out.rd)
      generalize textS t2 t3 = s at *
      obtain ⟨s1, s2, s3⟩ := s
      simp only [] at hct HH2
      go_wp2_with fail
      refine hct.out.mono ?_
      rintro e w7 ⟨rfl, hA7, hk7⟩
      have H7 := Lib.hid (H6.out.step hA7 hk7)
      clear hA7 hk7 H6 hct q0 q1 q2 q3 q4 q5 q6 q7 q8 qf
      obtain ⟨q0, q1, q2, q3, q4, q5, q6, q7, q8, qf⟩ := blk9 H7.out.b5
      have hC : Hid (ReCut w (w7.setCell ⟨g5, 6, none⟩ (.string ⟨s1.toArray⟩)) p g5 RH) := by
        show ReCut _ _ _ _ _
        rw [HH2.out]
        exact ⟨.slice none 0 0, by simpa [eCell] using H7.out.set 6 (.string ⟨s1.toArray⟩), fun M _ => Ds.nil _ _⟩
      clear H7
      go_wp2_with fail
      go_meet
      exact hC.out
    · have hkb : ((k : Int) == 2) = false := by simp; omega
      obtain ⟨a, s, u, pp, n, d, ha, hs, hq, hpp, hn, hd, e⟩ := readX_else k f1 t1 t2 t3 hk2
      have HH2 := Lib.hid (HH.out.trans e)
      have Ha := Lib.hid ha; have Hs := Lib.hid hs; have Hq := Lib.hid hq; have Hpp := Lib.hid hpp; have Hn := Lib.hid hn; have Hd := Lib.hid hd
      clear HH ha hs hq hpp hn hd e hk2
      have hct := Lib.hid (count_any [g5] p t2 t3 8 (by omega) w6 H6.out.rd)
      rw [← Ha.out] at hct
      obtain ⟨a1, a2, a3⟩ := a
      simp only [] at hct Hs HH2
      go_wp2_with fail
      refine hct.out.mono ?_
      rintro e wa ⟨rfl, hA, hk⟩
      have HA6 := Lib.hid (H6.out.step hA hk)
      clear hA hk H6 hct Ha
      have hct := Lib.hid (count_any [g5] p a2 a3 4 (by omega) wa HA6.out.rd)
      rw [← Hs.out] at hct
      obtain ⟨s1, s2, s3⟩ := s
      simp only [] at hct Hq HH2
      go_wp2_with fail
      refine hct.out.mono ?_
      rintro e wb ⟨rfl, hA, hk⟩
      have HB6 := Lib.hid (HA6.out.step hA hk)
      clear hA hk HA6 hct Hs
      clear q0 q1 q2 q3 q4 q5 q6 q7 q8 qf
      obtain ⟨q0, q1, q2, q3, q4, q5, q6, q7, q8, qf⟩ := blk9 HB6.out.b5
      have HC6 : Hid (Re w (((wb.setCell ⟨g5, 1, none⟩ (.int .i64 a1)).setCell ⟨g5, 2, none⟩ (.int .i64 s1)).setCell ⟨g5, 3, none⟩ (.int .i64 0)) p w.heap.size g5 s2 s3 #[.int .i64 k, .int .i64 a1, .int .i64 s1, .int .i64 0, .int .i64 0, .slice none 0 0, .string ⟨#[]⟩, .int .i64 f1, .int .i64 t1]) :=
        (by simpa using ((HB6.out.set 1 (.int .i64 a1)).set 2 (.int .i64 s1)).set 3 (.int .i64 0) : Re w _ p w.heap.size g5 s2 s3 _)
      clear HB6
      go_wp2_with fail
      generalize hwd : ((wb.setCell ⟨g5, 1, none⟩ (.int .i64 a1)).setCell ⟨g5, 2, none⟩ (.int .i64 s1)).setCell ⟨g5, 3, none⟩ (.int .i64 0) = wd at *
      clear hwd
      have hct := Lib.hid (rint_any [g5] p s2 s3 wd HC6.out.rd)
      rw [← Hq.out] at hct
      obtain ⟨u1, u2, u3⟩ := u
      simp only [] at hct Hpp HH2
      refine hct.out.mono ?_
      rintro e we ⟨rfl, hA, hk⟩
      have HE6 := Lib.hid (HC6.out.step hA hk)
      clear hA hk HC6 hct Hq
      have hct := Lib.hid (rint_any [g5] p u2 u3 we HE6.out.rd)
      rw [← Hpp.out] at hct
      obtain ⟨pp1, pp2, pp3⟩ := pp
      simp only [] at hct Hn HH2
      go_wp2_with fail
      refine hct.out.mono ?_
      rintro e wf ⟨rfl, hA, hk⟩
      have HF6 := Lib.hid (HE6.out.step hA hk)
      clear hA hk HE6 hct Hpp
      clear q0 q1 q2 q3 q4 q5 q6 q7 q8 qf
      obtain ⟨q0, q1, q2, q3, q4, q5, q6, q7, q8, qf⟩ := blk9 HF6.out.b5
      have HG6 : Hid (Re w ((wf.setCell ⟨g5, 3, none⟩ (.int .i64 u1)).setCell ⟨g5, 4, none⟩ (.int .i64 pp1)) p w.heap.size g5 pp2 pp3 #[.int .i64 k, .int .i64 a1, .int .i64 s1, .int .i64 u1, .int .i64 pp1, .slice none 0 0, .string ⟨#[]⟩, .int .i64 f1, .int .i64 t1]) :=
        (by simpa using (HF6.out.set 3 (.int .i64 u1)).set 4 (.int .i64 pp1) : Re w _ p w.heap.size g5 pp2 pp3 _)
      clear HF6
      go_wp2_with fail
      generalize hwg : (wf.setCell ⟨g5, 3, none⟩ (.int .i64 u1)).setCell ⟨g5, 4, none⟩ (.int .i64 pp1) = wg at *
      clear hwg
      have hn8 := countS_most pp2 pp3 8
      rw [← Hn.out] at hn8
      have hct := Lib.hid (count_any [g5] p pp2 pp3 8 (by omega) wg HG6.out.rd)
      rw [← Hn.out] at hct
      obtain ⟨n1, n2, n3⟩ := n
      simp only [] at hct hn8 Hd HH2
      refine hct.out.mono ?_
      rintro e wh ⟨rfl, hA, hk⟩
      have HH6 := Lib.hid (HG6.out.step hA hk)
      clear hA hk HG6 hct Hn
      have hct := Lib.hid (get_ds [g5] p n1 n2 n3 wh HH6.out.rd hn8)
      have Hdn := Lib.hid (getDs_short n1 n2 n3).2
      unfold GetPost at hct
      rw [← Hd.out] at hct Hdn
      obtain ⟨d1, d2, d3⟩ := d
      simp only [] at hct HH2 Hdn
      go_wp2_with fail
      refine hct.out.mono ?_
      rintro e wi ⟨dv, rfl, hown, hA, hk⟩
      have hgh : g5 < wh.heap.size := HH6.out.b5.lt
      have hgw : w.heap.size < wh.heap.size := HH6.out.b0.lt
      have HI6 := Lib.hid (HH6.out.step hA hk)
      rw [← Hdn.out] at hown
      have HD : Hid (∀ M, (∀ g ∈ M, g ≤ w.heap.size) → Ds wi (g5 :: M) dv d1) := fun M hM => Rd.of_own hown (by intro g hg; rcases List.mem_cons.1 hg with rfl | hg; exact hgh; have := hM g hg; omega)
      obtain ⟨Ad, cd, rfl, hcd⟩ := (HD.out [] (by simp)).len
      clear hA hk HH6 hct Hd hown
      clear q0 q1 q2 q3 q4 q5 q6 q7 q8 qf
      obtain ⟨q0, q1, q2, q3, q4, q5, q6, q7, q8, qf⟩ := blk9 HI6.out.b5
      have hC : Hid (ReCut w (wi.setCell ⟨g5, 5, none⟩ (.slice Ad d1.length cd)) p g5 RH) := by
        show ReCut _ _ _ _ _
        rw [HH2.out]
        exact ⟨.slice Ad d1.length cd, by simpa [eCell] using HI6.out.set 5 (.slice Ad d1.length cd), fun M hM => Rd.more ((HD.out M hM).keep (M' := [g5]) ((Keeps.refl _ _).setCell (by simp) _) (by simp))⟩
      clear HI6 HD
      go_wp2_with fail
      go_meet
      exact hC.out
  case rest =>
    obtain ⟨dv, hRe, hDs⟩ := hcut
    have HRe := Lib.hid hRe; have HDs := Lib.hid hDs
    clear hRe hDs H6 q0 q1 q2 q3 q4 q5 q6 q7 q8 qf HH
    obtain ⟨e, lx, bx⟩ := RH
    simp only [] at hsh HE HRe HDs
    obtain ⟨Ad, cd, rfl, hcd⟩ := (HDs.out [] (by simp)).len
    have hdw := Lib.hid (done_any [g5] p lx bx _ HRe.out.rd)
    obtain ⟨r0, r1, r2, r3, r4, r5, r6, r7, r8, rf⟩ := blk9 HRe.out.b0
    have ho0 := HRe.out.o0; have ho1 := HRe.out.o1
    cases hdone : (!bx && lx.isEmpty) with
    | false =>
      obtain rfl : RE = (zeroD, 12) := by rw [HE.out, hdone, if_neg (by simp)]
      rw [hdone] at hdw
      clear hdone HE
      go_wp2_with fail
      refine hdw.out.mono ?_
      rintro r w' ⟨rfl, rfl⟩
      go_wp2
      refine bodyPost_ret (v := .tuple #[.agg zeroA, .int .i64 12]) (by simp [results, Tryd.results9, go_sem, zeroA, r0, r1, r2, r3, r4, r5, r6, r7, r8]) rfl ?_
      refine ⟨.slice none 0 0, rfl, fun M _ => Ds.nil _ _, ?_⟩
      repeat (first | (with_reducible exact HRe.out.keeps) | (with_reducible refine Below.setCell ?_ (by simp) _))
    | true =>
      rw [hdone] at hdw
      have hri := Lib.hid (eright_any e _ m wc (HDs.out [] (by simp)) hsh.out.1 ((HRe.out.keeps.cell (p := ⟨0, 0, none⟩) hw0).trans Hm.out))
      have HR : Hid (RE = if rightE e = 0 then (e, 0) else (zeroD, 12)) := by show _ = _; rw [HE.out, hdone]; simp
      clear hdone HE
      generalize rightE e = rr at *
      obtain ⟨kind, ag, sh, seq, ep, ds, ser, fr, tag⟩ := e
      simp only [eCell] at hri HRe HDs HR hcd
      obtain ⟨q0, q1, q2, q3, q4, q5, q6, q7, q8, qf⟩ := blk9 HRe.out.b5
      have ho2 := HRe.out.o2
      have hg5 : g5 < wc.heap.size := HRe.out.b5.lt
      have hwc : w.heap.size < wc.heap.size := HRe.out.b0.lt
      go_wp2_with fail
      refine hdw.out.mono ?_
      rintro r w' ⟨rfl, rfl⟩
      go_wp2_with fail
      refine hri.out.mono ?_
      rintro r w9 ⟨rfl, hb9⟩
      have H9 := Lib.hid (HRe.out.keeps.trans (hb9.mono HRe.out.keeps.size))
      have HB0 := Lib.hid (HRe.out.b0.below hb9 hwc)
      have HB5 := Lib.hid (HRe.out.b5.below hb9 hg5)
      have HD9 : Hid (∀ M, (∀ g ∈ M, g ≤ w.heap.size) → Ds w9 M (.slice Ad ds.length cd) ds) := fun M hM => (HDs.out M hM).keep (Keeps.of_below (M := []) hb9) (by simp)
      clear hb9 hri hdw r0 r1 r2 r3 r4 r5 r6 r7 r8 rf q0 q1 q2 q3 q4 q5 q6 q7 q8 qf
      obtain ⟨r0, r1, r2, r3, r4, r5, r6, r7, r8, rf⟩ := blk9 HB0.out
      obtain ⟨q0, q1, q2, q3, q4, q5, q6, q7, q8, qf⟩ := blk9 HB5.out
      by_cases hrr : rr = 0
      · obtain rfl : RE = (⟨kind, ag, sh, seq, ep, ds, ser, fr, tag⟩, 0) := by rw [HR.out, if_pos hrr]
        subst hrr
        clear HR
        go_wp2
        refine bodyPost_ret (v := .tuple #[.agg #[.int .i64 kind, .int .i64 ag, .int .i64 sh, .int .i64 seq, .int .i64 ep, .slice Ad ds.length cd, .string ser, .int .i64 fr, .int .i64 tag], .int .i64 0]) (by simp [results, Tryd.results9, go_sem, r0, r1, r2, r3, r4, r5, r6, r7, r8]) rfl ?_
        refine ⟨.slice Ad ds.length cd, rfl, fun M hM => ?_, ?_⟩
        · have h1 := HD9.out (w.heap.size :: M) (by intro g hg; rcases List.mem_cons.1 hg with rfl | hg; exact Nat.le_refl _; exact Nat.le_of_lt (hM g hg))
          refine Rd.more (h1.keep (M' := [w.heap.size]) ?_ (by simp))
          repeat (first | (with_reducible exact Keeps.refl _ _) | (with_reducible refine Keeps.setCell ?_ (by simp) _))
        · repeat (first | (with_reducible exact H9.out) | (with_reducible refine Below.setCell ?_ (by simp) _))
      · obtain rfl : RE = (zeroD, 12) := by rw [HR.out, if_neg hrr]
        have hne : ((rr : Int) != 0) = true := by simpa using hrr
        clear HR hrr
        go_wp2
        refine bodyPost_ret (v := .tuple #[.agg zeroA, .int .i64 12]) (by simp [results, Tryd.results9, go_sem, zeroA, r0, r1, r2, r3, r4, r5, r6, r7, r8]) rfl ?_
        refine ⟨.slice none 0 0, rfl, fun M _ => Ds.nil _ _, ?_⟩
        repeat (first | (with_reducible exact H9.out) | (with_reducible refine Below.setCell ?_ (by simp) _))
end Go.Proofs.YtinnifhnabncfaaDoor.Vi
