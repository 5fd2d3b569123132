/- Texts put together: Tape3, EntE, PlF, MPut, RLogs, EqF, Msg1, Msg2. -/
import Derived.Deep.RegionWith
import Derived.Deep.MidRow
import Derived.Test.YtinnifhnabncfaaGreatDoorMB3
import Derived.Test.YtinnifhnabncfaaGreatDoorMB4
set_option linter.unusedVariables false
set_option linter.unusedSimpArgs false
/- Contract of the tape's Entry. -/
section
namespace Go.Proofs.YtinnifhnabncfaaGreatDoor.Tape
open Go.RowKit Base Mem
def EntryOk (e : EntryD) : Prop := 0 ≤ e.fr ∧ e.fr < 8 ∧ 0 ≤ e.tag ∧ e.tag < 40 ∧
  ((e.kind = 2 ∧ NameOk e.ser ∧ e.ag = 0 ∧ e.sh = 0 ∧ e.seq = 0 ∧ e.ep = 0 ∧ e.ds = []) ∨
   (e.kind = 1 ∧ e.ser = ByteArray.empty ∧ 0 ≤ e.ag ∧ e.ag < 3 ∧ 0 ≤ e.sh ∧ e.sh < 2 ∧ 1 ≤ e.seq ∧ e.seq ≤ 90 ∧ 1 ≤ e.ep ∧ e.ep ≤ 4 ∧ 1 ≤ e.ds.length ∧ e.ds.length ≤ 4 ∧ ∀ d ∈ e.ds, DeltaOk d))
def EntryPost (b : Nat) (L : TapeL) (w : World) (e : Ending) (w' : World) : Prop := ∃ (en : EntryD) (dv : Value) (k' : Nat), e = .returned (.agg (eCell (en, dv)).toArray) ∧ EntryOk en ∧ (∀ M, (∀ g ∈ M, g < w.heap.size) → Ds w' M dv en.ds) ∧ TapeAt w' b L k' ∧ Keeps [b] w w'
def zeroE : Array Value := #[.int .i64 0, .int .i64 0, .int .i64 0, .int .i64 0, .int .i64 0, .slice none 0 0, .string ⟨#[]⟩, .int .i64 0, .int .i64 0]
/-- The cells of a block that is known whole. -/
theorem blk_cells {w : World} {g : Nat} {t : TypeId} {c0 c1 c2 c3 c4 c5 c6 c7 c8 : Value} (h : Blk w g t #[c0, c1, c2, c3, c4, c5, c6, c7, c8]) :
    w.cell? ⟨g, 0, none⟩ = some c0 ∧ w.cell? ⟨g, 1, none⟩ = some c1 ∧ w.cell? ⟨g, 2, none⟩ = some c2 ∧ w.cell? ⟨g, 3, none⟩ = some c3 ∧ w.cell? ⟨g, 4, none⟩ = some c4 ∧ w.cell? ⟨g, 5, none⟩ = some c5 ∧ w.cell? ⟨g, 6, none⟩ = some c6 ∧ w.cell? ⟨g, 7, none⟩ = some c7 ∧ w.cell? ⟨g, 8, none⟩ = some c8 ∧ (∀ i, w.frozen? ⟨g, i, none⟩ = false) :=
  ⟨h.cell 0, h.cell 1, h.cell 2, h.cell 3, h.cell 4, h.cell 5, h.cell 6, h.cell 7, h.cell 8, h.frozen⟩
theorem step_next (b : Nat) (L : TapeL) (k : Nat) (n : Int) (w0 w : World) (h : TapeAt w b L k) (hK : Keeps [b] w0 w) (hn : 1 ≤ n) :
    Calls Tryz.prog 62 #[.pointer (some ⟨b, 0, none⟩), .int .i64 n] w fun e w' => ∃ (v : Int) (k' : Nat), e = .returned (.int .i64 v) ∧ (0 ≤ v ∧ v < n) ∧ Hid (TapeAt w' b L k') ∧ Hid (Keeps [b] w w') ∧ Hid (Keeps [b] w0 w') :=
  (next_any b L k n w h).mono fun _ _ ⟨v, k', he, h0, h1, hT, hk⟩ => ⟨v, k', he, ⟨h0, h1 hn⟩, hT, hk, hK.trans hk (by simp)⟩
/-- What is known between two calls: the tape, the result's block g0, the entry's block g1. -/
structure St (w0 w : World) (b : Nat) (L : TapeL) (k g0 g1 : Nat) (c1 : Array Value) : Prop where
  tape : TapeAt w b L k
  keeps : Keeps [b] w0 w
  b0 : Blk w g0 26 zeroE
  b1 : Blk w g1 26 c1
  lt0 : b < g0
  lt1 : g0 < g1
  old : w0.heap.size ≤ g0
theorem St.set {w0 w : World} {b : Nat} {L : TapeL} {k g0 g1 : Nat} {c1 : Array Value} (h : St w0 w b L k g0 g1 c1) (i : Nat) (v : Value) : St w0 (w.setCell ⟨g1, i, none⟩ v) b L k g0 g1 (c1.setIfInBounds i v) := by
  have hk : Keeps [g1] w (w.setCell ⟨g1, i, none⟩ v) := (Keeps.refl _ _).setCell (by simp) v
  have := h.lt0; have := h.lt1; have := h.old
  exact ⟨h.tape.keep hk (by intro g hg; simp at hg; omega), h.keeps.trans hk (by intro g hg; simp at hg; right; omega), hk.blk h.b0 (by simp; omega), h.b1.set_ i v, h.lt0, h.lt1, h.old⟩
theorem St.keep {w0 w w' : World} {b : Nat} {L : TapeL} {k k' g0 g1 : Nat} {c1 : Array Value} (h : St w0 w b L k g0 g1 c1) (hT : TapeAt w' b L k') (hk : Keeps [b] w w') : St w0 w' b L k' g0 g1 c1 := by
  have := h.lt0; have := h.lt1; have := h.old
  exact ⟨hT, h.keeps.trans hk (by simp), hk.blk h.b0 (by simp; omega), hk.blk h.b1 (by simp; omega), h.lt0, h.lt1, h.old⟩
theorem st_next {w0 w : World} {b : Nat} {L : TapeL} {k g0 g1 : Nat} {c1 : Array Value} (h : St w0 w b L k g0 g1 c1) (n : Int) (hn : 1 ≤ n) :
    Calls Tryz.prog 62 #[.pointer (some ⟨b, 0, none⟩), .int .i64 n] w fun e w' => ∃ (v : Int) (k' : Nat), e = .returned (.int .i64 v) ∧ (0 ≤ v ∧ v < n) ∧ Hid (St w0 w' b L k' g0 g1 c1) :=
  (next_any b L k n w h.tape).mono fun _ _ ⟨v, k', he, h0, h1, hT, hk⟩ => ⟨v, k', he, ⟨h0, h1 hn⟩, h.keep hT hk⟩
theorem st_series {w0 w : World} {b : Nat} {L : TapeL} {k g0 g1 : Nat} {c1 : Array Value} (h : St w0 w b L k g0 g1 c1) :
    Calls Tryz.prog 55 #[.pointer (some ⟨b, 0, none⟩)] w fun e w' => ∃ (s : ByteArray) (k' : Nat), e = .returned (.string s) ∧ Hid (NameOk s) ∧ Hid (St w0 w' b L k' g0 g1 c1) :=
  (series_any b L k w h.tape).mono fun _ _ ⟨s, k', he, h0, hT, hk⟩ => ⟨s, k', he, h0, h.keep hT hk⟩
def DelOk (w0 w' : World) (v : Value) (ds : List DeltaD) : Prop := (∀ d ∈ ds, DeltaOk d) ∧ 1 ≤ ds.length ∧ ds.length ≤ 4 ∧ (∀ M, (∀ g ∈ M, g < w0.heap.size) → Ds w' M v ds)
theorem st_deltas {w0 w : World} {b : Nat} {L : TapeL} {k g0 g1 : Nat} {c1 : Array Value} (h : St w0 w b L k g0 g1 c1) :
    Calls Tryz.prog 63 #[.pointer (some ⟨b, 0, none⟩), .int .i64 4] w fun e w' => ∃ (v : Value) (ds : List DeltaD) (k' : Nat), e = .returned v ∧ Hid (DelOk w w' v ds) ∧ Hid (St w0 w' b L k' g0 g1 c1) :=
  (deltas_any b L k 4 w h.tape (by omega) (by omega)).mono fun _ _ ⟨v, ds, k', he, h1, h2, h3, h4, hT, hk⟩ => ⟨v, ds, k', he, ⟨h1, h2, by omega, fun M hM => Rd.of_own h4 hM⟩, h.keep hT hk⟩
set_option maxRecDepth 100000 in
set_option maxHeartbeats 1000000 in
theorem entry_any (b : Nat) (L : TapeL) (k : Nat) (w : World) (h : TapeAt w b L k) :
    Calls Tryz.prog 16 #[.pointer (some ⟨b, 0, none⟩)] w fun e w' => EntryPost b L w e w' := by
  have hbw := h.lt
  have H := Lib.hid h
  clear h
  go_enter Tryz.func16, Tryz.ntmps16
  go_wp2_with fail
  have hT0 : TapeAt (w.alloc (.cells zeroE 26)) b L k := H.out.keep (M' := []) ((Keeps.refl _ _).alloc _) (by simp)
  have hB0 : Blk (w.alloc (.cells zeroE 26)) w.heap.size 26 zeroE := Blk.new w _ _
  have hK0 : Keeps [b] w (w.alloc (.cells zeroE 26)) := (Keeps.refl _ _).alloc _
  have hsz : w.heap.size < (w.alloc (.cells zeroE 26)).heap.size := by simp
  refine (step_next b L k 8 w _ hT0 hK0 (by omega)).mono ?_
  rintro e w1 ⟨fr, k1, rfl, ⟨hf0, hf1⟩, HT1, HK1, HKw1⟩
  have hB1 := HK1.out.blk hB0 (by simp; omega)
  have hs1 := HK1.out.size
  clear hT0 hB0 hK0
  obtain ⟨g0, hg0⟩ : ∃ g, g = w.heap.size := ⟨_, rfl⟩
  rw [← hg0] at hB1 ⊢
  have hbg0 : b < g0 := by omega
  have hg1 : g0 < w1.heap.size := by omega
  have HB1 := Lib.hid hB1; have Hg0 := Lib.hid hg0
  clear hB1 hg0 hsz hs1
  go_wp2_with fail
  refine (step_next b L k1 40 w w1 HT1.out HKw1.out (by omega)).mono ?_
  rintro e w2 ⟨tag, k2, rfl, ⟨ht0, ht1⟩, HT2, HK2, HKw2⟩
  have HB2 := Lib.hid (HK2.out.blk HB1.out (by simp; omega))
  have hg2 : g0 < w2.heap.size := Nat.lt_of_lt_of_le hg1 HK2.out.size
  go_wp2_with fail
  have hst : St w (w2.alloc (.cells #[.int .i64 1, .int .i64 0, .int .i64 0, .int .i64 0, .int .i64 0, .slice none 0 0, .string ⟨#[]⟩, .int .i64 fr, .int .i64 tag] 26)) b L k2 g0 w2.heap.size #[.int .i64 1, .int .i64 0, .int .i64 0, .int .i64 0, .int .i64 0, .slice none 0 0, .string ⟨#[]⟩, .int .i64 fr, .int .i64 tag] :=
    ⟨HT2.out.keep (M' := []) ((Keeps.refl _ _).alloc _) (by simp), HKw2.out.alloc _, (HB2.out.below (below_new' w2 _) hg2), Blk.new w2 _ _, hbg0, hg2, by have := Hg0.out; omega⟩
  have Hst := Lib.hid hst
  clear hst
  generalize (w2.alloc (.cells #[.int .i64 1, .int .i64 0, .int .i64 0, .int .i64 0, .int .i64 0, .slice none 0 0, .string ⟨#[]⟩, .int .i64 fr, .int .i64 tag] 26)) = w3 at *
  generalize w2.heap.size = g1 at *
  clear HT2 HK2 HKw2 HB2 HT1 HK1 HKw1 HB1 hg1
  go_wp2_with fail
  refine (st_next Hst.out 5 (by omega)).mono ?_
  rintro e w4 ⟨v, k4, rfl, ⟨hv0, hv1⟩, H4⟩
  clear Hst
  by_cases c0 : v = 0
  · subst c0
    go_wp2_with fail
    refine (st_series H4.out).mono ?_
    rintro e w5 ⟨sr, k5, rfl, Hok, H5⟩
    obtain ⟨q0, q1, q2, q3, q4, q5, q6, q7, q8, qf⟩ := blk_cells H5.out.b1
    obtain ⟨r0, r1, r2, r3, r4, r5, r6, r7, r8, rf⟩ := blk_cells H5.out.b0
    have H6 := Lib.hid ((H5.out.set 0 (.int .i64 2)).set 6 (.string sr))
    have hl0 := H5.out.lt0; have hl1 := H5.out.lt1; have hl2 := H5.out.old
    clear H4 H5
    go_wp2
    refine bodyPost_ret (v := .agg #[.int .i64 2, .int .i64 0, .int .i64 0, .int .i64 0, .int .i64 0, .slice none 0 0, .string sr, .int .i64 fr, .int .i64 tag]) (by simp [results, Tryz.results16, go_sem, r0, r1, r2, r3, r4, r5, r6, r7, r8]) rfl ?_
    refine ⟨⟨2, 0, 0, 0, 0, [], sr, fr, tag⟩, .slice none 0 0, k5, rfl, ⟨hf0, hf1, ht0, ht1, .inl ⟨rfl, Hok.out, rfl, rfl, rfl, rfl, rfl⟩⟩, fun M _ => Ds.nil _ _, ?_, ?_⟩
    · refine H6.out.tape.keep (M' := [g0]) ?_ (by intro g hg; simp at hg; omega)
      repeat (first | (with_reducible exact Keeps.refl _ _) | (with_reducible refine Keeps.setCell ?_ (by simp) _))
    · repeat (first | (with_reducible exact H6.out.keeps) | (with_reducible refine Keeps.setCell ?_ (by right; simp; omega) _))
  · have d0 : (v == 0) = false := by simpa using c0
    clear c0
    go_wp2_with fail
    refine (st_next H4.out 3 (by omega)).mono ?_
    rintro e w5 ⟨ag, k5, rfl, ⟨ha0, ha1⟩, H5⟩
    clear H4
    go_wp2_with fail
    refine (st_next H5.out 2 (by omega)).mono ?_
    rintro e w6 ⟨sh, k6, rfl, ⟨hs0, hs1⟩, H6⟩
    clear H5
    go_wp2_with fail
    refine (st_next H6.out 12 (by omega)).mono ?_
    rintro e w7 ⟨sq, k7, rfl, ⟨hq0, hq1⟩, H7⟩
    clear H6
    obtain ⟨q0, q1, q2, q3, q4, q5, q6, q7, q8, qf⟩ := blk_cells H7.out.b1
    have hst := ((H7.out.set 1 (.int .i64 ag)).set 2 (.int .i64 sh)).set 3 (.int .i64 (1 + sq))
    have H8 := Lib.hid hst
    clear hst H7
    go_wp2_with fail
    refine (st_next H8.out 9 (by omega)).mono ?_
    rintro e w9 ⟨v9, k9, rfl, ⟨hn0, hn1⟩, H9⟩
    clear H8 q0 q1 q2 q3 q4 q5 q6 q7 q8 qf
    by_cases c9 : v9 = 0
    · subst c9
      go_wp2_with fail
      refine (st_next H9.out 90 (by omega)).mono ?_
      rintro e wa ⟨sq2, ka, rfl, ⟨hz0, hz1⟩, Ha⟩
      clear H9 hq0 hq1
      have hsq : 1 ≤ 1 + sq2 ∧ 1 + sq2 ≤ 90 := by omega
      obtain ⟨q0, q1, q2, q3, q4, q5, q6, q7, q8, qf⟩ := blk_cells Ha.out.b1
      have hst := Ha.out.set 3 (.int .i64 (1 + sq2))
      have Hb := Lib.hid hst
      clear hst Ha
      go_wp2_with fail
      refine (st_next Hb.out 4 (by omega)).mono ?_
      rintro e wb ⟨ep, kb, rfl, ⟨he0, he1⟩, Hc⟩
      clear Hb
      try clear q0 q1 q2 q3 q4 q5 q6 q7 q8 qf
      obtain ⟨q0, q1, q2, q3, q4, q5, q6, q7, q8, qf⟩ := blk_cells Hc.out.b1
      have Hd := Lib.hid (Hc.out.set 4 (.int .i64 (1 + ep)))
      clear Hc
      go_wp2_with fail
      refine (st_deltas Hd.out).mono ?_
      rintro e wd ⟨dv, ds, kd, rfl, Hdel, He⟩
      clear q0 q1 q2 q3 q4 q5 q6 q7 q8 qf
      obtain ⟨Av, cv, hve, _⟩ := (Hdel.out.2.2.2 [] (by simp)).len
      subst hve
      have hdold : w.heap.size ≤ (wb.setCell ⟨g1, 4, none⟩ (.int .i64 (1 + ep))).heap.size := Hd.out.keeps.size
      have hgs : g1 < (wb.setCell ⟨g1, 4, none⟩ (.int .i64 (1 + ep))).heap.size := Hd.out.b1.lt
      have Hdold := Lib.hid hdold
      have Hgs := Lib.hid hgs
      clear hdold hgs
      obtain ⟨q0, q1, q2, q3, q4, q5, q6, q7, q8, qf⟩ := blk_cells He.out.b1
      obtain ⟨r0, r1, r2, r3, r4, r5, r6, r7, r8, rf⟩ := blk_cells He.out.b0
      have hl2 := He.out.old
      have Hf := Lib.hid (He.out.set 5 (.slice Av ds.length cv))
      clear He Hd
      go_wp2
      refine bodyPost_ret (v := .agg #[.int .i64 1, .int .i64 ag, .int .i64 sh, .int .i64 (1 + sq2), .int .i64 (1 + ep), .slice Av ds.length cv, .string ⟨#[]⟩, .int .i64 fr, .int .i64 tag]) (by simp [results, Tryz.results16, go_sem, r0, r1, r2, r3, r4, r5, r6, r7, r8]) rfl ?_
      refine ⟨⟨1, ag, sh, 1 + sq2, 1 + ep, ds, ⟨#[]⟩, fr, tag⟩, .slice Av ds.length cv, kd, rfl, ⟨hf0, hf1, ht0, ht1, .inr ⟨rfl, rfl, ha0, ha1, hs0, hs1, hsq.1, hsq.2, by simp only []; omega, by simp only []; omega, Hdel.out.2.1, Hdel.out.2.2.1, Hdel.out.1⟩⟩, ?_, ?_, ?_⟩
      · intro M hM
        have h0 := Hdel.out.2.2.2 (g0 :: g1 :: M) (by intro g hg; simp at hg; have := Hgs.out; have := Hdold.out; rcases hg with rfl | rfl | hg; omega; omega; have := hM g hg; omega)
        refine ((h0.keep (M' := [g0, g1]) ?_ (by intro g hg; simp at hg; rcases hg with rfl | rfl <;> simp)).avoid (fun g hg => .inl (List.mem_cons_of_mem _ (List.mem_cons_of_mem _ hg))))
        repeat (first | (with_reducible exact Keeps.refl _ _) | (with_reducible refine Keeps.setCell ?_ (by simp) _))
      · refine Hf.out.tape.keep (M' := [g0]) ?_ (by intro g hg; simp at hg; omega)
        repeat (first | (with_reducible exact Keeps.refl _ _) | (with_reducible refine Keeps.setCell ?_ (by simp) _))
      · repeat (first | (with_reducible exact Hf.out.keeps) | (with_reducible refine Keeps.setCell ?_ (by right; simp; omega) _))

    · have d9 : (v9 == 0) = false := by simpa using c9
      clear c9
      have hsq : 1 ≤ 1 + sq ∧ 1 + sq ≤ 90 := by omega
      have Hb := H9
      clear H9
      go_wp2_with fail
      refine (st_next Hb.out 4 (by omega)).mono ?_
      rintro e wb ⟨ep, kb, rfl, ⟨he0, he1⟩, Hc⟩
      clear Hb
      try clear q0 q1 q2 q3 q4 q5 q6 q7 q8 qf
      obtain ⟨q0, q1, q2, q3, q4, q5, q6, q7, q8, qf⟩ := blk_cells Hc.out.b1
      have Hd := Lib.hid (Hc.out.set 4 (.int .i64 (1 + ep)))
      clear Hc
      go_wp2_with fail
      refine (st_deltas Hd.out).mono ?_
      rintro e wd ⟨dv, ds, kd, rfl, Hdel, He⟩
      clear q0 q1 q2 q3 q4 q5 q6 q7 q8 qf
      obtain ⟨Av, cv, hve, _⟩ := (Hdel.out.2.2.2 [] (by simp)).len
      subst hve
      have hdold : w.heap.size ≤ (wb.setCell ⟨g1, 4, none⟩ (.int .i64 (1 + ep))).heap.size := Hd.out.keeps.size
      have hgs : g1 < (wb.setCell ⟨g1, 4, none⟩ (.int .i64 (1 + ep))).heap.size := Hd.out.b1.lt
      have Hdold := Lib.hid hdold
      have Hgs := Lib.hid hgs
      clear hdold hgs
      obtain ⟨q0, q1, q2, q3, q4, q5, q6, q7, q8, qf⟩ := blk_cells He.out.b1
      obtain ⟨r0, r1, r2, r3, r4, r5, r6, r7, r8, rf⟩ := blk_cells He.out.b0
      have hl2 := He.out.old
      have Hf := Lib.hid (He.out.set 5 (.slice Av ds.length cv))
      clear He Hd
      go_wp2
      refine bodyPost_ret (v := .agg #[.int .i64 1, .int .i64 ag, .int .i64 sh, .int .i64 (1 + sq), .int .i64 (1 + ep), .slice Av ds.length cv, .string ⟨#[]⟩, .int .i64 fr, .int .i64 tag]) (by simp [results, Tryz.results16, go_sem, r0, r1, r2, r3, r4, r5, r6, r7, r8]) rfl ?_
      refine ⟨⟨1, ag, sh, 1 + sq, 1 + ep, ds, ⟨#[]⟩, fr, tag⟩, .slice Av ds.length cv, kd, rfl, ⟨hf0, hf1, ht0, ht1, .inr ⟨rfl, rfl, ha0, ha1, hs0, hs1, hsq.1, hsq.2, by simp only []; omega, by simp only []; omega, Hdel.out.2.1, Hdel.out.2.2.1, Hdel.out.1⟩⟩, ?_, ?_, ?_⟩
      · intro M hM
        have h0 := Hdel.out.2.2.2 (g0 :: g1 :: M) (by intro g hg; simp at hg; have := Hgs.out; have := Hdold.out; rcases hg with rfl | rfl | hg; omega; omega; have := hM g hg; omega)
        refine ((h0.keep (M' := [g0, g1]) ?_ (by intro g hg; simp at hg; rcases hg with rfl | rfl <;> simp)).avoid (fun g hg => .inl (List.mem_cons_of_mem _ (List.mem_cons_of_mem _ hg))))
        repeat (first | (with_reducible exact Keeps.refl _ _) | (with_reducible refine Keeps.setCell ?_ (by simp) _))
      · refine Hf.out.tape.keep (M' := [g0]) ?_ (by intro g hg; simp at hg; omega)
        repeat (first | (with_reducible exact Keeps.refl _ _) | (with_reducible refine Keeps.setCell ?_ (by simp) _))
      · repeat (first | (with_reducible exact Hf.out.keeps) | (with_reducible refine Keeps.setCell ?_ (by right; simp; omega) _))

end Go.Proofs.YtinnifhnabncfaaGreatDoor.Tape
end
/- Plain words: an entry of a tape is right; two entries are the same just where their bytes are. -/
section
namespace Go.Proofs.YtinnifhnabncfaaGreatDoor.Vi
open Go.RowKit Base Mem Tape
theorem toList_inj {a b : ByteArray} (h : a.toList = b.toList) : a = b := by
  rw [Lib.toList_data, Lib.toList_data] at h
  obtain ⟨⟨a⟩⟩ := a
  obtain ⟨⟨b⟩⟩ := b
  simp only [] at h
  rw [h]
set_option maxRecDepth 100000 in
theorem names_ok : (nameL.all fun l => serOk ⟨l.toArray⟩) = true := by decide +kernel
theorem names_len : (nameL.all fun l => decide (l.length ≤ 100)) = true := by decide
theorem name_ser {s : ByteArray} (h : NameOk s) : serOk s = true ∧ s.size ≤ 100 := by
  obtain ⟨l, hl, rfl⟩ := h
  refine ⟨List.all_eq_true.1 names_ok l hl, ?_⟩
  have := List.all_eq_true.1 names_len l hl
  show l.toArray.size ≤ 100
  simpa using this
theorem entry_right {e : EntryD} (h : EntryOk e) : rightE e = 0 ∧ Short e ∧ Wf e := by
  obtain ⟨h1, h2, h3, h4, h5⟩ := h
  have hw : withinB e.fr 8 = true := by simp [withinB]; omega
  have ht : decide (e.tag < 0) = false := decide_eq_false (by omega)
  rcases h5 with ⟨hk, hn, ha, hs, hq, hp, hd⟩ | ⟨hk, hse, a0, a1, s0, s1, q0, q1, p0, p1, d0, d1, hd⟩
  · obtain ⟨hser, hsz⟩ := (name_ser hn)
    refine ⟨?_, ⟨by omega, by simp [hd], by simp [hd]⟩, by omega, by omega, by omega, by simp [hd]⟩
    unfold rightE kindS
    rw [hw, ht, hk, ha, hs, hq, hp, hd, hser]
    rfl
  · refine ⟨?_, ⟨by rw [hse]; decide, fun d hx => by have := (name_ser (hd d hx).1).2; omega, by omega⟩, by omega, by omega, by omega, fun d hx => ⟨by have := (hd d hx).2; omega, by have := (hd d hx).2; omega⟩⟩
    have hb : badId e = false := by
      unfold badId withinB
      simp; omega
    have h0 : (e.ds.length == 0 || e.ds.any fun d => d.n == 0) = false := by
      rw [Bool.or_eq_false_iff]
      refine ⟨by simp; intro h; rw [h] at d0; simp at d0, ?_⟩
      rw [List.any_eq_false]
      intro d hx
      have := (hd d hx).2
      simp; omega
    have hall : (e.ds.all fun d => serOk d.ser) = true := by
      rw [List.all_eq_true]
      exact fun d hx => (name_ser (hd d hx).1).1
    have hse2 : e.ser.toList.isEmpty = true := by rw [hse]; decide +kernel
    unfold rightE kindS writtenS
    rw [hw, ht, hb, h0, hall, hk, hse2, if_neg (by simp), if_neg (by simp), if_pos rfl, if_neg (by simp), if_neg (by omega), if_neg (by simp), if_pos rfl]
theorem dsEq_iff (a b : List DeltaD) : dsEq a b = true ↔ a = b := by
  unfold dsEq
  induction a generalizing b with
  | nil => cases b <;> simp [Lib.allEq]
  | cons x a ih =>
    cases b with
    | nil => simp [Lib.allEq]
    | cons y b =>
      obtain ⟨xs, xn⟩ := x
      obtain ⟨ys, yn⟩ := y
      simp only [Lib.allEq, Bool.and_eq_true, ih, dEq, beq_iff_eq, List.cons.injEq, DeltaD.mk.injEq]
      constructor
      · rintro ⟨⟨h1, h2⟩, h3⟩; exact ⟨⟨toList_inj h1, h2⟩, h3⟩
      · rintro ⟨⟨rfl, rfl⟩, rfl⟩; exact ⟨⟨rfl, rfl⟩, rfl⟩
theorem sameE_iff (a b : EntryD) : sameE a b = true ↔ a = b := by
  obtain ⟨k, ag, sh, sq, ep, ds, se, fr, tg⟩ := a
  obtain ⟨k', ag', sh', sq', ep', ds', se', fr', tg'⟩ := b
  simp only [sameE, eqI, Bool.and_eq_true, dsEq_iff, beq_iff_eq, EntryD.mk.injEq]
  constructor
  · rintro ⟨⟨⟨⟨⟨⟨h1, h2, h3, h4⟩, h5⟩, h6⟩, h7⟩, h8⟩, h9⟩
    exact ⟨h1, h2, h3, h4, h5, h6, toList_inj h7, h8, h9⟩
  · rintro ⟨h1, h2, h3, h4, h5, h6, h7, h8, h9⟩
    exact ⟨⟨⟨⟨⟨⟨h1, h2, h3, h4⟩, h5⟩, h6⟩, by rw [h7]⟩, h8⟩, h9⟩
theorem bytes_same {a b : EntryD} (ha : rightE a = 0) (hb : rightE b = 0) (wa : Wf a) (wb : Wf b) (sa : Short a) (sb : Short b) : (bytesE a = bytesE b) ↔ sameE a b = true := by
  rw [sameE_iff]
  constructor
  · intro h
    have h1 := read_bytes a ha wa sa
    have h2 := read_bytes b hb wb sb
    rw [h, h2] at h1
    exact (Prod.mk.inj h1).1.symm
  · rintro rfl; rfl
theorem dBytes_len2 (ds : List DeltaD) (h : ∀ d ∈ ds, d.ser.size ≤ 100) (hn : ∀ d ∈ ds, NOk d) : (ds.flatMap dBytes).length ≤ ds.length * 120 := by
  induction ds with
  | nil => simp
  | cons d ds ih =>
    have h1 := ih (fun x hx => h x (by simp [hx])) (fun x hx => hn x (by simp [hx]))
    have h2 := h d (by simp)
    obtain ⟨h3, h4⟩ := hn d (by simp)
    have h5 := Lib.uvarint_length64 (x := d.ser.size) (by omega)
    have h6 := Lib.uvarint_length64 (x := d.n.toNat) (by omega)
    have h7 : (dBytes d).length = (Lib.uvarint d.ser.size).length + d.ser.size + (Lib.uvarint d.n.toNat).length := by
      unfold dBytes; rw [List.length_append, List.length_append]; rfl
    rw [List.flatMap_cons, List.length_append, List.length_cons]
    omega
theorem bytesE_len {e : EntryD} (h : EntryOk e) : (bytesE e).length ≤ 1200 := by
  obtain ⟨hr, _, hw1, hw2, hw3, hw4⟩ := entry_right h
  obtain ⟨h1, h2, h3, h4, h5⟩ := h
  have u1 := Lib.uvarint_length64 (x := e.fr.toNat) (by omega)
  have u2 := Lib.uvarint_length64 (x := e.tag.toNat) (by omega)
  unfold bytesE headB
  rcases h5 with ⟨hk, hn, _⟩ | ⟨hk, _, a0, a1, s0, s1, q0, q1, p0, p1, d0, d1, hd⟩
  · have h6 := (name_ser hn).2
    have u3 := Lib.uvarint_length64 (x := e.ser.size) (by omega)
    have h7 : (sB e.ser).length = e.ser.size := rfl
    rw [if_pos hk]
    simp only [List.length_append, List.length_singleton]
    omega
  · have u3 := Lib.uvarint_length64 (x := e.ag.toNat) (by omega)
    have u4 := Lib.uvarint_length64 (x := e.sh.toNat) (by omega)
    have u5 := Lib.uvarint_length64 (x := e.seq.toNat) (by omega)
    have u6 := Lib.uvarint_length64 (x := e.ep.toNat) (by omega)
    have u7 := Lib.uvarint_length64 (x := e.ds.length) (by omega)
    have h8 := dBytes_len2 e.ds (fun d hx => (name_ser (hd d hx).1).2) hw4
    rw [if_neg (by omega)]
    simp only [List.length_append, List.length_singleton]
    omega
theorem ebytes_ok (e : EntryD) (dv : Value) (m : Int) (w : World) (hr0 : rightE e = 0) (h : Ds w [] dv e.ds) (hs : Short e) (hw : Wf e) (hm : w.cell? ⟨0, 0, none⟩ = some (.int .i64 m)) :
    Calls Tryz.prog 64 #[.agg (eCell (e, dv)).toArray] w fun r w' => EB0 (bytesE e) w r w' := by
  rcases (right_facts hr0).2 with hk | ⟨hk, _⟩
  · exact ebytes_2 e dv m w hk hr0 h hs hw hm
  · exact ebytes_1 e dv m w hk hr0 h hs hw hm
end Go.Proofs.YtinnifhnabncfaaGreatDoor.Vi
end
/- Plain words: sums of bytes; frames; a frame cut short or turned is none. -/
section
namespace Go.Proofs.YtinnifhnabncfaaGreatDoor.Vi
open Go.RowKit Base Mem
def crcStep (c : Nat) : Nat := (c / 2) ^^^ (3988292384 * (c % 2))
def crcN : Nat → Nat → Nat
  | 0, c => c
  | k + 1, c => crcN k (crcStep c)
def crcNext (c : Nat) (b : UInt8) : Nat := crcN 8 (c ^^^ b.toNat)
def crcOn (c : Nat) (l : List UInt8) : Nat := l.foldl crcNext c
/-- The sum of bytes. -/
def crcOf (l : List UInt8) : Nat := 4294967295 - crcOn 4294967295 l
theorem crcStep_lt {c : Nat} (h : c < 4294967296) : crcStep c < 4294967296 := by
  unfold crcStep
  exact Nat.xor_lt_two_pow (n := 32) (by omega) (by omega)
theorem crcStep_inj {a b : Nat} (ha : a < 4294967296) (hb : b < 4294967296) (h : crcStep a = crcStep b) : a = b := by
  unfold crcStep at h
  have hx : ∀ x y : Nat, x < 2147483648 → y < 2147483648 → x ^^^ 3988292384 = y → False := fun x y hx hy e => by
    have h1 : x ^^^ y < 2 ^ 31 := Nat.xor_lt_two_pow (n := 31) (by omega) (by omega)
    rw [← e, ← Nat.xor_assoc, Nat.xor_self, Nat.zero_xor] at h1
    omega
  rcases Nat.mod_two_eq_zero_or_one a with h0 | h0 <;> rcases Nat.mod_two_eq_zero_or_one b with h1 | h1
  · rw [h0, h1] at h; simp at h; omega
  · rw [h0, h1] at h; simp at h; exact (hx (b / 2) (a / 2) (by omega) (by omega) h.symm).elim
  · rw [h0, h1] at h; simp at h; exact (hx (a / 2) (b / 2) (by omega) (by omega) h).elim
  · rw [h0, h1, Nat.mul_one] at h
    have h2 : (a / 2 ^^^ 3988292384) ^^^ 3988292384 = (b / 2 ^^^ 3988292384) ^^^ 3988292384 := by rw [h]
    rw [Nat.xor_assoc, Nat.xor_self, Nat.xor_zero, Nat.xor_assoc, Nat.xor_self, Nat.xor_zero] at h2
    omega
theorem crcN_lt : ∀ (k : Nat) {c : Nat}, c < 4294967296 → crcN k c < 4294967296
  | 0, _, h => h
  | k + 1, _, h => crcN_lt k (crcStep_lt h)
theorem crcN_inj : ∀ (k : Nat) {a b : Nat}, a < 4294967296 → b < 4294967296 → crcN k a = crcN k b → a = b
  | 0, _, _, _, _, h => h
  | k + 1, _, _, ha, hb, h => crcStep_inj ha hb (crcN_inj k (crcStep_lt ha) (crcStep_lt hb) h)
theorem xor_byte_lt {c : Nat} (h : c < 4294967296) (b : UInt8) : c ^^^ b.toNat < 4294967296 :=
  Nat.xor_lt_two_pow (n := 32) h (Nat.lt_trans b.toNat_lt (by decide))
theorem crcNext_lt {c : Nat} (h : c < 4294967296) (b : UInt8) : crcNext c b < 4294967296 := crcN_lt 8 (xor_byte_lt h b)
theorem crcNext_inj {a b : Nat} (ha : a < 4294967296) (hb : b < 4294967296) (x : UInt8) (h : crcNext a x = crcNext b x) : a = b := by
  have h1 := crcN_inj 8 (xor_byte_lt ha x) (xor_byte_lt hb x) h
  have h2 : (a ^^^ x.toNat) ^^^ x.toNat = (b ^^^ x.toNat) ^^^ x.toNat := by rw [h1]
  rwa [Nat.xor_assoc, Nat.xor_self, Nat.xor_zero, Nat.xor_assoc, Nat.xor_self, Nat.xor_zero] at h2
theorem crcNext_byte {c : Nat} (hc : c < 4294967296) (x y : UInt8) (h : crcNext c x = crcNext c y) : x = y := by
  have h1 := crcN_inj 8 (xor_byte_lt hc x) (xor_byte_lt hc y) h
  have h2 : c ^^^ (c ^^^ x.toNat) = c ^^^ (c ^^^ y.toNat) := by rw [h1]
  rw [← Nat.xor_assoc, Nat.xor_self, Nat.zero_xor, ← Nat.xor_assoc, Nat.xor_self, Nat.zero_xor] at h2
  exact UInt8.toNat_inj.1 h2
theorem crcOn_lt : ∀ (l : List UInt8) {c : Nat}, c < 4294967296 → crcOn c l < 4294967296
  | [], _, h => h
  | x :: l, _, h => crcOn_lt l (crcNext_lt h x)
theorem crcOn_inj : ∀ (l : List UInt8) {a b : Nat}, a < 4294967296 → b < 4294967296 → crcOn a l = crcOn b l → a = b
  | [], _, _, _, _, h => h
  | x :: l, _, _, ha, hb, h => crcNext_inj ha hb x (crcOn_inj l (crcNext_lt ha x) (crcNext_lt hb x) h)
/-- One byte turned: another sum. -/
theorem crcOf_turn (p s : List UInt8) (x y : UInt8) (h : crcOf (p ++ x :: s) = crcOf (p ++ y :: s)) : x = y := by
  have hp := crcOn_lt p (c := 4294967295) (by decide)
  have h1 := crcOn_lt (p ++ x :: s) (c := 4294967295) (by decide)
  have h2 := crcOn_lt (p ++ y :: s) (c := 4294967295) (by decide)
  unfold crcOf at h
  have h3 : crcOn 4294967295 (p ++ x :: s) = crcOn 4294967295 (p ++ y :: s) := by omega
  unfold crcOn at h3 hp
  rw [List.foldl_append, List.foldl_append, List.foldl_cons, List.foldl_cons] at h3
  exact crcNext_byte hp x y (crcOn_inj s (crcNext_lt hp x) (crcNext_lt hp y) h3)
theorem crcOf_lt (l : List UInt8) : crcOf l < 4294967296 := by unfold crcOf; omega
/-- A sum's four bytes. -/
def leL (s : Nat) : List UInt8 := [UInt8.ofNat s, UInt8.ofNat (s / 256), UInt8.ofNat (s / 65536), UInt8.ofNat (s / 16777216)]
def unL (b : List UInt8) : Nat := (b.getD 0 0).toNat + 256 * (b.getD 1 0).toNat + 65536 * (b.getD 2 0).toNat + 16777216 * (b.getD 3 0).toNat
def frameL (l : List UInt8) : List UInt8 := Lib.uvarint l.length ++ (leL (crcOf l) ++ l)
/-- The frame at the front, and its bytes. -/
def readF (b : List UInt8) : Option (List UInt8 × Nat) :=
  if (getL b).2 = 0 ∨ 65536 < (getL b).1 ∨ b.length < (getL b).2 + 4 + (getL b).1 then none
  else if crcOf ((b.drop ((getL b).2 + 4)).take (getL b).1) = unL (b.drop (getL b).2) then some ((b.drop ((getL b).2 + 4)).take (getL b).1, (getL b).2 + 4 + (getL b).1) else none
theorem unL_leL (s : Nat) (h : s < 4294967296) (r : List UInt8) : unL (leL s ++ r) = s := by
  unfold unL leL
  simp
  omega
theorem leL_len (s : Nat) : (leL s).length = 4 := rfl
theorem frameL_len (l : List UInt8) : (frameL l).length = (Lib.uvarint l.length).length + 4 + l.length := by
  unfold frameL
  rw [List.length_append, List.length_append, leL_len]; omega
theorem readF_put (l r : List UInt8) (hl : l.length ≤ 65536) : readF (frameL l ++ r) = some (l, (frameL l).length) := by
  have h1 := Lib.uvarint_pos l.length
  have hg : getL (frameL l ++ r) = (l.length, (Lib.uvarint l.length).length) := by
    unfold frameL; rw [List.append_assoc]; exact getL_put _ _ (by omega)
  unfold readF
  rw [hg]
  simp only []
  rw [if_neg (by rw [List.length_append, frameL_len]; omega)]
  have hd : (frameL l ++ r).drop (Lib.uvarint l.length).length = leL (crcOf l) ++ (l ++ r) := by
    unfold frameL; rw [List.append_assoc, List.drop_left, List.append_assoc]
  have hx : ((frameL l ++ r).drop ((Lib.uvarint l.length).length + 4)).take l.length = l := by
    rw [← List.drop_drop, hd, show 4 = (leL (crcOf l)).length from rfl, List.drop_left, List.take_left]
  rw [hx, hd, unL_leL _ (crcOf_lt l), if_pos rfl, frameL_len]
theorem readF_cut (l : List UInt8) (hl : l.length ≤ 65536) (j : Nat) (hj : j < (frameL l).length) : readF ((frameL l).take j) = none := by
  have hfl := frameL_len l
  by_cases hs : j < (Lib.uvarint l.length).length
  · have hg : getL ((frameL l).take j) = (0, 0) := by
      unfold frameL getL
      rw [List.take_append_of_le_length (by omega)]
      exact getF_cut l.length 0 0 j hs (by decide) (by omega) (.inl rfl)
    unfold readF
    rw [hg]
    rfl
  · have hg : getL ((frameL l).take j) = (l.length, (Lib.uvarint l.length).length) := by
      unfold frameL
      rw [List.take_append, List.take_of_length_le (by omega)]
      exact getL_put _ _ (by omega)
    unfold readF
    rw [hg]
    simp only []
    rw [if_pos (.inr (.inr (by rw [List.length_take]; omega)))]
theorem set_split {l : List UInt8} {i : Nat} {y : UInt8} (hi : i < l.length) : l.set i y = l.take i ++ y :: l.drop (i + 1) := by
  rw [List.set_eq_take_append_cons_drop, if_pos hi]
theorem leL_turn (s : Nat) (h : s < 4294967296) (j : Nat) (hj : j < 4) (y : UInt8) (hy : (leL s).getD j 0 ≠ y) (r : List UInt8) : unL ((leL s).set j y ++ r) ≠ s := by
  intro he
  have hyl := y.toNat_lt
  unfold unL at he
  rcases j with _ | _ | _ | _ | j
  all_goals first | omega | skip
  all_goals
    apply hy
    apply UInt8.toNat_inj.1
    simp [leL] at he ⊢
    omega
/-- One byte turned behind the length: no frame. -/
theorem readF_turn (l : List UInt8) (hl : l.length ≤ 65536) (i : Nat) (y : UInt8) (h0 : (Lib.uvarint l.length).length ≤ i) (hi : i < (frameL l).length) (hy : (frameL l).getD i 0 ≠ y) :
    readF ((frameL l).set i y) = none := by
  have hfl := frameL_len l
  have h1 := Lib.uvarint_pos l.length
  have hset : (frameL l).set i y = Lib.uvarint l.length ++ (leL (crcOf l) ++ l).set (i - (Lib.uvarint l.length).length) y := by
    unfold frameL
    rw [List.set_append_right _ _ h0]
  have hg : getL ((frameL l).set i y) = (l.length, (Lib.uvarint l.length).length) := by
    rw [hset]; exact getL_put _ _ (by omega)
  unfold readF
  rw [hg]
  simp only []
  rw [if_neg (by rw [List.length_set, hfl]; omega)]
  rw [← List.drop_drop]
  have hd : ((frameL l).set i y).drop (Lib.uvarint l.length).length = (leL (crcOf l) ++ l).set (i - (Lib.uvarint l.length).length) y := by
    rw [hset, List.drop_left]
  rw [hd]
  obtain ⟨j, hj⟩ : ∃ j, j = i - (Lib.uvarint l.length).length := ⟨_, rfl⟩
  rw [← hj]
  have hgd : (frameL l).getD i 0 = (leL (crcOf l) ++ l).getD j 0 := by
    unfold frameL
    rw [List.getD_eq_getElem?_getD, List.getD_eq_getElem?_getD, List.getElem?_append_right h0, hj]
  rw [hgd] at hy
  by_cases hj4 : j < 4
  · rw [List.set_append_left _ _ (by rw [leL_len]; exact hj4)]
    have hx : (((leL (crcOf l)).set j y ++ l).drop 4).take l.length = l := by
      rw [show 4 = ((leL (crcOf l)).set j y).length by rw [List.length_set]; rfl, List.drop_left, List.take_length]
    rw [hx, if_neg]
    intro he
    refine leL_turn (crcOf l) (crcOf_lt l) j hj4 y ?_ l he.symm
    rwa [List.getD_eq_getElem?_getD, List.getElem?_append_left (by rw [leL_len]; exact hj4), ← List.getD_eq_getElem?_getD] at hy
  · rw [List.set_append_right _ _ (by rw [leL_len]; omega), leL_len]
    have hx : ((leL (crcOf l) ++ l.set (j - 4) y).drop 4).take l.length = l.set (j - 4) y := by
      rw [show 4 = (leL (crcOf l)).length from rfl, List.drop_left, List.take_of_length_le (by rw [List.length_set]; exact Nat.le_refl _)]
    rw [hx, unL_leL _ (crcOf_lt l), if_neg]
    intro he
    have hjl : j - 4 < l.length := by omega
    rw [set_split hjl] at he
    have hl2 : l = l.take (j - 4) ++ l[j - 4] :: l.drop (j - 4 + 1) := by
      conv => lhs; rw [← List.take_append_drop (j - 4) l, List.drop_eq_getElem_cons hjl]
    have he2 : crcOf (l.take (j - 4) ++ y :: l.drop (j - 4 + 1)) = crcOf (l.take (j - 4) ++ l[j - 4] :: l.drop (j - 4 + 1)) := by rw [← hl2]; exact he
    have := crcOf_turn _ _ _ _ he2
    apply hy
    
    rw [List.getD_eq_getElem?_getD, List.getElem?_append_right (by rw [leL_len]; omega), leL_len, List.getElem?_eq_getElem hjl, this]
    rfl
/-- The frames from the front on, and their bytes. -/
def scanF : Nat → List UInt8 → List (List UInt8) × Nat
  | 0, _ => ([], 0)
  | k + 1, b => match readF b with
    | none => ([], 0)
    | some (x, n) => (x :: (scanF k (b.drop n)).1, n + (scanF k (b.drop n)).2)
theorem scanF_put (t : List UInt8) (ht : readF t = none) : ∀ (rs : List (List UInt8)) (k : Nat), (∀ l ∈ rs, l.length ≤ 65536) → rs.length ≤ k → scanF k (rs.flatMap frameL ++ t) = (rs, (rs.flatMap frameL).length)
  | [], 0, _, _ => rfl
  | [], k + 1, _, _ => by rw [scanF, List.flatMap_nil, List.nil_append, ht]; rfl
  | l :: rs, 0, _, h => by simp at h
  | l :: rs, k + 1, hl, h => by
    have ih := scanF_put t ht rs k (fun x hx => hl x (List.mem_cons_of_mem _ hx)) (by simpa using h)
    rw [scanF, List.flatMap_cons, List.append_assoc, readF_put l _ (hl l (by simp))]
    simp only []
    rw [List.drop_left, ih, List.length_append]
end Go.Proofs.YtinnifhnabncfaaGreatDoor.Vi
end
/- Contract of mail.Put. -/
section
namespace Go.Proofs.YtinnifhnabncfaaGreatDoor.Vi
open Go.RowKit Base Mem Go.Shelf
def eBlob (e : EntryD) : List UInt8 := Lib.uvarint (bytesE e).length ++ bytesE e
def putLog (es : List EntryD) : List UInt8 := Lib.uvarint es.length ++ es.flatMap eBlob
/-- An entry that may be, of texts that are short. -/
def EOk (e : EntryD) : Prop := rightE e = 0 ∧ Short e ∧ Wf e
theorem ens_at {w : World} {M : List Nat} {v : Value} {l : List EntryD} (h : Ens w M v l) {k : Nat} (hk : k < l.length) :
    ∃ g off cap dv, v = .slice (some ⟨g, off, none⟩) l.length cap ∧ g < w.heap.size ∧ g ∉ M ∧ Ds w M dv l[k].ds ∧ ∀ j u, (eCell (l[k], dv))[j]? = some u → w.cell? ⟨g, off + k * 9 + j, none⟩ = some u := by
  obtain ⟨ps, rfl, hr, hd⟩ := h
  have hk' : k < ps.length := by simpa using hk
  obtain ⟨g, off, cap, e, _, hg, hm, hx⟩ := Rd.at_ eCell 9 (fun _ => rfl) hr hk'
  refine ⟨g, off, cap, ps[k].2, by simpa using e, hg, hm, ?_, ?_⟩
  · simpa using hd ps[k] (List.getElem_mem _)
  · simpa using hx
theorem bytesE_big {e : EntryD} (h : EOk e) : (bytesE e).length ≤ 40000000000 := by
  obtain ⟨hr, ⟨hs1, hs2, _⟩, hw1, hw2, hw3, hw4⟩ := h
  obtain ⟨⟨hf0, hf8, ht0⟩, hrest⟩ := right_facts hr
  have u1 := Lib.uvarint_length64 (x := e.fr.toNat) (by omega)
  have u2 := Lib.uvarint_length64 (x := e.tag.toNat) (by omega)
  unfold bytesE headB
  by_cases hk : e.kind = 2
  · have u3 := Lib.uvarint_length64 (x := e.ser.size) (by omega)
    have h7 : (sB e.ser).length = e.ser.size := rfl
    rw [if_pos hk]
    simp only [List.length_append, List.length_singleton]
    omega
  · obtain ⟨_, a0, a1, s0, s1, q0, p0, d8⟩ := hrest.resolve_left hk
    have u3 := Lib.uvarint_length64 (x := e.ag.toNat) (by omega)
    have u4 := Lib.uvarint_length64 (x := e.sh.toNat) (by omega)
    have u5 := Lib.uvarint_length64 (x := e.seq.toNat) (by omega)
    have u6 := Lib.uvarint_length64 (x := e.ep.toNat) (by omega)
    have u7 := Lib.uvarint_length64 (x := e.ds.length) (by omega)
    have h8 := dBytes_len e.ds hs2 hw4
    rw [if_neg hk]
    simp only [List.length_append, List.length_singleton]
    omega
theorem eBlob_big {e : EntryD} (h : EOk e) : (eBlob e).length ≤ 40000000010 := by
  have h1 := bytesE_big h
  have h2 := Lib.uvarint_length64 (x := (bytesE e).length) (by omega)
  unfold eBlob
  rw [List.length_append]; omega
theorem blobs_big (es : List EntryD) (h : ∀ e ∈ es, EOk e) : (es.flatMap eBlob).length ≤ es.length * 40000000010 := by
  induction es with
  | nil => simp
  | cons e es ih =>
    have h1 := ih (fun x hx => h x (by simp [hx]))
    have h2 := eBlob_big (h e (by simp))
    rw [List.flatMap_cons, List.length_append, List.length_cons]
    omega
set_option maxRecDepth 100000 in
set_option maxHeartbeats 1000000 in
theorem mput_any (v : Value) (lb : List UInt8) (ev : Value) (es : List EntryD) (m : Int) (w : World) (hb : Bs w [] v lb) (he : Ens w [] ev es) (hok : ∀ e ∈ es, EOk e) (hl : es.length ≤ 128) (hlb : lb.length ≤ 1000000000) (hm : w.cell? ⟨0, 0, none⟩ = some (.int .i64 m)) :
    Calls Tryz.prog 140 #[v, ev] w fun e w' => BsPost (lb ++ putLog es) w e w' := by
  have hw0 : 0 < w.heap.size := by
    have := World.block_lt_of_cell? w _ hm
    simpa using this
  have hkeepm : Hid (∀ W, Below w.heap.size w W → W.cell? ⟨0, 0, none⟩ = some (.int .i64 m)) := fun W hb => (hb.cell (p := ⟨0, 0, none⟩) hw0).trans hm
  have hput := Lib.hid (put_any v lb es.length w hb (by omega) (by omega))
  obtain ⟨A, c, rfl, _⟩ := hb.len
  obtain ⟨Ae, ce, rfl, hce⟩ := he.len
  have He := Lib.hid he; have Hok := Lib.hid hok
  have hwl : IntKind.u64.wrap (es.length : Int) = (es.length : Int) := by rw [IntKind.wrap_u64]; omega
  have hun := Lib.uvarint_length64 (x := es.length) (by omega)
  obtain ⟨l0, hl0⟩ : ∃ l0, l0 = lb ++ Lib.uvarint es.length := ⟨_, rfl⟩
  have Hl0 := Lib.hid hl0
  have hl0l : l0.length ≤ 1000000010 := by rw [hl0, List.length_append]; omega
  rw [← hl0] at hput
  clear hb he hok hm hl0 hun
  go_enter Tryz.func140, Tryz.ntmps140
  go_wp2_with fail
  refine hput.out.mono ?_
  rintro e w1 ⟨A1, rfl, hB1, hb1⟩
  have HB1 := Lib.hid hB1; have Hb1 := Lib.hid hb1
  clear hB1 hb1 hput
  go_wp2_with fail
  go_loopw [0, 16] (fun b i wr => ∃ (x : Nat) (A' : Option Addr) (L : List UInt8), i = .int .i64 x ∧ x ≤ es.length ∧ b = .slice A' L.length L.length ∧ Hid (L = l0 ++ (es.take x).flatMap eBlob) ∧ Hid (∀ M, (∀ g ∈ M, g < w.heap.size) → Bs wr M (.slice A' L.length L.length) L) ∧ Hid (Below w.heap.size w wr)) (fun _ i _ => es.length - (intOf i).toNat)
  case atStart => exact ⟨0, A1, l0, rfl, by omega, rfl, (show l0 = l0 ++ (es.take 0).flatMap eBlob by simp), HB1.out, Hb1.out⟩
  case round =>
    obtain ⟨x, A', L, rfl, hx, rfl, HL, HB, Hbr⟩ := hrel
    by_cases hlt : x < es.length
    · have hx1 : (x : Int) < (es.length : Int) := by omega
      obtain ⟨g, off, _, dv, e1, hg, _, hD, hcell⟩ := ens_at (He.out.keep (Keeps.of_below (M := []) Hbr.out) (by simp)) hlt
      injection e1 with e1 _ e9
      subst e1
      clear e9
      have hek := Hok.out es[x] (List.getElem_mem _)
      have HL2 : Hid (L ++ Lib.uvarint (bytesE es[x]).length ++ bytesE es[x] = l0 ++ (es.take (x + 1)).flatMap eBlob) := by
        show _ = _
        rw [List.take_succ_eq_append_getElem hlt, List.flatMap_append, HL.out]
        simp [eBlob]
      have hLl : L.length ≤ 1000000010 + 128 * 40000000010 := by
        have h1 := congrArg List.length HL.out
        have h2 := blobs_big (es.take x) (fun e he => Hok.out e (List.mem_of_mem_take he))
        have h3 : (es.take x).length ≤ 128 := by rw [List.length_take]; omega
        have h4 : (es.take x).length * 40000000010 ≤ 128 * 40000000010 := Nat.mul_le_mul_right _ h3
        rw [List.length_append] at h1
        omega
      have hbig := bytesE_big hek
      obtain ⟨Ad, cd, rfl, _⟩ := hD.len
      have a0 := hcell 0 _ rfl; have a1 := hcell 1 _ rfl; have a2 := hcell 2 _ rfl; have a3 := hcell 3 _ rfl; have a4 := hcell 4 _ rfl; have a5 := hcell 5 _ rfl; have a6 := hcell 6 _ rfl; have a7 := hcell 7 _ rfl; have a8 := hcell 8 _ rfl
      clear hcell
      generalize es[x] = en at *
      obtain ⟨kind, ag, sh, seq, ep, ds, ser, fr, tag⟩ := en
      simp only [] at a0 a1 a2 a3 a4 a5 a6 a7 a8 hD
      rw [Nat.add_zero] at a0
      obtain ⟨w2, hw2⟩ : ∃ w2, w2 = wr.alloc (.cells #[.int .i64 kind, .int .i64 ag, .int .i64 sh, .int .i64 seq, .int .i64 ep, .slice Ad ds.length cd, .string ser, .int .i64 fr, .int .i64 tag] 26) := ⟨_, rfl⟩
      have hk2 : Keeps [] wr w2 := by rw [hw2]; exact (Keeps.refl _ _).alloc _
      have hb2 : Below w.heap.size w w2 := ((Keeps.of_below (M := []) Hbr.out).trans hk2 (by simp)).below
      have hby := ebytes_ok ⟨kind, ag, sh, seq, ep, ds, ser, fr, tag⟩ (.slice Ad ds.length cd) m w2 hek.1 (hD.keep hk2 (by simp)) hek.2.1 hek.2.2 (hkeepm.out _ hb2)
      simp only [eCell] at hby
      have Hby := Lib.hid hby
      have Hw2 := Lib.hid hw2; have Hb2 := Lib.hid hb2
      have Hbw := Lib.hid (HB.out)
      have hk2' := Lib.hid hk2
      generalize bytesE ⟨kind, ag, sh, seq, ep, ds, ser, fr, tag⟩ = bx at *
      clear hby hw2 hb2 hek hD hk2
      go_wp2_with fail
      rw [← Hw2.out]
      refine Hby.out.mono ?_
      rintro e w3 ⟨A3, rfl, hS3, hb3⟩
      have HS3 := Lib.hid (hS3 [] (by simp)); have Hb3 := Lib.hid (below_then Hb2.out hb3)
      have cv := conv_bytes HS3.out
      have HB3 := Lib.hid (fun M hM => (Hbw.out M hM).keep ((Keeps.of_below (M := []) (a := wr) hk2'.out.below).trans (Keeps.of_below (M := []) hb3) (by simp)) (by simp) : ∀ M, (∀ g ∈ M, g < w.heap.size) → Bs w3 M (.slice A' L.length L.length) L)
      have Htx := text_any _ L ⟨bx.toArray⟩ w3 (HB3.out [] (by simp)) (by show L.length + bx.toArray.size ≤ _; rw [List.size_toArray]; omega)
      rw [show (⟨bx.toArray⟩ : ByteArray).size = bx.length from List.size_toArray .., show sB ⟨bx.toArray⟩ = bx from rfl] at Htx
      have HTx := Lib.hid Htx
      generalize hL3 : L ++ Lib.uvarint bx.length ++ bx = L3 at *
      clear hS3 hb3 Hby Htx hL3 HS3
      go_wp2_with fail
      refine HTx.out.mono ?_
      rintro e w4 ⟨A4, rfl, hS4, hb4⟩
      have HB4 : Hid (∀ M, (∀ g ∈ M, g < w.heap.size) → Bs w4 M (.slice A4 L3.length L3.length) L3) := fun M hM => hS4 M (fun g hg => by have := hM g hg; have := Hb3.out.size; omega)
      have Hb4 := Lib.hid (below_then Hb3.out hb4)
      clear hS4 hb4 HTx cv
      go_wp2
      go_roundw
      case rel => exact ⟨x + 1, A4, L3, by go_num, by omega, rfl, HL2, HB4, Hb4⟩
      case measure => simp [intOf] <;> omega
    · obtain rfl : x = es.length := by omega
      have hfin : Hid (L = lb ++ putLog es) := by
        show _ = _
        rw [HL.out, List.take_length, Hl0.out]
        unfold putLog
        rw [List.append_assoc]
      have hp : Hid (BsPost (lb ++ putLog es) w (.returned (.slice A' L.length L.length)) wr) := by
        show BsPost _ _ _ _
        rw [← hfin.out]
        exact ⟨A', rfl, HB.out, Hbr.out⟩
      go_wp2
      go_ret
      exact hp.out
end Go.Proofs.YtinnifhnabncfaaGreatDoor.Vi
end
/- Contract of hopperref4.Logs at equal arguments. -/
section
namespace Go.Proofs.YtinnifhnabncfaaGreatDoor.Vi
open Go.RowKit Base Mem
set_option maxRecDepth 100000 in
theorem rlogs_eq (va vb : Value) (l : List EntryD) (w : World) (ha : Ens w [] va l) (hb : Ens w [] vb l) (hsm : l.length ≤ 1048576 ∧ ∀ e ∈ l, e.ds.length ≤ 1048576) :
    Calls Tryz.prog 38 #[va, vb] w fun r w' => r = .returned (.bool true) ∧ Below w.heap.size w w' := by
  have Ha := Lib.hid ha; have Hb := Lib.hid hb; have Hsm := Lib.hid hsm
  obtain ⟨Aa, ca, rfl, hca⟩ := ha.len
  obtain ⟨Ab, cb, rfl, hcb⟩ := hb.len
  have hll : l.length ≤ 1048576 := hsm.1
  clear ha hb hsm
  go_enter Tryz.func38, Tryz.ntmps38
  go_wp2_with fail
  go_slots
  go_loopw [13] (fun i wr => ∃ (x : Nat), i = .int .i64 x ∧ x ≤ l.length ∧ Hid (Below w.heap.size w wr)) (fun i _ => l.length - (intOf i).toNat)
  case atStart => exact ⟨0, rfl, by omega, Below.refl _ _⟩
  case round =>
    obtain ⟨x, rfl, hx, Hbe⟩ := hrel
    by_cases hlt : x < l.length
    · have ha2 := Ha.out.keep (Keeps.of_below (M := []) Hbe.out) (by simp)
      have hb2 := Hb.out.keep (Keeps.of_below (M := []) Hbe.out) (by simp)
      obtain ⟨ga, oa, _, da, e1, hga, _, hda, h1⟩ := ens_at ha2 hlt
      obtain ⟨gb, ob, _, db, e2, hgb, _, hdb, h2⟩ := ens_at hb2 hlt
      obtain rfl : Aa = some ⟨ga, oa, none⟩ := by injection e1
      obtain rfl : Ab = some ⟨gb, ob, none⟩ := by injection e2
      have hsame := Lib.hid (fun n => rsame_eq da db l[x] (wr.drewN n) (hda.keep (M' := []) ((Keeps.refl _ _).drewN n) (by simp)) (hdb.keep (M' := []) ((Keeps.refl _ _).drewN n) (by simp)) (Hsm.out.2 _ (List.getElem_mem _)))
      clear e1 e2 hda hdb ha2 hb2
      generalize l[x] = en at *
      obtain ⟨kind, ag, sh, seq, ep, ds, ser, fr, tag⟩ := en
      have a0 := h1 0 _ rfl; have a1 := h1 1 _ rfl; have a2 := h1 2 _ rfl; have a3 := h1 3 _ rfl; have a4 := h1 4 _ rfl; have a5 := h1 5 _ rfl; have a6 := h1 6 _ rfl; have a7 := h1 7 _ rfl; have a8 := h1 8 _ rfl
      have b0 := h2 0 _ rfl; have b1 := h2 1 _ rfl; have b2 := h2 2 _ rfl; have b3 := h2 3 _ rfl; have b4 := h2 4 _ rfl; have b5 := h2 5 _ rfl; have b6 := h2 6 _ rfl; have b7 := h2 7 _ rfl; have b8 := h2 8 _ rfl
      rw [Nat.add_zero] at a0 b0
      simp only [] at a0 a1 a2 a3 a4 a5 a6 a7 a8 b0 b1 b2 b3 b4 b5 b6 b7 b8
      simp only [eVal] at hsame
      clear h1 h2
      have hx1 : (x : Int) < (l.length : Int) := by omega
      go_wp2
      go_region_with ((go_at_call 24; refine (hsame.out 1).mono ?_; rintro e w2 ⟨rfl, hb2⟩; have Hb2 := Lib.hid (below_then Hbe.out (show Below wr.heap.size wr w2 from ⟨hb2.os, hb2.tape, hb2.output, hb2.size, hb2.block⟩)); clear hb2))
      all_goals
        go_wp2
        go_roundw
        case rel => exact ⟨x + 1, by go_num, by omega, Hb2⟩
        case measure => simp [intOf] <;> omega
    · obtain rfl : x = l.length := by omega
      go_wp2
      go_ret
      exact ⟨rfl, Hbe.out⟩
end Go.Proofs.YtinnifhnabncfaaGreatDoor.Vi
end
/- Contract of entry.Rows (slices.EqualFunc with entry.Same). -/
section
namespace Go.Proofs.YtinnifhnabncfaaGreatDoor.Vi
open Go.RowKit Base Mem Go.Shelf
def rowsEq (a b : List EntryD) : Bool := Lib.allEq sameE a b
/-- No row of an entry is too long to be counted. -/
def Cnt (l : List EntryD) : Prop := l.length ≤ 4611686018427387904 ∧ ∀ e ∈ l, e.ds.length ≤ 4611686018427387904
instance : Inhabited EntryD := ⟨⟨0, 0, 0, 0, 0, [], ⟨#[]⟩, 0, 0⟩⟩
theorem allEq_drop (a b : List EntryD) (x : Nat) (hx : x < a.length) (hy : x < b.length) : Lib.allEq sameE (a.drop x) (b.drop x) = (sameE a[x] b[x] && Lib.allEq sameE (a.drop (x + 1)) (b.drop (x + 1))) := by
  rw [List.drop_eq_getElem_cons hx, List.drop_eq_getElem_cons hy]
  rfl
set_option maxRecDepth 100000 in
set_option maxHeartbeats 1000000 in
theorem eqfunc_any (va vb : Value) (a b : List EntryD) (w : World) (ha : Ens w [] va a) (hb : Ens w [] vb b) (ca : Cnt a) (cb : Cnt b) :
    Calls Tryz.prog 153 #[va, vb, .func (.func 23) #[] #[]] w fun e w' => SamePost (rowsEq a b) w e w' := by
  have Ha := Lib.hid ha; have Hb := Lib.hid hb
  obtain ⟨Aa, ka, rfl, hka⟩ := ha.len
  obtain ⟨Ab, kb, rfl, hkb⟩ := hb.len
  have ha2 := ca.1; have hb2 := cb.1
  have Hca := Lib.hid ca.2; have Hcb := Lib.hid cb.2
  clear ha hb ca cb
  by_cases hne : a.length = b.length
  · have hbn : ((a.length : Int) != (b.length : Int)) = false := by simp [hne]
    have Hne := Lib.hid hne
    have hHr : Hid (rowsEq a b = Lib.allEq sameE (a.drop 0) (b.drop 0)) := rfl
    clear hne
    go_enter Tryz.func153, Tryz.ntmps153
    go_wp2_with fail
    go_loopw [17] (fun i wr => ∃ x : Nat, i = .int .i64 x ∧ x ≤ a.length ∧ Hid (rowsEq a b = Lib.allEq sameE (a.drop x) (b.drop x)) ∧ Hid (Below w.heap.size w wr)) (fun i _ => a.length - (intOf i).toNat)
    case atStart => exact ⟨0, rfl, by omega, hHr, Below.refl _ _⟩
    case round =>
      obtain ⟨x, rfl, hx, Hq, Hbr⟩ := hrel
      by_cases hlt : x < a.length
      · have hx1 : (x : Int) < (a.length : Int) := by omega
        have hx0 : (0 : Int) ≤ (x : Int) := by omega
        have hxb : x < b.length := by have := Hne.out; omega
        have hx2 : (x : Int) < (b.length : Int) := by omega
        have HQ2 : Hid (rowsEq a b = (sameE a[x] b[x] && Lib.allEq sameE (a.drop (x + 1)) (b.drop (x + 1)))) := by show _ = _; rw [Hq.out, allEq_drop a b x hlt hxb]
        obtain ⟨ga, oa, _, da, e1, _, _, hDa, hca⟩ := ens_at (Ha.out.keep (Keeps.of_below (M := []) Hbr.out) (by simp)) hlt
        obtain ⟨gb, ob, _, db, e2, _, _, hDb, hcb⟩ := ens_at (Hb.out.keep (Keeps.of_below (M := []) Hbr.out) (by simp)) hxb
        injection e1 with e1 _ e9
        injection e2 with e2 _ e8
        subst e1 e2
        clear e9 e8
        have hsm := Lib.hid (fun W (hk : Keeps [] wr W) => same_any a[x] b[x] da db W (hDa.keep hk (by simp)) (hDb.keep hk (by simp)) (Hca.out _ (List.getElem_mem _)) (Hcb.out _ (List.getElem_mem _)))
        obtain ⟨Da, na, rfl, _⟩ := hDa.len
        obtain ⟨Db, nb, rfl, _⟩ := hDb.len
        have a0 := hca 0 _ rfl; have a1 := hca 1 _ rfl; have a2 := hca 2 _ rfl; have a3 := hca 3 _ rfl; have a4 := hca 4 _ rfl; have a5 := hca 5 _ rfl; have a6 := hca 6 _ rfl; have a7 := hca 7 _ rfl; have a8 := hca 8 _ rfl
        have b0 := hcb 0 _ rfl; have b1 := hcb 1 _ rfl; have b2 := hcb 2 _ rfl; have b3 := hcb 3 _ rfl; have b4 := hcb 4 _ rfl; have b5 := hcb 5 _ rfl; have b6 := hcb 6 _ rfl; have b7 := hcb 7 _ rfl; have b8 := hcb 8 _ rfl
        rw [Nat.add_zero] at a0 b0
        clear hca hcb hDa hDb
        generalize a[x] = ea at *
        generalize b[x] = eb at *
        generalize sameE ea eb = sm at *
        obtain ⟨kind, ag, sh, seq, ep, ds, ser, fr, tag⟩ := ea
        obtain ⟨kind', ag', sh', seq', ep', ds', ser', fr', tag'⟩ := eb
        simp only [eCell] at hsm
        simp only [] at a0 a1 a2 a3 a4 a5 a6 a7 a8 b0 b1 b2 b3 b4 b5 b6 b7 b8
        obtain ⟨w1, hw1⟩ : ∃ w1, w1 = wr.alloc (.cells #[.int .i64 kind, .int .i64 ag, .int .i64 sh, .int .i64 seq, .int .i64 ep, .slice Da ds.length na, .string ser, .int .i64 fr, .int .i64 tag] 26) := ⟨_, rfl⟩
        have hk1 : Keeps [] wr w1 := by rw [hw1]; exact (Keeps.refl _ _).alloc _
        have HB1 := Lib.hid (show Blk w1 wr.heap.size 26 #[.int .i64 kind, .int .i64 ag, .int .i64 sh, .int .i64 seq, .int .i64 ep, .slice Da ds.length na, .string ser, .int .i64 fr, .int .i64 tag] by rw [hw1]; exact Blk.new wr _ _)
        have hgb : gb < wr.heap.size := World.block_lt_of_cell? wr _ b0
        have c0 := (hk1.cell (p := ⟨gb, ob + x * 9, none⟩) hgb (by simp)).trans b0
        have c1 := (hk1.cell (p := ⟨gb, ob + x * 9 + 1, none⟩) hgb (by simp)).trans b1
        have c2 := (hk1.cell (p := ⟨gb, ob + x * 9 + 2, none⟩) hgb (by simp)).trans b2
        have c3 := (hk1.cell (p := ⟨gb, ob + x * 9 + 3, none⟩) hgb (by simp)).trans b3
        have c4 := (hk1.cell (p := ⟨gb, ob + x * 9 + 4, none⟩) hgb (by simp)).trans b4
        have c5 := (hk1.cell (p := ⟨gb, ob + x * 9 + 5, none⟩) hgb (by simp)).trans b5
        have c6 := (hk1.cell (p := ⟨gb, ob + x * 9 + 6, none⟩) hgb (by simp)).trans b6
        have c7 := (hk1.cell (p := ⟨gb, ob + x * 9 + 7, none⟩) hgb (by simp)).trans b7
        have c8 := (hk1.cell (p := ⟨gb, ob + x * 9 + 8, none⟩) hgb (by simp)).trans b8
        have Hw1 := Lib.hid hw1; have Hk1 := Lib.hid hk1
        have Hs1 := Lib.hid (hsm.out (w1.alloc (.cells #[.int .i64 kind', .int .i64 ag', .int .i64 sh', .int .i64 seq', .int .i64 ep', .slice Db ds'.length nb, .string ser', .int .i64 fr', .int .i64 tag'] 26)) (hk1.alloc _))
        clear hw1 hk1 hsm b0 b1 b2 b3 b4 b5 b6 b7 b8 hgb
        go_upto_region 6 with (fail)
        rw [← Hw1.out]
        clear a0 a1 a2 a3 a4 a5 a6 a7 a8
        generalize wr.heap.size = g1 at *
        have hg1 : g1 < w1.heap.size := HB1.out.lt
        obtain ⟨w2, hw2⟩ : ∃ w2, w2 = w1.alloc (.cells #[.int .i64 kind', .int .i64 ag', .int .i64 sh', .int .i64 seq', .int .i64 ep', .slice Db ds'.length nb, .string ser', .int .i64 fr', .int .i64 tag'] 26) := ⟨_, rfl⟩
        have hB2 : Blk w2 w1.heap.size 26 #[.int .i64 kind', .int .i64 ag', .int .i64 sh', .int .i64 seq', .int .i64 ep', .slice Db ds'.length nb, .string ser', .int .i64 fr', .int .i64 tag'] := by rw [hw2]; exact Blk.new w1 _ _
        have hB1 : Blk w2 g1 26 #[.int .i64 kind, .int .i64 ag, .int .i64 sh, .int .i64 seq, .int .i64 ep, .slice Da ds.length na, .string ser, .int .i64 fr, .int .i64 tag] := by rw [hw2]; exact HB1.out.below (below_new' _ _) hg1
        have Hb2 : Hid (Below w.heap.size w w2) := by rw [hw2]; exact ((Keeps.of_below (M := []) Hbr.out).trans (Hk1.out.alloc _) (by simp)).below
        rw [← hw2] at Hs1
        have HB2 := Lib.hid hB2; have HB1 := Lib.hid hB1; have Hw2 := Lib.hid hw2
        clear hB2 hB1 hw2
        go_upto_region 7 with (fail)
        rw [← Hw2.out]
        clear c0 c1 c2 c3 c4 c5 c6 c7 c8
        generalize w1.heap.size = g2 at *
        obtain ⟨q0, q1, q2, q3, q4, q5, q6, q7, q8, qf⟩ := blk9 HB1.out
        obtain ⟨r0, r1, r2, r3, r4, r5, r6, r7, r8, rf⟩ := blk9 HB2.out
        go_wp2_with fail
        refine Hs1.out.mono ?_
        rintro e w3 ⟨rfl, hb3⟩
        have Hb3 := Lib.hid (below_then Hb2.out hb3)
        clear hb3 Hs1 q0 q1 q2 q3 q4 q5 q6 q7 q8 qf r0 r1 r2 r3 r4 r5 r6 r7 r8 rf
        cases sm with
        | true =>
          have HQ3 : Hid (rowsEq a b = Lib.allEq sameE (a.drop (x + 1)) (b.drop (x + 1))) := by show _ = _; rw [HQ2.out]; rfl
          clear HQ2
          go_wp2
          go_roundw
          case rel => exact ⟨x + 1, by go_num, by omega, HQ3, Hb3⟩
          case measure => simp [intOf] <;> omega
        | false =>
          have hR : Hid (rowsEq a b = false) := by show _ = _; rw [HQ2.out]; rfl
          clear HQ2
          go_wp2
          go_ret
          exact ⟨ret_bool hR.out.symm, Hb3.out⟩
      · obtain rfl : x = a.length := by omega
        have hR : Hid (rowsEq a b = true) := by
          show _ = _
          rw [Hq.out, List.drop_length, List.drop_eq_nil_of_le (by have := Hne.out; omega)]
          rfl
        go_wp2
        go_ret
        exact ⟨ret_bool hR.out.symm, Hbr.out⟩
  · have hR : Hid (rowsEq a b = false) := Lib.allEq_len sameE a b hne
    have hbn : ((a.length : Int) != (b.length : Int)) = true := by simp; omega
    rw [hR.out]
    clear hne
    go_enter Tryz.func153, Tryz.ntmps153
    go_wp2
    go_ret
    exact ⟨rfl, Below.refl _ _⟩
theorem rows_any (va vb : Value) (a b : List EntryD) (w : World) (ha : Ens w [] va a) (hb : Ens w [] vb b) (ca : Cnt a) (cb : Cnt b) :
    Calls Tryz.prog 98 #[va, vb] w fun e w' => SamePost (rowsEq a b) w e w' := by
  have h := Lib.hid (eqfunc_any va vb a b w ha hb ca cb)
  obtain ⟨Aa, ka, rfl, hka⟩ := ha.len
  obtain ⟨Ab, kb, rfl, hkb⟩ := hb.len
  clear ha hb ca cb
  generalize rowsEq a b = R at *
  go_enter Tryz.func98, Tryz.ntmps98
  go_wp2_with fail
  refine h.out.mono ?_
  rintro e w' ⟨rfl, hb⟩
  have Hb := Lib.hid hb
  clear hb
  go_wp2
  go_ret
  exact ⟨rfl, Hb.out⟩
end Go.Proofs.YtinnifhnabncfaaGreatDoor.Vi
end
/- Messages as data; contract of mail.Same. -/
section
namespace Go.Proofs.YtinnifhnabncfaaGreatDoor.Vi
open Go.RowKit Base Mem Go.Shelf
structure MsgD where
  kd : Int
  en : EntryD
  tag : Int
  code : Int
  nn : Int
  term : Int
  had : Int
  log : List EntryD
  commit : Int
  len : Int
def mCell (m : MsgD) (dv lv : Value) : List Value := .int .i64 m.kd :: (eCell (m.en, dv) ++ [.int .i64 m.tag, .int .i64 m.code, .int .u64 m.nn, .int .i64 m.term, .int .i64 m.had, lv, .int .i64 m.commit, .int .i64 m.len])
/-- A message's slices read as its deltas and its row. -/
def MsgAt (w : World) (M : List Nat) (m : MsgD) (dv lv : Value) : Prop := Ds w M dv m.en.ds ∧ Ens w M lv m.log
theorem MsgAt.keep {w w' : World} {M M' : List Nat} {m : MsgD} {dv lv : Value} (h : MsgAt w M m dv lv) (k : Keeps M' w w') (hM : ∀ g ∈ M', g ∈ M ∨ w.heap.size ≤ g) : MsgAt w' M m dv lv := ⟨h.1.keep k hM, h.2.keep k hM⟩
theorem MsgAt.avoid {w : World} {M M' : List Nat} {m : MsgD} {dv lv : Value} (h : MsgAt w M m dv lv) (hM : ∀ g ∈ M', g ∈ M ∨ w.heap.size ≤ g) : MsgAt w M' m dv lv := ⟨h.1.avoid hM, h.2.avoid hM⟩
def MCnt (m : MsgD) : Prop := m.en.ds.length ≤ 4611686018427387904 ∧ Cnt m.log
theorem blk18 {w : World} {g : Nat} {t : TypeId} {c0 c1 c2 c3 c4 c5 c6 c7 c8 c9 ca cb cc cd ce cf cg ch : Value} (h : Blk w g t #[c0, c1, c2, c3, c4, c5, c6, c7, c8, c9, ca, cb, cc, cd, ce, cf, cg, ch]) :
    w.cell? ⟨g, 0, none⟩ = some c0 ∧ w.cell? ⟨g, 1, none⟩ = some c1 ∧ w.cell? ⟨g, 2, none⟩ = some c2 ∧ w.cell? ⟨g, 3, none⟩ = some c3 ∧ w.cell? ⟨g, 4, none⟩ = some c4 ∧ w.cell? ⟨g, 5, none⟩ = some c5 ∧ w.cell? ⟨g, 6, none⟩ = some c6 ∧ w.cell? ⟨g, 7, none⟩ = some c7 ∧ w.cell? ⟨g, 8, none⟩ = some c8 ∧ w.cell? ⟨g, 9, none⟩ = some c9 ∧ w.cell? ⟨g, 10, none⟩ = some ca ∧ w.cell? ⟨g, 11, none⟩ = some cb ∧ w.cell? ⟨g, 12, none⟩ = some cc ∧ w.cell? ⟨g, 13, none⟩ = some cd ∧ w.cell? ⟨g, 14, none⟩ = some ce ∧ w.cell? ⟨g, 15, none⟩ = some cf ∧ w.cell? ⟨g, 16, none⟩ = some cg ∧ w.cell? ⟨g, 17, none⟩ = some ch ∧ (∀ i, w.frozen? ⟨g, i, none⟩ = false) :=
  ⟨h.cell 0, h.cell 1, h.cell 2, h.cell 3, h.cell 4, h.cell 5, h.cell 6, h.cell 7, h.cell 8, h.cell 9, h.cell 10, h.cell 11, h.cell 12, h.cell 13, h.cell 14, h.cell 15, h.cell 16, h.cell 17, h.frozen⟩
/-- Are messages the same? -/
def sameM (a b : MsgD) : Bool := sameE a.en b.en && rowsEq a.log b.log && (a.kd == b.kd && a.tag == b.tag && a.code == b.code && a.nn == b.nn && a.term == b.term && a.had == b.had && a.commit == b.commit && a.len == b.len)
set_option maxRecDepth 100000 in
set_option maxHeartbeats 2000000 in
theorem msame_any (a b : MsgD) (da la db lb : Value) (w : World) (ha : MsgAt w [] a da la) (hb : MsgAt w [] b db lb) (ca : MCnt a) (cb : MCnt b) :
    Calls Tryz.prog 50 #[.agg (mCell a da la).toArray, .agg (mCell b db lb).toArray] w fun r w' => SamePost (sameM a b) w r w' := by
  have hse := Lib.hid (fun W (hk : Keeps [] w W) => same_any a.en b.en da db W (ha.1.keep hk (by simp)) (hb.1.keep hk (by simp)) ca.1 cb.1)
  have hro := Lib.hid (fun W (hk : Keeps [] w W) => rows_any la lb a.log b.log W (ha.2.keep hk (by simp)) (hb.2.keep hk (by simp)) ca.2 cb.2)
  have HS : Hid (sameM a b = (sameE a.en b.en && rowsEq a.log b.log && (a.kd == b.kd && a.tag == b.tag && a.code == b.code && a.nn == b.nn && a.term == b.term && a.had == b.had && a.commit == b.commit && a.len == b.len))) := rfl
  obtain ⟨Aa, na, rfl, _⟩ := ha.1.len
  obtain ⟨Ab, nb, rfl, _⟩ := hb.1.len
  obtain ⟨Ba, ka, rfl, _⟩ := ha.2.len
  obtain ⟨Bb, kb, rfl, _⟩ := hb.2.len
  generalize sameM a b = R at *
  generalize sameE a.en b.en = s1 at *
  generalize rowsEq a.log b.log = s2 at *
  clear ha hb ca cb
  obtain ⟨kd, ⟨kind, ag, sh, seq, ep, ds, ser, fr, etg⟩, tag, code, nn, term, had, log, commit, len⟩ := a
  obtain ⟨kdz, ⟨kindz, agz, shz, seqz, epz, dsz, serz, frz, etgz⟩, tagz, codez, nnz, termz, hadz, logz, commitz, lenz⟩ := b
  simp only [eCell] at hse
  simp only [] at HS hro
  generalize ds.length = dn at *
  generalize dsz.length = dnz at *
  generalize log.length = ln at *
  generalize logz.length = lnz at *
  simp only [mCell, eCell, List.cons_append, List.nil_append]
  obtain ⟨w2, hw2⟩ : ∃ w2, w2 = (w.alloc (.cells #[.int .i64 kd, .int .i64 kind, .int .i64 ag, .int .i64 sh, .int .i64 seq, .int .i64 ep, .slice Aa dn na, .string ser, .int .i64 fr, .int .i64 etg, .int .i64 tag, .int .i64 code, .int .u64 nn, .int .i64 term, .int .i64 had, .slice Ba ln ka, .int .i64 commit, .int .i64 len] 68)).alloc (.cells #[.int .i64 kdz, .int .i64 kindz, .int .i64 agz, .int .i64 shz, .int .i64 seqz, .int .i64 epz, .slice Ab dnz nb, .string serz, .int .i64 frz, .int .i64 etgz, .int .i64 tagz, .int .i64 codez, .int .u64 nnz, .int .i64 termz, .int .i64 hadz, .slice Bb lnz kb, .int .i64 commitz, .int .i64 lenz] 68) := ⟨_, rfl⟩
  have hk2 : Keeps [] w w2 := by rw [hw2]; exact ((Keeps.refl _ _).alloc _).alloc _
  have hBa : Blk w2 w.heap.size 68 #[.int .i64 kd, .int .i64 kind, .int .i64 ag, .int .i64 sh, .int .i64 seq, .int .i64 ep, .slice Aa dn na, .string ser, .int .i64 fr, .int .i64 etg, .int .i64 tag, .int .i64 code, .int .u64 nn, .int .i64 term, .int .i64 had, .slice Ba ln ka, .int .i64 commit, .int .i64 len] := by rw [hw2]; exact (Blk.new w _ _).below (below_new' _ _) (by simp)
  have hBb : Blk w2 (w.heap.size + 1) 68 #[.int .i64 kdz, .int .i64 kindz, .int .i64 agz, .int .i64 shz, .int .i64 seqz, .int .i64 epz, .slice Ab dnz nb, .string serz, .int .i64 frz, .int .i64 etgz, .int .i64 tagz, .int .i64 codez, .int .u64 nnz, .int .i64 termz, .int .i64 hadz, .slice Bb lnz kb, .int .i64 commitz, .int .i64 lenz] := by
    have := Blk.new (w.alloc (.cells #[.int .i64 kd, .int .i64 kind, .int .i64 ag, .int .i64 sh, .int .i64 seq, .int .i64 ep, .slice Aa dn na, .string ser, .int .i64 fr, .int .i64 etg, .int .i64 tag, .int .i64 code, .int .u64 nn, .int .i64 term, .int .i64 had, .slice Ba ln ka, .int .i64 commit, .int .i64 len] 68)) 68 #[.int .i64 kdz, .int .i64 kindz, .int .i64 agz, .int .i64 shz, .int .i64 seqz, .int .i64 epz, .slice Ab dnz nb, .string serz, .int .i64 frz, .int .i64 etgz, .int .i64 tagz, .int .i64 codez, .int .u64 nnz, .int .i64 termz, .int .i64 hadz, .slice Bb lnz kb, .int .i64 commitz, .int .i64 lenz]
    rw [hw2]; simpa using this
  have Hw2 := Lib.hid hw2; have HBa := Lib.hid hBa; have HBb := Lib.hid hBb; have Hk2 := Lib.hid hk2
  have Hs1 := Lib.hid (hse.out w2 hk2)
  clear hw2 hBa hBb hk2 hse
  show Calls Tryz.prog 50 #[.agg #[.int .i64 kd, .int .i64 kind, .int .i64 ag, .int .i64 sh, .int .i64 seq, .int .i64 ep, .slice Aa dn na, .string ser, .int .i64 fr, .int .i64 etg, .int .i64 tag, .int .i64 code, .int .u64 nn, .int .i64 term, .int .i64 had, .slice Ba ln ka, .int .i64 commit, .int .i64 len], .agg #[.int .i64 kdz, .int .i64 kindz, .int .i64 agz, .int .i64 shz, .int .i64 seqz, .int .i64 epz, .slice Ab dnz nb, .string serz, .int .i64 frz, .int .i64 etgz, .int .i64 tagz, .int .i64 codez, .int .u64 nnz, .int .i64 termz, .int .i64 hadz, .slice Bb lnz kb, .int .i64 commitz, .int .i64 lenz]] w fun r w' => SamePost R w r w'
  go_enter Tryz.func50, Tryz.ntmps50
  go_upto_region 1 with (fail)
  rw [← Hw2.out]
  have hg1 : w.heap.size + 1 < w2.heap.size := HBb.out.lt
  generalize hgs : w.heap.size = g at HBa HBb hg1 ⊢
  have Hgs := Lib.hid hgs
  clear Hw2 hgs
  obtain ⟨q0, q1, q2, q3, q4, q5, q6, q7, q8, q9, qa, qb, qc, qd, qe, qf, qg, qh, _⟩ := blk18 HBa.out
  obtain ⟨r0, r1, r2, r3, r4, r5, r6, r7, r8, r9, ra, rb, rc, rd, re, rf, rg, rh, _⟩ := blk18 HBb.out
  go_wp2_with fail
  refine Hs1.out.mono ?_
  rintro e w3 ⟨rfl, hb3⟩
  have HBa3 := Lib.hid (HBa.out.below hb3 (by omega)); have HBb3 := Lib.hid (HBb.out.below hb3 hg1)
  have Hk3 := Lib.hid (Hk2.out.trans (Keeps.of_below (M := []) hb3) (by simp))
  have hg3 : g + 1 < w3.heap.size := HBb3.out.lt
  clear hb3 Hs1 HBa HBb Hk2 q0 q1 q2 q3 q4 q5 q6 q7 q8 q9 qa qb qc qd qe qf qg qh r0 r1 r2 r3 r4 r5 r6 r7 r8 r9 ra rb rc rd re rf rg rh
  cases s1 with
  | false =>
    obtain rfl : R = false := by rw [HS.out]; simp
    go_wp2
    go_ret
    exact ⟨rfl, Hk3.out.below⟩
  | true =>
    have Hro := Lib.hid (hro.out w3 Hk3.out)
    clear hro
    obtain ⟨q0, q1, q2, q3, q4, q5, q6, q7, q8, q9, qa, qb, qc, qd, qe, qf, qg, qh, _⟩ := blk18 HBa3.out
    obtain ⟨r0, r1, r2, r3, r4, r5, r6, r7, r8, r9, ra, rb, rc, rd, re, rf, rg, rh, _⟩ := blk18 HBb3.out
    go_wp2_with fail
    refine Hro.out.mono ?_
    rintro e w4 ⟨rfl, hb4⟩
    have HBa4 := Lib.hid (HBa3.out.below hb4 (by omega)); have HBb4 := Lib.hid (HBb3.out.below hb4 hg3)
    have Hk4 := Lib.hid (Hk3.out.trans (Keeps.of_below (M := []) hb4) (by simp))
    clear hb4 Hro HBa3 HBb3 Hk3 q0 q1 q2 q3 q4 q5 q6 q7 q8 q9 qa qb qc qd qe qf qg qh r0 r1 r2 r3 r4 r5 r6 r7 r8 r9 ra rb rc rd re rf rg rh
    cases s2 with
    | false =>
      obtain rfl : R = false := by rw [HS.out]; simp
      go_wp2
      go_ret
      exact ⟨rfl, Hk4.out.below⟩
    | true =>
      obtain ⟨q0, q1, q2, q3, q4, q5, q6, q7, q8, q9, qa, qb, qc, qd, qe, qf, qg, qh, _⟩ := blk18 HBa4.out
      obtain ⟨r0, r1, r2, r3, r4, r5, r6, r7, r8, r9, ra, rb, rc, rd, re, rf, rg, rh, _⟩ := blk18 HBb4.out
      cases h0 : (kd == kdz) with
      | false =>
        obtain rfl : R = false := by rw [HS.out, h0]; simp
        clear HS
        go_wp2
        go_ret
        exact ⟨rfl, Hk4.out.below⟩
      | true =>
        cases h1 : (tag == tagz) with
        | false =>
          obtain rfl : R = false := by rw [HS.out, h0, h1]; simp
          clear HS
          go_wp2
          go_ret
          exact ⟨rfl, Hk4.out.below⟩
        | true =>
          cases h2 : (code == codez) with
          | false =>
            obtain rfl : R = false := by rw [HS.out, h0, h1, h2]; simp
            clear HS
            go_wp2
            go_ret
            exact ⟨rfl, Hk4.out.below⟩
          | true =>
            cases h3 : (nn == nnz) with
            | false =>
              obtain rfl : R = false := by rw [HS.out, h0, h1, h2, h3]; simp
              clear HS
              go_wp2
              go_ret
              exact ⟨rfl, Hk4.out.below⟩
            | true =>
              cases h4 : (term == termz) with
              | false =>
                obtain rfl : R = false := by rw [HS.out, h0, h1, h2, h3, h4]; simp
                clear HS
                go_wp2
                go_ret
                exact ⟨rfl, Hk4.out.below⟩
              | true =>
                cases h5 : (had == hadz) with
                | false =>
                  obtain rfl : R = false := by rw [HS.out, h0, h1, h2, h3, h4, h5]; simp
                  clear HS
                  go_wp2
                  go_ret
                  exact ⟨rfl, Hk4.out.below⟩
                | true =>
                  cases h6 : (commit == commitz) with
                  | false =>
                    obtain rfl : R = false := by rw [HS.out, h0, h1, h2, h3, h4, h5, h6]; simp
                    clear HS
                    go_wp2
                    go_ret
                    exact ⟨rfl, Hk4.out.below⟩
                  | true =>
                    cases h7 : (len == lenz) with
                    | false =>
                      obtain rfl : R = false := by rw [HS.out, h0, h1, h2, h3, h4, h5, h6, h7]; simp
                      clear HS
                      go_wp2
                      go_ret
                      exact ⟨rfl, Hk4.out.below⟩
                    | true =>
                      obtain rfl : R = true := by rw [HS.out, h0, h1, h2, h3, h4, h5, h6, h7]; simp
                      clear HS
                      go_wp2
                      go_ret
                      exact ⟨rfl, Hk4.out.below⟩
end Go.Proofs.YtinnifhnabncfaaGreatDoor.Vi
end
/- Contract of mail.zero. -/
section
namespace Go.Proofs.YtinnifhnabncfaaGreatDoor.Vi
open Go.RowKit Base Mem Go.Shelf
def zeroM : MsgD := ⟨0, zeroD, 0, 0, 0, 0, 0, [], 0, 0⟩
/-- A message without what its kind has. -/
def clearM (m : MsgD) : MsgD :=
  if m.kd = 1 then { m with kd := 0, en := zeroD }
  else if m.kd = 2 then { m with kd := 0, tag := 0, code := 0, nn := 0 }
  else if m.kd = 3 then { m with kd := 0, term := 0 }
  else if m.kd = 4 then { m with kd := 0, term := 0, had := 0, log := [] }
  else if m.kd = 5 then { m with kd := 0, term := 0, log := [], commit := 0 }
  else if m.kd = 6 then { m with kd := 0, term := 0, len := 0 }
  else { m with kd := 0 }
def zeroS (m : MsgD) : Bool := sameM (clearM m) zeroM
theorem blk_range {w : World} {g : Nat} {T : TypeId} {cs : Array Value} (h : Blk w g T cs) : w.rangeAt g 0 cs.toList := fun j v hj => by
  rw [Nat.zero_add, h.cell j]; simpa using hj
theorem wpList_load_g {P : Program} {ops : Array Oper} {rest : List Oper} {op : Oper} {a : Act} {w : World} {Q : Exit → Act → World → Prop} (hw : Region.wanted op (yielded ops a.tmps) = true) (ty : TypeId) (x : Operand) (ho : op.op = .load ty x)
    (b o : Nat) (hx : a.eval x = .pointer (some ⟨b, o, none⟩)) (cs : List Value) (d : TypeDesc) (hc : w.rangeAt b o cs)
    (hu : P.underlying ty = some d) (hd : d.isRow = true) (hi : (P.info? ty).map (·.size) = some cs.length)
    (h : wpList P ops Q rest (a.put op.dst (.agg cs.toArray)) w) : wpList P ops Q (op :: rest) a w := by
  simp only [wpList]
  rw [if_pos hw]
  exact .inl (wp_load_mid ty x ho b o hx cs d hc hu hd hi h)
theorem cnt_nil : Cnt [] := ⟨by simp, by simp⟩
set_option maxRecDepth 100000 in
set_option maxHeartbeats 2000000 in
theorem mzero_0 (m : MsgD) (dv lv : Value) (w : World) (ha : MsgAt w [] m dv lv) (ca : MCnt m) (g1 : ¬ m.kd = 1) (g2 : ¬ m.kd = 2) (g3 : ¬ m.kd = 3) (g4 : ¬ m.kd = 4) (g5 : ¬ m.kd = 5) (g6 : ¬ m.kd = 6) :
    Calls Tryz.prog 149 #[.agg (mCell m dv lv).toArray] w fun r w' => SamePost (zeroS m) w r w' := by
  have hsm := Lib.hid (fun (m' : MsgD) (d' l' : Value) W (h : MsgAt W [] m' d' l') (c : MCnt m') => msame_any m' zeroM d' l' (.slice none 0 0) (.slice none 0 0) W h ⟨Ds.nil _ _, Ens.nil _ _⟩ c ⟨by simp [zeroM, zeroD], cnt_nil⟩)
  have HZ : Hid (∀ m', m' = clearM m → sameM m' zeroM = zeroS m) := fun m' h => by subst h; rfl
  have hav := ha.avoid (M' := [w.heap.size]) (by simp)
  obtain ⟨Aa, na, rfl, _⟩ := ha.1.len
  obtain ⟨Ba, ka, rfl, _⟩ := ha.2.len
  have Hca := Lib.hid ca
  generalize zeroS m = R at *
  clear ha ca
  obtain ⟨kd, ⟨kind, ag, sh, seq, ep, ds, ser, fr, etg⟩, tag, code, nn, term, had, log, commit, len⟩ := m
  simp only [mCell, eCell, List.cons_append, List.nil_append]
  simp only [MsgAt] at hav
  generalize hdn : ds.length = dn at *
  generalize hln : log.length = ln at *
  have Hdn := Lib.hid hdn; have Hln := Lib.hid hln
  clear hdn hln
  obtain ⟨w2, hw2⟩ : ∃ w2, w2 = w.alloc (.cells #[.int .i64 kd, .int .i64 kind, .int .i64 ag, .int .i64 sh, .int .i64 seq, .int .i64 ep, .slice Aa dn na, .string ser, .int .i64 fr, .int .i64 etg, .int .i64 tag, .int .i64 code, .int .u64 nn, .int .i64 term, .int .i64 had, .slice Ba ln ka, .int .i64 commit, .int .i64 len] 68) := ⟨_, rfl⟩
  have hk2 : Keeps [] w w2 := by rw [hw2]; exact (Keeps.refl _ _).alloc _
  have hBa : Blk w2 w.heap.size 68 #[.int .i64 kd, .int .i64 kind, .int .i64 ag, .int .i64 sh, .int .i64 seq, .int .i64 ep, .slice Aa dn na, .string ser, .int .i64 fr, .int .i64 etg, .int .i64 tag, .int .i64 code, .int .u64 nn, .int .i64 term, .int .i64 had, .slice Ba ln ka, .int .i64 commit, .int .i64 len] := by rw [hw2]; exact Blk.new w _ _
  have Hw2 := Lib.hid hw2; have HBa := Lib.hid hBa; have Hk2 := Lib.hid hk2
  have Hd2 := Lib.hid (hav.1.keep hk2 (by simp)); have Hl2 := Lib.hid (hav.2.keep hk2 (by simp))
  clear hw2 hBa hk2 hav
  show Calls Tryz.prog 149 #[.agg #[.int .i64 kd, .int .i64 kind, .int .i64 ag, .int .i64 sh, .int .i64 seq, .int .i64 ep, .slice Aa dn na, .string ser, .int .i64 fr, .int .i64 etg, .int .i64 tag, .int .i64 code, .int .u64 nn, .int .i64 term, .int .i64 had, .slice Ba ln ka, .int .i64 commit, .int .i64 len]] w fun r w' => SamePost R w r w'
  go_enter Tryz.func149, Tryz.ntmps149
  go_upto_region 1 with (fail)
  rw [← Hw2.out]
  generalize hgs : w.heap.size = g at HBa Hd2 Hl2 ⊢
  have Hgs := Lib.hid hgs
  clear Hw2 hgs
  obtain ⟨q0, q1, q2, q3, q4, q5, q6, q7, q8, q9, qa, qb, qc, qd, qe, qf, qg, qh, qz⟩ := blk18 HBa.out
  simp only [] at g1 g2 g3 g4 g5 g6
  have h1 : (kd == 1) = false := by simpa using g1
  have h2 : (kd == 2) = false := by simpa using g2
  have h3 : (kd == 3) = false := by simpa using g3
  have h4 : (kd == 4) = false := by simpa using g4
  have h5 : (kd == 5) = false := by simpa using g5
  have h6 : (kd == 6) = false := by simpa using g6
  obtain ⟨w5, hw5⟩ : ∃ w5, w5 = (w2.setCell ⟨g, 0, none⟩ (.int .i64 0)) := ⟨_, rfl⟩
  have hk : Keeps [g] w2 w5 := by rw [hw5]; exact (Keeps.refl _ _).setCell (by simp) _
  have hB5 : Blk w5 g 68 #[.int .i64 0, .int .i64 kind, .int .i64 ag, .int .i64 sh, .int .i64 seq, .int .i64 ep, .slice Aa dn na, .string ser, .int .i64 fr, .int .i64 etg, .int .i64 tag, .int .i64 code, .int .u64 nn, .int .i64 term, .int .i64 had, .slice Ba ln ka, .int .i64 commit, .int .i64 len] := by rw [hw5]; exact (by simpa using (HBa.out.set_ 0 (.int .i64 0)) : Blk _ g _ _)
  have hS := hsm.out ⟨0, ⟨kind, ag, sh, seq, ep, ds, ser, fr, etg⟩, tag, code, nn, term, had, log, commit, len⟩ (.slice Aa dn na) (.slice Ba ln ka) w5 ⟨(Hd2.out.keep hk (by simp)).avoid (by simp), (Hl2.out.keep hk (by simp)).avoid (by simp)⟩ ⟨Hca.out.1, Hca.out.2⟩
  rw [HZ.out ⟨0, ⟨kind, ag, sh, seq, ep, ds, ser, fr, etg⟩, tag, code, nn, term, had, log, commit, len⟩ (by simp [clearM, *])] at hS
  simp only [mCell, eCell, zeroM, zeroD, List.cons_append, List.nil_append] at hS
  have HS := Lib.hid (show Calls Tryz.prog 50 #[.agg #[.int .i64 0, .int .i64 kind, .int .i64 ag, .int .i64 sh, .int .i64 seq, .int .i64 ep, .slice Aa dn na, .string ser, .int .i64 fr, .int .i64 etg, .int .i64 tag, .int .i64 code, .int .u64 nn, .int .i64 term, .int .i64 had, .slice Ba ln ka, .int .i64 commit, .int .i64 len], .agg #[.int .i64 0, .int .i64 0, .int .i64 0, .int .i64 0, .int .i64 0, .int .i64 0, .slice none 0 0, .string ⟨#[]⟩, .int .i64 0, .int .i64 0, .int .i64 0, .int .i64 0, .int .u64 0, .int .i64 0, .int .i64 0, .slice none 0 0, .int .i64 0, .int .i64 0]] w5 fun r w' => SamePost R w5 r w' from hS)
  have Hbw := Lib.hid (Hk2.out.trans hk (by intro x hx; simp at hx; right; have := Hgs.out; omega)).below
  have Hw5 := Lib.hid hw5; have HB5 := Lib.hid hB5
  clear hk hw5 hB5 hS hsm HZ
  go_upto_region 15 with (fail)
  rw [← Hw5.out]
  clear q0 q1 q2 q3 q4 q5 q6 q7 q8 q9 qa qb qc qd qe qf qg qh qz
  have HR := Lib.hid (blk_range HB5.out)
  go_wp2_with (refine wpList_load_mid rfl 68 (.tmp 1) rfl g 0 rfl _ _ HR.out Tryz.underlying68 rfl (by kernel_rfl) ?_)
  refine HS.out.mono ?_
  rintro e w6 ⟨rfl, hb6⟩
  have Hb6 := Lib.hid (below_then Hbw.out hb6)
  clear hb6
  go_wp2
  go_ret
  exact ⟨rfl, Hb6.out⟩
set_option maxRecDepth 100000 in
set_option maxHeartbeats 2000000 in
theorem mzero_1 (m : MsgD) (dv lv : Value) (w : World) (ha : MsgAt w [] m dv lv) (ca : MCnt m) (hk0 : m.kd = 1) :
    Calls Tryz.prog 149 #[.agg (mCell m dv lv).toArray] w fun r w' => SamePost (zeroS m) w r w' := by
  have hsm := Lib.hid (fun (m' : MsgD) (d' l' : Value) W (h : MsgAt W [] m' d' l') (c : MCnt m') => msame_any m' zeroM d' l' (.slice none 0 0) (.slice none 0 0) W h ⟨Ds.nil _ _, Ens.nil _ _⟩ c ⟨by simp [zeroM, zeroD], cnt_nil⟩)
  have HZ : Hid (∀ m', m' = clearM m → sameM m' zeroM = zeroS m) := fun m' h => by subst h; rfl
  have hav := ha.avoid (M' := [w.heap.size]) (by simp)
  obtain ⟨Aa, na, rfl, _⟩ := ha.1.len
  obtain ⟨Ba, ka, rfl, _⟩ := ha.2.len
  have Hca := Lib.hid ca
  generalize zeroS m = R at *
  clear ha ca
  obtain ⟨kd, ⟨kind, ag, sh, seq, ep, ds, ser, fr, etg⟩, tag, code, nn, term, had, log, commit, len⟩ := m
  simp only [mCell, eCell, List.cons_append, List.nil_append]
  simp only [MsgAt] at hav
  generalize hdn : ds.length = dn at *
  generalize hln : log.length = ln at *
  have Hdn := Lib.hid hdn; have Hln := Lib.hid hln
  clear hdn hln
  obtain ⟨w2, hw2⟩ : ∃ w2, w2 = w.alloc (.cells #[.int .i64 kd, .int .i64 kind, .int .i64 ag, .int .i64 sh, .int .i64 seq, .int .i64 ep, .slice Aa dn na, .string ser, .int .i64 fr, .int .i64 etg, .int .i64 tag, .int .i64 code, .int .u64 nn, .int .i64 term, .int .i64 had, .slice Ba ln ka, .int .i64 commit, .int .i64 len] 68) := ⟨_, rfl⟩
  have hk2 : Keeps [] w w2 := by rw [hw2]; exact (Keeps.refl _ _).alloc _
  have hBa : Blk w2 w.heap.size 68 #[.int .i64 kd, .int .i64 kind, .int .i64 ag, .int .i64 sh, .int .i64 seq, .int .i64 ep, .slice Aa dn na, .string ser, .int .i64 fr, .int .i64 etg, .int .i64 tag, .int .i64 code, .int .u64 nn, .int .i64 term, .int .i64 had, .slice Ba ln ka, .int .i64 commit, .int .i64 len] := by rw [hw2]; exact Blk.new w _ _
  have Hw2 := Lib.hid hw2; have HBa := Lib.hid hBa; have Hk2 := Lib.hid hk2
  have Hd2 := Lib.hid (hav.1.keep hk2 (by simp)); have Hl2 := Lib.hid (hav.2.keep hk2 (by simp))
  clear hw2 hBa hk2 hav
  show Calls Tryz.prog 149 #[.agg #[.int .i64 kd, .int .i64 kind, .int .i64 ag, .int .i64 sh, .int .i64 seq, .int .i64 ep, .slice Aa dn na, .string ser, .int .i64 fr, .int .i64 etg, .int .i64 tag, .int .i64 code, .int .u64 nn, .int .i64 term, .int .i64 had, .slice Ba ln ka, .int .i64 commit, .int .i64 len]] w fun r w' => SamePost R w r w'
  go_enter Tryz.func149, Tryz.ntmps149
  go_upto_region 1 with (fail)
  rw [← Hw2.out]
  generalize hgs : w.heap.size = g at HBa Hd2 Hl2 ⊢
  have Hgs := Lib.hid hgs
  clear Hw2 hgs
  obtain ⟨q0, q1, q2, q3, q4, q5, q6, q7, q8, q9, qa, qb, qc, qd, qe, qf, qg, qh, qz⟩ := blk18 HBa.out
  simp only [] at hk0
  subst hk0
  obtain ⟨w5, hw5⟩ : ∃ w5, w5 = ((((((((((w2.setCell ⟨g, 1, none⟩ (.int .i64 0)).setCell ⟨g, 2, none⟩ (.int .i64 0)).setCell ⟨g, 3, none⟩ (.int .i64 0)).setCell ⟨g, 4, none⟩ (.int .i64 0)).setCell ⟨g, 5, none⟩ (.int .i64 0)).setCell ⟨g, 6, none⟩ (.slice none 0 0)).setCell ⟨g, 7, none⟩ (.string ⟨#[]⟩)).setCell ⟨g, 8, none⟩ (.int .i64 0)).setCell ⟨g, 9, none⟩ (.int .i64 0)).setCell ⟨g, 0, none⟩ (.int .i64 0)) := ⟨_, rfl⟩
  have hk : Keeps [g] w2 w5 := by rw [hw5]; exact ((((((((((Keeps.refl _ _).setCell (by simp) _).setCell (by simp) _).setCell (by simp) _).setCell (by simp) _).setCell (by simp) _).setCell (by simp) _).setCell (by simp) _).setCell (by simp) _).setCell (by simp) _).setCell (by simp) _
  have hB5 : Blk w5 g 68 #[.int .i64 0, .int .i64 0, .int .i64 0, .int .i64 0, .int .i64 0, .int .i64 0, .slice none 0 0, .string ⟨#[]⟩, .int .i64 0, .int .i64 0, .int .i64 tag, .int .i64 code, .int .u64 nn, .int .i64 term, .int .i64 had, .slice Ba ln ka, .int .i64 commit, .int .i64 len] := by rw [hw5]; exact (by simpa using ((((((((((HBa.out.set_ 1 (.int .i64 0)).set_ 2 (.int .i64 0)).set_ 3 (.int .i64 0)).set_ 4 (.int .i64 0)).set_ 5 (.int .i64 0)).set_ 6 (.slice none 0 0)).set_ 7 (.string ⟨#[]⟩)).set_ 8 (.int .i64 0)).set_ 9 (.int .i64 0)).set_ 0 (.int .i64 0)) : Blk _ g _ _)
  have hS := hsm.out ⟨0, zeroD, tag, code, nn, term, had, log, commit, len⟩ (.slice none 0 0) (.slice Ba ln ka) w5 ⟨Ds.nil _ _, (Hl2.out.keep hk (by simp)).avoid (by simp)⟩ ⟨by simp [zeroD], Hca.out.2⟩
  rw [HZ.out ⟨0, zeroD, tag, code, nn, term, had, log, commit, len⟩ (by simp [clearM])] at hS
  simp only [mCell, eCell, zeroM, zeroD, List.cons_append, List.nil_append] at hS
  have HS := Lib.hid (show Calls Tryz.prog 50 #[.agg #[.int .i64 0, .int .i64 0, .int .i64 0, .int .i64 0, .int .i64 0, .int .i64 0, .slice none 0 0, .string ⟨#[]⟩, .int .i64 0, .int .i64 0, .int .i64 tag, .int .i64 code, .int .u64 nn, .int .i64 term, .int .i64 had, .slice Ba ln ka, .int .i64 commit, .int .i64 len], .agg #[.int .i64 0, .int .i64 0, .int .i64 0, .int .i64 0, .int .i64 0, .int .i64 0, .slice none 0 0, .string ⟨#[]⟩, .int .i64 0, .int .i64 0, .int .i64 0, .int .i64 0, .int .u64 0, .int .i64 0, .int .i64 0, .slice none 0 0, .int .i64 0, .int .i64 0]] w5 fun r w' => SamePost R w5 r w' from hS)
  have Hbw := Lib.hid (Hk2.out.trans hk (by intro x hx; simp at hx; right; have := Hgs.out; omega)).below
  have Hw5 := Lib.hid hw5; have HB5 := Lib.hid hB5
  clear hk hw5 hB5 hS hsm HZ
  go_upto_region 15 with (fail)
  rw [← Hw5.out]
  clear q0 q1 q2 q3 q4 q5 q6 q7 q8 q9 qa qb qc qd qe qf qg qh qz
  have HR := Lib.hid (blk_range HB5.out)
  go_wp2_with (refine wpList_load_mid rfl 68 (.tmp 1) rfl g 0 rfl _ _ HR.out Tryz.underlying68 rfl (by kernel_rfl) ?_)
  refine HS.out.mono ?_
  rintro e w6 ⟨rfl, hb6⟩
  have Hb6 := Lib.hid (below_then Hbw.out hb6)
  clear hb6
  go_wp2
  go_ret
  exact ⟨rfl, Hb6.out⟩
set_option maxRecDepth 100000 in
set_option maxHeartbeats 2000000 in
theorem mzero_2 (m : MsgD) (dv lv : Value) (w : World) (ha : MsgAt w [] m dv lv) (ca : MCnt m) (hk0 : m.kd = 2) :
    Calls Tryz.prog 149 #[.agg (mCell m dv lv).toArray] w fun r w' => SamePost (zeroS m) w r w' := by
  have hsm := Lib.hid (fun (m' : MsgD) (d' l' : Value) W (h : MsgAt W [] m' d' l') (c : MCnt m') => msame_any m' zeroM d' l' (.slice none 0 0) (.slice none 0 0) W h ⟨Ds.nil _ _, Ens.nil _ _⟩ c ⟨by simp [zeroM, zeroD], cnt_nil⟩)
  have HZ : Hid (∀ m', m' = clearM m → sameM m' zeroM = zeroS m) := fun m' h => by subst h; rfl
  have hav := ha.avoid (M' := [w.heap.size]) (by simp)
  obtain ⟨Aa, na, rfl, _⟩ := ha.1.len
  obtain ⟨Ba, ka, rfl, _⟩ := ha.2.len
  have Hca := Lib.hid ca
  generalize zeroS m = R at *
  clear ha ca
  obtain ⟨kd, ⟨kind, ag, sh, seq, ep, ds, ser, fr, etg⟩, tag, code, nn, term, had, log, commit, len⟩ := m
  simp only [mCell, eCell, List.cons_append, List.nil_append]
  simp only [MsgAt] at hav
  generalize hdn : ds.length = dn at *
  generalize hln : log.length = ln at *
  have Hdn := Lib.hid hdn; have Hln := Lib.hid hln
  clear hdn hln
  obtain ⟨w2, hw2⟩ : ∃ w2, w2 = w.alloc (.cells #[.int .i64 kd, .int .i64 kind, .int .i64 ag, .int .i64 sh, .int .i64 seq, .int .i64 ep, .slice Aa dn na, .string ser, .int .i64 fr, .int .i64 etg, .int .i64 tag, .int .i64 code, .int .u64 nn, .int .i64 term, .int .i64 had, .slice Ba ln ka, .int .i64 commit, .int .i64 len] 68) := ⟨_, rfl⟩
  have hk2 : Keeps [] w w2 := by rw [hw2]; exact (Keeps.refl _ _).alloc _
  have hBa : Blk w2 w.heap.size 68 #[.int .i64 kd, .int .i64 kind, .int .i64 ag, .int .i64 sh, .int .i64 seq, .int .i64 ep, .slice Aa dn na, .string ser, .int .i64 fr, .int .i64 etg, .int .i64 tag, .int .i64 code, .int .u64 nn, .int .i64 term, .int .i64 had, .slice Ba ln ka, .int .i64 commit, .int .i64 len] := by rw [hw2]; exact Blk.new w _ _
  have Hw2 := Lib.hid hw2; have HBa := Lib.hid hBa; have Hk2 := Lib.hid hk2
  have Hd2 := Lib.hid (hav.1.keep hk2 (by simp)); have Hl2 := Lib.hid (hav.2.keep hk2 (by simp))
  clear hw2 hBa hk2 hav
  show Calls Tryz.prog 149 #[.agg #[.int .i64 kd, .int .i64 kind, .int .i64 ag, .int .i64 sh, .int .i64 seq, .int .i64 ep, .slice Aa dn na, .string ser, .int .i64 fr, .int .i64 etg, .int .i64 tag, .int .i64 code, .int .u64 nn, .int .i64 term, .int .i64 had, .slice Ba ln ka, .int .i64 commit, .int .i64 len]] w fun r w' => SamePost R w r w'
  go_enter Tryz.func149, Tryz.ntmps149
  go_upto_region 1 with (fail)
  rw [← Hw2.out]
  generalize hgs : w.heap.size = g at HBa Hd2 Hl2 ⊢
  have Hgs := Lib.hid hgs
  clear Hw2 hgs
  obtain ⟨q0, q1, q2, q3, q4, q5, q6, q7, q8, q9, qa, qb, qc, qd, qe, qf, qg, qh, qz⟩ := blk18 HBa.out
  simp only [] at hk0
  subst hk0
  obtain ⟨w5, hw5⟩ : ∃ w5, w5 = ((((w2.setCell ⟨g, 10, none⟩ (.int .i64 0)).setCell ⟨g, 11, none⟩ (.int .i64 0)).setCell ⟨g, 12, none⟩ (.int .u64 0)).setCell ⟨g, 0, none⟩ (.int .i64 0)) := ⟨_, rfl⟩
  have hk : Keeps [g] w2 w5 := by rw [hw5]; exact ((((Keeps.refl _ _).setCell (by simp) _).setCell (by simp) _).setCell (by simp) _).setCell (by simp) _
  have hB5 : Blk w5 g 68 #[.int .i64 0, .int .i64 kind, .int .i64 ag, .int .i64 sh, .int .i64 seq, .int .i64 ep, .slice Aa dn na, .string ser, .int .i64 fr, .int .i64 etg, .int .i64 0, .int .i64 0, .int .u64 0, .int .i64 term, .int .i64 had, .slice Ba ln ka, .int .i64 commit, .int .i64 len] := by rw [hw5]; exact (by simpa using ((((HBa.out.set_ 10 (.int .i64 0)).set_ 11 (.int .i64 0)).set_ 12 (.int .u64 0)).set_ 0 (.int .i64 0)) : Blk _ g _ _)
  have hS := hsm.out ⟨0, ⟨kind, ag, sh, seq, ep, ds, ser, fr, etg⟩, 0, 0, 0, term, had, log, commit, len⟩ (.slice Aa dn na) (.slice Ba ln ka) w5 ⟨(Hd2.out.keep hk (by simp)).avoid (by simp), (Hl2.out.keep hk (by simp)).avoid (by simp)⟩ ⟨Hca.out.1, Hca.out.2⟩
  rw [HZ.out ⟨0, ⟨kind, ag, sh, seq, ep, ds, ser, fr, etg⟩, 0, 0, 0, term, had, log, commit, len⟩ (by simp [clearM])] at hS
  simp only [mCell, eCell, zeroM, zeroD, List.cons_append, List.nil_append] at hS
  have HS := Lib.hid (show Calls Tryz.prog 50 #[.agg #[.int .i64 0, .int .i64 kind, .int .i64 ag, .int .i64 sh, .int .i64 seq, .int .i64 ep, .slice Aa dn na, .string ser, .int .i64 fr, .int .i64 etg, .int .i64 0, .int .i64 0, .int .u64 0, .int .i64 term, .int .i64 had, .slice Ba ln ka, .int .i64 commit, .int .i64 len], .agg #[.int .i64 0, .int .i64 0, .int .i64 0, .int .i64 0, .int .i64 0, .int .i64 0, .slice none 0 0, .string ⟨#[]⟩, .int .i64 0, .int .i64 0, .int .i64 0, .int .i64 0, .int .u64 0, .int .i64 0, .int .i64 0, .slice none 0 0, .int .i64 0, .int .i64 0]] w5 fun r w' => SamePost R w5 r w' from hS)
  have Hbw := Lib.hid (Hk2.out.trans hk (by intro x hx; simp at hx; right; have := Hgs.out; omega)).below
  have Hw5 := Lib.hid hw5; have HB5 := Lib.hid hB5
  clear hk hw5 hB5 hS hsm HZ
  go_upto_region 15 with (fail)
  rw [← Hw5.out]
  clear q0 q1 q2 q3 q4 q5 q6 q7 q8 q9 qa qb qc qd qe qf qg qh qz
  have HR := Lib.hid (blk_range HB5.out)
  go_wp2_with (refine wpList_load_mid rfl 68 (.tmp 1) rfl g 0 rfl _ _ HR.out Tryz.underlying68 rfl (by kernel_rfl) ?_)
  refine HS.out.mono ?_
  rintro e w6 ⟨rfl, hb6⟩
  have Hb6 := Lib.hid (below_then Hbw.out hb6)
  clear hb6
  go_wp2
  go_ret
  exact ⟨rfl, Hb6.out⟩
set_option maxRecDepth 100000 in
set_option maxHeartbeats 2000000 in
theorem mzero_3 (m : MsgD) (dv lv : Value) (w : World) (ha : MsgAt w [] m dv lv) (ca : MCnt m) (hk0 : m.kd = 3) :
    Calls Tryz.prog 149 #[.agg (mCell m dv lv).toArray] w fun r w' => SamePost (zeroS m) w r w' := by
  have hsm := Lib.hid (fun (m' : MsgD) (d' l' : Value) W (h : MsgAt W [] m' d' l') (c : MCnt m') => msame_any m' zeroM d' l' (.slice none 0 0) (.slice none 0 0) W h ⟨Ds.nil _ _, Ens.nil _ _⟩ c ⟨by simp [zeroM, zeroD], cnt_nil⟩)
  have HZ : Hid (∀ m', m' = clearM m → sameM m' zeroM = zeroS m) := fun m' h => by subst h; rfl
  have hav := ha.avoid (M' := [w.heap.size]) (by simp)
  obtain ⟨Aa, na, rfl, _⟩ := ha.1.len
  obtain ⟨Ba, ka, rfl, _⟩ := ha.2.len
  have Hca := Lib.hid ca
  generalize zeroS m = R at *
  clear ha ca
  obtain ⟨kd, ⟨kind, ag, sh, seq, ep, ds, ser, fr, etg⟩, tag, code, nn, term, had, log, commit, len⟩ := m
  simp only [mCell, eCell, List.cons_append, List.nil_append]
  simp only [MsgAt] at hav
  generalize hdn : ds.length = dn at *
  generalize hln : log.length = ln at *
  have Hdn := Lib.hid hdn; have Hln := Lib.hid hln
  clear hdn hln
  obtain ⟨w2, hw2⟩ : ∃ w2, w2 = w.alloc (.cells #[.int .i64 kd, .int .i64 kind, .int .i64 ag, .int .i64 sh, .int .i64 seq, .int .i64 ep, .slice Aa dn na, .string ser, .int .i64 fr, .int .i64 etg, .int .i64 tag, .int .i64 code, .int .u64 nn, .int .i64 term, .int .i64 had, .slice Ba ln ka, .int .i64 commit, .int .i64 len] 68) := ⟨_, rfl⟩
  have hk2 : Keeps [] w w2 := by rw [hw2]; exact (Keeps.refl _ _).alloc _
  have hBa : Blk w2 w.heap.size 68 #[.int .i64 kd, .int .i64 kind, .int .i64 ag, .int .i64 sh, .int .i64 seq, .int .i64 ep, .slice Aa dn na, .string ser, .int .i64 fr, .int .i64 etg, .int .i64 tag, .int .i64 code, .int .u64 nn, .int .i64 term, .int .i64 had, .slice Ba ln ka, .int .i64 commit, .int .i64 len] := by rw [hw2]; exact Blk.new w _ _
  have Hw2 := Lib.hid hw2; have HBa := Lib.hid hBa; have Hk2 := Lib.hid hk2
  have Hd2 := Lib.hid (hav.1.keep hk2 (by simp)); have Hl2 := Lib.hid (hav.2.keep hk2 (by simp))
  clear hw2 hBa hk2 hav
  show Calls Tryz.prog 149 #[.agg #[.int .i64 kd, .int .i64 kind, .int .i64 ag, .int .i64 sh, .int .i64 seq, .int .i64 ep, .slice Aa dn na, .string ser, .int .i64 fr, .int .i64 etg, .int .i64 tag, .int .i64 code, .int .u64 nn, .int .i64 term, .int .i64 had, .slice Ba ln ka, .int .i64 commit, .int .i64 len]] w fun r w' => SamePost R w r w'
  go_enter Tryz.func149, Tryz.ntmps149
  go_upto_region 1 with (fail)
  rw [← Hw2.out]
  generalize hgs : w.heap.size = g at HBa Hd2 Hl2 ⊢
  have Hgs := Lib.hid hgs
  clear Hw2 hgs
  obtain ⟨q0, q1, q2, q3, q4, q5, q6, q7, q8, q9, qa, qb, qc, qd, qe, qf, qg, qh, qz⟩ := blk18 HBa.out
  simp only [] at hk0
  subst hk0
  obtain ⟨w5, hw5⟩ : ∃ w5, w5 = ((w2.setCell ⟨g, 13, none⟩ (.int .i64 0)).setCell ⟨g, 0, none⟩ (.int .i64 0)) := ⟨_, rfl⟩
  have hk : Keeps [g] w2 w5 := by rw [hw5]; exact ((Keeps.refl _ _).setCell (by simp) _).setCell (by simp) _
  have hB5 : Blk w5 g 68 #[.int .i64 0, .int .i64 kind, .int .i64 ag, .int .i64 sh, .int .i64 seq, .int .i64 ep, .slice Aa dn na, .string ser, .int .i64 fr, .int .i64 etg, .int .i64 tag, .int .i64 code, .int .u64 nn, .int .i64 0, .int .i64 had, .slice Ba ln ka, .int .i64 commit, .int .i64 len] := by rw [hw5]; exact (by simpa using ((HBa.out.set_ 13 (.int .i64 0)).set_ 0 (.int .i64 0)) : Blk _ g _ _)
  have hS := hsm.out ⟨0, ⟨kind, ag, sh, seq, ep, ds, ser, fr, etg⟩, tag, code, nn, 0, had, log, commit, len⟩ (.slice Aa dn na) (.slice Ba ln ka) w5 ⟨(Hd2.out.keep hk (by simp)).avoid (by simp), (Hl2.out.keep hk (by simp)).avoid (by simp)⟩ ⟨Hca.out.1, Hca.out.2⟩
  rw [HZ.out ⟨0, ⟨kind, ag, sh, seq, ep, ds, ser, fr, etg⟩, tag, code, nn, 0, had, log, commit, len⟩ (by simp [clearM])] at hS
  simp only [mCell, eCell, zeroM, zeroD, List.cons_append, List.nil_append] at hS
  have HS := Lib.hid (show Calls Tryz.prog 50 #[.agg #[.int .i64 0, .int .i64 kind, .int .i64 ag, .int .i64 sh, .int .i64 seq, .int .i64 ep, .slice Aa dn na, .string ser, .int .i64 fr, .int .i64 etg, .int .i64 tag, .int .i64 code, .int .u64 nn, .int .i64 0, .int .i64 had, .slice Ba ln ka, .int .i64 commit, .int .i64 len], .agg #[.int .i64 0, .int .i64 0, .int .i64 0, .int .i64 0, .int .i64 0, .int .i64 0, .slice none 0 0, .string ⟨#[]⟩, .int .i64 0, .int .i64 0, .int .i64 0, .int .i64 0, .int .u64 0, .int .i64 0, .int .i64 0, .slice none 0 0, .int .i64 0, .int .i64 0]] w5 fun r w' => SamePost R w5 r w' from hS)
  have Hbw := Lib.hid (Hk2.out.trans hk (by intro x hx; simp at hx; right; have := Hgs.out; omega)).below
  have Hw5 := Lib.hid hw5; have HB5 := Lib.hid hB5
  clear hk hw5 hB5 hS hsm HZ
  go_upto_region 15 with (fail)
  rw [← Hw5.out]
  clear q0 q1 q2 q3 q4 q5 q6 q7 q8 q9 qa qb qc qd qe qf qg qh qz
  have HR := Lib.hid (blk_range HB5.out)
  go_wp2_with (refine wpList_load_mid rfl 68 (.tmp 1) rfl g 0 rfl _ _ HR.out Tryz.underlying68 rfl (by kernel_rfl) ?_)
  refine HS.out.mono ?_
  rintro e w6 ⟨rfl, hb6⟩
  have Hb6 := Lib.hid (below_then Hbw.out hb6)
  clear hb6
  go_wp2
  go_ret
  exact ⟨rfl, Hb6.out⟩
set_option maxRecDepth 100000 in
set_option maxHeartbeats 2000000 in
theorem mzero_4 (m : MsgD) (dv lv : Value) (w : World) (ha : MsgAt w [] m dv lv) (ca : MCnt m) (hk0 : m.kd = 4) :
    Calls Tryz.prog 149 #[.agg (mCell m dv lv).toArray] w fun r w' => SamePost (zeroS m) w r w' := by
  have hsm := Lib.hid (fun (m' : MsgD) (d' l' : Value) W (h : MsgAt W [] m' d' l') (c : MCnt m') => msame_any m' zeroM d' l' (.slice none 0 0) (.slice none 0 0) W h ⟨Ds.nil _ _, Ens.nil _ _⟩ c ⟨by simp [zeroM, zeroD], cnt_nil⟩)
  have HZ : Hid (∀ m', m' = clearM m → sameM m' zeroM = zeroS m) := fun m' h => by subst h; rfl
  have hav := ha.avoid (M' := [w.heap.size]) (by simp)
  obtain ⟨Aa, na, rfl, _⟩ := ha.1.len
  obtain ⟨Ba, ka, rfl, _⟩ := ha.2.len
  have Hca := Lib.hid ca
  generalize zeroS m = R at *
  clear ha ca
  obtain ⟨kd, ⟨kind, ag, sh, seq, ep, ds, ser, fr, etg⟩, tag, code, nn, term, had, log, commit, len⟩ := m
  simp only [mCell, eCell, List.cons_append, List.nil_append]
  simp only [MsgAt] at hav
  generalize hdn : ds.length = dn at *
  generalize hln : log.length = ln at *
  have Hdn := Lib.hid hdn; have Hln := Lib.hid hln
  clear hdn hln
  obtain ⟨w2, hw2⟩ : ∃ w2, w2 = w.alloc (.cells #[.int .i64 kd, .int .i64 kind, .int .i64 ag, .int .i64 sh, .int .i64 seq, .int .i64 ep, .slice Aa dn na, .string ser, .int .i64 fr, .int .i64 etg, .int .i64 tag, .int .i64 code, .int .u64 nn, .int .i64 term, .int .i64 had, .slice Ba ln ka, .int .i64 commit, .int .i64 len] 68) := ⟨_, rfl⟩
  have hk2 : Keeps [] w w2 := by rw [hw2]; exact (Keeps.refl _ _).alloc _
  have hBa : Blk w2 w.heap.size 68 #[.int .i64 kd, .int .i64 kind, .int .i64 ag, .int .i64 sh, .int .i64 seq, .int .i64 ep, .slice Aa dn na, .string ser, .int .i64 fr, .int .i64 etg, .int .i64 tag, .int .i64 code, .int .u64 nn, .int .i64 term, .int .i64 had, .slice Ba ln ka, .int .i64 commit, .int .i64 len] := by rw [hw2]; exact Blk.new w _ _
  have Hw2 := Lib.hid hw2; have HBa := Lib.hid hBa; have Hk2 := Lib.hid hk2
  have Hd2 := Lib.hid (hav.1.keep hk2 (by simp)); have Hl2 := Lib.hid (hav.2.keep hk2 (by simp))
  clear hw2 hBa hk2 hav
  show Calls Tryz.prog 149 #[.agg #[.int .i64 kd, .int .i64 kind, .int .i64 ag, .int .i64 sh, .int .i64 seq, .int .i64 ep, .slice Aa dn na, .string ser, .int .i64 fr, .int .i64 etg, .int .i64 tag, .int .i64 code, .int .u64 nn, .int .i64 term, .int .i64 had, .slice Ba ln ka, .int .i64 commit, .int .i64 len]] w fun r w' => SamePost R w r w'
  go_enter Tryz.func149, Tryz.ntmps149
  go_upto_region 1 with (fail)
  rw [← Hw2.out]
  generalize hgs : w.heap.size = g at HBa Hd2 Hl2 ⊢
  have Hgs := Lib.hid hgs
  clear Hw2 hgs
  obtain ⟨q0, q1, q2, q3, q4, q5, q6, q7, q8, q9, qa, qb, qc, qd, qe, qf, qg, qh, qz⟩ := blk18 HBa.out
  simp only [] at hk0
  subst hk0
  obtain ⟨w5, hw5⟩ : ∃ w5, w5 = ((((w2.setCell ⟨g, 13, none⟩ (.int .i64 0)).setCell ⟨g, 14, none⟩ (.int .i64 0)).setCell ⟨g, 15, none⟩ (.slice none 0 0)).setCell ⟨g, 0, none⟩ (.int .i64 0)) := ⟨_, rfl⟩
  have hk : Keeps [g] w2 w5 := by rw [hw5]; exact ((((Keeps.refl _ _).setCell (by simp) _).setCell (by simp) _).setCell (by simp) _).setCell (by simp) _
  have hB5 : Blk w5 g 68 #[.int .i64 0, .int .i64 kind, .int .i64 ag, .int .i64 sh, .int .i64 seq, .int .i64 ep, .slice Aa dn na, .string ser, .int .i64 fr, .int .i64 etg, .int .i64 tag, .int .i64 code, .int .u64 nn, .int .i64 0, .int .i64 0, .slice none 0 0, .int .i64 commit, .int .i64 len] := by rw [hw5]; exact (by simpa using ((((HBa.out.set_ 13 (.int .i64 0)).set_ 14 (.int .i64 0)).set_ 15 (.slice none 0 0)).set_ 0 (.int .i64 0)) : Blk _ g _ _)
  have hS := hsm.out ⟨0, ⟨kind, ag, sh, seq, ep, ds, ser, fr, etg⟩, tag, code, nn, 0, 0, [], commit, len⟩ (.slice Aa dn na) (.slice none 0 0) w5 ⟨(Hd2.out.keep hk (by simp)).avoid (by simp), Ens.nil _ _⟩ ⟨Hca.out.1, cnt_nil⟩
  rw [HZ.out ⟨0, ⟨kind, ag, sh, seq, ep, ds, ser, fr, etg⟩, tag, code, nn, 0, 0, [], commit, len⟩ (by simp [clearM])] at hS
  simp only [mCell, eCell, zeroM, zeroD, List.cons_append, List.nil_append] at hS
  have HS := Lib.hid (show Calls Tryz.prog 50 #[.agg #[.int .i64 0, .int .i64 kind, .int .i64 ag, .int .i64 sh, .int .i64 seq, .int .i64 ep, .slice Aa dn na, .string ser, .int .i64 fr, .int .i64 etg, .int .i64 tag, .int .i64 code, .int .u64 nn, .int .i64 0, .int .i64 0, .slice none 0 0, .int .i64 commit, .int .i64 len], .agg #[.int .i64 0, .int .i64 0, .int .i64 0, .int .i64 0, .int .i64 0, .int .i64 0, .slice none 0 0, .string ⟨#[]⟩, .int .i64 0, .int .i64 0, .int .i64 0, .int .i64 0, .int .u64 0, .int .i64 0, .int .i64 0, .slice none 0 0, .int .i64 0, .int .i64 0]] w5 fun r w' => SamePost R w5 r w' from hS)
  have Hbw := Lib.hid (Hk2.out.trans hk (by intro x hx; simp at hx; right; have := Hgs.out; omega)).below
  have Hw5 := Lib.hid hw5; have HB5 := Lib.hid hB5
  clear hk hw5 hB5 hS hsm HZ
  go_upto_region 15 with (fail)
  rw [← Hw5.out]
  clear q0 q1 q2 q3 q4 q5 q6 q7 q8 q9 qa qb qc qd qe qf qg qh qz
  have HR := Lib.hid (blk_range HB5.out)
  go_wp2_with (refine wpList_load_mid rfl 68 (.tmp 1) rfl g 0 rfl _ _ HR.out Tryz.underlying68 rfl (by kernel_rfl) ?_)
  refine HS.out.mono ?_
  rintro e w6 ⟨rfl, hb6⟩
  have Hb6 := Lib.hid (below_then Hbw.out hb6)
  clear hb6
  go_wp2
  go_ret
  exact ⟨rfl, Hb6.out⟩
set_option maxRecDepth 100000 in
set_option maxHeartbeats 2000000 in
theorem mzero_5 (m : MsgD) (dv lv : Value) (w : World) (ha : MsgAt w [] m dv lv) (ca : MCnt m) (hk0 : m.kd = 5) :
    Calls Tryz.prog 149 #[.agg (mCell m dv lv).toArray] w fun r w' => SamePost (zeroS m) w r w' := by
  have hsm := Lib.hid (fun (m' : MsgD) (d' l' : Value) W (h : MsgAt W [] m' d' l') (c : MCnt m') => msame_any m' zeroM d' l' (.slice none 0 0) (.slice none 0 0) W h ⟨Ds.nil _ _, Ens.nil _ _⟩ c ⟨by simp [zeroM, zeroD], cnt_nil⟩)
  have HZ : Hid (∀ m', m' = clearM m → sameM m' zeroM = zeroS m) := fun m' h => by subst h; rfl
  have hav := ha.avoid (M' := [w.heap.size]) (by simp)
  obtain ⟨Aa, na, rfl, _⟩ := ha.1.len
  obtain ⟨Ba, ka, rfl, _⟩ := ha.2.len
  have Hca := Lib.hid ca
  generalize zeroS m = R at *
  clear ha ca
  obtain ⟨kd, ⟨kind, ag, sh, seq, ep, ds, ser, fr, etg⟩, tag, code, nn, term, had, log, commit, len⟩ := m
  simp only [mCell, eCell, List.cons_append, List.nil_append]
  simp only [MsgAt] at hav
  generalize hdn : ds.length = dn at *
  generalize hln : log.length = ln at *
  have Hdn := Lib.hid hdn; have Hln := Lib.hid hln
  clear hdn hln
  obtain ⟨w2, hw2⟩ : ∃ w2, w2 = w.alloc (.cells #[.int .i64 kd, .int .i64 kind, .int .i64 ag, .int .i64 sh, .int .i64 seq, .int .i64 ep, .slice Aa dn na, .string ser, .int .i64 fr, .int .i64 etg, .int .i64 tag, .int .i64 code, .int .u64 nn, .int .i64 term, .int .i64 had, .slice Ba ln ka, .int .i64 commit, .int .i64 len] 68) := ⟨_, rfl⟩
  have hk2 : Keeps [] w w2 := by rw [hw2]; exact (Keeps.refl _ _).alloc _
  have hBa : Blk w2 w.heap.size 68 #[.int .i64 kd, .int .i64 kind, .int .i64 ag, .int .i64 sh, .int .i64 seq, .int .i64 ep, .slice Aa dn na, .string ser, .int .i64 fr, .int .i64 etg, .int .i64 tag, .int .i64 code, .int .u64 nn, .int .i64 term, .int .i64 had, .slice Ba ln ka, .int .i64 commit, .int .i64 len] := by rw [hw2]; exact Blk.new w _ _
  have Hw2 := Lib.hid hw2; have HBa := Lib.hid hBa; have Hk2 := Lib.hid hk2
  have Hd2 := Lib.hid (hav.1.keep hk2 (by simp)); have Hl2 := Lib.hid (hav.2.keep hk2 (by simp))
  clear hw2 hBa hk2 hav
  show Calls Tryz.prog 149 #[.agg #[.int .i64 kd, .int .i64 kind, .int .i64 ag, .int .i64 sh, .int .i64 seq, .int .i64 ep, .slice Aa dn na, .string ser, .int .i64 fr, .int .i64 etg, .int .i64 tag, .int .i64 code, .int .u64 nn, .int .i64 term, .int .i64 had, .slice Ba ln ka, .int .i64 commit, .int .i64 len]] w fun r w' => SamePost R w r w'
  go_enter Tryz.func149, Tryz.ntmps149
  go_upto_region 1 with (fail)
  rw [← Hw2.out]
  generalize hgs : w.heap.size = g at HBa Hd2 Hl2 ⊢
  have Hgs := Lib.hid hgs
  clear Hw2 hgs
  obtain ⟨q0, q1, q2, q3, q4, q5, q6, q7, q8, q9, qa, qb, qc, qd, qe, qf, qg, qh, qz⟩ := blk18 HBa.out
  simp only [] at hk0
  subst hk0
  obtain ⟨w5, hw5⟩ : ∃ w5, w5 = ((((w2.setCell ⟨g, 13, none⟩ (.int .i64 0)).setCell ⟨g, 15, none⟩ (.slice none 0 0)).setCell ⟨g, 16, none⟩ (.int .i64 0)).setCell ⟨g, 0, none⟩ (.int .i64 0)) := ⟨_, rfl⟩
  have hk : Keeps [g] w2 w5 := by rw [hw5]; exact ((((Keeps.refl _ _).setCell (by simp) _).setCell (by simp) _).setCell (by simp) _).setCell (by simp) _
  have hB5 : Blk w5 g 68 #[.int .i64 0, .int .i64 kind, .int .i64 ag, .int .i64 sh, .int .i64 seq, .int .i64 ep, .slice Aa dn na, .string ser, .int .i64 fr, .int .i64 etg, .int .i64 tag, .int .i64 code, .int .u64 nn, .int .i64 0, .int .i64 had, .slice none 0 0, .int .i64 0, .int .i64 len] := by rw [hw5]; exact (by simpa using ((((HBa.out.set_ 13 (.int .i64 0)).set_ 15 (.slice none 0 0)).set_ 16 (.int .i64 0)).set_ 0 (.int .i64 0)) : Blk _ g _ _)
  have hS := hsm.out ⟨0, ⟨kind, ag, sh, seq, ep, ds, ser, fr, etg⟩, tag, code, nn, 0, had, [], 0, len⟩ (.slice Aa dn na) (.slice none 0 0) w5 ⟨(Hd2.out.keep hk (by simp)).avoid (by simp), Ens.nil _ _⟩ ⟨Hca.out.1, cnt_nil⟩
  rw [HZ.out ⟨0, ⟨kind, ag, sh, seq, ep, ds, ser, fr, etg⟩, tag, code, nn, 0, had, [], 0, len⟩ (by simp [clearM])] at hS
  simp only [mCell, eCell, zeroM, zeroD, List.cons_append, List.nil_append] at hS
  have HS := Lib.hid (show Calls Tryz.prog 50 #[.agg #[.int .i64 0, .int .i64 kind, .int .i64 ag, .int .i64 sh, .int .i64 seq, .int .i64 ep, .slice Aa dn na, .string ser, .int .i64 fr, .int .i64 etg, .int .i64 tag, .int .i64 code, .int .u64 nn, .int .i64 0, .int .i64 had, .slice none 0 0, .int .i64 0, .int .i64 len], .agg #[.int .i64 0, .int .i64 0, .int .i64 0, .int .i64 0, .int .i64 0, .int .i64 0, .slice none 0 0, .string ⟨#[]⟩, .int .i64 0, .int .i64 0, .int .i64 0, .int .i64 0, .int .u64 0, .int .i64 0, .int .i64 0, .slice none 0 0, .int .i64 0, .int .i64 0]] w5 fun r w' => SamePost R w5 r w' from hS)
  have Hbw := Lib.hid (Hk2.out.trans hk (by intro x hx; simp at hx; right; have := Hgs.out; omega)).below
  have Hw5 := Lib.hid hw5; have HB5 := Lib.hid hB5
  clear hk hw5 hB5 hS hsm HZ
  go_upto_region 15 with (fail)
  rw [← Hw5.out]
  clear q0 q1 q2 q3 q4 q5 q6 q7 q8 q9 qa qb qc qd qe qf qg qh qz
  have HR := Lib.hid (blk_range HB5.out)
  go_wp2_with (refine wpList_load_mid rfl 68 (.tmp 1) rfl g 0 rfl _ _ HR.out Tryz.underlying68 rfl (by kernel_rfl) ?_)
  refine HS.out.mono ?_
  rintro e w6 ⟨rfl, hb6⟩
  have Hb6 := Lib.hid (below_then Hbw.out hb6)
  clear hb6
  go_wp2
  go_ret
  exact ⟨rfl, Hb6.out⟩
set_option maxRecDepth 100000 in
set_option maxHeartbeats 2000000 in
theorem mzero_6 (m : MsgD) (dv lv : Value) (w : World) (ha : MsgAt w [] m dv lv) (ca : MCnt m) (hk0 : m.kd = 6) :
    Calls Tryz.prog 149 #[.agg (mCell m dv lv).toArray] w fun r w' => SamePost (zeroS m) w r w' := by
  have hsm := Lib.hid (fun (m' : MsgD) (d' l' : Value) W (h : MsgAt W [] m' d' l') (c : MCnt m') => msame_any m' zeroM d' l' (.slice none 0 0) (.slice none 0 0) W h ⟨Ds.nil _ _, Ens.nil _ _⟩ c ⟨by simp [zeroM, zeroD], cnt_nil⟩)
  have HZ : Hid (∀ m', m' = clearM m → sameM m' zeroM = zeroS m) := fun m' h => by subst h; rfl
  have hav := ha.avoid (M' := [w.heap.size]) (by simp)
  obtain ⟨Aa, na, rfl, _⟩ := ha.1.len
  obtain ⟨Ba, ka, rfl, _⟩ := ha.2.len
  have Hca := Lib.hid ca
  generalize zeroS m = R at *
  clear ha ca
  obtain ⟨kd, ⟨kind, ag, sh, seq, ep, ds, ser, fr, etg⟩, tag, code, nn, term, had, log, commit, len⟩ := m
  simp only [mCell, eCell, List.cons_append, List.nil_append]
  simp only [MsgAt] at hav
  generalize hdn : ds.length = dn at *
  generalize hln : log.length = ln at *
  have Hdn := Lib.hid hdn; have Hln := Lib.hid hln
  clear hdn hln
  obtain ⟨w2, hw2⟩ : ∃ w2, w2 = w.alloc (.cells #[.int .i64 kd, .int .i64 kind, .int .i64 ag, .int .i64 sh, .int .i64 seq, .int .i64 ep, .slice Aa dn na, .string ser, .int .i64 fr, .int .i64 etg, .int .i64 tag, .int .i64 code, .int .u64 nn, .int .i64 term, .int .i64 had, .slice Ba ln ka, .int .i64 commit, .int .i64 len] 68) := ⟨_, rfl⟩
  have hk2 : Keeps [] w w2 := by rw [hw2]; exact (Keeps.refl _ _).alloc _
  have hBa : Blk w2 w.heap.size 68 #[.int .i64 kd, .int .i64 kind, .int .i64 ag, .int .i64 sh, .int .i64 seq, .int .i64 ep, .slice Aa dn na, .string ser, .int .i64 fr, .int .i64 etg, .int .i64 tag, .int .i64 code, .int .u64 nn, .int .i64 term, .int .i64 had, .slice Ba ln ka, .int .i64 commit, .int .i64 len] := by rw [hw2]; exact Blk.new w _ _
  have Hw2 := Lib.hid hw2; have HBa := Lib.hid hBa; have Hk2 := Lib.hid hk2
  have Hd2 := Lib.hid (hav.1.keep hk2 (by simp)); have Hl2 := Lib.hid (hav.2.keep hk2 (by simp))
  clear hw2 hBa hk2 hav
  show Calls Tryz.prog 149 #[.agg #[.int .i64 kd, .int .i64 kind, .int .i64 ag, .int .i64 sh, .int .i64 seq, .int .i64 ep, .slice Aa dn na, .string ser, .int .i64 fr, .int .i64 etg, .int .i64 tag, .int .i64 code, .int .u64 nn, .int .i64 term, .int .i64 had, .slice Ba ln ka, .int .i64 commit, .int .i64 len]] w fun r w' => SamePost R w r w'
  go_enter Tryz.func149, Tryz.ntmps149
  go_upto_region 1 with (fail)
  rw [← Hw2.out]
  generalize hgs : w.heap.size = g at HBa Hd2 Hl2 ⊢
  have Hgs := Lib.hid hgs
  clear Hw2 hgs
  obtain ⟨q0, q1, q2, q3, q4, q5, q6, q7, q8, q9, qa, qb, qc, qd, qe, qf, qg, qh, qz⟩ := blk18 HBa.out
  simp only [] at hk0
  subst hk0
  obtain ⟨w5, hw5⟩ : ∃ w5, w5 = (((w2.setCell ⟨g, 13, none⟩ (.int .i64 0)).setCell ⟨g, 17, none⟩ (.int .i64 0)).setCell ⟨g, 0, none⟩ (.int .i64 0)) := ⟨_, rfl⟩
  have hk : Keeps [g] w2 w5 := by rw [hw5]; exact (((Keeps.refl _ _).setCell (by simp) _).setCell (by simp) _).setCell (by simp) _
  have hB5 : Blk w5 g 68 #[.int .i64 0, .int .i64 kind, .int .i64 ag, .int .i64 sh, .int .i64 seq, .int .i64 ep, .slice Aa dn na, .string ser, .int .i64 fr, .int .i64 etg, .int .i64 tag, .int .i64 code, .int .u64 nn, .int .i64 0, .int .i64 had, .slice Ba ln ka, .int .i64 commit, .int .i64 0] := by rw [hw5]; exact (by simpa using (((HBa.out.set_ 13 (.int .i64 0)).set_ 17 (.int .i64 0)).set_ 0 (.int .i64 0)) : Blk _ g _ _)
  have hS := hsm.out ⟨0, ⟨kind, ag, sh, seq, ep, ds, ser, fr, etg⟩, tag, code, nn, 0, had, log, commit, 0⟩ (.slice Aa dn na) (.slice Ba ln ka) w5 ⟨(Hd2.out.keep hk (by simp)).avoid (by simp), (Hl2.out.keep hk (by simp)).avoid (by simp)⟩ ⟨Hca.out.1, Hca.out.2⟩
  rw [HZ.out ⟨0, ⟨kind, ag, sh, seq, ep, ds, ser, fr, etg⟩, tag, code, nn, 0, had, log, commit, 0⟩ (by simp [clearM])] at hS
  simp only [mCell, eCell, zeroM, zeroD, List.cons_append, List.nil_append] at hS
  have HS := Lib.hid (show Calls Tryz.prog 50 #[.agg #[.int .i64 0, .int .i64 kind, .int .i64 ag, .int .i64 sh, .int .i64 seq, .int .i64 ep, .slice Aa dn na, .string ser, .int .i64 fr, .int .i64 etg, .int .i64 tag, .int .i64 code, .int .u64 nn, .int .i64 0, .int .i64 had, .slice Ba ln ka, .int .i64 commit, .int .i64 0], .agg #[.int .i64 0, .int .i64 0, .int .i64 0, .int .i64 0, .int .i64 0, .int .i64 0, .slice none 0 0, .string ⟨#[]⟩, .int .i64 0, .int .i64 0, .int .i64 0, .int .i64 0, .int .u64 0, .int .i64 0, .int .i64 0, .slice none 0 0, .int .i64 0, .int .i64 0]] w5 fun r w' => SamePost R w5 r w' from hS)
  have Hbw := Lib.hid (Hk2.out.trans hk (by intro x hx; simp at hx; right; have := Hgs.out; omega)).below
  have Hw5 := Lib.hid hw5; have HB5 := Lib.hid hB5
  clear hk hw5 hB5 hS hsm HZ
  go_upto_region 15 with (fail)
  rw [← Hw5.out]
  clear q0 q1 q2 q3 q4 q5 q6 q7 q8 q9 qa qb qc qd qe qf qg qh qz
  have HR := Lib.hid (blk_range HB5.out)
  go_wp2_with (refine wpList_load_mid rfl 68 (.tmp 1) rfl g 0 rfl _ _ HR.out Tryz.underlying68 rfl (by kernel_rfl) ?_)
  refine HS.out.mono ?_
  rintro e w6 ⟨rfl, hb6⟩
  have Hb6 := Lib.hid (below_then Hbw.out hb6)
  clear hb6
  go_wp2
  go_ret
  exact ⟨rfl, Hb6.out⟩
theorem mzero_any (m : MsgD) (dv lv : Value) (w : World) (ha : MsgAt w [] m dv lv) (ca : MCnt m) :
    Calls Tryz.prog 149 #[.agg (mCell m dv lv).toArray] w fun r w' => SamePost (zeroS m) w r w' := by
  by_cases g1 : m.kd = 1
  · exact mzero_1 m dv lv w ha ca g1
  by_cases g2 : m.kd = 2
  · exact mzero_2 m dv lv w ha ca g2
  by_cases g3 : m.kd = 3
  · exact mzero_3 m dv lv w ha ca g3
  by_cases g4 : m.kd = 4
  · exact mzero_4 m dv lv w ha ca g4
  by_cases g5 : m.kd = 5
  · exact mzero_5 m dv lv w ha ca g5
  by_cases g6 : m.kd = 6
  · exact mzero_6 m dv lv w ha ca g6
  exact mzero_0 m dv lv w ha ca g1 g2 g3 g4 g5 g6
end Go.Proofs.YtinnifhnabncfaaGreatDoor.Vi
end
