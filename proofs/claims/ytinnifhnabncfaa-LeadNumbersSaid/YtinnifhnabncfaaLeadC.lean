/- Contract of (*lead.Vote).Promise, whole; of Best, New, Term. -/
import Derived.Test.YtinnifhnabncfaaLeadB
namespace Go.Proofs.Ytinnifhnabncfaa.Lead
open Go.RowKit Base Mem
def Small (l : List EntryD) : Prop := l.length ≤ 1048576 ∧ ∀ e ∈ l, e.ds.length ≤ 1048576
theorem promise_take (M : List Nat) (b : Nat) (s : VoteD) (i : Nat) (had : Int) (lv : Value) (l : List EntryD) (w : World) (h : VoteAt w M b s) (hM : ∀ g ∈ M, g < w.heap.size) (hl : Ens w (b :: M) lv l) (hsm : Small l) (hi : (i : Int) < s.nodes) (hn : s.nodes ≤ 8) (h0 : 0 ≤ s.n) (h8 : s.n ≤ 8) (hp : s.prom.getD i false = false) (hw : wonS s = false) (hbt : better s had l = true) :
    Calls Try.prog 29 #[.pointer (some ⟨b, 0, none⟩), .int .i64 i, .int .i64 had, lv] w fun e w' => e = .returned (.bool (wonS (taken s i))) ∧ VoteAt w' M b { taken s i with had := had, best := l } ∧ Keeps [b] w w' := by
  obtain ⟨bv, he, hlt, hfr, c0, c1, cp, ca, c18, c19, c20⟩ := h.cells
  have hl0 := hl
  obtain ⟨A, c, rfl, hc⟩ := hl.len
  obtain ⟨A2, cc2, rfl, hc2⟩ := he.len
  have hcp : w.cell? ⟨b, 2 + i, none⟩ = some (.bool false) := by rw [cp i (by omega), hp]
  have hfr1 := hfr (2 + i); have hfr2 := hfr 20
  have hi8 : (i : Int) < 8 := by omega
  have hnd := Lib.hid (node_any M b s i w h)
  have hwon := Lib.hid (won_any M b s w h h0 (by omega))
  have hat2 : ∀ nq, VoteAt (((w.drewN nq).setCell ⟨b, 2 + i, none⟩ (.bool true)).setCell ⟨b, 20, none⟩ (.int .i64 (s.n + 1))) M b (taken s i) := fun nq => ((h.drewN nq).set_prom (by omega)).set_n _
  have Hat2 := Lib.hid hat2
  have Hw : Hid (decide (s.nodes < 2 * s.n) = false) := hw
  have hd1 : s.n = 0 ∨ (s.n ≠ 0 ∧ s.had < had) ∨ (s.n ≠ 0 ∧ had = s.had ∧ s.best.length < l.length) := by
    unfold better at hbt; simp at hbt; omega
  have He := Lib.hid he; have H := Lib.hid h; have Hl := Lib.hid hl; have Hsm := Lib.hid hsm; have HM := Lib.hid hM
  have hl1 := hsm.1
  clear he cp ca hfr hp hw h hat2 hbt hl hsm hl0 hM
  rcases hd1 with hd | ⟨hd, hh⟩ | ⟨hd, hh, hh2⟩
  · have e1 : (s.n + 1 == 1) = true := by simp; omega
    clear hd
    go_enter Try.func29, Try.ntmps29
    go_wp2_with (first | (go_at_call 50; refine hnd.out.mono ?_; rintro e w' ⟨rfl, rfl⟩; (rw [show decide (0 ≤ (i : Int) ∧ (i : Int) < s.nodes) = true by simp; omega])) | (go_at_call 31; with_reducible refine hwon.out.mono ?_; rintro e w' ⟨rfl, nq, rfl⟩; rw [Hw.out]) | fail)
    refine (copies_any (b :: M) _ l _ ?_ Hsm.out.1 Hsm.out.2).mono ?_
    · exact Hl.out.keep (M' := [b]) (((Keeps.refl _ _).drewN nq).setCell (by simp) _ |>.setCell (by simp) _) (by simp)
    rintro r w1 ⟨A', rfl, hens, hbel⟩
    have hv1 := (Hat2.out nq).keep (Keeps.of_below (M := []) hbel) (by simp) (by simp)
    obtain ⟨bv', _, _, hfr', _, _, _, _, d18, d19, _⟩ := hv1.cells
    have f18 := hfr' 18; have f19 := hfr' 19
    have hkeep := Lib.hid (((((Keeps.refl [b] w).drewN nq).setCell (by simp) _).setCell (by simp) _).trans (Keeps.of_below (M := []) hbel) (by simp))
    have hv2 := (hv1.set_had had).set_best ((hens (b :: M) (by intro g hg; simp at hg ⊢; rcases hg with rfl | hg; exact hlt; exact HM.out g hg)).keep (keep_set w1 b 18 (.int .i64 had)) (by simp))
    have Hv2 := Lib.hid hv2
    clear hv1 hfr' hens hbel hv2
    go_wp2_with (first | (go_at_call 31; with_reducible refine (won_any M b _ _ Hv2.out (by simp only [taken]; omega) (by simp only [taken]; omega)).mono ?_; rintro e w' ⟨rfl, nq2, rfl⟩))
    go_ret
    exact ⟨rfl, Hv2.out.drewN _, ((hkeep.out.setCell (by simp) _).setCell (by simp) _).drewN _⟩
  · have e1 : (s.n + 1 == 1) = false := by simp; omega
    clear hd
    go_enter Try.func29, Try.ntmps29
    go_wp2_with (first | (go_at_call 50; refine hnd.out.mono ?_; rintro e w' ⟨rfl, rfl⟩; (rw [show decide (0 ≤ (i : Int) ∧ (i : Int) < s.nodes) = true by simp; omega])) | (go_at_call 31; with_reducible refine hwon.out.mono ?_; rintro e w' ⟨rfl, nq, rfl⟩; rw [Hw.out]) | fail)
    refine (copies_any (b :: M) _ l _ ?_ Hsm.out.1 Hsm.out.2).mono ?_
    · exact Hl.out.keep (M' := [b]) (((Keeps.refl _ _).drewN nq).setCell (by simp) _ |>.setCell (by simp) _) (by simp)
    rintro r w1 ⟨A', rfl, hens, hbel⟩
    have hv1 := (Hat2.out nq).keep (Keeps.of_below (M := []) hbel) (by simp) (by simp)
    obtain ⟨bv', _, _, hfr', _, _, _, _, d18, d19, _⟩ := hv1.cells
    have f18 := hfr' 18; have f19 := hfr' 19
    have hkeep := Lib.hid (((((Keeps.refl [b] w).drewN nq).setCell (by simp) _).setCell (by simp) _).trans (Keeps.of_below (M := []) hbel) (by simp))
    have hv2 := (hv1.set_had had).set_best ((hens (b :: M) (by intro g hg; simp at hg ⊢; rcases hg with rfl | hg; exact hlt; exact HM.out g hg)).keep (keep_set w1 b 18 (.int .i64 had)) (by simp))
    have Hv2 := Lib.hid hv2
    clear hv1 hfr' hens hbel hv2
    go_wp2_with (first | (go_at_call 31; with_reducible refine (won_any M b _ _ Hv2.out (by simp only [taken]; omega) (by simp only [taken]; omega)).mono ?_; rintro e w' ⟨rfl, nq2, rfl⟩))
    go_ret
    exact ⟨rfl, Hv2.out.drewN _, ((hkeep.out.setCell (by simp) _).setCell (by simp) _).drewN _⟩
  · have e1 : (s.n + 1 == 1) = false := by simp; omega
    have e2 : (had == s.had) = true := by simpa using hh
    have hhad : had ≤ s.had := by omega
    clear hd hh
    go_enter Try.func29, Try.ntmps29
    go_wp2_with (first | (go_at_call 50; refine hnd.out.mono ?_; rintro e w' ⟨rfl, rfl⟩; (rw [show decide (0 ≤ (i : Int) ∧ (i : Int) < s.nodes) = true by simp; omega])) | (go_at_call 31; with_reducible refine hwon.out.mono ?_; rintro e w' ⟨rfl, nq, rfl⟩; rw [Hw.out]) | fail)
    refine (copies_any (b :: M) _ l _ ?_ Hsm.out.1 Hsm.out.2).mono ?_
    · exact Hl.out.keep (M' := [b]) (((Keeps.refl _ _).drewN nq).setCell (by simp) _ |>.setCell (by simp) _) (by simp)
    rintro r w1 ⟨A', rfl, hens, hbel⟩
    have hv1 := (Hat2.out nq).keep (Keeps.of_below (M := []) hbel) (by simp) (by simp)
    obtain ⟨bv', _, _, hfr', _, _, _, _, d18, d19, _⟩ := hv1.cells
    have f18 := hfr' 18; have f19 := hfr' 19
    have hkeep := Lib.hid (((((Keeps.refl [b] w).drewN nq).setCell (by simp) _).setCell (by simp) _).trans (Keeps.of_below (M := []) hbel) (by simp))
    have hv2 := (hv1.set_had had).set_best ((hens (b :: M) (by intro g hg; simp at hg ⊢; rcases hg with rfl | hg; exact hlt; exact HM.out g hg)).keep (keep_set w1 b 18 (.int .i64 had)) (by simp))
    have Hv2 := Lib.hid hv2
    clear hv1 hfr' hens hbel hv2
    go_wp2_with (first | (go_at_call 31; with_reducible refine (won_any M b _ _ Hv2.out (by simp only [taken]; omega) (by simp only [taken]; omega)).mono ?_; rintro e w' ⟨rfl, nq2, rfl⟩))
    go_ret
    exact ⟨rfl, Hv2.out.drewN _, ((hkeep.out.setCell (by simp) _).setCell (by simp) _).drewN _⟩
theorem promise_any (M : List Nat) (b : Nat) (s : VoteD) (fr had : Int) (lv : Value) (l : List EntryD) (w : World) (h : VoteAt w M b s) (hM : ∀ g ∈ M, g < w.heap.size) (hl : Ens w (b :: M) lv l) (hsm : Small l) (hn : s.nodes ≤ 8) (h0 : 0 ≤ s.n) (h8 : s.n ≤ 8) :
    Calls Try.prog 29 #[.pointer (some ⟨b, 0, none⟩), .int .i64 fr, .int .i64 had, lv] w fun e w' => e = .returned (.bool (promiseS s fr had l).1) ∧ VoteAt w' M b (promiseS s fr had l).2 ∧ Keeps [b] w w' := by
  unfold promiseS
  by_cases hp : 0 ≤ fr ∧ fr < s.nodes ∧ s.prom.getD fr.toNat false = false
  · rw [if_pos hp]
    obtain ⟨i, rfl⟩ := Int.eq_ofNat_of_zero_le hp.1
    rw [Int.toNat_natCast] at hp ⊢
    cases hw : wonS s
    · cases hb : better s had l
      · exact promise_keep M b s i had lv l w h hl hp.2.1 hn h0 h8 hp.2.2 hw hb
      · exact promise_take M b s i had lv l w h hM hl hsm hp.2.1 hn h0 h8 hp.2.2 hw hb
    · exact promise_won M b s i had lv w h hp.2.1 hn h0 h8 hp.2.2 hw
  · rw [if_neg hp]
    exact promise_no M b s fr had lv w h hn hp
end Go.Proofs.Ytinnifhnabncfaa.Lead
