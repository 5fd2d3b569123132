/- Contract of (*lead.Vote).Promise. -/
import Derived.Test.YtinnifhnabncfaaLeadA
namespace Go.Proofs.Ytinnifhnabncfaa.Lead
open Go.RowKit Base Mem
def wonS (s : VoteD) : Bool := decide (s.nodes < 2 * s.n)
def taken (s : VoteD) (i : Nat) : VoteD := { s with prom := s.prom.set i true, n := s.n + 1 }
def better (s : VoteD) (had : Int) (l : List EntryD) : Bool := decide (s.n = 0 ∨ s.had < had ∨ had = s.had ∧ s.best.length < l.length)
def promiseS (s : VoteD) (fr had : Int) (l : List EntryD) : Bool × VoteD :=
  if 0 ≤ fr ∧ fr < s.nodes ∧ s.prom.getD fr.toNat false = false then
    if wonS s then (false, taken s fr.toNat)
    else if better s had l then (wonS (taken s fr.toNat), { taken s fr.toNat with had := had, best := l })
    else (wonS (taken s fr.toNat), taken s fr.toNat)
  else (false, s)
theorem promise_won (M : List Nat) (b : Nat) (s : VoteD) (i : Nat) (had : Int) (lv : Value) (w : World) (h : VoteAt w M b s) (hi : (i : Int) < s.nodes) (hn : s.nodes ≤ 8) (h0 : 0 ≤ s.n) (h8 : s.n ≤ 8) (hp : s.prom.getD i false = false) (hw : wonS s = true) :
    Calls Try.prog 29 #[.pointer (some ⟨b, 0, none⟩), .int .i64 i, .int .i64 had, lv] w fun e w' => e = .returned (.bool false) ∧ VoteAt w' M b (taken s i) ∧ Keeps [b] w w' := by
  obtain ⟨bv, he, hlt, hfr, c0, c1, cp, ca, c18, c19, c20⟩ := h.cells
  have hcp : w.cell? ⟨b, 2 + i, none⟩ = some (.bool false) := by rw [cp i (by omega), hp]
  have hfr1 := hfr (2 + i); have hfr2 := hfr 20
  have hi8 : (i : Int) < 8 := by omega
  have hnd := Lib.hid (node_any M b s i w h)
  have hwon := Lib.hid (won_any M b s w h h0 (by omega))
  have Hw : Hid (decide (s.nodes < 2 * s.n) = true) := hw
  have He := Lib.hid he; have H := Lib.hid h
  clear he cp ca hfr hp hw h
  go_enter Try.func29, Try.ntmps29
  go_wp2_with (first | (go_at_call 50; refine hnd.out.mono ?_; rintro e w' ⟨rfl, rfl⟩; (rw [show decide (0 ≤ (i : Int) ∧ (i : Int) < s.nodes) = true by simp; omega])) | (go_at_call 31; refine hwon.out.mono ?_; rintro e w' ⟨rfl, nq, rfl⟩; rw [Hw.out]))
  go_ret
  refine ⟨rfl, ?_, ((((Keeps.refl _ _).drewN nq).setCell (by simp) _).setCell (by simp) _)⟩
  exact ((H.out.drewN nq).set_prom (by omega)).set_n _
theorem promise_no (M : List Nat) (b : Nat) (s : VoteD) (fr had : Int) (lv : Value) (w : World) (h : VoteAt w M b s) (hn : s.nodes ≤ 8) (hp : ¬ (0 ≤ fr ∧ fr < s.nodes ∧ s.prom.getD fr.toNat false = false)) :
    Calls Try.prog 29 #[.pointer (some ⟨b, 0, none⟩), .int .i64 fr, .int .i64 had, lv] w fun e w' => e = .returned (.bool false) ∧ VoteAt w' M b s ∧ Keeps [b] w w' := by
  obtain ⟨bv, he, hlt, hfr, c0, c1, cp, ca, c18, c19, c20⟩ := h.cells
  have hnd := Lib.hid (node_any M b s fr w h)
  have H := Lib.hid h
  by_cases h1 : 0 ≤ fr ∧ fr < s.nodes
  · obtain ⟨i, rfl⟩ := Int.eq_ofNat_of_zero_le h1.1
    have hi8 : (i : Int) < 8 := by omega
    have hcp : w.cell? ⟨b, 2 + i, none⟩ = some (.bool true) := by
      rw [cp i (by omega)]
      have : s.prom.getD i false = true := by
        cases hc : s.prom.getD i false
        · exact absurd ⟨h1.1, h1.2, hc⟩ hp
        · rfl
      rw [this]
    have Hd : Hid (decide (0 ≤ (i : Int) ∧ (i : Int) < s.nodes) = true) := by show _ = _; simp; omega
    clear he cp ca hfr hp h h1
    go_enter Try.func29, Try.ntmps29
    go_wp2_with (go_at_call 50; refine hnd.out.mono ?_; rintro e w' ⟨rfl, rfl⟩; rw [Hd.out])
    go_ret
    exact ⟨rfl, H.out, Keeps.refl _ _⟩
  · have Hd : Hid (decide (0 ≤ fr ∧ fr < s.nodes) = false) := by show _ = _; simp; omega
    clear he cp ca hfr hp h h1
    go_enter Try.func29, Try.ntmps29
    go_wp2_with (go_at_call 50; refine hnd.out.mono ?_; rintro e w' ⟨rfl, rfl⟩; rw [Hd.out])
    go_ret
    exact ⟨rfl, H.out, Keeps.refl _ _⟩
theorem promise_keep (M : List Nat) (b : Nat) (s : VoteD) (i : Nat) (had : Int) (lv : Value) (l : List EntryD) (w : World) (h : VoteAt w M b s) (hl : Ens w (b :: M) lv l) (hi : (i : Int) < s.nodes) (hn : s.nodes ≤ 8) (h0 : 0 ≤ s.n) (h8 : s.n ≤ 8) (hp : s.prom.getD i false = false) (hw : wonS s = false) (hbt : better s had l = false) :
    Calls Try.prog 29 #[.pointer (some ⟨b, 0, none⟩), .int .i64 i, .int .i64 had, lv] w fun e w' => e = .returned (.bool (wonS (taken s i))) ∧ VoteAt w' M b (taken s i) ∧ Keeps [b] w w' := by
  obtain ⟨bv, he, hlt, hfr, c0, c1, cp, ca, c18, c19, c20⟩ := h.cells
  obtain ⟨A, c, rfl, hc⟩ := hl.len
  obtain ⟨A2, cc2, rfl, hc2⟩ := he.len
  have hcp : w.cell? ⟨b, 2 + i, none⟩ = some (.bool false) := by rw [cp i (by omega), hp]
  have hfr1 := hfr (2 + i); have hfr2 := hfr 20
  have hi8 : (i : Int) < 8 := by omega
  have hnd := Lib.hid (node_any M b s i w h)
  have hwon := Lib.hid (won_any M b s w h h0 (by omega))
  have hat2 : ∀ nq, VoteAt (((w.drewN nq).setCell ⟨b, 2 + i, none⟩ (.bool true)).setCell ⟨b, 20, none⟩ (.int .i64 (s.n + 1))) M b (taken s i) := fun nq => ((h.drewN nq).set_prom (by omega)).set_n _
  have Hat2 := Lib.hid hat2
  have Hw : Hid (decide (s.nodes < 2 * s.n) = false) := hw
  have hd1 : s.n ≠ 0 ∧ ¬ s.had < had ∧ ¬ (had = s.had ∧ s.best.length < l.length) := by
    unfold better at hbt; simp at hbt; omega
  have e1 : (s.n + 1 == 1) = false := by simp; omega
  have He := Lib.hid he; have H := Lib.hid h
  clear he cp ca hfr hp hw h hat2 hbt
  by_cases hh : had = s.had
  · have e2 : (had == s.had) = true := by simpa using hh
    have hlen : l.length ≤ s.best.length := by omega
    have hhad : had ≤ s.had := by omega
    clear hd1 hh
    go_enter Try.func29, Try.ntmps29
    go_wp2_with (first | (go_at_call 50; refine hnd.out.mono ?_; rintro e w' ⟨rfl, rfl⟩; (rw [show decide (0 ≤ (i : Int) ∧ (i : Int) < s.nodes) = true by simp; omega])) | (go_at_call 31; with_reducible refine hwon.out.mono ?_; rintro e w' ⟨rfl, nq, rfl⟩; rw [Hw.out]) | (go_at_call 31; with_reducible refine (won_any M b _ _ (Hat2.out _) (by simp only [taken]; omega) (by simp only [taken]; omega)).mono ?_; rintro e w' ⟨rfl, nq2, rfl⟩))
    go_ret
    exact ⟨rfl, (Hat2.out _).drewN _, ((((Keeps.refl _ _).drewN nq).setCell (by simp) _).setCell (by simp) _).drewN _⟩
  · have e2 : (had == s.had) = false := by simpa using hh
    have hhad : had < s.had := by omega
    clear hd1 hh
    go_enter Try.func29, Try.ntmps29
    go_wp2_with (first | (go_at_call 50; refine hnd.out.mono ?_; rintro e w' ⟨rfl, rfl⟩; (rw [show decide (0 ≤ (i : Int) ∧ (i : Int) < s.nodes) = true by simp; omega])) | (go_at_call 31; with_reducible refine hwon.out.mono ?_; rintro e w' ⟨rfl, nq, rfl⟩; rw [Hw.out]) | (go_at_call 31; with_reducible refine (won_any M b _ _ (Hat2.out _) (by simp only [taken]; omega) (by simp only [taken]; omega)).mono ?_; rintro e w' ⟨rfl, nq2, rfl⟩))
    go_ret
    exact ⟨rfl, (Hat2.out _).drewN _, ((((Keeps.refl _ _).drewN nq).setCell (by simp) _).setCell (by simp) _).drewN _⟩
end Go.Proofs.Ytinnifhnabncfaa.Lead
