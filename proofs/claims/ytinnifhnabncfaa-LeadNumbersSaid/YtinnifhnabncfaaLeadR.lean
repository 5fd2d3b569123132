/- Contracts of the reference's votes: Won, Promise, NewVote. -/
import Derived.Test.YtinnifhnabncfaaLeadD
namespace Go.Proofs.Ytinnifhnabncfaa.Lead
open Go.RowKit Base Mem
def rvoteCells (s : VoteD) (bv : Value) : List Value := [.int .i64 s.term, .int .i64 s.nodes] ++ (s.prom.map Value.bool ++ ([.int .i64 s.n, .int .i64 s.had, bv] ++ s.acc.map (Value.int .i64)))
structure RVoteAt (w : World) (M : List Nat) (b : Nat) (s : VoteD) : Prop where
  l1 : s.prom.length = 8
  l2 : s.acc.length = 8
  mem : ∃ bv, Blk w b 69 (rvoteCells s bv).toArray ∧ Ens w (b :: M) bv s.best
section
variable {w : World} {M : List Nat} {b : Nat} {s : VoteD}
theorem RVoteAt.cells (h : RVoteAt w M b s) : ∃ bv, Ens w (b :: M) bv s.best ∧ b < w.heap.size ∧ (∀ i, w.frozen? ⟨b, i, none⟩ = false) ∧ w.cell? ⟨b, 0, none⟩ = some (.int .i64 s.term) ∧ w.cell? ⟨b, 1, none⟩ = some (.int .i64 s.nodes) ∧
    (∀ i, i < 8 → w.cell? ⟨b, 2 + i, none⟩ = some (.bool (s.prom.getD i false))) ∧ (∀ i, i < 8 → w.cell? ⟨b, 13 + i, none⟩ = some (.int .i64 (s.acc.getD i 0))) ∧
    w.cell? ⟨b, 11, none⟩ = some (.int .i64 s.had) ∧ w.cell? ⟨b, 12, none⟩ = some bv ∧ w.cell? ⟨b, 10, none⟩ = some (.int .i64 s.n) := by
  obtain ⟨h1, h2, bv, hb, he⟩ := h
  obtain ⟨term, nodes, prom, acc, had, best, n⟩ := s
  match prom, h1, acc, h2 with
  | [p0, p1, p2, p3, p4, p5, p6, p7], _, [a0, a1, a2, a3, a4, a5, a6, a7], _ =>
    refine ⟨bv, he, hb.lt, hb.frozen, hb.cell 0, hb.cell 1, ?_, ?_, hb.cell 11, hb.cell 12, hb.cell 10⟩
    · intro i hi
      rw [hb.cell]
      rcases (show i = 0 ∨ i = 1 ∨ i = 2 ∨ i = 3 ∨ i = 4 ∨ i = 5 ∨ i = 6 ∨ i = 7 by omega) with rfl | rfl | rfl | rfl | rfl | rfl | rfl | rfl <;> rfl
    · intro i hi
      rw [hb.cell]
      rcases (show i = 0 ∨ i = 1 ∨ i = 2 ∨ i = 3 ∨ i = 4 ∨ i = 5 ∨ i = 6 ∨ i = 7 by omega) with rfl | rfl | rfl | rfl | rfl | rfl | rfl | rfl <;> rfl
theorem RVoteAt.drewN (h : RVoteAt w M b s) (n : Nat) : RVoteAt (w.drewN n) M b s := by
  obtain ⟨h1, h2, bv, hb, he⟩ := h
  exact ⟨h1, h2, bv, hb, he.keep (M' := []) ((Keeps.refl _ _).drewN n) (by simp)⟩
theorem RVoteAt.keep {M' : List Nat} {w' : World} (h : RVoteAt w M b s) (k : Keeps M' w w') (hb : b ∉ M') (hM : ∀ g ∈ M', g ∈ M ∨ w.heap.size ≤ g) : RVoteAt w' M b s := by
  obtain ⟨h1, h2, bv, hb', he⟩ := h
  exact ⟨h1, h2, bv, k.blk hb' hb, he.keep k (fun g hg => (hM g hg).imp (List.mem_cons_of_mem _) id)⟩
theorem RVoteAt.set_prom (h : RVoteAt w M b s) {i : Nat} (hi : i < 8) : RVoteAt (w.setCell ⟨b, 2 + i, none⟩ (.bool true)) M b { s with prom := s.prom.set i true } := by
  obtain ⟨h1, h2, bv, hb, he⟩ := h
  refine ⟨by simpa using h1, h2, bv, ?_, he.keep (keep_set w b _ _) (by simp)⟩
  have := hb.set_ (2 + i) (.bool true)
  obtain ⟨term, nodes, prom, acc, had, best, n⟩ := s
  match prom, h1, acc, h2 with
  | [p0, p1, p2, p3, p4, p5, p6, p7], _, [a0, a1, a2, a3, a4, a5, a6, a7], _ =>
    rcases (show i = 0 ∨ i = 1 ∨ i = 2 ∨ i = 3 ∨ i = 4 ∨ i = 5 ∨ i = 6 ∨ i = 7 by omega) with rfl | rfl | rfl | rfl | rfl | rfl | rfl | rfl <;> exact this
theorem RVoteAt.set_acc (h : RVoteAt w M b s) {i : Nat} (hi : i < 8) (x : Int) : RVoteAt (w.setCell ⟨b, 13 + i, none⟩ (.int .i64 x)) M b { s with acc := s.acc.set i x } := by
  obtain ⟨h1, h2, bv, hb, he⟩ := h
  refine ⟨h1, by simpa using h2, bv, ?_, he.keep (keep_set w b _ _) (by simp)⟩
  have := hb.set_ (13 + i) (.int .i64 x)
  obtain ⟨term, nodes, prom, acc, had, best, n⟩ := s
  match prom, h1, acc, h2 with
  | [p0, p1, p2, p3, p4, p5, p6, p7], _, [a0, a1, a2, a3, a4, a5, a6, a7], _ =>
    rcases (show i = 0 ∨ i = 1 ∨ i = 2 ∨ i = 3 ∨ i = 4 ∨ i = 5 ∨ i = 6 ∨ i = 7 by omega) with rfl | rfl | rfl | rfl | rfl | rfl | rfl | rfl <;> exact this
theorem RVoteAt.set_n (h : RVoteAt w M b s) (x : Int) : RVoteAt (w.setCell ⟨b, 10, none⟩ (.int .i64 x)) M b { s with n := x } := by
  obtain ⟨h1, h2, bv, hb, he⟩ := h
  refine ⟨h1, h2, bv, ?_, he.keep (keep_set w b _ _) (by simp)⟩
  have := hb.set_ (10) (.int .i64 x)
  obtain ⟨term, nodes, prom, acc, had, best, n⟩ := s
  match prom, h1, acc, h2 with
  | [p0, p1, p2, p3, p4, p5, p6, p7], _, [a0, a1, a2, a3, a4, a5, a6, a7], _ =>
    exact this
theorem RVoteAt.set_had (h : RVoteAt w M b s) (x : Int) : RVoteAt (w.setCell ⟨b, 11, none⟩ (.int .i64 x)) M b { s with had := x } := by
  obtain ⟨h1, h2, bv, hb, he⟩ := h
  refine ⟨h1, h2, bv, ?_, he.keep (keep_set w b _ _) (by simp)⟩
  have := hb.set_ (11) (.int .i64 x)
  obtain ⟨term, nodes, prom, acc, had, best, n⟩ := s
  match prom, h1, acc, h2 with
  | [p0, p1, p2, p3, p4, p5, p6, p7], _, [a0, a1, a2, a3, a4, a5, a6, a7], _ =>
    exact this
theorem RVoteAt.set_best (h : RVoteAt w M b s) {lv : Value} {l : List EntryD} (hl : Ens w (b :: M) lv l) : RVoteAt (w.setCell ⟨b, 12, none⟩ lv) M b { s with best := l } := by
  obtain ⟨h1, h2, bv, hb, _⟩ := h
  refine ⟨h1, h2, lv, ?_, hl.keep (keep_set w b _ _) (by simp)⟩
  have := hb.set_ (12) lv
  obtain ⟨term, nodes, prom, acc, had, best, n⟩ := s
  match prom, h1, acc, h2 with
  | [p0, p1, p2, p3, p4, p5, p6, p7], _, [a0, a1, a2, a3, a4, a5, a6, a7], _ =>
    exact this
end
theorem rwon_any (M : List Nat) (b : Nat) (s : VoteD) (w : World) (h : RVoteAt w M b s) (h0 : 0 ≤ s.nodes) (h8 : s.nodes ≤ 8) :
    Calls Try.prog 45 #[.pointer (some ⟨b, 0, none⟩)] w fun e w' => e = .returned (.bool (wonS s)) ∧ ∃ n, w' = w.drewN n := by
  obtain ⟨bv, he, hlt, hfr, c0, c1, cp, ca, c18, c19, c20⟩ := h.cells
  have Hw : Hid (decide (s.nodes / 2 < s.n) = wonS s) := by show _ = _; unfold wonS; rw [decide_eq_decide]; omega
  clear he hlt hfr c0 cp ca c18 c19 h
  go_enter Try.func45, Try.ntmps45
  go_wp2
  go_quiet (fail)
  go_wp2
  go_ret
  exact ⟨ret_bool Hw.out, _, rfl⟩
theorem rpromise_no (M : List Nat) (b : Nat) (s : VoteD) (fr had : Int) (lv : Value) (w : World) (h : RVoteAt w M b s) (hn : s.nodes ≤ 8) (hp : ¬ (0 ≤ fr ∧ fr < s.nodes ∧ s.prom.getD fr.toNat false = false)) :
    Calls Try.prog 44 #[.pointer (some ⟨b, 0, none⟩), .int .i64 fr, .int .i64 had, lv] w fun e w' => e = .returned (.bool false) ∧ RVoteAt w' M b s ∧ Keeps [b] w w' := by
  obtain ⟨bv, he, hlt, hfr, c0, c1, cp, ca, c18, c19, c20⟩ := h.cells
  have H := Lib.hid h
  by_cases h1 : 0 ≤ fr
  · by_cases h2 : fr < s.nodes
    · obtain ⟨i, rfl⟩ := Int.eq_ofNat_of_zero_le h1
      have hi8 : (i : Int) < 8 := by omega
      have hcp : w.cell? ⟨b, 2 + i, none⟩ = some (.bool true) := by
        rw [cp i (by omega)]
        have : s.prom.getD i false = true := by
          cases hc : s.prom.getD i false
          · exact absurd ⟨h1, h2, hc⟩ hp
          · rfl
        rw [this]
      clear he cp ca hfr hp h
      go_enter Try.func44, Try.ntmps44
      go_wp2
      go_ret
      exact ⟨rfl, H.out, Keeps.refl _ _⟩
    · clear he cp ca hfr hp h
      go_enter Try.func44, Try.ntmps44
      go_wp2
      go_ret
      exact ⟨rfl, H.out, Keeps.refl _ _⟩
  · clear he cp ca hfr hp h
    go_enter Try.func44, Try.ntmps44
    go_wp2
    go_ret
    exact ⟨rfl, H.out, Keeps.refl _ _⟩
theorem rpromise_won (M : List Nat) (b : Nat) (s : VoteD) (i : Nat) (had : Int) (lv : Value) (l : List EntryD) (w : World) (h : RVoteAt w M b s) (hl : Ens w (b :: M) lv l) (hi : (i : Int) < s.nodes) (hn : s.nodes ≤ 8) (h0 : 0 ≤ s.n) (h8 : s.n ≤ 8) (hp : s.prom.getD i false = false) (hw : wonS s = true) :
    Calls Try.prog 44 #[.pointer (some ⟨b, 0, none⟩), .int .i64 i, .int .i64 had, lv] w fun e w' => e = .returned (.bool false) ∧ RVoteAt w' M b (taken s i) ∧ Keeps [b] w w' := by
  obtain ⟨bv, he, hlt, hfr, c0, c1, cp, ca, c18, c19, c20⟩ := h.cells
  obtain ⟨A, c, rfl, hc⟩ := hl.len
  obtain ⟨A2, cc2, rfl, hc2⟩ := he.len
  have hcp : w.cell? ⟨b, 2 + i, none⟩ = some (.bool false) := by rw [cp i (by omega), hp]
  have hfr1 := hfr (2 + i); have hfr2 := hfr 10; have hfr3 := hfr 11; have hfr4 := hfr 12
  have hi8 : (i : Int) < 8 := by omega
  have hwon := Lib.hid (rwon_any M b s w h (by omega) (by omega))
  have hat1 : ∀ nq, RVoteAt ((w.drewN nq).setCell ⟨b, 2 + i, none⟩ (.bool true)) M b { s with prom := s.prom.set i true } := fun nq => (h.drewN nq).set_prom (by omega)
  have Hat1 := Lib.hid hat1
  have Hw := Lib.hid hw
  have He := Lib.hid he; have H := Lib.hid h; have Hl := Lib.hid hl
  clear he cp ca hfr hp hw h hat1 hl
  go_enter Try.func44, Try.ntmps44
  go_wp2_with (first | (go_at_call 45; with_reducible refine hwon.out.mono ?_; rintro e w' ⟨rfl, nq, rfl⟩; rw [Hw.out]))
  go_ret
  refine ⟨rfl, (Hat1.out nq).set_n _, ((((Keeps.refl _ _).drewN nq).setCell (by simp) _).setCell (by simp) _)⟩
theorem rpromise_keep (M : List Nat) (b : Nat) (s : VoteD) (i : Nat) (had : Int) (lv : Value) (l : List EntryD) (w : World) (h : RVoteAt w M b s) (hl : Ens w (b :: M) lv l) (hi : (i : Int) < s.nodes) (hn : s.nodes ≤ 8) (h0 : 0 ≤ s.n) (h8 : s.n ≤ 8) (hp : s.prom.getD i false = false) (hw : wonS s = false) (hbt : better s had l = false) :
    Calls Try.prog 44 #[.pointer (some ⟨b, 0, none⟩), .int .i64 i, .int .i64 had, lv] w fun e w' => e = .returned (.bool (wonS (taken s i))) ∧ RVoteAt w' M b (taken s i) ∧ Keeps [b] w w' := by
  obtain ⟨bv, he, hlt, hfr, c0, c1, cp, ca, c18, c19, c20⟩ := h.cells
  obtain ⟨A, c, rfl, hc⟩ := hl.len
  obtain ⟨A2, cc2, rfl, hc2⟩ := he.len
  have hcp : w.cell? ⟨b, 2 + i, none⟩ = some (.bool false) := by rw [cp i (by omega), hp]
  have hfr1 := hfr (2 + i); have hfr2 := hfr 10; have hfr3 := hfr 11; have hfr4 := hfr 12
  have hi8 : (i : Int) < 8 := by omega
  have hwon := Lib.hid (rwon_any M b s w h (by omega) (by omega))
  have hat1 : ∀ nq, RVoteAt ((w.drewN nq).setCell ⟨b, 2 + i, none⟩ (.bool true)) M b { s with prom := s.prom.set i true } := fun nq => (h.drewN nq).set_prom (by omega)
  have Hat1 := Lib.hid hat1
  have Hw := Lib.hid hw
  have He := Lib.hid he; have H := Lib.hid h; have Hl := Lib.hid hl
  have hd1 : s.n ≠ 0 ∧ ¬ s.had < had ∧ ¬ (had = s.had ∧ s.best.length < l.length) := by
    unfold better at hbt; simp at hbt; omega
  have e1 : (s.n == 0) = false := by simp; omega
  clear he cp ca hfr hp hw h hat1 hl hbt
  by_cases hh : had = s.had
  · have e2 : (had == s.had) = true := by simpa using hh
    have hlen : l.length ≤ s.best.length := by omega
    have hhad : had ≤ s.had := by omega
    clear hd1 hh
    go_enter Try.func44, Try.ntmps44
    go_wp2_with (first | (go_at_call 45; with_reducible refine hwon.out.mono ?_; rintro e w' ⟨rfl, nq, rfl⟩; rw [Hw.out]) | (go_at_call 45; with_reducible refine (rwon_any M b _ _ ((Hat1.out _).set_n _) (by simp only []; omega) (by simp only []; omega)).mono ?_; rintro e w' ⟨rfl, nq2, rfl⟩))
    go_ret
    exact ⟨rfl, ((Hat1.out _).set_n _).drewN _, ((((Keeps.refl _ _).drewN nq).setCell (by simp) _).setCell (by simp) _).drewN _⟩
  · have e2 : (had == s.had) = false := by simpa using hh
    have hhad : had < s.had := by omega
    clear hd1 hh
    go_enter Try.func44, Try.ntmps44
    go_wp2_with (first | (go_at_call 45; with_reducible refine hwon.out.mono ?_; rintro e w' ⟨rfl, nq, rfl⟩; rw [Hw.out]) | (go_at_call 45; with_reducible refine (rwon_any M b _ _ ((Hat1.out _).set_n _) (by simp only []; omega) (by simp only []; omega)).mono ?_; rintro e w' ⟨rfl, nq2, rfl⟩))
    go_ret
    exact ⟨rfl, ((Hat1.out _).set_n _).drewN _, ((((Keeps.refl _ _).drewN nq).setCell (by simp) _).setCell (by simp) _).drewN _⟩
theorem ens_own {w : World} {base : Nat} {M : List Nat} {v : Value} {ps : List (EntryD × Value)} {l : List EntryD} (hl : ps.map (·.1) = l) (h : w.ownsRow base 74 9 v ps.length (ps.flatMap eCell)) (hM : ∀ g ∈ M, g < base) (hd : ∀ p ∈ ps, Ds w M p.2 p.1.ds) : Ens w M v l :=
  ⟨ps, hl, Rd.of_own h hM, hd⟩
theorem eCells_one {ps : List (EntryD × Value)} {w : World} {M : List Nat} (hd : ∀ p ∈ ps, Ds w M p.2 p.1.ds) : ∀ u ∈ ps.flatMap eCell, u.oneCell' = true := by
  intro u hu
  obtain ⟨p, hp, hu⟩ := List.mem_flatMap.1 hu
  obtain ⟨A, c, he, _⟩ := (hd p hp).len
  simp [eCell, he] at hu
  rcases hu with rfl | rfl | rfl | rfl | rfl | rfl | rfl | rfl | rfl <;> rfl
/-- 'append([]api.Entry{}, l...)': what the walk has of it. -/
theorem append_ens {w : World} {M : List Nat} {A : Option Addr} {c : Nat} {l : List EntryD} (h : Ens w M (.slice A l.length c) l) :
    ∃ ps : List (EntryD × Value), ps.length = l.length ∧ Reads w w.heap.size 9 A l.length (ps.flatMap eCell) ∧ (∀ u ∈ ps.flatMap eCell, u.oneCell' = true) ∧
      ∀ w1 v', Keeps [] w w1 → w1.ownsRow w.heap.size 74 9 v' (0 + l.length) ([] ++ ps.flatMap eCell) → (∀ g ∈ M, g < w.heap.size) → Ens w1 M v' l := by
  obtain ⟨ps, hps, hr, hd⟩ := h
  have hlen : ps.length = l.length := by rw [← hps, List.length_map]
  obtain ⟨A', c', he, hc, hrd⟩ := hr.reads
  injection he with h1 h2 h3
  subst h1
  rw [hlen] at hrd
  refine ⟨ps, hlen, hrd, eCells_one hd, fun w1 v' hk ho hM => ens_own hps ?_ hM (fun p hp => (hd p hp).keep hk (by simp))⟩
  rw [hlen]; simpa using ho
set_option maxRecDepth 100000 in
set_option maxHeartbeats 1000000 in
theorem rpromise_take (M : List Nat) (b : Nat) (s : VoteD) (i : Nat) (had : Int) (lv : Value) (l : List EntryD) (w : World) (h : RVoteAt w M b s) (hM : ∀ g ∈ M, g < w.heap.size) (hl : Ens w (b :: M) lv l) (hsm : Small l) (hi : (i : Int) < s.nodes) (hn : s.nodes ≤ 8) (h0 : 0 ≤ s.n) (h8 : s.n ≤ 8) (hp : s.prom.getD i false = false) (hw : wonS s = false) (hbt : better s had l = true) :
    Calls Try.prog 44 #[.pointer (some ⟨b, 0, none⟩), .int .i64 i, .int .i64 had, lv] w fun e w' => e = .returned (.bool (wonS (taken s i))) ∧ RVoteAt w' M b { taken s i with had := had, best := l } ∧ Keeps [b] w w' := by
  obtain ⟨bv, he, hlt, hfr, c0, c1, cp, ca, c18, c19, c20⟩ := h.cells
  obtain ⟨A, c, rfl, hc⟩ := hl.len
  obtain ⟨A2, cc2, rfl, hc2⟩ := he.len
  have hcp : w.cell? ⟨b, 2 + i, none⟩ = some (.bool false) := by rw [cp i (by omega), hp]
  have hfr1 := hfr (2 + i); have hfr2 := hfr 10; have hfr3 := hfr 11; have hfr4 := hfr 12
  have hi8 : (i : Int) < 8 := by omega
  have hwon := Lib.hid (rwon_any M b s w h (by omega) (by omega))
  have hat1 : ∀ nq, RVoteAt ((w.drewN nq).setCell ⟨b, 2 + i, none⟩ (.bool true)) M b { s with prom := s.prom.set i true } := fun nq => (h.drewN nq).set_prom (by omega)
  have Hat1 := Lib.hid hat1
  have Hw := Lib.hid hw
  have He := Lib.hid he; have H := Lib.hid h; have Hl := Lib.hid hl
  have hd1 : s.n = 0 ∨ (s.n ≠ 0 ∧ s.had < had) ∨ (s.n ≠ 0 ∧ had = s.had ∧ s.best.length < l.length) := by
    unfold better at hbt; simp at hbt; omega
  obtain ⟨i0, hi0, hz0, hz1, hz2⟩ := info_parts infoEntry
  have Hi0 := Lib.hid hi0; have Hz0 := Lib.hid hz0; have Hz1 := Lib.hid hz1; have Hz2 := Lib.hid hz2
  have hW : ∀ nq, Keeps [b] w ((w.drewN nq).setCell ⟨b, 2 + i, none⟩ (.bool true)) := fun nq => ((Keeps.refl _ _).drewN nq).setCell (by simp) _
  have hsz : ∀ nq, ((w.drewN nq).setCell ⟨b, 2 + i, none⟩ (.bool true)).heap.size = w.heap.size := fun nq => by simp
  have hap := fun nq => append_ens (hl.keep (hW nq) (by simp))
  have hap2 := fun nq => (World.ownsRow_made (base := w.heap.size) (e := 74) (size := 9) ((w.drewN nq).setCell ⟨b, 2 + i, none⟩ (.bool true)) #[] 0 (by simp) (by unfold maxLen; omega) rfl)
  have Hsm := Lib.hid hsm; have HM := Lib.hid hM
  have hl1 := hsm.1
  have Hap := Lib.hid hap; have Hap2 := Lib.hid hap2; have HW := Lib.hid hW; have Hsz := Lib.hid hsz
  clear he cp ca hfr hp hw h hat1 hl hbt hi0 hz0 hz1 hz2 hsm hM hap hap2 hW hsz
  rcases hd1 with hd | ⟨hd, hh⟩ | ⟨hd, hh, hh2⟩
  · have e1 : (s.n == 0) = true := by simpa using hd
    clear hd
    go_enter Try.func44, Try.ntmps44
    go_wp2_with (first
      | (go_at_call 45
         with_reducible refine hwon.out.mono ?_
         rintro e w' ⟨rfl, nq, rfl⟩
         rw [Hw.out]
         obtain ⟨ps, hpl, hrd, hone, hfin⟩ := Hap.out nq
         have hown := Hap2.out nq
         rw [Hsz.out nq] at hown hrd hfin
         have Hone := Lib.hid hone; have Hfin := Lib.hid hfin; have Hown := Lib.hid hown; have Hrd := Lib.hid hrd
         clear hone hfin hown hrd hpl)
      | (at_builtin
         refine wpList_append_any _ rfl (.tmp 73) (.tmp 74) _ rfl w.heap.size 74 i0 _ 9 96 Try.underlying46 Hi0.out Hz0.out Hz1.out Hz2.out rfl (by omega) (.slice (some ⟨w.heap.size, 0, none⟩) 0 0) 0 [] rfl Hown.out w.heap.size A l.length c (ps.flatMap eCell) rfl (Hrd.out.alloc (by simp) _) Hone.out (by unfold maxLen; omega) (by omega) (by simp) ?_
         intro v' w1 hown1 hg1 hat2
         have hk : Keeps [] ((w.drewN nq).setCell ⟨b, 2 + i, none⟩ (.bool true)) w1 := ((Keeps.refl [] _).alloc (.cells #[] 74)).grown hg1 (fun g hg => by simp [Value.ownBlock] at hg; subst hg; right; simp)
         have hv1 := (Hat1.out nq).keep hk (by simp) (by simp)
         have hens := Hfin.out w1 v' hk hown1
         obtain ⟨bv', _, _, hfr', _, d1, _, _, d11, d12, d10⟩ := hv1.cells
         have f10 := hfr' 10
         have f11 := hfr' 11
         have f12 := hfr' 12
         have hv3 := fun (hg : ∀ g ∈ b :: M, g < w.heap.size) => ((hv1.set_had had).set_best ((hens hg).keep (keep_set w1 b 11 (.int .i64 had)) (by simp))).set_n (s.n + 1)
         have hkk := (HW.out nq).trans hk (by simp)
         have Hv3 := Lib.hid hv3
         have Hkk := Lib.hid hkk
         obtain ⟨Av, cv, hve, _⟩ := (hens (by intro g hg; simp at hg; rcases hg with rfl | hg; exact hlt; exact HM.out g hg)).len
         subst hve
         clear hv1 hens hfr' hown1 hg1 hat2 hk hv3 hkk)
      | (go_at_call 45
         with_reducible refine (rwon_any M b _ _ (Hv3.out (by intro g hg; simp at hg; rcases hg with rfl | hg; exact hlt; exact HM.out g hg)) (by simp only []; omega) (by simp only []; omega)).mono ?_
         rintro e w' ⟨rfl, nq2, rfl⟩))
    go_ret
    exact ⟨rfl, (Hv3.out (by intro g hg; simp at hg; rcases hg with rfl | hg; exact hlt; exact HM.out g hg)).drewN _, (((Hkk.out.setCell (by simp) _).setCell (by simp) _).setCell (by simp) _).drewN _⟩
  · have e1 : (s.n == 0) = false := by simpa using hd
    clear hd
    go_enter Try.func44, Try.ntmps44
    go_wp2_with (first
      | (go_at_call 45
         with_reducible refine hwon.out.mono ?_
         rintro e w' ⟨rfl, nq, rfl⟩
         rw [Hw.out]
         obtain ⟨ps, hpl, hrd, hone, hfin⟩ := Hap.out nq
         have hown := Hap2.out nq
         rw [Hsz.out nq] at hown hrd hfin
         have Hone := Lib.hid hone; have Hfin := Lib.hid hfin; have Hown := Lib.hid hown; have Hrd := Lib.hid hrd
         clear hone hfin hown hrd hpl)
      | (at_builtin
         refine wpList_append_any _ rfl (.tmp 73) (.tmp 74) _ rfl w.heap.size 74 i0 _ 9 96 Try.underlying46 Hi0.out Hz0.out Hz1.out Hz2.out rfl (by omega) (.slice (some ⟨w.heap.size, 0, none⟩) 0 0) 0 [] rfl Hown.out w.heap.size A l.length c (ps.flatMap eCell) rfl (Hrd.out.alloc (by simp) _) Hone.out (by unfold maxLen; omega) (by omega) (by simp) ?_
         intro v' w1 hown1 hg1 hat2
         have hk : Keeps [] ((w.drewN nq).setCell ⟨b, 2 + i, none⟩ (.bool true)) w1 := ((Keeps.refl [] _).alloc (.cells #[] 74)).grown hg1 (fun g hg => by simp [Value.ownBlock] at hg; subst hg; right; simp)
         have hv1 := (Hat1.out nq).keep hk (by simp) (by simp)
         have hens := Hfin.out w1 v' hk hown1
         obtain ⟨bv', _, _, hfr', _, d1, _, _, d11, d12, d10⟩ := hv1.cells
         have f10 := hfr' 10
         have f11 := hfr' 11
         have f12 := hfr' 12
         have hv3 := fun (hg : ∀ g ∈ b :: M, g < w.heap.size) => ((hv1.set_had had).set_best ((hens hg).keep (keep_set w1 b 11 (.int .i64 had)) (by simp))).set_n (s.n + 1)
         have hkk := (HW.out nq).trans hk (by simp)
         have Hv3 := Lib.hid hv3
         have Hkk := Lib.hid hkk
         obtain ⟨Av, cv, hve, _⟩ := (hens (by intro g hg; simp at hg; rcases hg with rfl | hg; exact hlt; exact HM.out g hg)).len
         subst hve
         clear hv1 hens hfr' hown1 hg1 hat2 hk hv3 hkk)
      | (go_at_call 45
         with_reducible refine (rwon_any M b _ _ (Hv3.out (by intro g hg; simp at hg; rcases hg with rfl | hg; exact hlt; exact HM.out g hg)) (by simp only []; omega) (by simp only []; omega)).mono ?_
         rintro e w' ⟨rfl, nq2, rfl⟩))
    go_ret
    exact ⟨rfl, (Hv3.out (by intro g hg; simp at hg; rcases hg with rfl | hg; exact hlt; exact HM.out g hg)).drewN _, (((Hkk.out.setCell (by simp) _).setCell (by simp) _).setCell (by simp) _).drewN _⟩
  · have e1 : (s.n == 0) = false := by simpa using hd
    have e2 : (had == s.had) = true := by simpa using hh
    have hhad : had ≤ s.had := by omega
    clear hd hh
    go_enter Try.func44, Try.ntmps44
    go_wp2_with (first
      | (go_at_call 45
         with_reducible refine hwon.out.mono ?_
         rintro e w' ⟨rfl, nq, rfl⟩
         rw [Hw.out]
         obtain ⟨ps, hpl, hrd, hone, hfin⟩ := Hap.out nq
         have hown := Hap2.out nq
         rw [Hsz.out nq] at hown hrd hfin
         have Hone := Lib.hid hone; have Hfin := Lib.hid hfin; have Hown := Lib.hid hown; have Hrd := Lib.hid hrd
         clear hone hfin hown hrd hpl)
      | (at_builtin
         refine wpList_append_any _ rfl (.tmp 73) (.tmp 74) _ rfl w.heap.size 74 i0 _ 9 96 Try.underlying46 Hi0.out Hz0.out Hz1.out Hz2.out rfl (by omega) (.slice (some ⟨w.heap.size, 0, none⟩) 0 0) 0 [] rfl Hown.out w.heap.size A l.length c (ps.flatMap eCell) rfl (Hrd.out.alloc (by simp) _) Hone.out (by unfold maxLen; omega) (by omega) (by simp) ?_
         intro v' w1 hown1 hg1 hat2
         have hk : Keeps [] ((w.drewN nq).setCell ⟨b, 2 + i, none⟩ (.bool true)) w1 := ((Keeps.refl [] _).alloc (.cells #[] 74)).grown hg1 (fun g hg => by simp [Value.ownBlock] at hg; subst hg; right; simp)
         have hv1 := (Hat1.out nq).keep hk (by simp) (by simp)
         have hens := Hfin.out w1 v' hk hown1
         obtain ⟨bv', _, _, hfr', _, d1, _, _, d11, d12, d10⟩ := hv1.cells
         have f10 := hfr' 10
         have f11 := hfr' 11
         have f12 := hfr' 12
         have hv3 := fun (hg : ∀ g ∈ b :: M, g < w.heap.size) => ((hv1.set_had had).set_best ((hens hg).keep (keep_set w1 b 11 (.int .i64 had)) (by simp))).set_n (s.n + 1)
         have hkk := (HW.out nq).trans hk (by simp)
         have Hv3 := Lib.hid hv3
         have Hkk := Lib.hid hkk
         obtain ⟨Av, cv, hve, _⟩ := (hens (by intro g hg; simp at hg; rcases hg with rfl | hg; exact hlt; exact HM.out g hg)).len
         subst hve
         clear hv1 hens hfr' hown1 hg1 hat2 hk hv3 hkk)
      | (go_at_call 45
         with_reducible refine (rwon_any M b _ _ (Hv3.out (by intro g hg; simp at hg; rcases hg with rfl | hg; exact hlt; exact HM.out g hg)) (by simp only []; omega) (by simp only []; omega)).mono ?_
         rintro e w' ⟨rfl, nq2, rfl⟩))
    go_ret
    exact ⟨rfl, (Hv3.out (by intro g hg; simp at hg; rcases hg with rfl | hg; exact hlt; exact HM.out g hg)).drewN _, (((Hkk.out.setCell (by simp) _).setCell (by simp) _).setCell (by simp) _).drewN _⟩
end Go.Proofs.Ytinnifhnabncfaa.Lead
