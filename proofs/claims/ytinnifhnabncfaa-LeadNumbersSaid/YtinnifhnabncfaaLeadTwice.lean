/- The walk of LeadTwice. -/
import Derived.Test.YtinnifhnabncfaaLeadK
import Derived.Test.YtinnifhnabncfaaTape
namespace Go.Proofs.Ytinnifhnabncfaa.Lead
open Go.RowKit Base Mem Tape
/-- The vote behind i rounds. -/
structure Tw (k : Int) (i : Nat) (s : VoteD) : Prop where
  nodes : s.nodes = k
  acc : s.acc = List.replicate 8 0
  best : s.best = []
  st : (i = 0 ∧ s.n = 0 ∧ s.prom = List.replicate 8 false) ∨ (0 < i ∧ s.n = 1 ∧ s.prom = true :: List.replicate 7 false)
theorem Tw.step {k : Int} {i : Nat} {s : VoteD} (h : Tw k i s) (had : Int) (h1 : 1 ≤ k) (h8 : k ≤ 8) : promiseS s 0 had [] = (decide (i = 0 ∧ k = 1), (promiseS s 0 had []).2) ∧ Tw k (i + 1) (promiseS s 0 had []).2 := by
  obtain ⟨hn, ha, hb, hs⟩ := h
  obtain ⟨term, nodes, prom, acc, had0, best, n⟩ := s
  simp only at hn ha hb hs
  subst hn ha hb
  rcases hs with ⟨rfl, rfl, rfl⟩ | ⟨hi, rfl, rfl⟩
  · have hw : wonS ⟨term, nodes, List.replicate 8 false, List.replicate 8 0, had0, [], 0⟩ = false := by unfold wonS; simp; omega
    have hbt : better ⟨term, nodes, List.replicate 8 false, List.replicate 8 0, had0, [], 0⟩ had [] = true := by unfold better; simp
    have hc : (0 : Int) ≤ 0 ∧ 0 < nodes ∧ (List.replicate 8 false).getD (0 : Int).toNat false = false := ⟨by omega, by omega, rfl⟩
    have hp : promiseS ⟨term, nodes, List.replicate 8 false, List.replicate 8 0, had0, [], 0⟩ 0 had [] = (wonS (taken ⟨term, nodes, List.replicate 8 false, List.replicate 8 0, had0, [], 0⟩ 0), { taken ⟨term, nodes, List.replicate 8 false, List.replicate 8 0, had0, [], 0⟩ 0 with had := had, best := [] }) := by
      unfold promiseS
      rw [if_pos hc, hw, hbt]
      rfl
    rw [hp]
    refine ⟨?_, rfl, rfl, rfl, .inr ⟨by omega, rfl, rfl⟩⟩
    congr 1
    unfold wonS taken
    simp
    omega
  · have hc : ¬ ((0 : Int) ≤ 0 ∧ 0 < nodes ∧ (true :: List.replicate 7 false).getD (0 : Int).toNat false = false) := by simp
    have hp : promiseS ⟨term, nodes, true :: List.replicate 7 false, List.replicate 8 0, had0, [], 1⟩ 0 had [] = (false, ⟨term, nodes, true :: List.replicate 7 false, List.replicate 8 0, had0, [], 1⟩) := by
      unfold promiseS; rw [if_neg hc]
    rw [hp]
    exact ⟨by congr 1; simp; omega, rfl, rfl, rfl, .inr ⟨by omega, rfl, rfl⟩⟩
theorem promise_out {s : VoteD} {fr : Int} (had : Int) (l : List EntryD) (h : fr < 0 ∨ s.nodes ≤ fr) : promiseS s fr had l = (false, s) := by
  unfold promiseS; rw [if_neg (by omega)]
theorem med_zero {k : Nat} (h1 : 1 ≤ k) (h8 : k ≤ 8) : medS (List.replicate 8 0) k = 0 := by
  have := (med_mem (l := List.replicate 8 0) h1 (by simpa using h8)).1
  exact List.eq_of_mem_replicate (List.mem_of_mem_take this)
theorem prom_calls {w : World} {b bt : Nat} {s : VoteD} (fr had : Int) (h : VoteAt w [bt] b s) (hbt : bt < w.heap.size) (hn : s.nodes ≤ 8) (h0 : 0 ≤ s.n) (h8 : s.n ≤ 8) :
    Calls Try.prog 29 #[.pointer (some ⟨b, 0, none⟩), .int .i64 fr, .int .i64 had, .slice none 0 0] w fun e w' => e = .returned (.bool (promiseS s fr had []).1) ∧ Hid (VoteAt w' [bt] b (promiseS s fr had []).2) ∧ Hid (Keeps [b] w w') :=
  promise_any [bt] b s fr had _ [] w h (by simpa using hbt) (Ens.nil _ _) ⟨by simp, by simp⟩ hn h0 h8
theorem Tw.n {k : Int} {i : Nat} {s : VoteD} (h : Tw k i s) : 0 ≤ s.n ∧ s.n ≤ 8 := by rcases h.st with ⟨_, h, _⟩ | ⟨_, h, _⟩ <;> omega
/-- What the rounds hand on. -/
def TwR (w wr : World) (k : Int) (i bv bt : Nat) (L : TapeL) : Prop := ∃ (s : VoteD) (kt : Nat), Tw k i s ∧ VoteAt wr [bt] bv s ∧ TapeAt wr bt L kt ∧ Below w.heap.size w wr
set_option maxRecDepth 100000 in
set_option maxHeartbeats 1000000 in
theorem twice_walk (A : Option Addr) (c : Nat) (l : List Int) (n : Int) (w : World) (hlc : l.length ≤ c) (hmx : c ≤ 9223372036854775807)
    (hl : 0 < l.length → ∃ g off, A = some ⟨g, off, none⟩ ∧ g < w.heap.size ∧ ∀ (j : Nat) (x : Int), l[j]? = some x → w.cell? ⟨g, off + j, none⟩ = some (.int .i64 x)) :
    Calls Try.prog 11 #[.slice A l.length c, .int .i64 n] w fun e w' => e = .returned (.bool true) ∧ Below w.heap.size w w' := by
  obtain ⟨hw1, hw2⟩ := within_bd n 0 7 (by omega)
  have hw := Lib.hid (within_any n 0 7 w (by omega) (by omega) (by omega))
  generalize withinS n 0 7 = q at *
  have Hl := Lib.hid hl; have Hmx := Lib.hid hmx
  clear hl hmx
  go_enter Try.func11, Try.ntmps11
  go_wp2_with fail
  refine hw.out.mono ?_
  rintro e w' ⟨rfl, rfl⟩
  go_wp2_with fail
  refine (new_yes 9 (1 + q) w (by omega) (by omega)).mono ?_
  rintro e w1 ⟨rfl, hv, hb, hlt⟩
  have hne := fun W => vote_neq_nil (w := W) ⟨w.heap.size, 0, none⟩
  go_wp2_with fail
  obtain ⟨k, hk⟩ : ∃ k, k = 1 + q := ⟨_, rfl⟩
  have hk1 : 1 ≤ k := by omega
  have hk8 : k ≤ 8 := by omega
  have hR : TwR w (w1.alloc (.cells #[.slice A l.length c, .int .i64 0] 44)) k 0 w.heap.size w1.heap.size ⟨l, w.heap.size⟩ := by
    refine ⟨newVote 9 (1 + q), 0, ⟨hk.symm, rfl, rfl, .inl ⟨rfl, rfl, rfl⟩⟩, (hv [w1.heap.size]).keep (M' := []) ((Keeps.refl _ _).alloc _) (by simp) (by simp), ⟨Nat.zero_le _, Nat.le_trans hlc Hmx.out, hb.size, A, c, Blk.new w1 _ _, hlc, fun h => ?_⟩, below_new hb _⟩
    obtain ⟨g, off, e, hg, hx⟩ := Hl.out h
    exact ⟨g, off, e, hg, fun j x hj => ((below_new hb _).cell (p := ⟨g, off + j, none⟩) hg).trans (hx j x hj)⟩
  have hbt : w.heap.size < w1.heap.size := hlt
  generalize (w1.alloc (.cells #[.slice A l.length c, .int .i64 0] 44)) = W at *
  rw [← hk]
  obtain ⟨bv, hbv⟩ : ∃ b, b = w.heap.size := ⟨_, rfl⟩
  obtain ⟨bt, hbt2⟩ : ∃ b, b = w1.heap.size := ⟨_, rfl⟩
  have hB : (⟨l, w.heap.size⟩ : TapeL).B = bv := hbv.symm
  generalize (⟨l, w.heap.size⟩ : TapeL) = L at *
  rw [← hbv, ← hbt2] at hR ⊢
  rw [← hbv] at hne
  have hlt2 : bv < bt := by omega
  have hwbv : w.heap.size ≤ bv := by omega
  have HR := Lib.hid hR; have HB := Lib.hid hB
  clear hR hB hv hb hlt hbt hbv hbt2 hk hw1 hw2
  go_wp2_with fail
  go_loopw [8] (fun i wr => ∃ x : Nat, x ≤ 20 ∧ i = .int .i64 x ∧ Hid (TwR w wr k x bv bt L)) (fun i _ => 20 - (intOf i).toNat)
  case atStart => exact ⟨0, by omega, rfl, HR.out⟩
  case round =>
    obtain ⟨x, hx, rfl, HRx⟩ := hrel
    obtain ⟨s, kt, hs, hv, hT, hb⟩ := HRx.out
    have Hs := Lib.hid hs; have Hv := Lib.hid hv; have HT := Lib.hid hT; have Hb := Lib.hid hb
    clear hs hv hT hb HR HRx
    by_cases hlt : x < 20
    · have d1 : decide ((x : Int) < 20) = true := by simp; omega
      go_wp2_with fail
      refine (next_any bt L kt 9 _ HT.out).mono ?_
      rintro e w2 ⟨had, k2, rfl, h0, _, hT2, hK2⟩
      have Hv2 := Lib.hid (Hv.out.keep hK2 (by simp; omega) (by simp))
      have HT2 := Lib.hid hT2
      have Hb2 := Lib.hid (Hb.out.trans (hK2.belowB Hb.out.size (by simp; omega)))
      clear hT2 hK2
      obtain ⟨hst1, hst2⟩ := Hs.out.step had hk1 hk8
      have hn := Hs.out.n
      have hnod : s.nodes ≤ 8 := by rw [Hs.out.nodes]; exact hk8
      go_wp2_with fail
      refine (prom_calls 0 had Hv2.out HT2.out.lt hnod hn.1 hn.2).mono ?_
      rw [hst1]
      generalize (promiseS s 0 had []).2 = s' at *
      rintro e w3 ⟨rfl, Hv3, hK3⟩
      have HT3 := Lib.hid (HT2.out.keep2 hK3.out (by intro g hg; simp at hg; have := HB.out; omega))
      have Hb3 := Lib.hid (Hb2.out.trans (hK3.out.belowB Hb2.out.size (by simp; omega)))
      have Hs3 := Lib.hid hst2
      clear hst1 hst2 hn hnod Hv2 HT2 Hb2 hK3
      have hcmp : ∀ W, (binOp .neq 4 (.bool (decide (x = 0 ∧ k = 1))) (.bool (decide (x = 0 ∧ k = 1)))).run Try.prog W = .ok (.bool false) W := fun W => by cases decide (x = 0 ∧ k = 1) <;> kernel_rfl
      have hn3 := Hs3.out.n
      have hnod3 : s'.nodes ≤ 8 := by rw [Hs3.out.nodes]; exact hk8
      by_cases hx0 : x = 0
      · subst hx0
        by_cases hk0 : k = 1
        · subst hk0
          have e1 : decide ((0 : Nat) = 0 ∧ (1 : Int) = 1) = true := by decide
          rw [e1]
          clear hcmp e1
          go_wp2_with fail
          refine (next_any bt L _ 3 _ HT3.out).mono ?_
          rintro e w4 ⟨y, k4, rfl, hy0, hy3, hT4, hK4⟩
          have hy4 := hy3 (by omega)
          have Hv4 := Lib.hid (Hv3.out.keep hK4 (by simp; omega) (by simp))
          have HT4 := Lib.hid hT4
          have Hb4 := Lib.hid (Hb3.out.trans (hK4.belowB Hb3.out.size (by simp; omega)))
          clear hT4 hK4 hy3
          go_wp2_with fail
          refine (prom_calls _ 50 Hv4.out HT4.out.lt hnod3 hn3.1 hn3.2).mono ?_
          rw [promise_out _ _ (by rw [Hs3.out.nodes]; omega)]
          rintro e w5 ⟨rfl, Hv5, hK5⟩
          have HT5 := Lib.hid (HT4.out.keep2 hK5.out (by intro g hg; simp at hg; have := HB.out; omega))
          have Hb5 := Lib.hid (Hb4.out.trans (hK5.out.belowB Hb4.out.size (by simp; omega)))
          clear hK5
          go_wp2_with fail
          refine (next_any bt L _ 3 _ HT5.out).mono ?_
          rintro e w6 ⟨z, k6, rfl, hz0, hz3, hT6, hK6⟩
          have hz4 := hz3 (by omega)
          have Hv6 := Lib.hid (Hv5.out.keep hK6 (by simp; omega) (by simp))
          have HT6 := Lib.hid hT6
          have Hb6 := Lib.hid (Hb5.out.trans (hK6.belowB Hb5.out.size (by simp; omega)))
          clear hT6 hK6 hz3
          go_wp2_with fail
          refine (prom_calls _ 50 Hv6.out HT6.out.lt hnod3 hn3.1 hn3.2).mono ?_
          rw [promise_out _ _ (by omega)]
          rintro e w7 ⟨rfl, Hv7, hK7⟩
          have HT7 := Lib.hid (HT6.out.keep2 hK7.out (by intro g hg; simp at hg; have := HB.out; omega))
          have Hb7 := Lib.hid (Hb6.out.trans (hK7.out.belowB Hb6.out.size (by simp; omega)))
          have HR7 : Hid (TwR w w7 1 (0 + 1) bv bt L) := ⟨s', k6, Hs3.out, Hv7.out, HT7.out, Hb7.out⟩
          clear hK7
          go_wp2
          go_roundw
          case rel => exact ⟨0 + 1, by omega, by go_num, HR7⟩
          case measure => simp [intOf] <;> omega
        · have e1 : decide ((0 : Nat) = 0 ∧ k = 1) = false := by simpa using hk0
          have e2 : (k == 1) = false := by simpa using hk0
          rw [e1]
          clear hcmp e1 hk0
          go_wp2_with fail
          refine (next_any bt L _ 3 _ HT3.out).mono ?_
          rintro e w4 ⟨y, k4, rfl, hy0, hy3, hT4, hK4⟩
          have hy4 := hy3 (by omega)
          have Hv4 := Lib.hid (Hv3.out.keep hK4 (by simp; omega) (by simp))
          have HT4 := Lib.hid hT4
          have Hb4 := Lib.hid (Hb3.out.trans (hK4.belowB Hb3.out.size (by simp; omega)))
          clear hT4 hK4 hy3
          go_wp2_with fail
          refine (prom_calls _ 50 Hv4.out HT4.out.lt hnod3 hn3.1 hn3.2).mono ?_
          rw [promise_out _ _ (by rw [Hs3.out.nodes]; omega)]
          rintro e w5 ⟨rfl, Hv5, hK5⟩
          have HT5 := Lib.hid (HT4.out.keep2 hK5.out (by intro g hg; simp at hg; have := HB.out; omega))
          have Hb5 := Lib.hid (Hb4.out.trans (hK5.out.belowB Hb4.out.size (by simp; omega)))
          clear hK5
          go_wp2_with fail
          refine (next_any bt L _ 3 _ HT5.out).mono ?_
          rintro e w6 ⟨z, k6, rfl, hz0, hz3, hT6, hK6⟩
          have hz4 := hz3 (by omega)
          have Hv6 := Lib.hid (Hv5.out.keep hK6 (by simp; omega) (by simp))
          have HT6 := Lib.hid hT6
          have Hb6 := Lib.hid (Hb5.out.trans (hK6.belowB Hb5.out.size (by simp; omega)))
          clear hT6 hK6 hz3
          go_wp2_with fail
          refine (prom_calls _ 50 Hv6.out HT6.out.lt hnod3 hn3.1 hn3.2).mono ?_
          rw [promise_out _ _ (by omega)]
          rintro e w7 ⟨rfl, Hv7, hK7⟩
          have HT7 := Lib.hid (HT6.out.keep2 hK7.out (by intro g hg; simp at hg; have := HB.out; omega))
          have Hb7 := Lib.hid (Hb6.out.trans (hK7.out.belowB Hb6.out.size (by simp; omega)))
          have HR7 : Hid (TwR w w7 k (0 + 1) bv bt L) := ⟨s', k6, Hs3.out, Hv7.out, HT7.out, Hb7.out⟩
          clear hK7
          go_wp2
          go_roundw
          case rel => exact ⟨0 + 1, by omega, by go_num, HR7⟩
          case measure => simp [intOf] <;> omega
      · have e1 : decide (x = 0 ∧ k = 1) = false := by simp [hx0]
        have e2 : ((x : Int) == 0) = false := by simpa using hx0
        rw [e1]
        clear hcmp e1 hx0
        go_wp2_with fail
        refine (next_any bt L _ 3 _ HT3.out).mono ?_
        rintro e w4 ⟨y, k4, rfl, hy0, hy3, hT4, hK4⟩
        have hy4 := hy3 (by omega)
        have Hv4 := Lib.hid (Hv3.out.keep hK4 (by simp; omega) (by simp))
        have HT4 := Lib.hid hT4
        have Hb4 := Lib.hid (Hb3.out.trans (hK4.belowB Hb3.out.size (by simp; omega)))
        clear hT4 hK4 hy3
        go_wp2_with fail
        refine (prom_calls _ 50 Hv4.out HT4.out.lt hnod3 hn3.1 hn3.2).mono ?_
        rw [promise_out _ _ (by rw [Hs3.out.nodes]; omega)]
        rintro e w5 ⟨rfl, Hv5, hK5⟩
        have HT5 := Lib.hid (HT4.out.keep2 hK5.out (by intro g hg; simp at hg; have := HB.out; omega))
        have Hb5 := Lib.hid (Hb4.out.trans (hK5.out.belowB Hb4.out.size (by simp; omega)))
        clear hK5
        go_wp2_with fail
        refine (next_any bt L _ 3 _ HT5.out).mono ?_
        rintro e w6 ⟨z, k6, rfl, hz0, hz3, hT6, hK6⟩
        have hz4 := hz3 (by omega)
        have Hv6 := Lib.hid (Hv5.out.keep hK6 (by simp; omega) (by simp))
        have HT6 := Lib.hid hT6
        have Hb6 := Lib.hid (Hb5.out.trans (hK6.belowB Hb5.out.size (by simp; omega)))
        clear hT6 hK6 hz3
        go_wp2_with fail
        refine (prom_calls _ 50 Hv6.out HT6.out.lt hnod3 hn3.1 hn3.2).mono ?_
        rw [promise_out _ _ (by omega)]
        rintro e w7 ⟨rfl, Hv7, hK7⟩
        have HT7 := Lib.hid (HT6.out.keep2 hK7.out (by intro g hg; simp at hg; have := HB.out; omega))
        have Hb7 := Lib.hid (Hb6.out.trans (hK7.out.belowB Hb6.out.size (by simp; omega)))
        have HR7 : Hid (TwR w w7 k (x + 1) bv bt L) := ⟨s', k6, Hs3.out, Hv7.out, HT7.out, Hb7.out⟩
        clear hK7
        go_wp2
        go_roundw
        case rel => exact ⟨x + 1, by omega, by go_num, HR7⟩
        case measure => simp [intOf] <;> omega
    · obtain rfl : x = 20 := by omega
      have hst := Hs.out.st
      have hsn : s.n = 1 := by rcases hst with ⟨h, _⟩ | ⟨_, h, _⟩; omega; exact h
      have hw0 : wonS s = decide (k < 2) := by unfold wonS; rw [Hs.out.nodes, hsn]; rfl
      have hnod := Hs.out.nodes
      have hm1 : medS (accS s (-1) 9) s.nodes.toNat = 0 := by unfold accS; rw [if_neg (by omega), Hs.out.acc]; exact med_zero (by omega) (by omega)
      have hm2 : medS (accS { s with acc := accS s (-1) 9 } k 9) ({ s with acc := accS s (-1) 9 } : VoteD).nodes.toNat = 0 := by
        have e : accS s (-1) 9 = s.acc := by unfold accS; rw [if_neg (by omega)]
        rw [e]; unfold accS; rw [if_neg (by simp only []; omega)]; show medS s.acc s.nodes.toNat = 0; rw [Hs.out.acc]; exact med_zero (by omega) (by omega)
      have hwon := won_any [bt] bv s wr Hv.out (by omega) (by omega)
      rw [show decide (s.nodes < 2 * s.n) = decide (k < 2) from hw0] at hwon
      have Hwon := Lib.hid hwon; have Hm1 := Lib.hid hm1; have Hm2 := Lib.hid hm2; have Hnod := Lib.hid hnod
      clear hst hsn hw0 hwon hm1 hm2 hnod
      have hkk : (k = 1 ∧ decide (k < 2) = true) ∨ ((k == 1) = false ∧ decide (k < 2) = false) := by
        by_cases h : k = 1
        · exact .inl ⟨h, by simp; omega⟩
        · exact .inr ⟨by simpa using h, by simp; omega⟩
      rcases hkk with ⟨rfl, e2⟩ | ⟨e1, e2⟩
      all_goals
        rw [e2] at Hwon
        clear e2
        go_wp2_with fail
        refine Hwon.out.mono ?_
        rintro e w2 ⟨rfl, nq, rfl⟩
        have Hv2 := Lib.hid (Hv.out.drewN nq)
        go_wp2_with fail
        refine (accepted_any [bt] bv s (-1) 9 _ Hv2.out (by rw [Hnod.out]; omega) (by rw [Hnod.out]; omega)).mono ?_
        rw [Hm1.out]
        rintro e w3 ⟨rfl, hv3, hk3⟩
        have Hv3 := Lib.hid hv3
        have Hb3 := Lib.hid ((Hb.out.trans (Keeps.belowB ((Keeps.refl [] wr).drewN nq) Hb.out.size (by simp))).trans (hk3.belowB Hb.out.size (by simp; omega)))
        clear hv3 hk3
        go_wp2_with fail
        refine (accepted_any [bt] bv _ _ 9 _ Hv3.out (by simp only []; rw [Hnod.out]; omega) (by simp only []; rw [Hnod.out]; omega)).mono ?_
        rw [Hm2.out]
        rintro e w4 ⟨rfl, hv4, hk4⟩
        have Hb4 := Lib.hid (Hb3.out.trans (hk4.belowB Hb3.out.size (by simp; omega)))
        clear hv4 hk4
        go_wp2_with fail
        refine (known_walk w4).mono ?_
        rintro e w5 ⟨rfl, hb5⟩
        have Hb5 := Lib.hid (below_then Hb4.out hb5)
        clear hb5
        go_wp2
        go_ret
        exact ⟨rfl, Hb5.out⟩
end Go.Proofs.Ytinnifhnabncfaa.Lead
