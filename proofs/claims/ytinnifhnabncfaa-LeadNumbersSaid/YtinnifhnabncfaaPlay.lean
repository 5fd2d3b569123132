/- The walk of play: any calls. -/
import Derived.Test.YtinnifhnabncfaaPlayA
import Derived.Deep.DeepCutAuto
import Derived.Deep.RegionHeld3
namespace Go.Proofs.Ytinnifhnabncfaa.Lead
open Go.RowKit Base Mem Tape
theorem rvote_neq_nil {w : World} (a : Addr) : (binOp .eql 61 (.pointer (some a)) (.pointer none)).run Try.prog w = .ok (.bool false) w := by kernel_rfl
theorem vote_ne_nil {w : World} (a : Addr) : (binOp .neq 40 (.pointer (some a)) (.pointer none)).run Try.prog w = .ok (.bool true) w := by kernel_rfl
theorem ask_cells {w wr : World} {bv br ba : Nat} {kind fr n had : Int} {lv : Value} {k : Int} {s r : VoteD} (h : PlR w wr bv br ba #[.int .i64 kind, .int .i64 fr, .int .i64 n, .int .i64 had, lv] k s r) :
    wr.cell? ⟨ba, 0, none⟩ = some (.int .i64 kind) ∧ wr.cell? ⟨ba, 1, none⟩ = some (.int .i64 fr) ∧ wr.cell? ⟨ba, 2, none⟩ = some (.int .i64 n) ∧ wr.cell? ⟨ba, 3, none⟩ = some (.int .i64 had) ∧ wr.cell? ⟨ba, 4, none⟩ = some lv :=
  ⟨h.ask.cell 0, h.ask.cell 1, h.ask.cell 2, h.ask.cell 3, h.ask.cell 4⟩
theorem pl_won {w wr : World} {bv br ba : Nat} {cs : Array Value} {k : Int} {s r : VoteD} (h : PlR w wr bv br ba cs k s r) :
    Calls Try.prog 31 #[.pointer (some ⟨bv, 0, none⟩)] wr fun e w' => e = .returned (.bool (wonS s)) ∧ ∃ n, w' = wr.drewN n :=
  won_any [br] bv s wr h.vote h.gs.n8.1 (by have := h.gs.n8.2; omega)
theorem pl_rwon {w wr : World} {bv br ba : Nat} {cs : Array Value} {k : Int} {s r : VoteD} (h : PlR w wr bv br ba cs k s r) :
    Calls Try.prog 45 #[.pointer (some ⟨br, 0, none⟩)] wr fun e w' => e = .returned (.bool (wonS r)) ∧ ∃ n, w' = wr.drewN n :=
  rwon_any [bv] br r wr h.rvote (by rw [h.gr.nodes]; have := h.k1; omega) (by rw [h.gr.nodes]; exact h.k8)
/-- The votes alone, between two asks. -/
structure PlS (w wr : World) (bv br : Nat) (k : Int) (s : VoteD) : Prop where
  k1 : 1 ≤ k
  k8 : k ≤ 8
  good : Good k s
  vote : VoteAt wr [br] bv s
  rvote : RVoteAt wr [bv] br s
  below : Below w.heap.size w wr
  low : w.heap.size ≤ bv
  lt : bv < br
theorem PlS.ask {w wr : World} {bv br : Nat} {k : Int} {s : VoteD} (h : PlS w wr bv br k s) {wr' : World} {cs : Array Value} (hk : Keeps [] wr wr') (hb : Blk wr' wr.heap.size 64 cs) : PlR w wr' bv br wr.heap.size cs k s s :=
  ⟨h.k1, h.k8, h.good, h.good, h.vote.keep hk (by simp) (by simp), h.rvote.keep hk (by simp) (by simp), h.below.trans (hk.belowB h.below.size (by simp)), h.low, h.lt, hb, by obtain ⟨_, _, _, hb, _⟩ := h.rvote; exact hb.lt⟩
theorem PlR.s {w wr : World} {bv br ba : Nat} {cs : Array Value} {k : Int} {s : VoteD} (h : PlR w wr bv br ba cs k s s) : PlS w wr bv br k s := ⟨h.k1, h.k8, h.gs, h.vote, h.rvote, h.below, h.low, h.lt⟩
/-- The votes, and what the reference's vote keeps as its log. -/
structure PlB (w wr : World) (bv br ba : Nat) (cs : Array Value) (k : Int) (s : VoteD) (lv : Value) : Prop where
  pl : PlR w wr bv br ba cs k s s
  ens : Ens wr [] lv s.best
  c0 : wr.cell? ⟨br, 0, none⟩ = some (.int .i64 s.term)
  c12 : wr.cell? ⟨br, 12, none⟩ = some lv
section
variable {w wr wr' : World} {bv br ba : Nat} {cs : Array Value} {k : Int} {s : VoteD} {lv : Value}
theorem PlR.b (h : PlR w wr bv br ba cs k s s) : ∃ A c, PlB w wr bv br ba cs k s (.slice A s.best.length c) := by
  obtain ⟨lv, he, hlt, _, c0, _, _, _, _, c12, _⟩ := h.rvote.cells
  obtain ⟨A, c, rfl, _⟩ := he.len
  exact ⟨A, c, h, he.avoid (by simp), c0, c12⟩
theorem PlB.keep (h : PlB w wr bv br ba cs k s lv) (hk : Keeps [] wr wr') : PlB w wr' bv br ba cs k s lv := by
  have hbr : br < wr.heap.size := by obtain ⟨_, _, _, hb, _⟩ := h.pl.rvote; exact hb.lt
  exact ⟨h.pl.keep hk, h.ens.keep hk (by simp), (hk.cell (p := ⟨br, 0, none⟩) hbr (by simp)).trans h.c0, (hk.cell (p := ⟨br, 12, none⟩) hbr (by simp)).trans h.c12⟩
theorem PlB.drewN (h : PlB w wr bv br ba cs k s lv) (n : Nat) : PlB w (wr.drewN n) bv br ba cs k s lv := h.keep ((Keeps.refl _ _).drewN n)
theorem pb_won (h : PlB w wr bv br ba cs k s lv) : Calls Try.prog 31 #[.pointer (some ⟨bv, 0, none⟩)] wr fun e w' => e = .returned (.bool (wonS s)) ∧ Hid (PlB w w' bv br ba cs k s lv) := by
  refine (pl_won h.pl).mono ?_
  rintro e w' ⟨rfl, n, rfl⟩
  exact ⟨rfl, h.drewN n⟩
theorem pb_rwon (h : PlB w wr bv br ba cs k s lv) : Calls Try.prog 45 #[.pointer (some ⟨br, 0, none⟩)] wr fun e w' => e = .returned (.bool (wonS s)) ∧ Hid (PlB w w' bv br ba cs k s lv) := by
  refine (pl_rwon h.pl).mono ?_
  rintro e w' ⟨rfl, n, rfl⟩
  exact ⟨rfl, h.drewN n⟩
theorem pb_term (h : PlB w wr bv br ba cs k s lv) : Calls Try.prog 46 #[.pointer (some ⟨bv, 0, none⟩)] wr fun e w' => e = .returned (.int .i64 s.term) ∧ Hid (PlB w w' bv br ba cs k s lv) := by
  refine (vterm_any [br] bv s wr h.pl.vote).mono ?_
  rintro e w' ⟨rfl, rfl⟩
  exact ⟨rfl, h⟩
def BestB (w : World) (bv br ba : Nat) (cs : Array Value) (k : Int) (s : VoteD) (lv : Value) (e : Ending) (w' : World) : Prop := ∃ A, e = .returned (.slice A s.best.length s.best.length) ∧ Hid (PlB w w' bv br ba cs k s lv) ∧ Hid (Ens w' [] (.slice A s.best.length s.best.length) s.best)
theorem pb_best (h : PlB w wr bv br ba cs k s lv) : Calls Try.prog 30 #[.pointer (some ⟨bv, 0, none⟩)] wr fun e w' => BestB w bv br ba cs k s lv e w' := by
  refine (best_any [br] bv s wr h.pl.vote h.pl.gs.small).mono ?_
  rintro e w' ⟨A, rfl, hens, hb⟩
  exact ⟨A, rfl, h.keep (Keeps.of_below hb), hens [] (by simp)⟩
theorem pb_logs {va : Value} (h : PlB w wr bv br ba cs k s lv) (he : Ens wr [] va s.best) : Calls Try.prog 47 #[va, lv] wr fun e w' => e = .returned (.bool true) ∧ Hid (PlB w w' bv br ba cs k s lv) := by
  refine (logs_eq va lv s.best wr he h.ens h.pl.gs.small).mono ?_
  rintro e w' ⟨rfl, hb⟩
  exact ⟨rfl, h.keep (Keeps.of_below hb)⟩
end
set_option maxRecDepth 100000 in
set_option maxHeartbeats 400000 in
theorem play_yes (term k : Int) (va : Value) (la : List AskD) (w : World) (ha : Asks w [] va la) (hsm : ∀ a ∈ la, Small a.log) (hk1 : 1 ≤ k) (hk8 : k ≤ 8) :
    Calls Try.prog 19 #[.int .i64 term, .int .i64 k, va] w fun e w' => e = .returned (.bool true) ∧ Below w.heap.size w w' := by
  have Ha := Lib.hid ha; have Hsm := Lib.hid hsm
  obtain ⟨Aa, ca, rfl, hca⟩ := ha.len
  clear ha hsm
  go_enter Try.func19, Try.ntmps19
  go_wp2_with fail
  refine (new_yes term k w hk1 hk8).mono ?_
  rintro e w1 ⟨rfl, hv, hb, hlt⟩
  have hne := fun W => vote_neq_nil (w := W) ⟨w.heap.size, 0, none⟩
  have hnn := fun W => vote_ne_nil (w := W) ⟨w.heap.size, 0, none⟩
  go_wp2_with fail
  refine (rnew_yes term k w1 hk1 hk8).mono ?_
  rintro e w2 ⟨rfl, hrv, hb2, hlt2⟩
  have hrne := fun W => rvote_neq_nil (w := W) ⟨w1.heap.size, 0, none⟩
  have hS : PlS w w2 w.heap.size w1.heap.size k (newVote term k) :=
    ⟨hk1, hk8, ⟨rfl, rfl, rfl, rfl, by simp [newVote], by simp [newVote, Small]⟩, (hv [w1.heap.size]).keep (Keeps.of_below (M := []) hb2) (by simp) (by simp), hrv [w.heap.size], below_then hb hb2, Nat.le_refl _, hlt⟩
  obtain ⟨bv, hbv⟩ : ∃ b, b = w.heap.size := ⟨_, rfl⟩
  obtain ⟨br, hbr⟩ : ∃ b, b = w1.heap.size := ⟨_, rfl⟩
  rw [← hbv] at hne hnn
  rw [← hbr] at hrne
  have hS' : PlS w w2 bv br k (newVote term k) := by rw [hbv, hbr]; exact hS
  have HS := Lib.hid hS'
  have Hne := Lib.hid hne
  rw [← hbv, ← hbr]
  clear hS hS' hv hb hlt hrv hb2 hlt2 hbv hbr
  go_wp2_with fail
  go_slots
  go_loopw [9] (fun i wr => ∃ (x : Nat) (s : VoteD), i = .int .i64 x ∧ x ≤ 50 ∧ Hid (PlS w wr bv br k s)) (fun i _ => 50 - (intOf i).toNat)
  case atStart => exact ⟨0, _, rfl, by omega, HS.out⟩
  case round =>
    obtain ⟨x, s, rfl, hx, HSx⟩ := hrel
    clear HS
    by_cases hlt : x < la.length
    · have d1 : decide ((x : Int) < la.length) = true := by simpa using hlt
      by_cases hlt5 : x < 50
      · have d2 : decide ((x : Int) < 50) = true := by simp; omega
        obtain ⟨ga, oa, _, lv, e1, hga, _, hlv, h1⟩ := Ha.out.at_ hlt
        obtain rfl : Aa = some ⟨ga, oa, none⟩ := by injection e1
        have hsl := Hsm.out _ (List.getElem_mem hlt)
        have h2 := fun j u hu => (HSx.out.below.cell (p := ⟨ga, oa + x * 5 + j, none⟩) hga).trans (h1 j u hu)
        obtain ⟨Al, cl, rfl, _⟩ := hlv.len
        have Hlv := Lib.hid hlv; have Hsl := Lib.hid hsl
        clear e1 h1 hlv hsl
        generalize la[x] = a at *
        obtain ⟨kind, fr, n, had, ll⟩ := a
        have a0 := h2 0 _ rfl; have a1 := h2 1 _ rfl; have a2 := h2 2 _ rfl; have a3 := h2 3 _ rfl; have a4 := h2 4 _ rfl
        rw [Nat.add_zero] at a0
        simp only [] at a0 a1 a2 a3 a4 Hlv Hsl
        clear h2
        have hx1 : (x : Int) < (la.length : Int) := by omega
        go_upto_if 42 with (fail)
        have hP : PlR w (wr.alloc (.cells #[.int .i64 kind, .int .i64 fr, .int .i64 n, .int .i64 had, .slice Al ll.length cl] 64)) bv br wr.heap.size _ k s s := HSx.out.ask ((Keeps.refl _ _).alloc _) (Blk.new wr _ _)
        generalize (wr.alloc (.cells #[.int .i64 kind, .int .i64 fr, .int .i64 n, .int .i64 had, .slice Al ll.length cl] 64)) = W at *
        generalize wr.heap.size = ba at *
        have H0 := Lib.hid hP
        obtain ⟨q0, q1, q2, q3, q4⟩ := ask_cells H0.out
        clear hP a0 a1 a2 a3 a4 HSx
        go_cut [] (fun wx => Hid (∃ s', PlR w wx bv br ba #[.int .i64 kind, .int .i64 fr, .int .i64 n, .int .i64 had, .slice Al ll.length cl] k s' s'))
        case first =>
          by_cases hkd : kind = 2
          · subst hkd
            go_wp2_with fail
            go_region_held3 (fun w' => w'.cell? ⟨ba, 1, none⟩ = some (.int .i64 fr) ∧ w'.cell? ⟨ba, 2, none⟩ = some (.int .i64 n)) (first | exact ⟨q1, q2⟩) (first
              | (go_at_call 32
                 first | refine (pl_acc (w := w) fr n H1.out).mono ?_ | refine (pl_acc (w := w) fr n (H0.out.drewN 1)).mono ?_
                 rintro e w' ⟨rfl, H1⟩
                 obtain ⟨q0, q1, q2, q3, q4⟩ := ask_cells H1.out)
              | (go_at_call 43
                 first | refine (pl_racc (w := w) fr n H1.out).mono ?_ | refine (pl_racc (w := w) fr n (H0.out.drewN 1)).mono ?_
                 rintro e w' ⟨rfl, H1⟩
                 obtain ⟨q0, q1, q2, q3, q4⟩ := ask_cells H1.out))
            all_goals
              go_wp2_with fail
              go_meet
              exact ⟨_, H1.out⟩
          · have e1 : (kind == 2) = false := by simpa using hkd
            generalize hpr : (promiseS s fr had ll) = pr
            have Hpr := Lib.hid hpr
            have hcmp : ∀ W, (binOp .neq 4 (.bool pr.1) (.bool pr.1)).run Try.prog W = .ok (.bool false) W := fun W => by cases pr.1 <;> kernel_rfl
            clear hpr
            go_wp2_with fail
            go_region_held3 (fun w' => w'.cell? ⟨ba, 1, none⟩ = some (.int .i64 fr) ∧ w'.cell? ⟨ba, 3, none⟩ = some (.int .i64 had) ∧ w'.cell? ⟨ba, 4, none⟩ = some (.slice Al ll.length cl)) (first | exact ⟨q1, q3, q4⟩) (first
              | (go_at_call 29
                 first | refine (pl_prom (w := w) fr had _ ll Hlv.out Hsl.out H1.out).mono ?_ | refine (pl_prom (w := w) fr had _ ll Hlv.out Hsl.out (H0.out.drewN 1)).mono ?_
                 rw [Hpr.out]
                 rintro e w' ⟨rfl, H1⟩
                 obtain ⟨q0, q1, q2, q3, q4⟩ := ask_cells H1.out)
              | (go_at_call 44
                 first | refine (pl_rprom (w := w) fr had _ ll Hlv.out Hsl.out H1.out).mono ?_ | refine (pl_rprom (w := w) fr had _ ll Hlv.out Hsl.out (H0.out.drewN 1)).mono ?_
                 rw [Hpr.out]
                 rintro e w' ⟨rfl, H1⟩
                 obtain ⟨q0, q1, q2, q3, q4⟩ := ask_cells H1.out))
            all_goals
              go_wp2_with fail
              go_meet
              exact ⟨_, H1.out⟩
        case rest =>
          obtain ⟨s', hP⟩ := hcut.out
          obtain ⟨Ar, cr, hB⟩ := hP.b
          have H1 := Lib.hid hB
          have p0 := hB.c0; have p12 := hB.c12
          generalize hbw : wonS s' = bw
          have Hbw := Lib.hid hbw
          have hcmp : ∀ W, (binOp .neq 4 (.bool bw) (.bool bw)).run Try.prog W = .ok (.bool false) W := fun W => by cases bw <;> kernel_rfl
          clear hcut hP hB hbw q0 q1 q2 q3 q4 H0
          go_wp2_with fail
          go_region_held3 (fun w' => w'.cell? ⟨br, 0, none⟩ = some (.int .i64 s'.term) ∧ w'.cell? ⟨br, 12, none⟩ = some (.slice Ar s'.best.length cr)) (first | exact ⟨p0, p12⟩) (first
            | (go_at_call 31
               first | refine (pb_won H1.out).mono ?_ | refine (pb_won (H1.out.drewN 1)).mono ?_
               rw [Hbw.out]
               rintro e w' ⟨rfl, H1⟩
               have p0 := H1.out.c0; have p12 := H1.out.c12)
            | (go_at_call 45
               first | refine (pb_rwon H1.out).mono ?_ | refine (pb_rwon (H1.out.drewN 1)).mono ?_
               rw [Hbw.out]
               rintro e w' ⟨rfl, H1⟩
               have p0 := H1.out.c0; have p12 := H1.out.c12)
            | (go_at_call 46
               first | refine (pb_term H1.out).mono ?_ | refine (pb_term (H1.out.drewN 1)).mono ?_
               rintro e w' ⟨rfl, H1⟩
               have p0 := H1.out.c0; have p12 := H1.out.c12)
            | (go_at_call 30
               first | refine (pb_best H1.out).mono ?_ | refine (pb_best (H1.out.drewN 1)).mono ?_
               rintro e w' ⟨A, rfl, H1, HE⟩
               have p0 := H1.out.c0; have p12 := H1.out.c12)
            | (go_at_call 47
               refine (pb_logs H1.out HE.out).mono ?_
               rintro e w' ⟨rfl, H1⟩
               have p0 := H1.out.c0; have p12 := H1.out.c12))
          all_goals
            go_wp2
            go_roundw
            case rel => exact ⟨x + 1, s', by go_num, by omega, H1.out.pl.s⟩
            case measure => simp [intOf]; omega
      · obtain rfl : x = 50 := by omega
        have d2 : decide ((50 : Int) < 50) = false := by decide
        go_wp2
        go_ret
        exact ⟨rfl, HSx.out.below⟩
    · have d1 : decide ((x : Int) < la.length) = false := by simp; omega
      go_wp2
      go_ret
      exact ⟨rfl, HSx.out.below⟩
set_option maxRecDepth 100000 in
theorem play_no (term k : Int) (va : Value) (la : List AskD) (w : World) (ha : Asks w [] va la) (hk : ¬ (1 ≤ k ∧ k ≤ 8)) :
    Calls Try.prog 19 #[.int .i64 term, .int .i64 k, va] w fun e w' => e = .returned (.bool true) ∧ Below w.heap.size w w' := by
  obtain ⟨Aa, ca, rfl, hca⟩ := ha.len
  have hn1 := Lib.hid (fun W => new_no term k W hk)
  have hn2 := Lib.hid (fun W => rnew_no term k W hk)
  have he1 : ∀ W, (binOp .eql 40 (.pointer none) (.pointer none)).run Try.prog W = .ok (.bool true) W := fun W => by kernel_rfl
  have he2 : ∀ W, (binOp .eql 61 (.pointer none) (.pointer none)).run Try.prog W = .ok (.bool true) W := fun W => by kernel_rfl
  have he3 : ∀ W, (binOp .neq 40 (.pointer none) (.pointer none)).run Try.prog W = .ok (.bool false) W := fun W => by kernel_rfl
  clear ha hk
  go_enter Try.func19, Try.ntmps19
  go_wp2_with fail
  refine (hn1.out w).mono ?_
  rintro e w1 ⟨rfl, rfl⟩
  go_wp2_with fail
  refine (hn2.out w).mono ?_
  rintro e w1 ⟨rfl, rfl⟩
  go_wp2_with fail
  go_slots
  go_loopw [9] (fun i wr => i = .int .i64 0 ∧ wr = w) (fun i _ => 0)
  case atStart => exact ⟨rfl, rfl⟩
  case round =>
    obtain ⟨rfl, rfl⟩ := hrel
    by_cases hlt : 0 < la.length
    · have d1 : decide ((0 : Int) < la.length) = true := decide_eq_true (by omega)
      go_wp2
      go_ret
      exact ⟨rfl, Below.refl _ _⟩
    · have d1 : decide ((0 : Int) < la.length) = false := decide_eq_false (by omega)
      go_wp2
      go_ret
      exact ⟨rfl, Below.refl _ _⟩
theorem play_any (term k : Int) (va : Value) (la : List AskD) (w : World) (ha : Asks w [] va la) (hsm : ∀ a ∈ la, Small a.log) :
    Calls Try.prog 19 #[.int .i64 term, .int .i64 k, va] w fun e w' => e = .returned (.bool true) ∧ Below w.heap.size w w' := by
  by_cases hk : 1 ≤ k ∧ k ≤ 8
  · exact play_yes term k va la w ha hsm hk.1 hk.2
  · exact play_no term k va la w ha hk
end Go.Proofs.Ytinnifhnabncfaa.Lead
