/- Contracts of lead.Term and its reference, lead.New, Best, (*Vote).Term. -/
import Derived.Test.YtinnifhnabncfaaLeadC
namespace Go.Proofs.Ytinnifhnabncfaa.Lead
open Go.RowKit Base Mem
def okTerm (above node nodes : Int) : Prop := (1 ≤ nodes ∧ nodes ≤ 8) ∧ 0 ≤ node ∧ node < nodes ∧ 0 ≤ above ∧ above ≤ 1099511627776
instance (above node nodes : Int) : Decidable (okTerm above node nodes) := by unfold okTerm; infer_instance
def termS (above node nodes : Int) : Int := if okTerm above node nodes then above + 1 + (node - (above + 1)) % nodes else 0
theorem term_plain {above node nodes : Int} (h : okTerm above node nodes) : above + 1 ≤ termS above node nodes ∧ termS above node nodes ≤ above + nodes ∧ termS above node nodes % nodes = node ∧
    ∀ t, above + 1 ≤ t → t < termS above node nodes → t % nodes ≠ node := by
  obtain ⟨⟨h1, h2⟩, h3, h4, h5, h6⟩ := id h
  unfold termS
  rw [if_pos h]
  rcases (show nodes = 1 ∨ nodes = 2 ∨ nodes = 3 ∨ nodes = 4 ∨ nodes = 5 ∨ nodes = 6 ∨ nodes = 7 ∨ nodes = 8 by omega) with rfl | rfl | rfl | rfl | rfl | rfl | rfl | rfl
  all_goals (refine ⟨?_, ?_, ?_, ?_⟩ <;> omega)
theorem term_yes (above node nodes : Int) (w : World) (h : okTerm above node nodes) :
    Calls Try.prog 22 #[.int .i64 above, .int .i64 node, .int .i64 nodes] w fun e w' => e = .returned (.int .i64 (termS above node nodes)) ∧ w = w' := by
  obtain ⟨p1, p2, p3, p4⟩ := term_plain h
  obtain ⟨⟨h1, h2⟩, h3, h4, h5, h6⟩ := h
  have P3 := Lib.hid p3; have P4 := Lib.hid p4
  have hr := Lib.hid (right_any nodes w)
  have Hd : Hid (decide (1 ≤ nodes ∧ nodes ≤ 8) = true) := by show _ = _; simp; omega
  clear p3 p4
  generalize termS above node nodes = T at *
  go_enter Try.func22, Try.ntmps22
  go_wp2_with (go_at_call 48; refine hr.out.mono ?_; rintro e w' ⟨rfl, rfl⟩; rw [Hd.out])
  go_loop [7] (fun t => ∃ x : Int, t = .int .i64 x ∧ above + 1 ≤ x ∧ x ≤ T) (fun t => (T - intOf t).toNat)
  case atStart => exact ⟨_, rfl, by omega, by omega⟩
  case round =>
    obtain ⟨x, rfl, hx1, hx2⟩ := hrel
    by_cases hlt : x < T
    · have hne : (x % nodes != node) = true := by simpa using P4.out x hx1 hlt
      go_wp2
      go_round
      case rel => exact ⟨x + 1, rfl, by omega, by omega⟩
      case measure => simp [intOf]; omega
    · obtain rfl : x = T := by omega
      have hne : (x % nodes != node) = false := by simpa using P3.out
      go_wp2
      go_ret
      exact ⟨rfl, rfl⟩
theorem rterm_yes (above node nodes : Int) (w : World) (h : okTerm above node nodes) :
    Calls Try.prog 23 #[.int .i64 above, .int .i64 node, .int .i64 nodes] w fun e w' => e = .returned (.int .i64 (termS above node nodes)) ∧ w = w' := by
  obtain ⟨p1, p2, p3, p4⟩ := term_plain h
  obtain ⟨⟨h1, h2⟩, h3, h4, h5, h6⟩ := h
  have P3 := Lib.hid p3; have P4 := Lib.hid p4
  clear p3 p4
  generalize termS above node nodes = T at *
  go_enter Try.func23, Try.ntmps23
  go_wp2
  go_loop [7] (fun t => ∃ x : Int, t = .int .i64 x ∧ above + 1 ≤ x ∧ x ≤ T) (fun t => (T - intOf t).toNat)
  case atStart => exact ⟨_, rfl, by omega, by omega⟩
  case round =>
    obtain ⟨x, rfl, hx1, hx2⟩ := hrel
    by_cases hlt : x < T
    · have hne : (x % nodes != node) = true := by simpa using P4.out x hx1 hlt
      go_wp2
      go_round
      case rel => exact ⟨x + 1, rfl, by omega, by omega⟩
      case measure => simp [intOf]; omega
    · obtain rfl : x = T := by omega
      have hne : (x % nodes != node) = false := by simpa using P3.out
      go_wp2
      go_ret
      exact ⟨rfl, rfl⟩
theorem term_cases {above node nodes : Int} (h : ¬ okTerm above node nodes) : ¬ (1 ≤ nodes ∧ nodes ≤ 8) ∨ ((1 ≤ nodes ∧ nodes ≤ 8) ∧ node < 0) ∨ ((1 ≤ nodes ∧ nodes ≤ 8) ∧ 0 ≤ node ∧ nodes ≤ node) ∨ ((1 ≤ nodes ∧ nodes ≤ 8) ∧ 0 ≤ node ∧ node < nodes ∧ above < 0) ∨ ((1 ≤ nodes ∧ nodes ≤ 8) ∧ 0 ≤ node ∧ node < nodes ∧ 0 ≤ above ∧ 1099511627776 < above) := by
  unfold okTerm at h; omega
theorem term_any (above node nodes : Int) (w : World) :
    Calls Try.prog 22 #[.int .i64 above, .int .i64 node, .int .i64 nodes] w fun e w' => e = .returned (.int .i64 (termS above node nodes)) ∧ w = w' := by
  by_cases h : okTerm above node nodes
  · exact term_yes above node nodes w h
  · have Hz := Lib.hid (show termS above node nodes = 0 from if_neg h)
    have hr := Lib.hid (right_any nodes w)
    rcases term_cases h with h1 | ⟨h1, h2⟩ | ⟨h1, h2, h3⟩ | ⟨h1, h2, h3, h4⟩ | ⟨h1, h2, h3, h4, h5⟩
    · have Hd : Hid (decide (1 ≤ nodes ∧ nodes ≤ 8) = false) := by show _ = _; simp; omega
      clear h h1
      go_enter Try.func22, Try.ntmps22
      go_wp2_with (go_at_call 48; refine hr.out.mono ?_; rintro e w' ⟨rfl, rfl⟩; rw [Hd.out])
      go_ret
      exact ⟨ret_int Hz.out.symm, rfl⟩
    all_goals
      have Hd : Hid (decide (1 ≤ nodes ∧ nodes ≤ 8) = true) := by show _ = _; simp; omega
      clear h h1
      go_enter Try.func22, Try.ntmps22
      go_wp2_with (go_at_call 48; refine hr.out.mono ?_; rintro e w' ⟨rfl, rfl⟩; rw [Hd.out])
      go_ret
      exact ⟨ret_int Hz.out.symm, rfl⟩
theorem rterm_any (above node nodes : Int) (w : World) :
    Calls Try.prog 23 #[.int .i64 above, .int .i64 node, .int .i64 nodes] w fun e w' => e = .returned (.int .i64 (termS above node nodes)) ∧ w = w' := by
  by_cases h : okTerm above node nodes
  · exact rterm_yes above node nodes w h
  · have Hz := Lib.hid (show termS above node nodes = 0 from if_neg h)
    have hc : nodes < 1 ∨ (1 ≤ nodes ∧ 8 < nodes) ∨ (1 ≤ nodes ∧ nodes ≤ 8 ∧ node < 0) ∨ (1 ≤ nodes ∧ nodes ≤ 8 ∧ 0 ≤ node ∧ nodes ≤ node) ∨ (1 ≤ nodes ∧ nodes ≤ 8 ∧ 0 ≤ node ∧ node < nodes ∧ above < 0) ∨ (1 ≤ nodes ∧ nodes ≤ 8 ∧ 0 ≤ node ∧ node < nodes ∧ 0 ≤ above ∧ 1099511627776 < above) := by unfold okTerm at h; omega
    clear h
    rcases hc with h1 | ⟨h1, h2⟩ | ⟨h1, h2, h3⟩ | ⟨h1, h2, h3, h4⟩ | ⟨h1, h2, h3, h4, h5⟩ | ⟨h1, h2, h3, h4, h5, h6⟩
    all_goals
      go_enter Try.func23, Try.ntmps23
      go_wp2
      go_ret
      exact ⟨ret_int Hz.out.symm, rfl⟩
theorem vterm_any (M : List Nat) (b : Nat) (s : VoteD) (w : World) (h : VoteAt w M b s) :
    Calls Try.prog 46 #[.pointer (some ⟨b, 0, none⟩)] w fun e w' => e = .returned (.int .i64 s.term) ∧ w = w' := by
  obtain ⟨bv, he, hlt, hfr, c0, c1, cp, ca, c18, c19, c20⟩ := h.cells
  clear he hlt hfr c1 cp ca c18 c19 c20 h
  go_enter Try.func46, Try.ntmps46
  go_wp2
  go_ret
  exact ⟨rfl, rfl⟩
def newVote (term nodes : Int) : VoteD := ⟨term, nodes, List.replicate 8 false, List.replicate 8 0, 0, [], 0⟩
theorem new_yes (term nodes : Int) (w : World) (h1 : 1 ≤ nodes) (h2 : nodes ≤ 8) :
    Calls Try.prog 26 #[.int .i64 term, .int .i64 nodes] w fun e w' => e = .returned (.pointer (some ⟨w.heap.size, 0, none⟩)) ∧ (∀ M, VoteAt w' M w.heap.size (newVote term nodes)) ∧ Below w.heap.size w w' ∧ w.heap.size < w'.heap.size := by
  have hr := Lib.hid (right_any nodes w)
  have Hd : Hid (decide (1 ≤ nodes ∧ nodes ≤ 8) = true) := by show _ = _; simp; omega
  go_enter Try.func26, Try.ntmps26
  go_wp2_with (go_at_call 48; refine hr.out.mono ?_; rintro e w' ⟨rfl, rfl⟩; rw [Hd.out])
  go_ret
  exact ⟨rfl, fun M => ⟨rfl, rfl, .slice none 0 0, Blk.new w _ _, Ens.nil _ _⟩, below_new' _ _, by simp⟩
theorem new_no (term nodes : Int) (w : World) (h : ¬ (1 ≤ nodes ∧ nodes ≤ 8)) :
    Calls Try.prog 26 #[.int .i64 term, .int .i64 nodes] w fun e w' => e = .returned (.pointer none) ∧ w = w' := by
  have hr := Lib.hid (right_any nodes w)
  have Hd : Hid (decide (1 ≤ nodes ∧ nodes ≤ 8) = false) := by show _ = _; simp; omega
  clear h
  go_enter Try.func26, Try.ntmps26
  go_wp2_with (go_at_call 48; refine hr.out.mono ?_; rintro e w' ⟨rfl, rfl⟩; rw [Hd.out])
  go_ret
  exact ⟨rfl, rfl⟩
theorem best_any (M : List Nat) (b : Nat) (s : VoteD) (w : World) (h : VoteAt w M b s) (hsm : Small s.best) :
    Calls Try.prog 30 #[.pointer (some ⟨b, 0, none⟩)] w fun e w' => ∃ A, e = .returned (.slice A s.best.length s.best.length) ∧ (∀ M', (∀ g ∈ M', g < w.heap.size) → Ens w' M' (.slice A s.best.length s.best.length) s.best) ∧ Below w.heap.size w w' := by
  obtain ⟨bv, he, hlt, hfr, c0, c1, cp, ca, c18, c19, c20⟩ := h.cells
  obtain ⟨A2, cc2, rfl, hc2⟩ := he.len
  have Hc := Lib.hid (copies_any (b :: M) _ s.best w he hsm.1 hsm.2)
  clear he hlt hfr c0 c1 cp ca c18 c20 h hsm
  go_enter Try.func30, Try.ntmps30
  go_wp2_with fail
  refine Hc.out.mono ?_
  rintro e w1 ⟨A, rfl, h1, h2⟩
  have H1 := Lib.hid h1; have H2 := Lib.hid h2
  clear h1 h2
  go_wp2
  go_ret
  exact ⟨A, rfl, H1.out, H2.out⟩
end Go.Proofs.Ytinnifhnabncfaa.Lead
