/- Contracts of package lead: small ones. -/
import Derived.Test.YtinnifhnabncfaaCopies
namespace Go.Proofs.Ytinnifhnabncfaa.Lead
open Go.RowKit Base Mem
theorem right_any (n : Int) (w : World) : Calls Try.prog 48 #[.int .i64 n] w fun e w' => e = .returned (.bool (decide (1 ≤ n ∧ n ≤ 8))) ∧ w = w' := by
  by_cases h1 : 1 ≤ n
  · by_cases h2 : n ≤ 8
    all_goals
      go_enter Try.func48, Try.ntmps48
      go_wp2
      go_ret
      exact ⟨ret_bool (by simp; omega), rfl⟩
  · go_enter Try.func48, Try.ntmps48
    go_wp2
    go_ret
    exact ⟨ret_bool (by simp; omega), rfl⟩
structure VoteD where
  term : Int
  nodes : Int
  prom : List Bool
  acc : List Int
  had : Int
  best : List EntryD
  n : Int
def voteCells (s : VoteD) (bv : Value) : List Value := [.int .i64 s.term, .int .i64 s.nodes] ++ (s.prom.map Value.bool ++ (s.acc.map (Value.int .i64) ++ [.int .i64 s.had, bv, .int .i64 s.n]))
structure VoteAt (w : World) (M : List Nat) (b : Nat) (s : VoteD) : Prop where
  l1 : s.prom.length = 8
  l2 : s.acc.length = 8
  mem : ∃ bv, Blk w b 76 (voteCells s bv).toArray ∧ Ens w (b :: M) bv s.best
section
variable {w : World} {M : List Nat} {b : Nat} {s : VoteD}
theorem VoteAt.cells (h : VoteAt w M b s) : ∃ bv, Ens w (b :: M) bv s.best ∧ b < w.heap.size ∧ (∀ i, w.frozen? ⟨b, i, none⟩ = false) ∧ w.cell? ⟨b, 0, none⟩ = some (.int .i64 s.term) ∧ w.cell? ⟨b, 1, none⟩ = some (.int .i64 s.nodes) ∧
    (∀ i, i < 8 → w.cell? ⟨b, 2 + i, none⟩ = some (.bool (s.prom.getD i false))) ∧ (∀ i, i < 8 → w.cell? ⟨b, 10 + i, none⟩ = some (.int .i64 (s.acc.getD i 0))) ∧
    w.cell? ⟨b, 18, none⟩ = some (.int .i64 s.had) ∧ w.cell? ⟨b, 19, none⟩ = some bv ∧ w.cell? ⟨b, 20, none⟩ = some (.int .i64 s.n) := by
  obtain ⟨h1, h2, bv, hb, he⟩ := h
  obtain ⟨term, nodes, prom, acc, had, best, n⟩ := s
  match prom, h1, acc, h2 with
  | [p0, p1, p2, p3, p4, p5, p6, p7], _, [a0, a1, a2, a3, a4, a5, a6, a7], _ =>
    refine ⟨bv, he, hb.lt, hb.frozen, hb.cell 0, hb.cell 1, ?_, ?_, hb.cell 18, hb.cell 19, hb.cell 20⟩
    · intro i hi
      rw [hb.cell]
      rcases (show i = 0 ∨ i = 1 ∨ i = 2 ∨ i = 3 ∨ i = 4 ∨ i = 5 ∨ i = 6 ∨ i = 7 by omega) with rfl | rfl | rfl | rfl | rfl | rfl | rfl | rfl <;> rfl
    · intro i hi
      rw [hb.cell]
      rcases (show i = 0 ∨ i = 1 ∨ i = 2 ∨ i = 3 ∨ i = 4 ∨ i = 5 ∨ i = 6 ∨ i = 7 by omega) with rfl | rfl | rfl | rfl | rfl | rfl | rfl | rfl <;> rfl
end
section
variable {w : World} {M : List Nat} {b : Nat} {s : VoteD}
theorem keep_set (w : World) (b i : Nat) (u : Value) : Keeps [b] w (w.setCell ⟨b, i, none⟩ u) := (Keeps.refl _ _).setCell (by simp) u
theorem VoteAt.drewN (h : VoteAt w M b s) (n : Nat) : VoteAt (w.drewN n) M b s := by
  obtain ⟨h1, h2, bv, hb, he⟩ := h
  exact ⟨h1, h2, bv, hb, he.keep (M' := []) ((Keeps.refl _ _).drewN n) (by simp)⟩
theorem VoteAt.keep {M' : List Nat} {w' : World} (h : VoteAt w M b s) (k : Keeps M' w w') (hb : b ∉ M') (hM : ∀ g ∈ M', g ∈ M ∨ w.heap.size ≤ g) : VoteAt w' M b s := by
  obtain ⟨h1, h2, bv, hb', he⟩ := h
  exact ⟨h1, h2, bv, k.blk hb' hb, he.keep k (fun g hg => (hM g hg).imp (List.mem_cons_of_mem _) id)⟩
theorem VoteAt.set_prom (h : VoteAt w M b s) {i : Nat} (hi : i < 8) : VoteAt (w.setCell ⟨b, 2 + i, none⟩ (.bool true)) M b { s with prom := s.prom.set i true } := by
  obtain ⟨h1, h2, bv, hb, he⟩ := h
  refine ⟨by simpa using h1, h2, bv, ?_, he.keep (keep_set w b _ _) (by simp)⟩
  have := hb.set_ (2 + i) (.bool true)
  obtain ⟨term, nodes, prom, acc, had, best, n⟩ := s
  match prom, h1, acc, h2 with
  | [p0, p1, p2, p3, p4, p5, p6, p7], _, [a0, a1, a2, a3, a4, a5, a6, a7], _ =>
    rcases (show i = 0 ∨ i = 1 ∨ i = 2 ∨ i = 3 ∨ i = 4 ∨ i = 5 ∨ i = 6 ∨ i = 7 by omega) with rfl | rfl | rfl | rfl | rfl | rfl | rfl | rfl <;> exact this
theorem VoteAt.set_acc (h : VoteAt w M b s) {i : Nat} (hi : i < 8) (x : Int) : VoteAt (w.setCell ⟨b, 10 + i, none⟩ (.int .i64 x)) M b { s with acc := s.acc.set i x } := by
  obtain ⟨h1, h2, bv, hb, he⟩ := h
  refine ⟨h1, by simpa using h2, bv, ?_, he.keep (keep_set w b _ _) (by simp)⟩
  have := hb.set_ (10 + i) (.int .i64 x)
  obtain ⟨term, nodes, prom, acc, had, best, n⟩ := s
  match prom, h1, acc, h2 with
  | [p0, p1, p2, p3, p4, p5, p6, p7], _, [a0, a1, a2, a3, a4, a5, a6, a7], _ =>
    rcases (show i = 0 ∨ i = 1 ∨ i = 2 ∨ i = 3 ∨ i = 4 ∨ i = 5 ∨ i = 6 ∨ i = 7 by omega) with rfl | rfl | rfl | rfl | rfl | rfl | rfl | rfl <;> exact this
theorem VoteAt.set_n (h : VoteAt w M b s) (x : Int) : VoteAt (w.setCell ⟨b, 20, none⟩ (.int .i64 x)) M b { s with n := x } := by
  obtain ⟨h1, h2, bv, hb, he⟩ := h
  refine ⟨h1, h2, bv, ?_, he.keep (keep_set w b _ _) (by simp)⟩
  have := hb.set_ 20 (.int .i64 x)
  obtain ⟨term, nodes, prom, acc, had, best, n⟩ := s
  match prom, h1, acc, h2 with
  | [p0, p1, p2, p3, p4, p5, p6, p7], _, [a0, a1, a2, a3, a4, a5, a6, a7], _ => exact this
theorem VoteAt.set_had (h : VoteAt w M b s) (x : Int) : VoteAt (w.setCell ⟨b, 18, none⟩ (.int .i64 x)) M b { s with had := x } := by
  obtain ⟨h1, h2, bv, hb, he⟩ := h
  refine ⟨h1, h2, bv, ?_, he.keep (keep_set w b _ _) (by simp)⟩
  have := hb.set_ 18 (.int .i64 x)
  obtain ⟨term, nodes, prom, acc, had, best, n⟩ := s
  match prom, h1, acc, h2 with
  | [p0, p1, p2, p3, p4, p5, p6, p7], _, [a0, a1, a2, a3, a4, a5, a6, a7], _ => exact this
theorem VoteAt.set_best (h : VoteAt w M b s) {lv : Value} {l : List EntryD} (hl : Ens w (b :: M) lv l) : VoteAt (w.setCell ⟨b, 19, none⟩ lv) M b { s with best := l } := by
  obtain ⟨h1, h2, bv, hb, _⟩ := h
  refine ⟨h1, h2, lv, ?_, hl.keep (keep_set w b _ _) (by simp)⟩
  have := hb.set_ 19 lv
  obtain ⟨term, nodes, prom, acc, had, best, n⟩ := s
  match prom, h1, acc, h2 with
  | [p0, p1, p2, p3, p4, p5, p6, p7], _, [a0, a1, a2, a3, a4, a5, a6, a7], _ => exact this
end
theorem node_any (M : List Nat) (b : Nat) (s : VoteD) (i : Int) (w : World) (h : VoteAt w M b s) :
    Calls Try.prog 50 #[.pointer (some ⟨b, 0, none⟩), .int .i64 i] w fun e w' => e = .returned (.bool (decide (0 ≤ i ∧ i < s.nodes))) ∧ w = w' := by
  obtain ⟨bv, he, hlt, hfr, c0, c1, cp, ca, c18, c19, c20⟩ := h.cells
  clear he hlt hfr c0 cp ca c18 c19 c20 h
  by_cases h1 : 0 ≤ i
  · by_cases h2 : i < s.nodes
    all_goals
      go_enter Try.func50, Try.ntmps50
      go_wp2
      go_ret
      exact ⟨ret_bool (by simp; omega), rfl⟩
  · go_enter Try.func50, Try.ntmps50
    go_wp2
    go_ret
    exact ⟨ret_bool (by simp; omega), rfl⟩
theorem won_any (M : List Nat) (b : Nat) (s : VoteD) (w : World) (h : VoteAt w M b s) (h1 : 0 ≤ s.n) (h2 : s.n ≤ 100) :
    Calls Try.prog 31 #[.pointer (some ⟨b, 0, none⟩)] w fun e w' => e = .returned (.bool (decide (s.nodes < 2 * s.n))) ∧ ∃ n, w' = w.drewN n := by
  obtain ⟨bv, he, hlt, hfr, c0, c1, cp, ca, c18, c19, c20⟩ := h.cells
  clear he hlt hfr c0 cp ca c18 c19 h
  go_enter Try.func31, Try.ntmps31
  go_wp2
  go_quiet (fail)
  go_wp2
  go_ret
  exact ⟨rfl, _, rfl⟩
end Go.Proofs.Ytinnifhnabncfaa.Lead
