/- Contract of the reference's Accepted, NewVote, Promise whole. -/
import Derived.Test.YtinnifhnabncfaaLeadR
import Derived.Test.YtinnifhnabncfaaLeadE
namespace Go.Proofs.Ytinnifhnabncfaa.Lead
open Go.RowKit Base Mem
theorem rpromise_any (M : List Nat) (b : Nat) (s : VoteD) (fr had : Int) (lv : Value) (l : List EntryD) (w : World) (h : RVoteAt w M b s) (hM : ∀ g ∈ M, g < w.heap.size) (hl : Ens w (b :: M) lv l) (hsm : Small l) (hn : s.nodes ≤ 8) (h0 : 0 ≤ s.n) (h8 : s.n ≤ 8) :
    Calls Try.prog 44 #[.pointer (some ⟨b, 0, none⟩), .int .i64 fr, .int .i64 had, lv] w fun e w' => e = .returned (.bool (promiseS s fr had l).1) ∧ RVoteAt w' M b (promiseS s fr had l).2 ∧ Keeps [b] w w' := by
  unfold promiseS
  by_cases hp : 0 ≤ fr ∧ fr < s.nodes ∧ s.prom.getD fr.toNat false = false
  · rw [if_pos hp]
    obtain ⟨i, rfl⟩ := Int.eq_ofNat_of_zero_le hp.1
    rw [Int.toNat_natCast] at hp ⊢
    cases hw : wonS s
    · cases hb : better s had l
      · exact rpromise_keep M b s i had lv l w h hl hp.2.1 hn h0 h8 hp.2.2 hw hb
      · exact rpromise_take M b s i had lv l w h hM hl hsm hp.2.1 hn h0 h8 hp.2.2 hw hb
    · exact rpromise_won M b s i had lv l w h hl hp.2.1 hn h0 h8 hp.2.2 hw
  · rw [if_neg hp]
    exact rpromise_no M b s fr had lv w h hn hp
theorem rnew_yes (term nodes : Int) (w : World) (h1 : 1 ≤ nodes) (h2 : nodes ≤ 8) :
    Calls Try.prog 42 #[.int .i64 term, .int .i64 nodes] w fun e w' => e = .returned (.pointer (some ⟨w.heap.size, 0, none⟩)) ∧ (∀ M, RVoteAt w' M w.heap.size (newVote term nodes)) ∧ Below w.heap.size w w' ∧ w.heap.size < w'.heap.size := by
  go_enter Try.func42, Try.ntmps42
  go_wp2
  go_ret
  exact ⟨rfl, fun M => ⟨rfl, rfl, .slice none 0 0, Blk.new w _ _, Ens.nil _ _⟩, below_new' _ _, by simp⟩
theorem rnew_no (term nodes : Int) (w : World) (h : ¬ (1 ≤ nodes ∧ nodes ≤ 8)) :
    Calls Try.prog 42 #[.int .i64 term, .int .i64 nodes] w fun e w' => e = .returned (.pointer none) ∧ w = w' := by
  have hd : nodes < 1 ∨ (1 ≤ nodes ∧ 8 < nodes) := by omega
  clear h
  rcases hd with h1 | ⟨h1, h2⟩
  all_goals
    go_enter Try.func42, Try.ntmps42
    go_wp2
    go_ret
    exact ⟨rfl, rfl⟩
/-- How many of the first q are at least x. -/
def cnt (l : List Int) (x : Int) (q : Nat) : Nat := ((l.take q).filter fun y => decide (x ≤ y)).length
theorem cnt_succ (l : List Int) (x : Int) {q : Nat} (h : q < l.length) : cnt l x (q + 1) = if x ≤ l[q] then cnt l x q + 1 else cnt l x q := by
  unfold cnt
  rw [List.take_succ_eq_append_getElem h, List.filter_append]
  by_cases hx : x ≤ l[q] <;> simp [List.filter_cons, hx]
theorem cnt_le (l : List Int) (x : Int) (q : Nat) : cnt l x q ≤ q := by
  unfold cnt
  have := List.length_filter_le (fun y => decide (x ≤ y)) (l.take q)
  rw [List.length_take] at this
  omega
/-- What the reference's loop has found behind i rounds. -/
def rb (l : List Int) (k : Nat) : Nat → Int
  | 0 => 0
  | i + 1 => if k / 2 < cnt l (l.getD i 0) k then max (rb l k i) (l.getD i 0) else rb l k i
end Go.Proofs.Ytinnifhnabncfaa.Lead
