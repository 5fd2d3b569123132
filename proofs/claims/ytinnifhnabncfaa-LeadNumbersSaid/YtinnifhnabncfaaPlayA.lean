/- What play hands on: the program's vote and the reference's beside each other. -/
import Derived.Test.YtinnifhnabncfaaSame
import Derived.Test.YtinnifhnabncfaaLeadG
import Derived.Test.YtinnifhnabncfaaLeadF
namespace Go.Proofs.Ytinnifhnabncfaa.Lead
open Go.RowKit Base Mem Tape
structure Good (k : Int) (s : VoteD) : Prop where
  nodes : s.nodes = k
  l1 : s.prom.length = 8
  l2 : s.acc.length = 8
  n : s.n = (s.prom.countP id : Nat)
  acc : ∀ x ∈ s.acc, 0 ≤ x
  small : Small s.best
theorem Good.n8 {k : Int} {s : VoteD} (h : Good k s) : 0 ≤ s.n ∧ s.n ≤ 8 := by
  have := List.countP_le_length (p := id) (l := s.prom)
  rw [h.n]
  have := h.l1
  omega
theorem count_set {l : List Bool} {i : Nat} (hi : i < l.length) (h : l.getD i false = false) : (l.set i true).countP id = l.countP id + 1 := by
  induction l generalizing i with
  | nil => simp at hi
  | cons a l ih =>
    cases i with
    | zero => simp at h; subst h; simp
    | succ i =>
      have := ih (i := i) (by simpa using hi) (by simpa using h)
      simp only [List.set_cons_succ, List.countP_cons, this]
      omega
theorem Good.taken {k : Int} {s : VoteD} (h : Good k s) {i : Nat} (hi : i < 8) (hp : s.prom.getD i false = false) : Good k (taken s i) :=
  ⟨h.nodes, by simp only [Lead.taken, List.length_set]; exact h.l1, h.l2, by simp only [Lead.taken]; rw [count_set (by rw [h.l1]; exact hi) hp, h.n]; simp, h.acc, h.small⟩
theorem Good.promise {k : Int} {s : VoteD} (h : Good k s) (hk : k ≤ 8) (fr had : Int) (l : List EntryD) (hl : Small l) : Good k (promiseS s fr had l).2 := by
  unfold promiseS
  split
  · rename_i hc
    obtain ⟨h1, h2, h3⟩ := hc
    rw [h.nodes] at h2
    have ht := h.taken (i := fr.toNat) (by omega) h3
    split
    · exact ht
    · split
      · exact ⟨ht.nodes, ht.l1, ht.l2, ht.n, ht.acc, hl⟩
      · exact ht
  · exact h
theorem Good.accepted {k : Int} {s : VoteD} (h : Good k s) (fr n : Int) : Good k { s with acc := accS s fr n } := by
  refine ⟨h.nodes, h.l1, ?_, h.n, ?_, h.small⟩
  · show (accS s fr n).length = 8
    unfold accS; split
    · rw [List.length_set]; exact h.l2
    · exact h.l2
  · show ∀ x ∈ accS s fr n, 0 ≤ x
    unfold accS; split
    · intro x hx
      rcases List.mem_or_eq_of_mem_set hx with h1 | h1
      · exact h.acc x h1
      · have : 0 ≤ s.acc.getD fr.toNat 0 := by
          rw [List.getD_eq_getElem?_getD]
          cases hg : s.acc[fr.toNat]? with
          | none => simp
          | some y => exact h.acc y (List.mem_of_getElem? hg)
        omega
    · exact h.acc
theorem Good.med {k : Int} {s : VoteD} (h : Good k s) (hk1 : 1 ≤ k) (hk8 : k ≤ 8) (fr n : Int) : rb (accS s fr n) s.nodes.toNat s.nodes.toNat = medS (accS s fr n) s.nodes.toNat := by
  have h2 := h.accepted fr n
  exact rb_med (by rw [h.nodes]; omega) (by rw [h2.l2, h.nodes]; omega) h2.acc
/-- The two votes, the program's s and the reference's r; the ask that is played in block ba. -/
structure PlR (w wr : World) (bv br ba : Nat) (cs : Array Value) (k : Int) (s r : VoteD) : Prop where
  k1 : 1 ≤ k
  k8 : k ≤ 8
  gs : Good k s
  gr : Good k r
  vote : VoteAt wr [br] bv s
  rvote : RVoteAt wr [bv] br r
  below : Below w.heap.size w wr
  low : w.heap.size ≤ bv
  lt : bv < br
  ask : Blk wr ba 64 cs
  na : br < ba
section
variable {w wr wr' : World} {bv br ba : Nat} {cs : Array Value} {k : Int} {s r s' r' : VoteD}
theorem PlR.keepV (h : PlR w wr bv br ba cs k s r) (hk : Keeps [bv] wr wr') (hv : VoteAt wr' [br] bv s') (hg : Good k s') : PlR w wr' bv br ba cs k s' r :=
  ⟨h.k1, h.k8, hg, h.gr, hv, h.rvote.keep hk (by have := h.lt; simp; omega) (by simp), h.below.trans (hk.belowB h.below.size (by have := h.low; simp; omega)), h.low, h.lt, hk.blk h.ask (by have := h.lt; have := h.na; simp; omega), h.na⟩
theorem PlR.keepR (h : PlR w wr bv br ba cs k s r) (hk : Keeps [br] wr wr') (hv : RVoteAt wr' [bv] br r') (hg : Good k r') : PlR w wr' bv br ba cs k s r' :=
  ⟨h.k1, h.k8, h.gs, hg, h.vote.keep hk (by have := h.lt; simp; omega) (by simp), hv, h.below.trans (hk.belowB h.below.size (by have := h.low; have := h.lt; simp; omega)), h.low, h.lt, hk.blk h.ask (by have := h.lt; have := h.na; simp; omega), h.na⟩
theorem PlR.keep (h : PlR w wr bv br ba cs k s r) (hk : Keeps [] wr wr') : PlR w wr' bv br ba cs k s r :=
  ⟨h.k1, h.k8, h.gs, h.gr, h.vote.keep hk (by simp) (by simp), h.rvote.keep hk (by simp) (by simp), h.below.trans (hk.belowB h.below.size (by simp)), h.low, h.lt, hk.blk h.ask (by simp), h.na⟩
theorem PlR.drewN (h : PlR w wr bv br ba cs k s r) (n : Nat) : PlR w (wr.drewN n) bv br ba cs k s r := h.keep ((Keeps.refl _ _).drewN n)
theorem pl_acc (fr n : Int) (h : PlR w wr bv br ba cs k s r) : Calls Try.prog 32 #[.pointer (some ⟨bv, 0, none⟩), .int .i64 fr, .int .i64 n] wr fun e w' => e = .returned (.int .i64 (medS (accS s fr n) s.nodes.toNat)) ∧ Hid (PlR w w' bv br ba cs k { s with acc := accS s fr n } r) := by
  refine (accepted_any [br] bv s fr n wr h.vote (by rw [h.gs.nodes]; exact h.k1) (by rw [h.gs.nodes]; exact h.k8)).mono ?_
  rintro e w' ⟨rfl, hv, hk⟩
  exact ⟨rfl, h.keepV hk hv (h.gs.accepted fr n)⟩
theorem pl_racc (fr n : Int) (h : PlR w wr bv br ba cs k s r) : Calls Try.prog 43 #[.pointer (some ⟨br, 0, none⟩), .int .i64 fr, .int .i64 n] wr fun e w' => e = .returned (.int .i64 (medS (accS r fr n) r.nodes.toNat)) ∧ Hid (PlR w w' bv br ba cs k s { r with acc := accS r fr n }) := by
  refine (raccepted_any [bv] br r fr n wr h.rvote (by rw [h.gr.nodes]; exact h.k1) (by rw [h.gr.nodes]; exact h.k8)).mono ?_
  rintro e w' ⟨rfl, hv, hk⟩
  exact ⟨by rw [h.gr.med h.k1 h.k8], h.keepR hk hv (h.gr.accepted fr n)⟩
theorem pl_prom (fr had : Int) (lv : Value) (ll : List EntryD) (hl : Ens w [] lv ll) (hsm : Small ll) (h : PlR w wr bv br ba cs k s r) : Calls Try.prog 29 #[.pointer (some ⟨bv, 0, none⟩), .int .i64 fr, .int .i64 had, lv] wr fun e w' => e = .returned (.bool (promiseS s fr had ll).1) ∧ Hid (PlR w w' bv br ba cs k (promiseS s fr had ll).2 r) := by
  have hl2 : Ens wr [bv, br] lv ll := (hl.avoid (M' := [bv, br]) (by have := h.low; have := h.lt; simp; omega)).keep (Keeps.of_below (M := []) h.below) (by simp)
  refine (promise_any [br] bv s fr had lv ll wr h.vote (by obtain ⟨_, _, _, hb, _⟩ := h.rvote; simpa using hb.lt) hl2 hsm (by rw [h.gs.nodes]; exact h.k8) h.gs.n8.1 h.gs.n8.2).mono ?_
  rintro e w' ⟨rfl, hv, hk⟩
  exact ⟨rfl, h.keepV hk hv (h.gs.promise h.k8 fr had ll hsm)⟩
theorem pl_rprom (fr had : Int) (lv : Value) (ll : List EntryD) (hl : Ens w [] lv ll) (hsm : Small ll) (h : PlR w wr bv br ba cs k s r) : Calls Try.prog 44 #[.pointer (some ⟨br, 0, none⟩), .int .i64 fr, .int .i64 had, lv] wr fun e w' => e = .returned (.bool (promiseS r fr had ll).1) ∧ Hid (PlR w w' bv br ba cs k s (promiseS r fr had ll).2) := by
  have hl2 : Ens wr [br, bv] lv ll := (hl.avoid (M' := [br, bv]) (by have := h.low; have := h.lt; simp; omega)).keep (Keeps.of_below (M := []) h.below) (by simp)
  refine (rpromise_any [bv] br r fr had lv ll wr h.rvote (by simpa using h.vote.lt) hl2 hsm (by rw [h.gr.nodes]; exact h.k8) h.gr.n8.1 h.gr.n8.2).mono ?_
  rintro e w' ⟨rfl, hv, hk⟩
  exact ⟨rfl, h.keepR hk hv (h.gr.promise h.k8 fr had ll hsm)⟩
end
end Go.Proofs.Ytinnifhnabncfaa.Lead
