/- Plain: what more than half have accepted does not fall. -/
import Derived.Test.YtinnifhnabncfaaLeadP
namespace Go.Proofs.Ytinnifhnabncfaa.Lead
open Go.RowKit Base Mem
theorem med_le {l l' : List Int} {k : Nat} (hk : 1 ≤ k) (hl : k ≤ l.length) (hl' : k ≤ l'.length) (hge : ge (l.take k) (medS l k) ≤ ge (l'.take k) (medS l k)) : medS l k ≤ medS l' k := by
  obtain ⟨_, h2, _⟩ := med_mem hk hl
  obtain ⟨_, _, h3⟩ := med_mem hk hl'
  rcases Int.lt_or_le (medS l' k) (medS l k) with h | h
  · have := ge_gt (l := l'.take k) h
    omega
  · exact h
theorem ge_set (l : List Int) (i : Nat) (x y : Int) (h : l.getD i 0 ≤ x) : ge l y ≤ ge (l.set i x) y := by
  induction l generalizing i with
  | nil => simp [ge]
  | cons a l ih =>
    cases i with
    | zero =>
      unfold ge
      simp only [List.set_cons_zero, List.countP_cons]
      simp at h
      by_cases h1 : y ≤ a
      · have : y ≤ x := by omega
        simp [h1, this]
      · simp [h1]
    | succ i =>
      have := ih i (by simpa using h)
      unfold ge at this ⊢
      simp only [List.set_cons_succ, List.countP_cons]
      omega
theorem med_set {l : List Int} {i k : Nat} (n : Int) (hk : 1 ≤ k) (hl : k ≤ l.length) (hi : i < k) : medS l k ≤ medS (l.set i (max (l.getD i 0) n)) k := by
  refine med_le hk hl (by simpa using hl) ?_
  rw [List.take_set]
  exact ge_set _ _ _ _ (by rw [List.getD_eq_getElem?_getD, List.getElem?_take, if_pos hi, ← List.getD_eq_getElem?_getD]; omega)
/-- How many of the first q are more than x. -/
def cgt (l : List Int) (x : Int) (q : Nat) : Nat := ((l.take q).filter fun y => decide (x < y)).length
theorem cgt_succ (l : List Int) (x : Int) {q : Nat} (h : q < l.length) : cgt l x (q + 1) = if x < l[q] then cgt l x q + 1 else cgt l x q := by
  unfold cgt
  rw [List.take_succ_eq_append_getElem h, List.filter_append]
  by_cases hx : x < l[q] <;> simp [hx]
theorem cgt_gt (l : List Int) (x : Int) (k : Nat) : cgt l x k = gt (l.take k) x := by unfold cgt gt; rw [List.countP_eq_length_filter]
theorem cgt_le (l : List Int) (x : Int) (q : Nat) : cgt l x q ≤ q := by
  unfold cgt
  have := List.length_filter_le (fun y => decide (x < y)) (l.take q)
  rw [List.length_take] at this
  omega
end Go.Proofs.Ytinnifhnabncfaa.Lead
