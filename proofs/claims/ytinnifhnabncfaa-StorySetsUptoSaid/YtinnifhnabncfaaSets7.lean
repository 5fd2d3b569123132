/- slices.Compact at idents: plain words first. -/
import Derived.Test.YtinnifhnabncfaaSets6
import Derived.Test.YtinnifhnabncfaaSetsP
namespace Go.Proofs.Ytinnifhnabncfaa.Sets
open Go.RowKit Base Mem Go.Shelf Go.Lib
theorem ded1_append (p : IdentD) (l : List IdentD) (y : IdentD) : ded1 p (l ++ [y]) = ded1 p l ++ (if y = (p :: l).getLast (by simp) then [] else [y]) := by
  induction l generalizing p with
  | nil => by_cases h : y = p <;> simp [ded1, h]
  | cons a l ih =>
    by_cases h : a = p
    · subst h
      rw [List.cons_append, ded1, if_pos rfl, ih, ded1, if_pos rfl, List.getLast_cons (List.cons_ne_nil a l)]
    · rw [List.cons_append, ded1, if_neg h, ih, ded1, if_neg h, List.getLast_cons (List.cons_ne_nil a l)]
      rfl
theorem ded_append (l : List IdentD) (y : IdentD) (hl : l ≠ []) : ded (l ++ [y]) = ded l ++ (if y = l.getLast hl then [] else [y]) := by
  cases l with
  | nil => exact absurd rfl hl
  | cons a l => simp only [List.cons_append, ded, ded1_append]
theorem ded_step (d : List IdentD) (j : Nat) (h0 : 0 < j) (hj : j < d.length) : ded (d.take (j + 1)) = if d[j] = d[j - 1] then ded (d.take j) else ded (d.take j) ++ [d[j]] := by
  have hne : d.take j ≠ [] := by intro h; have := congrArg List.length h; rw [List.length_take, List.length_nil] at this; omega
  rw [List.take_succ_eq_append_getElem hj, ded_append _ _ hne]
  have hl : (d.take j).getLast hne = d[j - 1] := by
    rw [List.getLast_eq_getElem, List.getElem_take]
    congr 1
    rw [List.length_take]; omega
  rw [hl]
  split <;> simp
theorem ded_le (l : List IdentD) : (ded l).length ≤ l.length := by
  have h1 : ∀ (p : IdentD) (l : List IdentD), (ded1 p l).length ≤ l.length := by
    intro p l
    induction l generalizing p with
    | nil => simp [ded1]
    | cons y ys ih =>
      by_cases h : y = p
      · rw [ded1, if_pos h]; have := ih p; simp; omega
      · rw [ded1, if_neg h]; have := ih y; simp; omega
  cases l with
  | nil => simp [ded]
  | cons x xs => simp [ded]; exact h1 x xs
theorem set_flat (l : List IdentD) (k : Nat) (d : IdentD) (rest : List Value) (hk : k < l.length) :
    (((l.flatMap iEnc ++ rest).set (k * 3) (.int .i64 d.ag)).set (k * 3 + 1) (.int .i64 d.sh)).set (k * 3 + 2) (.int .i64 d.seq) = (l.set k d).flatMap iEnc ++ rest := by
  induction l generalizing k with
  | nil => simp at hk
  | cons a l ih =>
    cases k with
    | zero => simp [iEnc]
    | succ k =>
      have := ih k (by simpa using hk)
      have e0 : (k + 1) * 3 = k * 3 + 3 := by omega
      rw [e0]
      simp only [List.flatMap_cons, iEnc, List.cons_append, List.nil_append, List.set_cons_succ, Nat.add_right_comm _ 3]
      simpa [iEnc] using this
end Go.Proofs.Ytinnifhnabncfaa.Sets
