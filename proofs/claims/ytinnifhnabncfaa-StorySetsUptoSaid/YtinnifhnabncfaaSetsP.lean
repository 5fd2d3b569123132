/- Plain: a sorted row without its twins. -/
import Derived.Test.YtinnifhnabncfaaSets3
namespace Go.Proofs.Ytinnifhnabncfaa.Sets
def le (x y : IdentD) : Bool := !(iLt y x)
theorem le_iff (a b : IdentD) : le a b = true ↔ ¬ (b.ag < a.ag ∨ b.ag = a.ag ∧ (b.sh < a.sh ∨ b.sh = a.sh ∧ b.seq < a.seq)) := by
  unfold le; rw [Bool.not_eq_true', iLt_no]
theorem lt_of_le {a b : IdentD} (h : le a b = true) (hn : b ≠ a) : iLt a b = true := by
  rw [le_iff] at h; rw [iLt_iff]
  obtain ⟨a1, a2, a3⟩ := a
  obtain ⟨b1, b2, b3⟩ := b
  simp at *
  omega
theorem lt_trans {a b c : IdentD} (h : iLt a b = true) (h2 : iLt b c = true) : iLt a c = true := by rw [iLt_iff] at *; omega
theorem lt_irrefl (a : IdentD) : iLt a a = false := by rw [iLt_no]; omega
def ded1 (p : IdentD) : List IdentD → List IdentD
  | [] => []
  | y :: ys => if y = p then ded1 p ys else y :: ded1 y ys
def ded : List IdentD → List IdentD
  | [] => []
  | x :: xs => x :: ded1 x xs
theorem ded1_sorted (p : IdentD) (l : List IdentD) (h : (p :: l).Pairwise fun a b => le a b = true) : (p :: ded1 p l).Pairwise fun a b => iLt a b = true := by
  induction l generalizing p with
  | nil => simp [ded1]
  | cons y ys ih =>
    rw [List.pairwise_cons] at h
    obtain ⟨h1, h2⟩ := h
    by_cases hy : y = p
    · subst hy
      rw [ded1, if_pos rfl]
      exact ih y h2
    · rw [ded1, if_neg hy]
      have h3 := ih y h2
      refine List.pairwise_cons.2 ⟨fun z hz => ?_, h3⟩
      have hpy := lt_of_le (h1 y (by simp)) hy
      rcases List.mem_cons.1 hz with rfl | hz
      · exact hpy
      · exact lt_trans hpy ((List.pairwise_cons.1 h3).1 z hz)
theorem ded_sorted (l : List IdentD) (h : l.Pairwise fun a b => le a b = true) : (ded l).Pairwise fun a b => iLt a b = true := by
  cases l with
  | nil => simp [ded]
  | cons x xs => exact ded1_sorted x xs h
theorem ded1_mem (p x : IdentD) (l : List IdentD) : x ∈ p :: ded1 p l ↔ x ∈ p :: l := by
  induction l generalizing p with
  | nil => simp [ded1]
  | cons y ys ih =>
    by_cases hy : y = p
    · subst hy
      rw [ded1, if_pos rfl, ih]
      simp
    · rw [ded1, if_neg hy, List.mem_cons, ih]; simp
theorem ded_mem (x : IdentD) (l : List IdentD) : x ∈ ded l ↔ x ∈ l := by
  cases l with
  | nil => simp [ded]
  | cons y ys => exact ded1_mem y x ys
/-- Two rows that rise and have the same idents are one. -/
theorem sorted_ext (l l' : List IdentD) (h : l.Pairwise fun a b => iLt a b = true) (h' : l'.Pairwise fun a b => iLt a b = true) (hm : ∀ x, x ∈ l ↔ x ∈ l') : l = l' := by
  induction l generalizing l' with
  | nil => cases l' with
    | nil => rfl
    | cons y ys => exact absurd ((hm y).2 (by simp)) (by simp)
  | cons x xs ih =>
    cases l' with
    | nil => exact absurd ((hm x).1 (by simp)) (by simp)
    | cons y ys =>
      rw [List.pairwise_cons] at h h'
      have hxy : x = y := by
        rcases List.mem_cons.1 ((hm x).1 (by simp)) with h1 | h1
        · exact h1
        · rcases List.mem_cons.1 ((hm y).2 (by simp)) with h2 | h2
          · exact h2.symm
          · have := lt_trans (h'.1 x h1) (h.1 y h2)
            rw [lt_irrefl] at this; cases this
      subst hxy
      congr 1
      refine ih ys h.2 h'.2 fun z => ⟨fun hz => ?_, fun hz => ?_⟩
      · rcases List.mem_cons.1 ((hm z).1 (List.mem_cons_of_mem _ hz)) with h1 | h1
        · subst h1; have := h.1 _ hz; rw [lt_irrefl] at this; cases this
        · exact h1
      · rcases List.mem_cons.1 ((hm z).2 (List.mem_cons_of_mem _ hz)) with h1 | h1
        · subst h1; have := h'.1 _ hz; rw [lt_irrefl] at this; cases this
        · exact h1
def uni (l : List IdentD) : List IdentD := ded (l.mergeSort le)
theorem uni_sorted (l : List IdentD) : (uni l).Pairwise fun a b => iLt a b = true :=
  ded_sorted _ (List.pairwise_mergeSort (fun a b c h1 h2 => by rw [le_iff] at *; omega) (fun a b => by rw [Bool.or_eq_true, le_iff, le_iff]; omega) l)
theorem uni_mem (x : IdentD) (l : List IdentD) : x ∈ uni l ↔ x ∈ l := by unfold uni; rw [ded_mem, List.mem_mergeSort]
theorem uni_comm (a b : List IdentD) : uni (a ++ b) = uni (b ++ a) := sorted_ext _ _ (uni_sorted _) (uni_sorted _) fun x => by rw [uni_mem, uni_mem]; simp [or_comm]
theorem uni_self (l : List IdentD) : uni (uni l ++ uni l) = uni l := sorted_ext _ _ (uni_sorted _) (uni_sorted _) fun x => by rw [uni_mem]; simp
end Go.Proofs.Ytinnifhnabncfaa.Sets
