/- Plain: the reference's way of finding what more than half have accepted, and the program's, are one. -/
import Derived.Test.YtinnifhnabncfaaLeadF
namespace Go.Proofs.Ytinnifhnabncfaa.Lead
open Go.RowKit Base Mem
/-- How many of a list are at least x, more than x. -/
def ge (l : List Int) (x : Int) : Nat := l.countP fun y => decide (x ≤ y)
def gt (l : List Int) (x : Int) : Nat := l.countP fun y => decide (x < y)
theorem sorted_split {l : List Int} (hs : l.Pairwise (· ≤ ·)) {j : Nat} (hj : j < l.length) : l.length - j ≤ ge l l[j] ∧ gt l l[j] ≤ l.length - 1 - j := by
  induction l generalizing j with
  | nil => simp at hj
  | cons a l ih =>
    obtain ⟨h1, h2⟩ := List.pairwise_cons.1 hs
    cases j with
    | zero =>
      constructor
      · unfold ge
        have : (a :: l).countP (fun y => decide (a ≤ y)) = (a :: l).length := List.countP_eq_length.2 (by
          intro y hy; rcases List.mem_cons.1 hy with rfl | hy
          · simp
          · simpa using h1 y hy)
        simp only [List.getElem_cons_zero]; omega
      · unfold gt
        simp only [List.getElem_cons_zero]
        rw [List.countP_cons_of_neg (by simp)]
        have := List.countP_le_length (p := fun y => decide (a < y)) (l := l)
        simp; omega
    | succ j =>
      have hj' : j < l.length := by simpa using hj
      obtain ⟨i1, i2⟩ := ih h2 hj'
      have ha := h1 l[j] (List.getElem_mem hj')
      constructor
      · unfold ge at i1 ⊢
        simp only [List.getElem_cons_succ]
        rw [List.countP_cons]
        simp only [List.length_cons]; omega
      · unfold gt at i2 ⊢
        simp only [List.getElem_cons_succ]
        rw [List.countP_cons_of_neg (by simpa using ha)]
        simp; omega
theorem med_mem {l : List Int} {k : Nat} (hk : 1 ≤ k) (hl : k ≤ l.length) : medS l k ∈ l.take k ∧ k / 2 < ge (l.take k) (medS l k) ∧ gt (l.take k) (medS l k) ≤ k / 2 := by
  have hp := List.mergeSort_perm (l.take k) fun x y => decide (x ≤ y)
  have hs : ((l.take k).mergeSort fun x y => decide (x ≤ y)).Pairwise (· ≤ ·) := by
    have := List.pairwise_mergeSort (le := fun x y : Int => decide (x ≤ y)) (by intro a b c h1 h2; simp at *; omega) (by intro a b; simp; omega) (l.take k)
    exact this.imp (by intro a b h; simpa using h)
  have hlen : ((l.take k).mergeSort fun x y => decide (x ≤ y)).length = k := by rw [List.length_mergeSort, List.length_take]; omega
  have hj : (k - 1) / 2 < ((l.take k).mergeSort fun x y => decide (x ≤ y)).length := by omega
  have hm : medS l k = ((l.take k).mergeSort fun x y => decide (x ≤ y))[(k - 1) / 2] := by
    unfold medS; rw [List.getD_eq_getElem?_getD, List.getElem?_eq_getElem hj]; rfl
  obtain ⟨h1, h2⟩ := sorted_split hs hj
  rw [← hm, hlen] at h1 h2
  refine ⟨?_, ?_, ?_⟩
  · rw [hm]; exact hp.mem_iff.1 (List.getElem_mem hj)
  · have : ge (l.take k) (medS l k) = ge ((l.take k).mergeSort fun x y => decide (x ≤ y)) (medS l k) := (hp.countP_eq _).symm
    omega
  · have : gt (l.take k) (medS l k) = gt ((l.take k).mergeSort fun x y => decide (x ≤ y)) (medS l k) := (hp.countP_eq _).symm
    omega
theorem cnt_ge (l : List Int) (x : Int) (k : Nat) : cnt l x k = ge (l.take k) x := by unfold cnt ge; rw [List.countP_eq_length_filter]
theorem ge_gt {l : List Int} {x y : Int} (h : x < y) : ge l y ≤ gt l x := List.countP_mono_left (by intro z _ hz; simp at *; omega)
theorem rb_mono (l : List Int) (k : Nat) {i j : Nat} (h : i ≤ j) : rb l k i ≤ rb l k j := by
  obtain ⟨d, rfl⟩ := Nat.le.dest h
  clear h
  induction d with
  | zero => exact Int.le_refl _
  | succ d ih => rw [← Nat.add_assoc]; show _ ≤ rb l k (i + d + 1); rw [rb]; split <;> omega
theorem rb_med {l : List Int} {k : Nat} (hk : 1 ≤ k) (hl : k ≤ l.length) (h0 : ∀ x ∈ l, 0 ≤ x) : rb l k k = medS l k := by
  obtain ⟨h1, h2, h3⟩ := med_mem hk hl
  have hm0 : 0 ≤ medS l k := h0 _ (List.mem_of_mem_take h1)
  have hle : ∀ i, rb l k i ≤ medS l k := by
    intro i
    induction i with
    | zero => exact hm0
    | succ i ih =>
      rw [rb]
      split
      · rename_i hc
        have : l.getD i 0 ≤ medS l k := by
          rcases Int.lt_or_le (medS l k) (l.getD i 0) with h | h
          · have := ge_gt (l := l.take k) h
            rw [← cnt_ge] at this
            omega
          · exact h
        omega
      · exact ih
  obtain ⟨i, hi, he⟩ := List.getElem_of_mem h1
  have hik : i < k := by rw [List.length_take] at hi; omega
  have he2 : l.getD i 0 = medS l k := by
    rw [← he, List.getElem_take, List.getD_eq_getElem?_getD, List.getElem?_eq_getElem (by omega)]; rfl
  have h4 : medS l k ≤ rb l k (i + 1) := by
    rw [rb, he2, if_pos (by rw [cnt_ge]; exact h2)]; omega
  have h5 := rb_mono l k (show i + 1 ≤ k from hik)
  have h6 := hle k
  omega
end Go.Proofs.Ytinnifhnabncfaa.Lead
