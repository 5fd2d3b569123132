/- Plain words: joined deltas have each series once, and the same sums; joined again they stay. -/
import Derived.Test.YtinnifhnabncfaaDoorEntE
namespace Go.Proofs.YtinnifhnabncfaaDoor.Vi
open Go.RowKit Base Mem Tape
theorem ser_iff (a b : ByteArray) : (a.toList == b.toList) = true ↔ a = b := by
  rw [beq_iff_eq]
  exact ⟨toList_inj, fun h => by rw [h]⟩
theorem ser_ne {a b : ByteArray} (h : a ≠ b) : (a.toList == b.toList) = false := by
  rw [Bool.eq_false_iff]
  exact fun he => h ((ser_iff a b).1 he)
/-- The sum of a series. -/
def sumS (p : List DeltaD) (s : ByteArray) : Nat := (p.map fun d => if (d.ser.toList == s.toList) = true then d.n.toNat else 0).sum
theorem sumS_snoc (p : List DeltaD) (d : DeltaD) (s : ByteArray) : sumS (p ++ [d]) s = sumS p s + if (d.ser.toList == s.toList) = true then d.n.toNat else 0 := by
  unfold sumS
  rw [List.map_append, List.sum_append]
  simp
theorem sumS_none (p : List DeltaD) (s : ByteArray) (h : ∀ d ∈ p, d.ser ≠ s) : sumS p s = 0 := by
  induction p with
  | nil => rfl
  | cons d p ih =>
    have h1 := ih (fun x hx => h x (by simp [hx]))
    unfold sumS at h1 ⊢
    rw [List.map_cons, List.sum_cons, h1, ser_ne (h d (by simp))]
    simp
theorem sumS_le (p : List DeltaD) (s : ByteArray) (h : ∀ d ∈ p, d.n ≤ 65535) : sumS p s ≤ 65535 * p.length := by
  induction p with
  | nil => simp [sumS]
  | cons d p ih =>
    have h1 := ih (fun x hx => h x (by simp [hx]))
    have h2 := h d (by simp)
    unfold sumS at h1 ⊢
    rw [List.map_cons, List.sum_cons, List.length_cons]
    split <;> omega
/-- No two of one series. -/
def Dist (l : List DeltaD) : Prop := (l.map (·.ser)).Pairwise (· ≠ ·)
structure JInv (p acc : List DeltaD) : Prop where
  dist : Dist acc
  sums : ∀ y ∈ acc, y.n = (sumS p y.ser : Nat)
  all : ∀ d ∈ p, ∃ y ∈ acc, y.ser = d.ser
theorem map_set_ser (acc : List DeltaD) (k : Nat) (hk : k < acc.length) (n : Int) : (acc.set k ⟨acc[k].ser, n⟩).map (·.ser) = acc.map (·.ser) := by
  rw [List.map_set]
  apply List.ext_getElem (by simp)
  intro i h1 h2
  rw [List.getElem_set]
  split
  · subst_vars; simp
  · rfl
theorem dist_ne {l : List DeltaD} (h : Dist l) {i j : Nat} (hi : i < l.length) (hj : j < l.length) (hij : i ≠ j) : l[i].ser ≠ l[j].ser := by
  have h1 := List.pairwise_iff_getElem.1 h
  rcases Nat.lt_or_gt_of_ne hij with h2 | h2
  · have := h1 i j (by simpa using hi) (by simpa using hj) h2
    simpa using this
  · have := h1 j i (by simpa using hj) (by simpa using hi) h2
    intro e
    apply this
    simpa using e.symm
theorem jinv_step {p acc : List DeltaD} {d : DeltaD} (h : JInv p acc) (h0 : 0 ≤ d.n) (h1 : d.n ≤ 65535) (hp : ∀ x ∈ p, x.n ≤ 65535) (hl : p.length ≤ 1000) : JInv (p ++ [d]) (addD acc d) := by
  obtain ⟨hd, hs, ha⟩ := h
  unfold addD
  rcases ixD_cases acc d.ser with ⟨hix, hno⟩ | ⟨k, hk, hix, heq⟩
  · rw [hix, if_pos (by decide)]
    have hne : ∀ y ∈ acc, y.ser ≠ d.ser := fun y hy e => by have := hno y hy; rw [e] at this; simp at this
    refine ⟨?_, ?_, ?_⟩
    · unfold Dist
      rw [List.map_append, List.pairwise_append]
      refine ⟨hd, by simp, ?_⟩
      intro a ha' b hb'
      simp at ha' hb'
      obtain ⟨y, hy, rfl⟩ := ha'
      subst hb'
      exact hne y hy
    · intro y hy
      rw [sumS_snoc]
      rcases List.mem_append.1 hy with hy | hy
      · rw [ser_ne (fun e => hne y hy e.symm), hs y hy]; simp
      · simp at hy
        subst hy
        have h0' : sumS p y.ser = 0 := sumS_none p y.ser (fun x hx e => by
          obtain ⟨z, hz, hze⟩ := ha x hx
          exact hne z hz (hze.trans e))
        rw [h0', if_pos (by simp)]
        omega
    · intro x hx
      rcases List.mem_append.1 hx with hx | hx
      · obtain ⟨y, hy, e⟩ := ha x hx
        exact ⟨y, List.mem_append_left _ hy, e⟩
      · simp at hx
        subst hx
        exact ⟨x, by simp, rfl⟩
  · have hser : acc[k].ser = d.ser := (ser_iff _ _).1 heq
    rw [hix, if_neg (by omega), Int.toNat_natCast, getElem!_pos acc k hk]
    have hnk := hs acc[k] (List.getElem_mem _)
    have hle := sumS_le p acc[k].ser hp
    have hadd : addS acc[k].n.toNat d.n.toNat = sumS p acc[k].ser + d.n.toNat := by
      unfold addS
      rw [hnk, Int.toNat_natCast, if_neg (by omega)]
    rw [hadd]
    refine ⟨?_, ?_, ?_⟩
    · unfold Dist
      rw [map_set_ser acc k hk]
      exact hd
    · intro y hy
      rw [sumS_snoc]
      obtain ⟨i, hi, rfl⟩ := List.getElem_of_mem hy
      rw [List.length_set] at hi
      rw [List.getElem_set]
      by_cases hik : k = i
      · subst hik
        rw [if_pos rfl]
        simp only []
        rw [hser, if_pos (by simp)]
      · rw [if_neg hik]
        have hne := dist_ne hd hk hi hik
        rw [ser_ne (fun e => hne (hser.trans e)), hs acc[i] (List.getElem_mem _)]
        simp
    · intro x hx
      have hmem : ∀ s, (∃ y ∈ acc, y.ser = s) → ∃ y ∈ acc.set k ⟨acc[k].ser, (sumS p acc[k].ser + d.n.toNat : Nat)⟩, y.ser = s := by
        rintro s ⟨y, hy, rfl⟩
        have h2 : y.ser ∈ (acc.set k ⟨acc[k].ser, ((sumS p acc[k].ser + d.n.toNat : Nat) : Int)⟩).map (·.ser) := by rw [map_set_ser acc k hk]; exact List.mem_map_of_mem hy
        obtain ⟨z, hz, e⟩ := List.mem_map.1 h2
        exact ⟨z, hz, e⟩
      rcases List.mem_append.1 hx with hx | hx
      · exact hmem _ (ha x hx)
      · simp at hx
        subst hx
        exact hmem _ ⟨acc[k], List.getElem_mem _, hser⟩
theorem jinv_fold (l : List DeltaD) : ∀ (p acc : List DeltaD), JInv p acc → (∀ d ∈ p ++ l, 0 ≤ d.n ∧ d.n ≤ 65535) → (p ++ l).length ≤ 1000 → JInv (p ++ l) (l.foldl addD acc) := by
  induction l with
  | nil => intro p acc h _ _; simpa using h
  | cons d l ih =>
    intro p acc h hn hl
    rw [List.foldl_cons]
    have h1 := jinv_step h (hn d (by simp)).1 (hn d (by simp)).2 (fun x hx => (hn x (by simp [hx])).2) (by simp at hl; omega)
    have h2 := ih (p ++ [d]) (addD acc d) h1 (by simpa using hn) (by simpa using hl)
    simpa using h2
theorem join_inv (l : List DeltaD) (hn : ∀ d ∈ l, 0 ≤ d.n ∧ d.n ≤ 65535) (hl : l.length ≤ 1000) : JInv l (joinD l) := by
  have := jinv_fold l [] [] ⟨List.Pairwise.nil, by simp, by simp⟩ (by simpa using hn) (by simpa using hl)
  simpa [joinD] using this
theorem fold_dist (l : List DeltaD) : ∀ acc, Dist (acc ++ l) → l.foldl addD acc = acc ++ l := by
  induction l with
  | nil => intro acc _; simp
  | cons d l ih =>
    intro acc h
    rw [List.foldl_cons]
    have hadd : addD acc d = acc ++ [d] := by
      unfold addD
      rcases ixD_cases acc d.ser with ⟨hix, _⟩ | ⟨k, hk, hix, heq⟩
      · rw [hix, if_pos (by decide)]
      · exfalso
        have hser : acc[k].ser = d.ser := (ser_iff _ _).1 heq
        have := dist_ne h (i := k) (j := acc.length) (by simp; omega) (by simp) (by omega)
        rw [List.getElem_append_left hk] at this
        simp at this
        exact this hser
    rw [hadd, ih (acc ++ [d]) (by simpa using h)]
    simp
theorem join_again (l : List DeltaD) (h : Dist l) : joinD l = l := by
  have := fold_dist l [] (by simpa using h)
  simpa [joinD] using this
end Go.Proofs.YtinnifhnabncfaaDoor.Vi
