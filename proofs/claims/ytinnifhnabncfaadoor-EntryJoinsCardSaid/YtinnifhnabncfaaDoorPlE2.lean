/- Plain words: what is read from bytes is no longer than they are. -/
import Derived.Test.YtinnifhnabncfaaDoorPlE
namespace Go.Proofs.YtinnifhnabncfaaDoor.Vi
open Go.RowKit Base Mem
theorem numS_len (l : List UInt8) (b : Bool) : (numS l b).2.1.length ≤ l.length := by
  unfold numS
  split
  · exact Nat.le_refl _
  · simp only [List.length_drop]; omega
theorem intS_len (l : List UInt8) (b : Bool) : (intS l b).2.1.length ≤ l.length := by
  unfold intS
  split <;> exact numS_len l b
theorem countS_len (l : List UInt8) (b : Bool) (m : Nat) : (countS l b m).2.1.length ≤ l.length := by
  unfold countS
  split <;> exact intS_len l b
theorem countS_most (l : List UInt8) (b : Bool) (m : Nat) : (countS l b m).1 ≤ m := by
  unfold countS
  split
  · simp
  · omega
theorem textS_len (l : List UInt8) (b : Bool) : (textS l b).2.1.length ≤ l.length ∧ (textS l b).1.length ≤ l.length := by
  unfold textS
  split
  · simp
  · refine ⟨by simp only [List.length_drop]; omega, ?_⟩
    unfold cutL
    split
    · simp
    · simp only [List.length_take, List.length_drop]; omega
theorem byteS_len (l : List UInt8) (b : Bool) : (byteS l b).2.1.length ≤ l.length := by
  unfold byteS
  split
  · exact Nat.le_refl _
  · cases l <;> simp
theorem getDs_short : ∀ (n : Nat) (l : List UInt8) (b : Bool), (∀ d ∈ (getDs n l b).1, d.ser.size ≤ l.length ∧ NOk d) ∧ (getDs n l b).1.length = n
  | 0, _, _ => ⟨by simp [getDs], rfl⟩
  | n + 1, l, b => by
    have h1 := textS_len l b
    have h2 := numS_len (textS l b).2.1 (textS l b).2.2
    have h4 := numS_lt (textS l b).2.1 (textS l b).2.2
    obtain ⟨h3, h5⟩ := getDs_short n (numS (textS l b).2.1 (textS l b).2.2).2.1 (numS (textS l b).2.1 (textS l b).2.2).2.2
    rw [getDs]
    refine ⟨fun d hd => ?_, by simp only [List.length_cons, h5]⟩
    rcases List.mem_cons.1 hd with rfl | hd
    · refine ⟨h1.2, ?_⟩
      unfold NOk
      simp only []
      omega
    · obtain ⟨h6, h7⟩ := h3 d hd
      exact ⟨by omega, h7⟩
theorem readX_two (fr tag : Nat) (l : List UInt8) (b : Bool) : readX 2 fr tag l b = (⟨(2 : Nat), 0, 0, 0, 0, [], ⟨(textS l b).1.toArray⟩, fr, tag⟩, (textS l b).2) := if_pos rfl
theorem readX_else (k fr tag : Nat) (l : List UInt8) (b : Bool) (hk : ¬ k = 2) : ∃ a s q p n d, a = countS l b 8 ∧ s = countS a.2.1 a.2.2 4 ∧ q = intS s.2.1 s.2.2 ∧ p = intS q.2.1 q.2.2 ∧ n = countS p.2.1 p.2.2 8 ∧ d = getDs n.1 n.2.1 n.2.2 ∧
    readX k fr tag l b = (⟨k, a.1, s.1, q.1, p.1, d.1, ⟨#[]⟩, fr, tag⟩, d.2) := ⟨_, _, _, _, _, _, rfl, rfl, rfl, rfl, rfl, rfl, if_neg hk⟩
theorem readX_all (k fr tag : Nat) (l : List UInt8) (b : Bool) (N : Nat) (h : l.length ≤ N) (ht : tag ≤ 9223372036854775807) : (readX k fr tag l b).1.ser.size ≤ N ∧ (∀ d ∈ (readX k fr tag l b).1.ds, d.ser.size ≤ N ∧ NOk d) ∧ (readX k fr tag l b).1.ds.length ≤ 8 ∧ Wf (readX k fr tag l b).1 := by
  by_cases hk : k = 2
  · subst hk
    have h1 := (textS_len l b).2
    rw [readX_two]
    generalize textS l b = t at *
    refine ⟨?_, fun d hd => (by cases hd), Nat.zero_le _, ?_, ?_, ?_, fun d hd => (by cases hd)⟩
    · show t.1.toArray.size ≤ N
      rw [List.size_toArray]; omega
    · show (tag : Int) ≤ _; omega
    · show (0 : Int) ≤ _; omega
    · show (0 : Int) ≤ _; omega
  · obtain ⟨a, s, q, p, n, d, ha, hs, hq, hp, hn, hd, e⟩ := readX_else k fr tag l b hk
    have h1 := countS_len l b 8
    have h2 := countS_len a.2.1 a.2.2 4
    have h3 := intS_len s.2.1 s.2.2
    have h4 := intS_len q.2.1 q.2.2
    have h5 := countS_len p.2.1 p.2.2 8
    have h6 := countS_most p.2.1 p.2.2 8
    have h7 := intS_lt s.2.1 s.2.2
    have h8 := intS_lt q.2.1 q.2.2
    obtain ⟨h9, h10⟩ := getDs_short n.1 n.2.1 n.2.2
    rw [← ha] at h1
    rw [← hs] at h2
    rw [← hq] at h3 h7
    rw [← hp] at h4 h8
    rw [← hn] at h5 h6
    rw [← hd] at h9 h10
    rw [e]
    refine ⟨Nat.zero_le _, fun x hx => ?_, by show d.1.length ≤ 8; omega, ?_, ?_, ?_, fun x hx => (h9 x hx).2⟩
    · obtain ⟨h11, h12⟩ := h9 x hx
      exact ⟨by omega, h12⟩
    · show (tag : Int) ≤ _; omega
    · show (q.1 : Int) ≤ _; omega
    · show (p.1 : Int) ≤ _; omega
theorem readH_eq (l : List UInt8) : ∃ k f t, k = byteS l false ∧ f = countS k.2.1 k.2.2 8 ∧ t = intS f.2.1 f.2.2 ∧ readH l = readX k.1.toNat f.1 t.1 t.2.1 t.2.2 := ⟨_, _, _, rfl, rfl, rfl, rfl⟩
theorem readH_short (l : List UInt8) (h : l.length < 4294967281) : Short (readH l).1 ∧ (readH l).1.ds.length ≤ 8 ∧ Wf (readH l).1 := by
  obtain ⟨k, f, t, hk, hf, ht, e⟩ := readH_eq l
  have h1 := byteS_len l false
  have h2 := countS_len k.2.1 k.2.2 8
  have h3 := intS_len f.2.1 f.2.2
  have h4 := intS_lt f.2.1 f.2.2
  rw [← hk] at h1
  rw [← hf] at h2
  rw [← ht] at h3 h4
  rw [e]
  obtain ⟨h5, h6, h7, h8⟩ := readX_all k.1.toNat f.1 t.1 t.2.1 t.2.2 l.length (by omega) h4
  exact ⟨⟨by omega, fun d hd => by have := (h6 d hd).1; omega, by omega⟩, h7, h8⟩
end Go.Proofs.YtinnifhnabncfaaDoor.Vi
