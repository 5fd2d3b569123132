/- Texts put together: PlE, PlE2, RfE, RefH, EntC, RefI, EntB, Ent9, EntA. -/
import Derived.Lib.Strings
import Derived.Shelf.SlicesQ.Equal
import Derived.Test.YtinnifhnabncfaaGreatDoorET3
import Derived.Test.YtinnifhnabncfaaGreatDoorET5
import Derived.Test.YtinnifhnabncfaaGreatDoorET6
set_option linter.unusedVariables false
set_option linter.unusedSimpArgs false
/- Plain words: an entry that is written is read as itself. -/
section
namespace Go.Proofs.YtinnifhnabncfaaGreatDoor.Vi
open Go.RowKit Base Mem
theorem right_kind {e : EntryD} (h : rightE e = 0) : kindS e = true := by
  unfold rightE at h
  cases hk : kindS e with
  | true => rfl
  | false => rw [hk] at h; cases h
theorem byteS_cons (c : UInt8) (r : List UInt8) : byteS (c :: r) false = (c, r, false) := rfl
/-- What follows a message's head. -/
def readX (k fr tag : Nat) (l : List UInt8) (b : Bool) : EntryD × List UInt8 × Bool :=
  if k = 2 then (⟨k, 0, 0, 0, 0, [], ⟨(textS l b).1.toArray⟩, fr, tag⟩, (textS l b).2)
  else
    let a := countS l b 8
    let s := countS a.2.1 a.2.2 4
    let q := intS s.2.1 s.2.2
    let p := intS q.2.1 q.2.2
    let n := countS p.2.1 p.2.2 8
    let d := getDs n.1 n.2.1 n.2.2
    (⟨k, a.1, s.1, q.1, p.1, d.1, ⟨#[]⟩, fr, tag⟩, d.2)
def readH (b : List UInt8) : EntryD × List UInt8 × Bool :=
  let k := byteS b false
  let f := countS k.2.1 k.2.2 8
  let t := intS f.2.1 f.2.2
  readX k.1.toNat f.1 t.1 t.2.1 t.2.2
def zeroD : EntryD := ⟨0, 0, 0, 0, 0, [], ⟨#[]⟩, 0, 0⟩
/-- The entry that bytes are, or why not. -/
def readE (b : List UInt8) : EntryD × Nat := if (!(readH b).2.2 && (readH b).2.1.isEmpty) = true ∧ rightE (readH b).1 = 0 then ((readH b).1, 0) else (zeroD, 12)
theorem getDs_put (ds : List DeltaD) (r : List UInt8) (hn : ∀ d ∈ ds, NOk d) (hs : ∀ d ∈ ds, d.ser.size < 4294967281) : getDs ds.length (ds.flatMap dBytes ++ r) false = (ds, r, false) := by
  induction ds with
  | nil => rfl
  | cons d ds ih =>
    obtain ⟨h0, h1⟩ := hn d (by simp)
    have h2 := hs d (by simp)
    obtain ⟨ser, n⟩ := d
    obtain ⟨n, rfl⟩ := Int.eq_ofNat_of_zero_le h0
    simp only [] at h1 h2
    have ht := textS_put (sB ser) (Lib.uvarint n ++ (ds.flatMap dBytes ++ r)) (by show ser.size < _; omega)
    have hu := numS_put n (ds.flatMap dBytes ++ r) (by omega)
    have hd : dBytes ⟨ser, n⟩ = Lib.uvarint (sB ser).length ++ sB ser ++ Lib.uvarint n := rfl
    rw [List.flatMap_cons, hd, List.length_cons, getDs]
    simp only [List.append_assoc] at ht ⊢
    rw [ht]
    simp only []
    rw [hu]
    simp only []
    rw [ih (fun d hd => hn d (by simp [hd])) (fun d hd => hs d (by simp [hd]))]
    rfl
theorem read_bytes (e : EntryD) (hr : rightE e = 0) (hw : Wf e) (hs : Short e) : readE (bytesE e) = (e, 0) := by
  obtain ⟨⟨hf0, hf8, ht0⟩, hrest⟩ := right_facts hr
  have hk := right_kind hr
  have hH : readH (bytesE e) = (e, [], false) := by
    obtain ⟨hw1, hw2, hw3, hw4⟩ := hw
    obtain ⟨hs1, hs2, hs3⟩ := hs
    clear hr
    obtain ⟨kind, ag, sh, seq, ep, ds, ser, fr, tag⟩ := e
    simp only [] at hf0 hf8 ht0 hrest hw1 hw2 hw3 hw4 hs1 hs2 hs3
    obtain ⟨fr, rfl⟩ := Int.eq_ofNat_of_zero_le hf0
    obtain ⟨tag, rfl⟩ := Int.eq_ofNat_of_zero_le ht0
    have hfr := fun r => countS_put fr r 8 (by omega) (by omega)
    have htg := fun r => intS_put tag r (by omega)
    unfold kindS at hk
    simp only [] at hk
    rcases hrest with rfl | ⟨rfl, h1, h2, h3, h4, h5, h6, h7⟩
    · rw [if_neg (by omega), if_pos rfl] at hk
      simp [eqI] at hk
      obtain ⟨⟨⟨rfl, rfl, rfl⟩, rfl⟩, hds⟩ := hk
      obtain rfl : ds = [] := by simpa using hds
      have ht := textS_put (sB ser) [] (by show ser.size < _; omega)
      unfold readH bytesE headB
      rw [if_pos rfl]
      simp only [List.append_nil] at ht
      simp only [List.append_assoc, List.nil_append, List.cons_append, byteS_cons, Int.toNat_natCast, hfr, htg]
      unfold readX
      rw [if_pos (by decide)]
      rw [show Lib.uvarint ser.size ++ sB ser = Lib.uvarint (sB ser).length ++ sB ser from rfl, ht]
      rfl
    · rw [if_pos rfl] at hk
      have hse : ser = ⟨#[]⟩ := by
        have h0 : ser.toList = [] := by simpa using hk
        rw [Lib.toList_data] at h0
        obtain ⟨⟨l⟩⟩ := ser
        simp only [] at h0
        rw [h0]
      subst hse
      obtain ⟨ag, rfl⟩ := Int.eq_ofNat_of_zero_le h1
      obtain ⟨sh, rfl⟩ := Int.eq_ofNat_of_zero_le h3
      obtain ⟨seq, rfl⟩ := Int.eq_ofNat_of_zero_le (show 0 ≤ seq by omega)
      obtain ⟨ep, rfl⟩ := Int.eq_ofNat_of_zero_le (show 0 ≤ ep by omega)
      have ha := fun r => countS_put ag r 8 (by omega) (by omega)
      have hsh := fun r => countS_put sh r 4 (by omega) (by omega)
      have hq := fun r => intS_put seq r (by omega)
      have hp := fun r => intS_put ep r (by omega)
      have hn := fun r => countS_put ds.length r 8 (by omega) (by omega)
      have hg := getDs_put ds [] hw4 hs2
      unfold readH bytesE headB
      rw [if_neg (by simp)]
      simp only [List.append_nil] at hg
      simp only [List.append_assoc, List.nil_append, List.cons_append, byteS_cons, Int.toNat_natCast, hfr, htg]
      unfold readX
      rw [if_neg (by decide)]
      simp only [ha, hsh, hq, hp, hn, hg]
      rfl
  unfold readE
  rw [hH, if_pos ⟨rfl, hr⟩]
end Go.Proofs.YtinnifhnabncfaaGreatDoor.Vi
end
/- Plain words: what is read from bytes is no longer than they are. -/
section
namespace Go.Proofs.YtinnifhnabncfaaGreatDoor.Vi
open Go.RowKit Base Mem
theorem numS_len (l : List UInt8) (b : Bool) : (numS l b).2.1.length ≤ l.length := by
  unfold numS
  split
  · exact Nat.le_refl _
  · simp only [List.length_drop]; omega
theorem intS_len (l : List UInt8) (b : Bool) : (intS l b).2.1.length ≤ l.length := by
  unfold intS
  split <;> exact numS_len l b
theorem countS_len (l : List UInt8) (b : Bool) (m : Nat) : (countS l b m).2.1.length ≤ l.length := by
  unfold countS
  split <;> exact intS_len l b
theorem countS_most (l : List UInt8) (b : Bool) (m : Nat) : (countS l b m).1 ≤ m := by
  unfold countS
  split
  · simp
  · omega
theorem textS_len (l : List UInt8) (b : Bool) : (textS l b).2.1.length ≤ l.length ∧ (textS l b).1.length ≤ l.length := by
  unfold textS
  split
  · simp
  · refine ⟨by simp only [List.length_drop]; omega, ?_⟩
    unfold cutL
    split
    · simp
    · simp only [List.length_take, List.length_drop]; omega
theorem byteS_len (l : List UInt8) (b : Bool) : (byteS l b).2.1.length ≤ l.length := by
  unfold byteS
  split
  · exact Nat.le_refl _
  · cases l <;> simp
theorem getDs_short : ∀ (n : Nat) (l : List UInt8) (b : Bool), (∀ d ∈ (getDs n l b).1, d.ser.size ≤ l.length ∧ NOk d) ∧ (getDs n l b).1.length = n
  | 0, _, _ => ⟨by simp [getDs], rfl⟩
  | n + 1, l, b => by
    have h1 := textS_len l b
    have h2 := numS_len (textS l b).2.1 (textS l b).2.2
    have h4 := numS_lt (textS l b).2.1 (textS l b).2.2
    obtain ⟨h3, h5⟩ := getDs_short n (numS (textS l b).2.1 (textS l b).2.2).2.1 (numS (textS l b).2.1 (textS l b).2.2).2.2
    rw [getDs]
    refine ⟨fun d hd => ?_, by simp only [List.length_cons, h5]⟩
    rcases List.mem_cons.1 hd with rfl | hd
    · refine ⟨h1.2, ?_⟩
      unfold NOk
      simp only []
      omega
    · obtain ⟨h6, h7⟩ := h3 d hd
      exact ⟨by omega, h7⟩
theorem readX_two (fr tag : Nat) (l : List UInt8) (b : Bool) : readX 2 fr tag l b = (⟨(2 : Nat), 0, 0, 0, 0, [], ⟨(textS l b).1.toArray⟩, fr, tag⟩, (textS l b).2) := if_pos rfl
theorem readX_else (k fr tag : Nat) (l : List UInt8) (b : Bool) (hk : ¬ k = 2) : ∃ a s q p n d, a = countS l b 8 ∧ s = countS a.2.1 a.2.2 4 ∧ q = intS s.2.1 s.2.2 ∧ p = intS q.2.1 q.2.2 ∧ n = countS p.2.1 p.2.2 8 ∧ d = getDs n.1 n.2.1 n.2.2 ∧
    readX k fr tag l b = (⟨k, a.1, s.1, q.1, p.1, d.1, ⟨#[]⟩, fr, tag⟩, d.2) := ⟨_, _, _, _, _, _, rfl, rfl, rfl, rfl, rfl, rfl, if_neg hk⟩
theorem readX_all (k fr tag : Nat) (l : List UInt8) (b : Bool) (N : Nat) (h : l.length ≤ N) (ht : tag ≤ 9223372036854775807) : (readX k fr tag l b).1.ser.size ≤ N ∧ (∀ d ∈ (readX k fr tag l b).1.ds, d.ser.size ≤ N ∧ NOk d) ∧ (readX k fr tag l b).1.ds.length ≤ 8 ∧ Wf (readX k fr tag l b).1 := by
  by_cases hk : k = 2
  · subst hk
    have h1 := (textS_len l b).2
    rw [readX_two]
    generalize textS l b = t at *
    refine ⟨?_, fun d hd => (by cases hd), Nat.zero_le _, ?_, ?_, ?_, fun d hd => (by cases hd)⟩
    · show t.1.toArray.size ≤ N
      rw [List.size_toArray]; omega
    · show (tag : Int) ≤ _; omega
    · show (0 : Int) ≤ _; omega
    · show (0 : Int) ≤ _; omega
  · obtain ⟨a, s, q, p, n, d, ha, hs, hq, hp, hn, hd, e⟩ := readX_else k fr tag l b hk
    have h1 := countS_len l b 8
    have h2 := countS_len a.2.1 a.2.2 4
    have h3 := intS_len s.2.1 s.2.2
    have h4 := intS_len q.2.1 q.2.2
    have h5 := countS_len p.2.1 p.2.2 8
    have h6 := countS_most p.2.1 p.2.2 8
    have h7 := intS_lt s.2.1 s.2.2
    have h8 := intS_lt q.2.1 q.2.2
    obtain ⟨h9, h10⟩ := getDs_short n.1 n.2.1 n.2.2
    rw [← ha] at h1
    rw [← hs] at h2
    rw [← hq] at h3 h7
    rw [← hp] at h4 h8
    rw [← hn] at h5 h6
    rw [← hd] at h9 h10
    rw [e]
    refine ⟨Nat.zero_le _, fun x hx => ?_, by show d.1.length ≤ 8; omega, ?_, ?_, ?_, fun x hx => (h9 x hx).2⟩
    · obtain ⟨h11, h12⟩ := h9 x hx
      exact ⟨by omega, h12⟩
    · show (tag : Int) ≤ _; omega
    · show (q.1 : Int) ≤ _; omega
    · show (p.1 : Int) ≤ _; omega
theorem readH_eq (l : List UInt8) : ∃ k f t, k = byteS l false ∧ f = countS k.2.1 k.2.2 8 ∧ t = intS f.2.1 f.2.2 ∧ readH l = readX k.1.toNat f.1 t.1 t.2.1 t.2.2 := ⟨_, _, _, rfl, rfl, rfl, rfl⟩
theorem readH_short (l : List UInt8) (h : l.length < 4294967281) : Short (readH l).1 ∧ (readH l).1.ds.length ≤ 8 ∧ Wf (readH l).1 := by
  obtain ⟨k, f, t, hk, hf, ht, e⟩ := readH_eq l
  have h1 := byteS_len l false
  have h2 := countS_len k.2.1 k.2.2 8
  have h3 := intS_len f.2.1 f.2.2
  have h4 := intS_lt f.2.1 f.2.2
  rw [← hk] at h1
  rw [← hf] at h2
  rw [← ht] at h3 h4
  rw [e]
  obtain ⟨h5, h6, h7, h8⟩ := readX_all k.1.toNat f.1 t.1 t.2.1 t.2.2 l.length (by omega) h4
  exact ⟨⟨by omega, fun d hd => by have := (h6 d hd).1; omega, by omega⟩, h7, h8⟩
end Go.Proofs.YtinnifhnabncfaaGreatDoor.Vi
end
/- Plain words: the document's reading of an entry is ours. -/
section
namespace Go.Proofs.YtinnifhnabncfaaGreatDoor.Vi
open Go.RowKit Base Mem
theorem num_bad (l : List UInt8) : numS l true = (0, l, true) := if_pos (.inl rfl)
theorem int_bad (l : List UInt8) : intS l true = (0, l, true) := by unfold intS; rw [num_bad]; rfl
theorem count_bad (l : List UInt8) (m : Nat) : countS l true m = (0, l, true) := by unfold countS; rw [int_bad]; simp
theorem text_bad (l : List UInt8) : textS l true = ([], l, true) := if_pos (.inl rfl)
theorem getDs_bad : ∀ (n : Nat) (l : List UInt8), (getDs n l true).2.2 = true
  | 0, _ => rfl
  | n + 1, l => by simp only [getDs]; rw [text_bad]; simp only []; rw [num_bad]; exact getDs_bad n l
theorem num_ok {l : List UInt8} {b : Bool} (h : (numS l b).2.2 = false) : b = false := by cases b; rfl; rw [num_bad] at h; cases h
theorem int_ok {l : List UInt8} {b : Bool} (h : (intS l b).2.2 = false) : b = false := by cases b; rfl; rw [int_bad] at h; cases h
theorem count_ok {l : List UInt8} {b : Bool} {m : Nat} (h : (countS l b m).2.2 = false) : b = false := by cases b; rfl; rw [count_bad] at h; cases h
theorem text_ok {l : List UInt8} {b : Bool} (h : (textS l b).2.2 = false) : b = false := by cases b; rfl; rw [text_bad] at h; cases h
theorem getDs_ok {n : Nat} {l : List UInt8} {b : Bool} (h : (getDs n l b).2.2 = false) : b = false := by cases b; rfl; rw [getDs_bad] at h; cases h
theorem count_int {l : List UInt8} {b : Bool} {m : Nat} (h : (intS l b).1 ≤ m) : countS l b m = intS l b := if_neg (by omega)
theorem count_int' {l : List UInt8} {b : Bool} {m : Nat} (h : (countS l b m).2.2 = false) : countS l b m = intS l b := by
  unfold countS at h ⊢
  split at h
  · cases h
  · rename_i hc; rw [if_neg hc]
theorem int_num {l : List UInt8} {b : Bool} (h : (numS l b).1 ≤ 9223372036854775807) : intS l b = numS l b := if_neg (by omega)
theorem int_num' {l : List UInt8} {b : Bool} (h : (intS l b).2.2 = false) : intS l b = numS l b := by
  unfold intS at h ⊢
  split at h
  · cases h
  · rename_i hc; rw [if_neg hc]
/-- So many deltas, till one is not there. -/
def rreadDs : Nat → List UInt8 → Bool → List DeltaD × List UInt8 × Bool
  | 0, l, b => ([], l, b)
  | k + 1, l, b => if b = true then ([], l, b) else
    (⟨⟨(textS l b).1.toArray⟩, (numS (textS l b).2.1 (textS l b).2.2).1⟩ :: (rreadDs k (numS (textS l b).2.1 (textS l b).2.2).2.1 (numS (textS l b).2.1 (textS l b).2.2).2.2).1, (rreadDs k (numS (textS l b).2.1 (textS l b).2.2).2.1 (numS (textS l b).2.1 (textS l b).2.2).2.2).2)
theorem rreadDs_bad (n : Nat) (l : List UInt8) : rreadDs n l true = ([], l, true) := by cases n; rfl; rw [rreadDs, if_pos rfl]
theorem rreadDs_eq : ∀ (n : Nat) (l : List UInt8) (b : Bool), (getDs n l b).2.2 = false ∨ (rreadDs n l b).2.2 = false → rreadDs n l b = getDs n l b
  | 0, _, _, _ => rfl
  | n + 1, l, b, h => by
    have hb : b = false := by
      rcases h with h | h
      · exact getDs_ok h
      · cases b
        · rfl
        · rw [rreadDs_bad] at h; cases h
    subst hb
    rw [rreadDs, if_neg (by simp)] at h ⊢
    simp only [getDs] at h ⊢
    rw [rreadDs_eq n _ _ h]
theorem rreadDs_len : ∀ (n : Nat) (l : List UInt8) (b : Bool), (rreadDs n l b).2.2 = false → (rreadDs n l b).1.length = n
  | 0, _, _, _ => rfl
  | n + 1, l, b, h => by
    cases b with
    | true => rw [rreadDs_bad] at h; cases h
    | false =>
      rw [rreadDs, if_neg (by simp)] at h ⊢
      simp only [] at h ⊢
      rw [List.length_cons, rreadDs_len n _ _ h]
def rreadX (k fr tag : Nat) (l : List UInt8) (b : Bool) : EntryD × List UInt8 × Bool :=
  if k = 2 then (⟨k, 0, 0, 0, 0, [], ⟨(textS l b).1.toArray⟩, fr, tag⟩, (textS l b).2)
  else if k = 1 then
    let a := intS l b
    let s := intS a.2.1 a.2.2
    let q := intS s.2.1 s.2.2
    let p := intS q.2.1 q.2.2
    let n := numS p.2.1 p.2.2
    let d := rreadDs n.1 n.2.1 n.2.2
    (⟨k, a.1, s.1, q.1, p.1, d.1, ⟨#[]⟩, fr, tag⟩, d.2)
  else (⟨k, 0, 0, 0, 0, [], ⟨#[]⟩, fr, tag⟩, l, b)
def rreadH (b : List UInt8) : EntryD × List UInt8 × Bool :=
  let k := byteS b false
  let f := intS k.2.1 k.2.2
  let t := intS f.2.1 f.2.2
  rreadX k.1.toNat f.1 t.1 t.2.1 t.2.2
def rreadE (b : List UInt8) : EntryD × Nat := if (!(rreadH b).2.2 && (rreadH b).2.1.isEmpty) = true ∧ rightE (rreadH b).1 = 0 then ((rreadH b).1, 0) else (zeroD, 12)
theorem rreadX_tag (k fr tag : Nat) (l : List UInt8) (b : Bool) : (rreadX k fr tag l b).1.kind = k ∧ (rreadX k fr tag l b).1.fr = fr ∧ ((rreadX k fr tag l b).2.2 = false → b = false) := by
  unfold rreadX
  split
  · exact ⟨rfl, rfl, fun h => text_ok h⟩
  · split
    · refine ⟨rfl, rfl, fun h => ?_⟩
      simp only [] at h
      have h1 : (numS (intS (intS (intS (intS l b).2.1 (intS l b).2.2).2.1 (intS (intS l b).2.1 (intS l b).2.2).2.2).2.1 (intS (intS (intS l b).2.1 (intS l b).2.2).2.1 (intS (intS l b).2.1 (intS l b).2.2).2.2).2.2).2.1 (intS (intS (intS (intS l b).2.1 (intS l b).2.2).2.1 (intS (intS l b).2.1 (intS l b).2.2).2.2).2.1 (intS (intS (intS l b).2.1 (intS l b).2.2).2.1 (intS (intS l b).2.1 (intS l b).2.2).2.2).2.2).2.2).2.2 = false := by
        rw [rreadDs_eq _ _ _ (.inr h)] at h
        exact getDs_ok h
      exact int_ok (int_ok (int_ok (int_ok (num_ok h1))))
    · exact ⟨rfl, rfl, fun h => h⟩
theorem readX_tag (k fr tag : Nat) (l : List UInt8) (b : Bool) : (readX k fr tag l b).1.kind = k ∧ (readX k fr tag l b).1.fr = fr ∧ ((readX k fr tag l b).2.2 = false → b = false) := by
  by_cases hk : k = 2
  · subst hk
    rw [readX_two]
    exact ⟨rfl, rfl, fun h => text_ok h⟩
  · obtain ⟨a, s, q, p, n, d, ha, hs, hq, hp, hn, hd, e⟩ := readX_else k fr tag l b hk
    rw [e]
    refine ⟨rfl, rfl, fun h => ?_⟩
    simp only [] at h
    rw [hd] at h
    have h1 := getDs_ok h
    rw [hn] at h1
    have h2 := count_ok h1
    rw [hp] at h2
    have h3 := int_ok h2
    rw [hq] at h3
    have h4 := int_ok h3
    rw [hs] at h4
    have h5 := count_ok h4
    rw [ha] at h5
    exact count_ok h5
theorem kind_12 {e : EntryD} (h : rightE e = 0) : e.kind = 1 ∨ e.kind = 2 := by
  rcases (right_facts h).2 with h | h
  · exact .inr h
  · exact .inl h.1
theorem rreadX_eq (k fr tag : Nat) (l : List UInt8) (b : Bool) (h : ((readX k fr tag l b).2.2 = false ∧ rightE (readX k fr tag l b).1 = 0) ∨ ((rreadX k fr tag l b).2.2 = false ∧ rightE (rreadX k fr tag l b).1 = 0)) : rreadX k fr tag l b = readX k fr tag l b := by
  have hkk : k = 1 ∨ k = 2 := by
    rcases h with ⟨_, h⟩ | ⟨_, h⟩
    · have h1 := (readX_tag k fr tag l b).1
      rcases kind_12 h with h2 | h2 <;> rw [h1] at h2 <;> omega
    · have h1 := (rreadX_tag k fr tag l b).1
      rcases kind_12 h with h2 | h2 <;> rw [h1] at h2 <;> omega
  rcases hkk with rfl | rfl
  · obtain ⟨a, s, q, p, n, d, ha, hs, hq, hp, hn, hd, e⟩ := readX_else 1 fr tag l b (by omega)
    have er : rreadX 1 fr tag l b = (let a := intS l b
      let s := intS a.2.1 a.2.2
      let q := intS s.2.1 s.2.2
      let p := intS q.2.1 q.2.2
      let n := numS p.2.1 p.2.2
      let d := rreadDs n.1 n.2.1 n.2.2
      (⟨(1 : Nat), a.1, s.1, q.1, p.1, d.1, ⟨#[]⟩, fr, tag⟩, d.2)) := rfl
    simp only [] at er
    rcases h with ⟨h0, hr⟩ | ⟨h0, hr⟩
    · rw [e] at h0
      simp only [] at h0
      rw [hd] at h0
      have b1 := getDs_ok h0
      rw [hn] at b1
      have b2 := count_ok b1
      rw [hp] at b2
      have b3 := int_ok b2
      rw [hq] at b3
      have b4 := int_ok b3
      rw [hs] at b4
      have b5 := count_ok b4
      have ea : a = intS l b := by rw [ha] at b5 ⊢; exact count_int' b5
      have es : s = intS a.2.1 a.2.2 := by rw [hs]; exact count_int' b4
      have en : n = numS p.2.1 p.2.2 := by
        have h1 : n = intS p.2.1 p.2.2 := by rw [hn]; exact count_int' b1
        rw [h1]
        refine int_num' ?_
        rw [← h1, hn]; exact b1
      rw [er, e, ← ea, ← es, ← hq, ← hp, ← en, rreadDs_eq _ _ _ (.inl h0), ← hd]
    · rw [er] at h0 hr
      obtain ⟨⟨f0, f8, _⟩, hx⟩ := right_facts hr
      simp only [] at h0 hx
      have hx := hx.resolve_left (by simp)
      obtain ⟨_, _, x1, _, x2, _, _, x3⟩ := hx
      have hl := rreadDs_len _ _ _ h0
      have ea : a = intS l b := by rw [ha]; exact count_int (by omega)
      rw [← ea] at h0 hr x2 x3 hl er
      have es : s = intS a.2.1 a.2.2 := by rw [hs]; exact count_int (by omega)
      rw [← es, ← hq, ← hp] at h0 hr x3 hl er
      have en : n = numS p.2.1 p.2.2 := by
        have h1 : intS p.2.1 p.2.2 = numS p.2.1 p.2.2 := int_num (by omega)
        rw [hn, count_int (by rw [h1]; omega), h1]
      rw [← en] at h0 er
      rw [er, e, rreadDs_eq _ _ _ (.inr h0), ← hd]
  · rw [readX_two]; rfl
theorem rreadE_eq (b : List UInt8) : rreadE b = readE b := by
  have key : ((readH b).2.2 = false ∧ rightE (readH b).1 = 0) ∨ ((rreadH b).2.2 = false ∧ rightE (rreadH b).1 = 0) → rreadH b = readH b := by
    intro h
    unfold readH rreadH at h ⊢
    simp only [] at h ⊢
    generalize byteS b false = k at *
    have hf : countS k.2.1 k.2.2 8 = intS k.2.1 k.2.2 := by
      rcases h with ⟨h0, hr⟩ | ⟨h0, hr⟩
      · exact count_int' (int_ok ((readX_tag _ _ _ _ _).2.2 h0))
      · have h1 := (right_facts hr).1.2.1
        rw [(rreadX_tag _ _ _ _ _).2.1] at h1
        exact count_int (by omega)
    rw [hf] at h ⊢
    exact rreadX_eq _ _ _ _ _ h
  unfold rreadE readE
  by_cases ho : (readH b).2.2 = false ∧ rightE (readH b).1 = 0
  · rw [key (.inl ho)]
  · by_cases hr : (rreadH b).2.2 = false ∧ rightE (rreadH b).1 = 0
    · rw [key (.inr hr)]
    · rw [if_neg, if_neg]
      · rintro ⟨h1, h2⟩
        rw [Bool.and_eq_true] at h1
        exact ho ⟨by simpa using h1.1, h2⟩
      · rintro ⟨h1, h2⟩
        rw [Bool.and_eq_true] at h1
        exact hr ⟨by simpa using h1.1, h2⟩
end Go.Proofs.YtinnifhnabncfaaGreatDoor.Vi
end
/- Contract of hopperref4.ReadDeltas. -/
section
namespace Go.Proofs.YtinnifhnabncfaaGreatDoor.Vi
open Go.RowKit Base Mem Go.Shelf
theorem text_less {l : List UInt8} (h : (textS l false).2.2 = false) : (textS l false).2.1.length < l.length := by
  unfold textS at h ⊢
  by_cases hc : (cutL l).2 = 0
  · rw [if_pos (.inr hc)] at h; cases h
  · rw [if_neg (by simp [hc])]
    have h1 := (getL_le l).1
    simp only [List.length_drop]
    have h2 : 0 < l.length := by
      rcases Nat.eq_zero_or_pos l.length with hz | hz
      · exfalso
        apply hc
        unfold cutL
        rw [if_pos (.inl (by omega))]
      · exact hz
    omega
theorem rreadDs_short : ∀ (n : Nat) (l : List UInt8) (b : Bool), (rreadDs n l b).1.length ≤ l.length + 1 ∧ ∀ d ∈ (rreadDs n l b).1, d.ser.size ≤ l.length
  | 0, l, b => by simp [rreadDs]
  | n + 1, l, b => by
    cases b with
    | true => rw [rreadDs_bad]; simp
    | false =>
      rw [rreadDs, if_neg (by simp)]
      have h1 := textS_len l false
      have h2 := numS_len (textS l false).2.1 (textS l false).2.2
      obtain ⟨h3, h4⟩ := rreadDs_short n (numS (textS l false).2.1 (textS l false).2.2).2.1 (numS (textS l false).2.1 (textS l false).2.2).2.2
      simp only []
      refine ⟨?_, ?_⟩
      · rw [List.length_cons]
        cases ht : (textS l false).2.2 with
        | true =>
          rw [num_bad, rreadDs_bad]
          simp
        | false =>
          have := text_less ht
          rw [ht] at h3 h2
          omega
      · intro d hd
        rcases List.mem_cons.1 hd with rfl | hd
        · have h5 : (textS l false).1.length ≤ l.length := by first | exact h1.1 | exact h1.2 | omega
          simp only []
          exact h5
        · have := h4 d hd
          omega
def RDsPost (M : List Nat) (p : Nat) (R : List DeltaD × List UInt8 × Bool) (w : World) (e : Ending) (w' : World) : Prop := ∃ v, e = .returned v ∧ w'.ownsRow w.heap.size 86 2 v R.1.length (dCells R.1) ∧ RRdAt w' M p R.2.1 R.2.2 ∧ Keeps [p] w w'
set_option maxRecDepth 100000 in
set_option maxHeartbeats 2000000 in
theorem rreadDs_any (M : List Nat) (p : Nat) (l : List UInt8) (b : Bool) (w : World) (h : RRdAt w M p l b) (hL : l.length < 4294967281) :
    Calls Tryz.prog 134 #[.pointer (some ⟨p, 0, none⟩)] w fun e w' => RDsPost M p (rreadDs (numS l b).1 (numS l b).2.1 (numS l b).2.2) w e w' := by
  have hp0 := h.lt
  obtain ⟨i0, hi0, hz0, hz1, hz2⟩ := info_parts infoDelta2
  have Hi0 := Lib.hid hi0; have Hz0 := Lib.hid hz0; have Hz1 := Lib.hid hz1; have Hz2 := Lib.hid hz2
  have hn := Lib.hid (rnum_any M p l b w h)
  have hnl := numS_len l b
  have hnt := numS_lt l b
  clear h hi0 hz0 hz1 hz2
  generalize numS l b = N at *
  obtain ⟨n0, l0, b0⟩ := N
  simp only [] at hn hnl hnt ⊢
  have hL0 : l0.length < 4294967281 := by first | omega | (have := hnl.2; omega) | (have := hnl.1; omega)
  clear hnl
  obtain ⟨R, hR⟩ : ∃ R, R = rreadDs n0 l0 b0 := ⟨_, rfl⟩
  rw [← hR]
  have HR0 := Lib.hid hR
  clear hR
  go_enter Tryz.func134, Tryz.ntmps134
  go_wp2_with fail
  refine hn.out.mono ?_
  rintro e w1 ⟨rfl, hA1, hk1⟩
  have HA1 := Lib.hid hA1; have Hk1 := Lib.hid hk1
  have hp1 : p < w1.heap.size := hA1.lt
  clear hA1 hk1 hn
  go_wp2_with fail
  go_loopw [3, 4] (fun out n wr => ∃ (k : Nat) (acc : List DeltaD) (lx : List UInt8) (bx : Bool), n = .int .u64 k ∧ k < 18446744073709551616 ∧ Hid (R = (acc ++ (rreadDs k lx bx).1, (rreadDs k lx bx).2)) ∧ Hid (acc.length ≤ l0.length + 1 ∧ (bx = false → acc.length + lx.length ≤ l0.length)) ∧ Hid (wr.ownsRow w1.heap.size 86 2 out acc.length (dCells acc)) ∧ Hid (RRdAt wr (out.ownBlock.toList ++ M) p lx bx) ∧ Hid (Keeps [p] w1 wr)) (fun _ n _ => (intOf n).toNat)
  case atStart => exact ⟨n0, [], l0, b0, rfl, hnt, HR0, (show _ ∧ _ from ⟨by simp, fun _ => by simp⟩), World.ownsRow_nil _ _ _ _, (show RRdAt w1 _ p l0 b0 from HA1.out), Keeps.refl _ _⟩
  case round =>
    obtain ⟨k, acc, lx, bx, rfl, hk, Hg, Hc, Hown, HR, Hk⟩ := hrel
    have hfell : wr.cell? ⟨p, 1, none⟩ = some (.bool bx) := by
      obtain ⟨_, v, hb, _⟩ := HR.out
      exact hb.cell 1
    rcases Nat.eq_zero_or_pos k with hk0 | hk0
    · obtain rfl : k = 0 := hk0
      have hP : Hid (RDsPost M p R w (.returned u3) wr) := by
        have := Hg.out
        simp only [rreadDs, List.append_nil] at this
        rw [this]
        exact ⟨u3, rfl, own_more Hown.out Hk1.out.size, HR.out.avoid (fun g hg => .inl (List.mem_append_right _ hg)), Hk1.out.trans Hk.out (by simp)⟩
      go_wp2
      go_ret
      exact hP.out
    · obtain ⟨j, rfl⟩ : ∃ j, k = j + 1 := ⟨k - 1, by omega⟩
      have hkp : (0 : Int) < (j : Int) + 1 := by omega
      cases bx with
      | true =>
        have hP : Hid (RDsPost M p R w (.returned u3) wr) := by
          have := Hg.out
          rw [rreadDs_bad] at this
          simp only [List.append_nil] at this
          rw [this]
          exact ⟨u3, rfl, own_more Hown.out Hk1.out.size, HR.out.avoid (fun g hg => .inl (List.mem_append_right _ hg)), Hk1.out.trans Hk.out (by simp)⟩
        go_wp2
        go_ret
        exact hP.out
      | false =>
        have hwj : IntKind.u64.wrap (j : Int) = (j : Int) := by rw [IntKind.wrap_u64]; omega
        have hwj2 : IntKind.u64.wrap ((j : Int) + 1 - 1) = (j : Int) := by rw [IntKind.wrap_u64]; omega
        have hjj : (j : Int) + 1 - 1 = (j : Int) := by omega
        have Hst : Hid (rreadDs (j + 1) lx false = (⟨⟨(textS lx false).1.toArray⟩, (numS (textS lx false).2.1 (textS lx false).2.2).1⟩ :: (rreadDs j (numS (textS lx false).2.1 (textS lx false).2.2).2.1 (numS (textS lx false).2.1 (textS lx false).2.2).2.2).1, (rreadDs j (numS (textS lx false).2.1 (textS lx false).2.2).2.1 (numS (textS lx false).2.1 (textS lx false).2.2).2.2).2)) := by
          show _ = _
          rw [rreadDs, if_neg (by simp)]
        have ht := Lib.hid (rstr_any (u3.ownBlock.toList ++ M) p lx false wr HR.out)
        have htl := Lib.hid (fun h => text_less (l := lx) h)
        generalize textS lx false = t at *
        obtain ⟨t1, t2, t3⟩ := t
        simp only [] at ht Hst htl
        go_wp2_with fail
        refine ht.out.mono ?_
        rintro e w3 ⟨rfl, hA3, hk3⟩
        have hu := Lib.hid (rnum_any (u3.ownBlock.toList ++ M) p t2 t3 w3 hA3)
        have hul := Lib.hid (numS_len t2 t3)
        have hub := Lib.hid (fun (h : (numS t2 t3).2.2 = false) => num_ok h)
        have Hk3 := Lib.hid hk3
        generalize numS t2 t3 = u at *
        obtain ⟨u1, u2', u3'⟩ := u
        simp only [] at hu Hst hul hub
        clear hA3 hk3 ht
        go_wp2_with fail
        refine hu.out.mono ?_
        rintro e w4 ⟨rfl, hA4, hk4⟩
        have HA4 := Lib.hid hA4
        have Hk4 : Hid (Keeps [p] wr w4) := Hk3.out.trans hk4 (by simp)
        clear hA4 hk4 hu
        have hown4 := own_keep Hown.out Hk4.out (by simp; exact hp1)
        have Hown5 := Lib.hid (hown4.alloc (.cells #[.string ⟨t1.toArray⟩, .int .u64 u1] 86))
        have hlt0 := Lib.hid Hown.out.lt
        have hz4 : w1.heap.size ≤ w4.heap.size := Nat.le_trans Hk.out.size Hk4.out.size
        have hac : acc.length ≤ 4294967281 := by have := Hc.out.2 (by first | rfl | trivial); omega
        clear hown4
        go_wp2_with (at_builtin; refine wpList_append_any _ rfl (.tmp 21) (.tmp 26) _ rfl w1.heap.size 86 i0 _ 2 24 Tryz.underlying24 Hi0.out Hz0.out Hz1.out Hz2.out rfl (by omega) u3 acc.length (dCells acc) rfl Hown5.out (w4.heap.size + 1) (some ⟨w4.heap.size, 0, none⟩) 1 1 (dCell ⟨⟨t1.toArray⟩, u1⟩) rfl (reads_new _ _ _ _ _ rfl) (by intro u hu; simp [dCell] at hu; rcases hu with rfl | rfl <;> rfl) (by unfold maxLen; omega) (by omega) (by simp; omega) ?_)
        intro v6 w6 hown6 hg6 hat6
        have hpo : p ∉ u3.ownBlock.toList := fun hm => by have := (hlt0.out p (by simpa using hm)).1; omega
        have kg : Keeps u3.ownBlock.toList (w4.alloc (.cells #[.string ⟨t1.toArray⟩, .int .u64 u1] 86)) w6 := (Keeps.refl _ _).grown hg6 (fun g hg => .inl (by simpa using hg))
        have h1 := HA4.out.keep (M' := []) ((Keeps.refl _ _).alloc (.cells #[.string ⟨t1.toArray⟩, .int .u64 u1] 86)) (by simp) (by simp)
        have h2 := h1.avoid (M' := v6.ownBlock.toList ++ (u3.ownBlock.toList ++ M)) (fun g hg => by
          rcases List.mem_append.1 hg with h | h
          · rcases hat6 with h5 | h5
            · exact .inl (List.mem_append_left _ (by rw [h5] at h; exact h))
            · rw [h5] at h; simp at h; exact .inr (by simp; omega)
          · exact .inl h)
        have H6 := Lib.hid ((h2.keep kg (fun g hg => .inl (List.mem_append_right _ (List.mem_append_left _ hg))) hpo).avoid (M' := v6.ownBlock.toList ++ M) (fun g hg => by
          rcases List.mem_append.1 hg with h | h
          · exact .inl (List.mem_append_left _ h)
          · exact .inl (List.mem_append_right _ (List.mem_append_right _ h))))
        have Hk6 : Hid (Keeps [p] w1 w6) := ((Hk.out.trans Hk4.out (by simp)).alloc _).grown hg6 (fun g hg => .inr (hlt0.out g hg).1)
        have Hown6 : Hid (w6.ownsRow w1.heap.size 86 2 v6 (acc ++ [(⟨⟨t1.toArray⟩, u1⟩ : DeltaD)]).length (dCells (acc ++ [⟨⟨t1.toArray⟩, u1⟩]))) := by
          show World.ownsRow _ _ _ _ _ _ _
          unfold dCells at hown6 ⊢
          rw [List.flatMap_append, List.length_append]
          simpa using hown6
        have Hg6 : Hid (R = ((acc ++ [⟨⟨t1.toArray⟩, u1⟩]) ++ (rreadDs j u2' u3').1, (rreadDs j u2' u3').2)) := by
          show _ = _
          rw [Hg.out, Hst.out]; simp
        have Hc6 : Hid ((acc ++ [(⟨⟨t1.toArray⟩, u1⟩ : DeltaD)]).length ≤ l0.length + 1 ∧ (u3' = false → (acc ++ [(⟨⟨t1.toArray⟩, u1⟩ : DeltaD)]).length + u2'.length ≤ l0.length)) := by
          show _ ∧ _
          have h3 := Hc.out.2 (by first | rfl | trivial)
          have h4 := hul.out
          rw [List.length_append, List.length_singleton]
          refine ⟨by omega, fun h => ?_⟩
          have h5 := htl.out (hub.out h)
          omega
        clear hown6 hg6 hat6 kg h1 h2 hpo htl hul hub
        go_wp2
        go_roundw
        case rel => exact ⟨j, acc ++ [⟨⟨t1.toArray⟩, u1⟩], u2', u3', rfl, by omega, Hg6, Hc6, Hown6, H6, Hk6⟩
        case measure => simp [intOf] <;> omega
end Go.Proofs.YtinnifhnabncfaaGreatDoor.Vi
end
/- Contract of entry.Read. -/
section
namespace Go.Proofs.YtinnifhnabncfaaGreatDoor.Vi
open Go.RowKit Base Mem Go.Shelf
def zeroA : Array Value := #[.int .i64 0, .int .i64 0, .int .i64 0, .int .i64 0, .int .i64 0, .slice none 0 0, .string ⟨#[]⟩, .int .i64 0, .int .i64 0]
/-- What stands between two calls: the reader, the result's block, the entry's block. -/
structure Re (w0 w : World) (p g0 g5 : Nat) (l : List UInt8) (bad : Bool) (c : Array Value) : Prop where
  rd : RdAt w [g5] p l bad
  keeps : Below w0.heap.size w0 w
  b0 : Blk w g0 26 zeroA
  b5 : Blk w g5 26 c
  o0 : w0.heap.size ≤ g0
  o1 : g0 < p
  o2 : p < g5
theorem Re.step {w0 w w' : World} {p g0 g5 : Nat} {l l' : List UInt8} {bad bad' : Bool} {c : Array Value} (h : Re w0 w p g0 g5 l bad c) (hr : RdAt w' [g5] p l' bad') (hk : Keeps [p] w w') : Re w0 w' p g0 g5 l' bad' c := by
  have h0 := h.o0; have h1 := h.o1; have h2 := h.o2
  exact ⟨hr, ((Keeps.of_below (M := []) h.keeps).trans hk (by intro g hg; simp at hg; right; omega)).below, hk.blk h.b0 (by simp; omega), hk.blk h.b5 (by simp; omega), h0, h1, h2⟩
theorem Re.set {w0 w : World} {p g0 g5 : Nat} {l : List UInt8} {bad : Bool} {c : Array Value} (h : Re w0 w p g0 g5 l bad c) (i : Nat) (v : Value) : Re w0 (w.setCell ⟨g5, i, none⟩ v) p g0 g5 l bad (c.setIfInBounds i v) := by
  have h0 := h.o0; have h1 := h.o1; have h2 := h.o2
  have hk : Keeps [g5] w (w.setCell ⟨g5, i, none⟩ v) := (Keeps.refl _ _).setCell (by simp) v
  exact ⟨h.rd.keep hk (by simp) (by simp; omega), ((Keeps.of_below (M := []) h.keeps).trans hk (by intro g hg; simp at hg; right; omega)).below, hk.blk h.b0 (by simp; omega), h.b5.set_ i v, h0, h1, h2⟩
theorem blk9 {w : World} {g : Nat} {t : TypeId} {c0 c1 c2 c3 c4 c5 c6 c7 c8 : Value} (h : Blk w g t #[c0, c1, c2, c3, c4, c5, c6, c7, c8]) :
    w.cell? ⟨g, 0, none⟩ = some c0 ∧ w.cell? ⟨g, 1, none⟩ = some c1 ∧ w.cell? ⟨g, 2, none⟩ = some c2 ∧ w.cell? ⟨g, 3, none⟩ = some c3 ∧ w.cell? ⟨g, 4, none⟩ = some c4 ∧ w.cell? ⟨g, 5, none⟩ = some c5 ∧ w.cell? ⟨g, 6, none⟩ = some c6 ∧ w.cell? ⟨g, 7, none⟩ = some c7 ∧ w.cell? ⟨g, 8, none⟩ = some c8 ∧ (∀ i, w.frozen? ⟨g, i, none⟩ = false) :=
  ⟨h.cell 0, h.cell 1, h.cell 2, h.cell 3, h.cell 4, h.cell 5, h.cell 6, h.cell 7, h.cell 8, h.frozen⟩
/-- What a read answers. -/
def ReadPost (r : EntryD × Nat) (w : World) (e : Ending) (w' : World) : Prop := ∃ dv, e = .returned (.tuple #[.agg (eCell (r.1, dv)).toArray, .int .i64 r.2]) ∧ (∀ M, (∀ g ∈ M, g < w.heap.size) → Ds w' M dv r.1.ds) ∧ Below w.heap.size w w'
/-- What stands where both ways have met. -/
def ReCut (w wx : World) (p g5 : Nat) (RH : EntryD × List UInt8 × Bool) : Prop := ∃ dv, Re w wx p w.heap.size g5 RH.2.1 RH.2.2 (eCell (RH.1, dv)).toArray ∧ ∀ M, (∀ g ∈ M, g ≤ w.heap.size) → Ds wx M dv RH.1.ds
set_option maxRecDepth 100000 in
set_option maxHeartbeats 1000000 in
theorem eread_any (v : Value) (l : List UInt8) (m : Int) (w : World) (h : Bs w [] v l) (hl : l.length < 4294967281) (hm : w.cell? ⟨0, 0, none⟩ = some (.int .i64 m)) :
    Calls Tryz.prog 70 #[v] w fun e w' => ReadPost (readE l) w e w' := by
  have hw0 : 0 < w.heap.size := by
    have := World.block_lt_of_cell? w _ hm
    simpa using this
  have Hm := Lib.hid hm
  have hsh := Lib.hid (readH_short l hl)
  have HE : Hid (readE l = if (!(readH l).2.2 && (readH l).2.1.isEmpty) = true ∧ rightE (readH l).1 = 0 then ((readH l).1, 0) else (zeroD, 12)) := rfl
  obtain ⟨kt, ft, tt, hk, hf, ht, hH⟩ := readH_eq l
  generalize readE l = RE at *
  generalize readH l = RH at *
  obtain ⟨A, c, rfl, hc⟩ := h.len
  have Hh := Lib.hid h
  have Hk := Lib.hid hk; have Hf := Lib.hid hf; have Ht := Lib.hid ht; have HH := Lib.hid hH
  clear h hm hk hf ht hH
  go_enter Tryz.func70, Tryz.ntmps70
  go_wp2_with fail
  refine (new_any [] _ l (w.alloc (.cells zeroA 26)) (Hh.out.keep (M' := []) ((Keeps.refl _ _).alloc _) (by simp)) (by omega)).mono ?_
  rintro e w1 ⟨rfl, hrd, hb1⟩
  have hsz : (w.alloc (.cells zeroA 26)).heap.size = w.heap.size + 1 := by simp
  rw [hsz] at hrd hb1 ⊢
  have hB0 : Blk w1 w.heap.size 26 zeroA := (Blk.new w 26 zeroA).below (B := w.heap.size + 1) hb1 (by omega)
  have hbw : Below w.heap.size w w1 := ((Below.refl _ _).alloc (Nat.le_refl _) _).trans (hb1.mono (by omega))
  obtain ⟨p, hp⟩ : ∃ p, p = w.heap.size + 1 := ⟨_, rfl⟩
  rw [← hp] at hrd hb1 ⊢
  have Hrd := Lib.hid hrd; have HB0 := Lib.hid hB0; have Hbw := Lib.hid hbw
  have hpw : w.heap.size < p := by omega
  have hpw1 : p < w1.heap.size := hrd.lt
  clear hrd hB0 hbw hb1 hsz hp
  go_wp2_with fail
  have hby := Lib.hid (byte_any [] p l false w1 Hrd.out)
  rw [← Hk.out] at hby
  obtain ⟨k1, k2, k3⟩ := kt
  simp only [] at hby Hf HH
  refine hby.out.mono ?_
  rintro e w2 ⟨rfl, hrd2, hk2⟩
  have HB2 := Lib.hid (hk2.blk HB0.out (by simp; omega))
  have Hbw2 := Lib.hid ((Keeps.of_below (M := []) Hbw.out).trans hk2 (by intro g hg; simp at hg; right; omega)).below
  have Hrd2 := Lib.hid hrd2
  have hp2 : p < w2.heap.size := hrd2.lt
  simp only [bV]
  have hk256 := UInt8.toNat_lt k1
  generalize k1.toNat = k at *
  have hwk : IntKind.i64.wrap (k : Int) = (k : Int) := by rw [IntKind.wrap_i64]; omega
  clear hrd2 hk2 hby Hbw HB0 Hrd Hk hk256
  go_wp2_with fail
  have hst : Re w (w2.alloc (.cells #[.int .i64 k, .int .i64 0, .int .i64 0, .int .i64 0, .int .i64 0, .slice none 0 0, .string ⟨#[]⟩, .int .i64 0, .int .i64 0] 26)) p w.heap.size w2.heap.size k2 k3 #[.int .i64 k, .int .i64 0, .int .i64 0, .int .i64 0, .int .i64 0, .slice none 0 0, .string ⟨#[]⟩, .int .i64 0, .int .i64 0] :=
    ⟨(Hrd2.out.avoid (M' := [w2.heap.size]) (by intro g hg; simp at hg; right; omega)).keep (M' := []) ((Keeps.refl _ _).alloc _) (by simp) (by simp), Hbw2.out.alloc (by omega) _, HB2.out.below (below_new' w2 _) (by omega), Blk.new w2 _ _, Nat.le_refl _, hpw, hp2⟩
  have H3 := Lib.hid hst
  clear hst HB2 Hbw2 Hrd2
  generalize hw3 : w2.alloc _ = w3 at *
  generalize w2.heap.size = g5 at *
  clear hw3
  have hct := Lib.hid (count_any [g5] p k2 k3 8 (by omega) w3 H3.out.rd)
  rw [← Hf.out] at hct
  obtain ⟨f1, f2, f3⟩ := ft
  simp only [] at hct Ht HH
  refine hct.out.mono ?_
  rintro e w4 ⟨rfl, hA4, hk4⟩
  have H4 := Lib.hid (H3.out.step hA4 hk4)
  clear hA4 hk4 H3 hct Hf
  go_wp2_with fail
  have hct := Lib.hid (rint_any [g5] p f2 f3 w4 H4.out.rd)
  rw [← Ht.out] at hct
  obtain ⟨t1, t2, t3⟩ := tt
  simp only [] at hct HH
  refine hct.out.mono ?_
  rintro e w5 ⟨rfl, hA5, hk5⟩
  have H5 := Lib.hid (H4.out.step hA5 hk5)
  clear hA5 hk5 H4 hct Ht
  obtain ⟨q0, q1, q2, q3, q4, q5, q6, q7, q8, qf⟩ := blk9 H5.out.b5
  have H6 : Hid (Re w ((w5.setCell ⟨g5, 7, none⟩ (.int .i64 f1)).setCell ⟨g5, 8, none⟩ (.int .i64 t1)) p w.heap.size g5 t2 t3 #[.int .i64 k, .int .i64 0, .int .i64 0, .int .i64 0, .int .i64 0, .slice none 0 0, .string ⟨#[]⟩, .int .i64 f1, .int .i64 t1]) :=
    (by simpa using (H5.out.set 7 (.int .i64 f1)).set 8 (.int .i64 t1) : Re w _ p w.heap.size g5 t2 t3 _)
  have ho2 := H5.out.o2
  clear H5
  go_upto_if 20 with (fail)
  go_cut [] (fun wx => ReCut w wx p g5 RH)
  case first =>
    generalize (w5.setCell ⟨g5, 7, none⟩ (.int .i64 f1)).setCell ⟨g5, 8, none⟩ (.int .i64 t1) = w6 at *
    clear q0 q1 q2 q3 q4 q5 q6 q7 q8 qf
    obtain ⟨q0, q1, q2, q3, q4, q5, q6, q7, q8, qf⟩ := blk9 H6.out.b5
    by_cases hk2 : k = 2
    · subst hk2
      have HH2 : Hid (RH = (⟨(2 : Nat), 0, 0, 0, 0, [], ⟨(textS t2 t3).1.toArray⟩, f1, t1⟩, (textS t2 t3).2)) := by show _ = _; rw [HH.out, readX_two]
      clear HH
      have hct := Lib.hid (rtext_any [g5] p t2 t3 w6 H6.out.rd)
      generalize textS t2 t3 = s at *
      obtain ⟨s1, s2, s3⟩ := s
      simp only [] at hct HH2
      go_wp2_with fail
      refine hct.out.mono ?_
      rintro e w7 ⟨rfl, hA7, hk7⟩
      have H7 := Lib.hid (H6.out.step hA7 hk7)
      clear hA7 hk7 H6 hct q0 q1 q2 q3 q4 q5 q6 q7 q8 qf
      obtain ⟨q0, q1, q2, q3, q4, q5, q6, q7, q8, qf⟩ := blk9 H7.out.b5
      have hC : Hid (ReCut w (w7.setCell ⟨g5, 6, none⟩ (.string ⟨s1.toArray⟩)) p g5 RH) := by
        show ReCut _ _ _ _ _
        rw [HH2.out]
        exact ⟨.slice none 0 0, by simpa [eCell] using H7.out.set 6 (.string ⟨s1.toArray⟩), fun M _ => Ds.nil _ _⟩
      clear H7
      go_wp2_with fail
      go_meet
      exact hC.out
    · have hkb : ((k : Int) == 2) = false := by simp; omega
      obtain ⟨a, s, u, pp, n, d, ha, hs, hq, hpp, hn, hd, e⟩ := readX_else k f1 t1 t2 t3 hk2
      have HH2 := Lib.hid (HH.out.trans e)
      have Ha := Lib.hid ha; have Hs := Lib.hid hs; have Hq := Lib.hid hq; have Hpp := Lib.hid hpp; have Hn := Lib.hid hn; have Hd := Lib.hid hd
      clear HH ha hs hq hpp hn hd e hk2
      have hct := Lib.hid (count_any [g5] p t2 t3 8 (by omega) w6 H6.out.rd)
      rw [← Ha.out] at hct
      obtain ⟨a1, a2, a3⟩ := a
      simp only [] at hct Hs HH2
      go_wp2_with fail
      refine hct.out.mono ?_
      rintro e wa ⟨rfl, hA, hk⟩
      have HA6 := Lib.hid (H6.out.step hA hk)
      clear hA hk H6 hct Ha
      have hct := Lib.hid (count_any [g5] p a2 a3 4 (by omega) wa HA6.out.rd)
      rw [← Hs.out] at hct
      obtain ⟨s1, s2, s3⟩ := s
      simp only [] at hct Hq HH2
      go_wp2_with fail
      refine hct.out.mono ?_
      rintro e wb ⟨rfl, hA, hk⟩
      have HB6 := Lib.hid (HA6.out.step hA hk)
      clear hA hk HA6 hct Hs
      clear q0 q1 q2 q3 q4 q5 q6 q7 q8 qf
      obtain ⟨q0, q1, q2, q3, q4, q5, q6, q7, q8, qf⟩ := blk9 HB6.out.b5
      have HC6 : Hid (Re w (((wb.setCell ⟨g5, 1, none⟩ (.int .i64 a1)).setCell ⟨g5, 2, none⟩ (.int .i64 s1)).setCell ⟨g5, 3, none⟩ (.int .i64 0)) p w.heap.size g5 s2 s3 #[.int .i64 k, .int .i64 a1, .int .i64 s1, .int .i64 0, .int .i64 0, .slice none 0 0, .string ⟨#[]⟩, .int .i64 f1, .int .i64 t1]) :=
        (by simpa using ((HB6.out.set 1 (.int .i64 a1)).set 2 (.int .i64 s1)).set 3 (.int .i64 0) : Re w _ p w.heap.size g5 s2 s3 _)
      clear HB6
      go_wp2_with fail
      generalize hwd : ((wb.setCell ⟨g5, 1, none⟩ (.int .i64 a1)).setCell ⟨g5, 2, none⟩ (.int .i64 s1)).setCell ⟨g5, 3, none⟩ (.int .i64 0) = wd at *
      clear hwd
      have hct := Lib.hid (rint_any [g5] p s2 s3 wd HC6.out.rd)
      rw [← Hq.out] at hct
      obtain ⟨u1, u2, u3⟩ := u
      simp only [] at hct Hpp HH2
      refine hct.out.mono ?_
      rintro e we ⟨rfl, hA, hk⟩
      have HE6 := Lib.hid (HC6.out.step hA hk)
      clear hA hk HC6 hct Hq
      have hct := Lib.hid (rint_any [g5] p u2 u3 we HE6.out.rd)
      rw [← Hpp.out] at hct
      obtain ⟨pp1, pp2, pp3⟩ := pp
      simp only [] at hct Hn HH2
      go_wp2_with fail
      refine hct.out.mono ?_
      rintro e wf ⟨rfl, hA, hk⟩
      have HF6 := Lib.hid (HE6.out.step hA hk)
      clear hA hk HE6 hct Hpp
      clear q0 q1 q2 q3 q4 q5 q6 q7 q8 qf
      obtain ⟨q0, q1, q2, q3, q4, q5, q6, q7, q8, qf⟩ := blk9 HF6.out.b5
      have HG6 : Hid (Re w ((wf.setCell ⟨g5, 3, none⟩ (.int .i64 u1)).setCell ⟨g5, 4, none⟩ (.int .i64 pp1)) p w.heap.size g5 pp2 pp3 #[.int .i64 k, .int .i64 a1, .int .i64 s1, .int .i64 u1, .int .i64 pp1, .slice none 0 0, .string ⟨#[]⟩, .int .i64 f1, .int .i64 t1]) :=
        (by simpa using (HF6.out.set 3 (.int .i64 u1)).set 4 (.int .i64 pp1) : Re w _ p w.heap.size g5 pp2 pp3 _)
      clear HF6
      go_wp2_with fail
      generalize hwg : (wf.setCell ⟨g5, 3, none⟩ (.int .i64 u1)).setCell ⟨g5, 4, none⟩ (.int .i64 pp1) = wg at *
      clear hwg
      have hn8 := countS_most pp2 pp3 8
      rw [← Hn.out] at hn8
      have hct := Lib.hid (count_any [g5] p pp2 pp3 8 (by omega) wg HG6.out.rd)
      rw [← Hn.out] at hct
      obtain ⟨n1, n2, n3⟩ := n
      simp only [] at hct hn8 Hd HH2
      refine hct.out.mono ?_
      rintro e wh ⟨rfl, hA, hk⟩
      have HH6 := Lib.hid (HG6.out.step hA hk)
      clear hA hk HG6 hct Hn
      have hct := Lib.hid (get_ds [g5] p n1 n2 n3 wh HH6.out.rd hn8)
      have Hdn := Lib.hid (getDs_short n1 n2 n3).2
      unfold GetPost at hct
      rw [← Hd.out] at hct Hdn
      obtain ⟨d1, d2, d3⟩ := d
      simp only [] at hct HH2 Hdn
      go_wp2_with fail
      refine hct.out.mono ?_
      rintro e wi ⟨dv, rfl, hown, hA, hk⟩
      have hgh : g5 < wh.heap.size := HH6.out.b5.lt
      have hgw : w.heap.size < wh.heap.size := HH6.out.b0.lt
      have HI6 := Lib.hid (HH6.out.step hA hk)
      rw [← Hdn.out] at hown
      have HD : Hid (∀ M, (∀ g ∈ M, g ≤ w.heap.size) → Ds wi (g5 :: M) dv d1) := fun M hM => Rd.of_own hown (by intro g hg; rcases List.mem_cons.1 hg with rfl | hg; exact hgh; have := hM g hg; omega)
      obtain ⟨Ad, cd, rfl, hcd⟩ := (HD.out [] (by simp)).len
      clear hA hk HH6 hct Hd hown
      clear q0 q1 q2 q3 q4 q5 q6 q7 q8 qf
      obtain ⟨q0, q1, q2, q3, q4, q5, q6, q7, q8, qf⟩ := blk9 HI6.out.b5
      have hC : Hid (ReCut w (wi.setCell ⟨g5, 5, none⟩ (.slice Ad d1.length cd)) p g5 RH) := by
        show ReCut _ _ _ _ _
        rw [HH2.out]
        exact ⟨.slice Ad d1.length cd, by simpa [eCell] using HI6.out.set 5 (.slice Ad d1.length cd), fun M hM => Rd.more ((HD.out M hM).keep (M' := [g5]) ((Keeps.refl _ _).setCell (by simp) _) (by simp))⟩
      clear HI6 HD
      go_wp2_with fail
      go_meet
      exact hC.out
  case rest =>
    obtain ⟨dv, hRe, hDs⟩ := hcut
    have HRe := Lib.hid hRe; have HDs := Lib.hid hDs
    clear hRe hDs H6 q0 q1 q2 q3 q4 q5 q6 q7 q8 qf HH
    obtain ⟨e, lx, bx⟩ := RH
    simp only [] at hsh HE HRe HDs
    obtain ⟨Ad, cd, rfl, hcd⟩ := (HDs.out [] (by simp)).len
    have hdw := Lib.hid (done_any [g5] p lx bx _ HRe.out.rd)
    obtain ⟨r0, r1, r2, r3, r4, r5, r6, r7, r8, rf⟩ := blk9 HRe.out.b0
    have ho0 := HRe.out.o0; have ho1 := HRe.out.o1
    cases hdone : (!bx && lx.isEmpty) with
    | false =>
      obtain rfl : RE = (zeroD, 12) := by rw [HE.out, hdone, if_neg (by simp)]
      rw [hdone] at hdw
      clear hdone HE
      go_wp2_with fail
      refine hdw.out.mono ?_
      rintro r w' ⟨rfl, rfl⟩
      go_wp2
      refine bodyPost_ret (v := .tuple #[.agg zeroA, .int .i64 12]) (by simp [results, Tryz.results70, go_sem, zeroA, r0, r1, r2, r3, r4, r5, r6, r7, r8]) rfl ?_
      refine ⟨.slice none 0 0, rfl, fun M _ => Ds.nil _ _, ?_⟩
      repeat (first | (with_reducible exact HRe.out.keeps) | (with_reducible refine Below.setCell ?_ (by simp) _))
    | true =>
      rw [hdone] at hdw
      have hri := Lib.hid (eright_any e _ m wc (HDs.out [] (by simp)) hsh.out.1 ((HRe.out.keeps.cell (p := ⟨0, 0, none⟩) hw0).trans Hm.out))
      have HR : Hid (RE = if rightE e = 0 then (e, 0) else (zeroD, 12)) := by show _ = _; rw [HE.out, hdone]; simp
      clear hdone HE
      generalize rightE e = rr at *
      obtain ⟨kind, ag, sh, seq, ep, ds, ser, fr, tag⟩ := e
      simp only [eCell] at hri HRe HDs HR hcd
      obtain ⟨q0, q1, q2, q3, q4, q5, q6, q7, q8, qf⟩ := blk9 HRe.out.b5
      have ho2 := HRe.out.o2
      have hg5 : g5 < wc.heap.size := HRe.out.b5.lt
      have hwc : w.heap.size < wc.heap.size := HRe.out.b0.lt
      go_wp2_with fail
      refine hdw.out.mono ?_
      rintro r w' ⟨rfl, rfl⟩
      go_wp2_with fail
      refine hri.out.mono ?_
      rintro r w9 ⟨rfl, hb9⟩
      have H9 := Lib.hid (HRe.out.keeps.trans (hb9.mono HRe.out.keeps.size))
      have HB0 := Lib.hid (HRe.out.b0.below hb9 hwc)
      have HB5 := Lib.hid (HRe.out.b5.below hb9 hg5)
      have HD9 : Hid (∀ M, (∀ g ∈ M, g ≤ w.heap.size) → Ds w9 M (.slice Ad ds.length cd) ds) := fun M hM => (HDs.out M hM).keep (Keeps.of_below (M := []) hb9) (by simp)
      clear hb9 hri hdw r0 r1 r2 r3 r4 r5 r6 r7 r8 rf q0 q1 q2 q3 q4 q5 q6 q7 q8 qf
      obtain ⟨r0, r1, r2, r3, r4, r5, r6, r7, r8, rf⟩ := blk9 HB0.out
      obtain ⟨q0, q1, q2, q3, q4, q5, q6, q7, q8, qf⟩ := blk9 HB5.out
      by_cases hrr : rr = 0
      · obtain rfl : RE = (⟨kind, ag, sh, seq, ep, ds, ser, fr, tag⟩, 0) := by rw [HR.out, if_pos hrr]
        subst hrr
        clear HR
        go_wp2
        refine bodyPost_ret (v := .tuple #[.agg #[.int .i64 kind, .int .i64 ag, .int .i64 sh, .int .i64 seq, .int .i64 ep, .slice Ad ds.length cd, .string ser, .int .i64 fr, .int .i64 tag], .int .i64 0]) (by simp [results, Tryz.results70, go_sem, r0, r1, r2, r3, r4, r5, r6, r7, r8]) rfl ?_
        refine ⟨.slice Ad ds.length cd, rfl, fun M hM => ?_, ?_⟩
        · have h1 := HD9.out (w.heap.size :: M) (by intro g hg; rcases List.mem_cons.1 hg with rfl | hg; exact Nat.le_refl _; exact Nat.le_of_lt (hM g hg))
          refine Rd.more (h1.keep (M' := [w.heap.size]) ?_ (by simp))
          repeat (first | (with_reducible exact Keeps.refl _ _) | (with_reducible refine Keeps.setCell ?_ (by simp) _))
        · repeat (first | (with_reducible exact H9.out) | (with_reducible refine Below.setCell ?_ (by simp) _))
      · obtain rfl : RE = (zeroD, 12) := by rw [HR.out, if_neg hrr]
        have hne : ((rr : Int) != 0) = true := by simpa using hrr
        clear HR hrr
        go_wp2
        refine bodyPost_ret (v := .tuple #[.agg zeroA, .int .i64 12]) (by simp [results, Tryz.results70, go_sem, zeroA, r0, r1, r2, r3, r4, r5, r6, r7, r8]) rfl ?_
        refine ⟨.slice none 0 0, rfl, fun M _ => Ds.nil _ _, ?_⟩
        repeat (first | (with_reducible exact H9.out) | (with_reducible refine Below.setCell ?_ (by simp) _))
end Go.Proofs.YtinnifhnabncfaaGreatDoor.Vi
end
/- Contract of hopperref4.Read. -/
section
namespace Go.Proofs.YtinnifhnabncfaaGreatDoor.Vi
open Go.RowKit Base Mem Go.Shelf
structure ReR (w0 w : World) (p g0 g5 : Nat) (l : List UInt8) (bad : Bool) (c : Array Value) : Prop where
  rd : RRdAt w [g5] p l bad
  keeps : Below w0.heap.size w0 w
  b0 : Blk w g0 26 zeroA
  b5 : Blk w g5 26 c
  o0 : w0.heap.size ≤ g0
  o1 : g0 < p
  o2 : p < g5
theorem ReR.step {w0 w w' : World} {p g0 g5 : Nat} {l l' : List UInt8} {bad bad' : Bool} {c : Array Value} (h : ReR w0 w p g0 g5 l bad c) (hr : RRdAt w' [g5] p l' bad') (hk : Keeps [p] w w') : ReR w0 w' p g0 g5 l' bad' c := by
  have h0 := h.o0; have h1 := h.o1; have h2 := h.o2
  exact ⟨hr, ((Keeps.of_below (M := []) h.keeps).trans hk (by intro g hg; simp at hg; right; omega)).below, hk.blk h.b0 (by simp; omega), hk.blk h.b5 (by simp; omega), h0, h1, h2⟩
theorem ReR.set {w0 w : World} {p g0 g5 : Nat} {l : List UInt8} {bad : Bool} {c : Array Value} (h : ReR w0 w p g0 g5 l bad c) (i : Nat) (v : Value) : ReR w0 (w.setCell ⟨g5, i, none⟩ v) p g0 g5 l bad (c.setIfInBounds i v) := by
  have h0 := h.o0; have h1 := h.o1; have h2 := h.o2
  have hk : Keeps [g5] w (w.setCell ⟨g5, i, none⟩ v) := (Keeps.refl _ _).setCell (by simp) v
  exact ⟨h.rd.keep hk (by simp) (by simp; omega), ((Keeps.of_below (M := []) h.keeps).trans hk (by intro g hg; simp at hg; right; omega)).below, hk.blk h.b0 (by simp; omega), h.b5.set_ i v, h0, h1, h2⟩
def ReRCut (w wx : World) (p g5 : Nat) (RH : EntryD × List UInt8 × Bool) : Prop := ∃ dv, ReR w wx p w.heap.size g5 RH.2.1 RH.2.2 (eCell (RH.1, dv)).toArray ∧ ∀ M, (∀ g ∈ M, g ≤ w.heap.size) → Ds wx M dv RH.1.ds
theorem rreadX_two (fr tag : Nat) (l : List UInt8) (b : Bool) : rreadX 2 fr tag l b = (⟨(2 : Nat), 0, 0, 0, 0, [], ⟨(textS l b).1.toArray⟩, fr, tag⟩, (textS l b).2) := rfl
theorem rreadX_one (fr tag : Nat) (l : List UInt8) (b : Bool) : ∃ a s q p d, a = intS l b ∧ s = intS a.2.1 a.2.2 ∧ q = intS s.2.1 s.2.2 ∧ p = intS q.2.1 q.2.2 ∧ d = rreadDs (numS p.2.1 p.2.2).1 (numS p.2.1 p.2.2).2.1 (numS p.2.1 p.2.2).2.2 ∧ rreadX 1 fr tag l b = (⟨(1 : Nat), a.1, s.1, q.1, p.1, d.1, ⟨#[]⟩, fr, tag⟩, d.2) := ⟨_, _, _, _, _, rfl, rfl, rfl, rfl, rfl, rfl⟩
theorem rreadX_no {k : Nat} (fr tag : Nat) (l : List UInt8) (b : Bool) (h2 : k ≠ 2) (h1 : k ≠ 1) : rreadX k fr tag l b = (⟨k, 0, 0, 0, 0, [], ⟨#[]⟩, fr, tag⟩, l, b) := by
  unfold rreadX; rw [if_neg h2, if_neg h1]
theorem rreadX_short (k fr tag : Nat) (l : List UInt8) (b : Bool) (h : l.length < 4294967281) : Short (rreadX k fr tag l b).1 := by
  by_cases h2 : k = 2
  · subst h2
    rw [rreadX_two]
    refine ⟨?_, by simp, by simp⟩
    have := (textS_len l b).2
    show (textS l b).1.length < _
    omega
  · by_cases h1 : k = 1
    · subst h1
      obtain ⟨a, s, q, p, d, ha, hs, hq, hp, hd, e⟩ := rreadX_one fr tag l b
      rw [e]
      have e1 := intS_len l b
      have e2 := intS_len a.2.1 a.2.2
      have e3 := intS_len s.2.1 s.2.2
      have e4 := intS_len q.2.1 q.2.2
      have e5 := numS_len p.2.1 p.2.2
      obtain ⟨e6, e7⟩ := rreadDs_short (numS p.2.1 p.2.2).1 (numS p.2.1 p.2.2).2.1 (numS p.2.1 p.2.2).2.2
      rw [← ha] at e1; rw [← hs] at e2; rw [← hq] at e3; rw [← hp] at e4; rw [← hd] at e6 e7
      refine ⟨by show (0 : Nat) < _; omega, fun x hx => ?_, ?_⟩
      · have := e7 x hx; omega
      · show d.1.length ≤ _; omega
    · rw [rreadX_no fr tag l b h2 h1]
      exact ⟨by show (0 : Nat) < _; omega, by simp, by simp⟩
theorem rreadH_short (l : List UInt8) (h : l.length < 4294967281) : Short (rreadH l).1 := by
  have e1 := byteS_len l false
  have e2 := intS_len (byteS l false).2.1 (byteS l false).2.2
  have e3 := intS_len (intS (byteS l false).2.1 (byteS l false).2.2).2.1 (intS (byteS l false).2.1 (byteS l false).2.2).2.2
  unfold rreadH
  exact rreadX_short _ _ _ _ _ (by omega)
set_option maxRecDepth 100000 in
set_option maxHeartbeats 4000000 in
theorem rreadE_any (v : Value) (l : List UInt8) (w : World) (h : Bs w [] v l) (hl : l.length < 4294967281) :
    Calls Tryz.prog 71 #[v] w fun e w' => ReadPost (rreadE l) w e w' := by
  have hsh := Lib.hid (rreadH_short l hl)
  have HE : Hid (rreadE l = if (!(rreadH l).2.2 && (rreadH l).2.1.isEmpty) = true ∧ rightE (rreadH l).1 = 0 then ((rreadH l).1, 0) else (zeroD, 12)) := rfl
  obtain ⟨kt, ft, tt, hk, hf, ht, hH⟩ : ∃ k f t, k = byteS l false ∧ f = intS k.2.1 k.2.2 ∧ t = intS f.2.1 f.2.2 ∧ rreadH l = rreadX k.1.toNat f.1 t.1 t.2.1 t.2.2 := ⟨_, _, _, rfl, rfl, rfl, rfl⟩
  have hlt : tt.2.1.length < 4294967281 := by
    have e1 := byteS_len l false
    have e2 := intS_len kt.2.1 kt.2.2
    have e3 := intS_len ft.2.1 ft.2.2
    rw [← hk] at e1; rw [← hf] at e2; rw [← ht] at e3
    omega
  generalize rreadE l = RE at *
  generalize rreadH l = RH at *
  obtain ⟨A, c, rfl, hc⟩ := h.len
  have Hh := Lib.hid h
  have Hk := Lib.hid hk; have Hf := Lib.hid hf; have Ht := Lib.hid ht; have HH := Lib.hid hH
  clear h hk hf ht hH
  go_enter Tryz.func71, Tryz.ntmps71
  go_upto_region 2 with (fail)
  have hB0 : Blk ((w.alloc (.cells zeroA 26)).alloc (.cells #[.slice A l.length c, .bool false] 175)) w.heap.size 26 zeroA := (Blk.new w 26 zeroA).below (B := w.heap.size + 1) (((Below.refl _ _)).alloc (by simp) _) (by omega)
  have hrd : RRdAt ((w.alloc (.cells zeroA 26)).alloc (.cells #[.slice A l.length c, .bool false] 175)) [] (w.heap.size + 1) l false := by
    refine ⟨by omega, .slice A l.length c, ?_, ?_⟩
    · have := Blk.new (w.alloc (.cells zeroA 26)) 175 #[.slice A l.length c, .bool false]
      rwa [World.size_alloc] at this
    · exact (Hh.out.avoid (M' := [w.heap.size + 1]) (by intro g hg; simp at hg; right; omega)).keep (M' := []) (((Keeps.refl _ _).alloc _).alloc _) (by simp)
  have hbw : Below w.heap.size w ((w.alloc (.cells zeroA 26)).alloc (.cells #[.slice A l.length c, .bool false] 175)) := ((Below.refl _ _).alloc (Nat.le_refl _) _).alloc (by simp) _
  unfold zeroA at hB0 hrd hbw
  generalize hw1 : (w.alloc _).alloc _ = w1 at *
  clear hw1
  obtain ⟨p, hp⟩ : ∃ p, p = w.heap.size + 1 := ⟨_, rfl⟩
  rw [← hp] at hrd ⊢
  have Hrd := Lib.hid hrd; have HB0 : Hid (Blk w1 w.heap.size 26 zeroA) := hB0; have Hbw := Lib.hid hbw
  have hpw : w.heap.size < p := by omega
  have hpw1 : p < w1.heap.size := hrd.lt
  clear hrd hB0 hbw hp
  go_wp2_with fail
  have hby := Lib.hid (rbyte_any [] p l false w1 Hrd.out)
  rw [← Hk.out] at hby
  obtain ⟨k1, k2, k3⟩ := kt
  simp only [] at hby Hf HH
  refine hby.out.mono ?_
  rintro e w2 ⟨rfl, hrd2, hk2⟩
  have HB2 := Lib.hid (hk2.blk HB0.out (by simp; omega))
  have Hbw2 := Lib.hid ((Keeps.of_below (M := []) Hbw.out).trans hk2 (by intro g hg; simp at hg; right; omega)).below
  have Hrd2 := Lib.hid hrd2
  have hp2 : p < w2.heap.size := hrd2.lt
  generalize k1.toNat = k at *
  clear hrd2 hk2 hby Hbw HB0 Hrd Hk
  go_wp2_with fail
  have hst : ReR w (w2.alloc (.cells #[.int .i64 k, .int .i64 0, .int .i64 0, .int .i64 0, .int .i64 0, .slice none 0 0, .string ⟨#[]⟩, .int .i64 0, .int .i64 0] 26)) p w.heap.size w2.heap.size k2 k3 #[.int .i64 k, .int .i64 0, .int .i64 0, .int .i64 0, .int .i64 0, .slice none 0 0, .string ⟨#[]⟩, .int .i64 0, .int .i64 0] :=
    ⟨(Hrd2.out.avoid (M' := [w2.heap.size]) (by intro g hg; simp at hg; right; omega)).keep (M' := []) ((Keeps.refl _ _).alloc _) (by simp) (by simp), Hbw2.out.alloc (by omega) _, HB2.out.below (below_new' w2 _) (by omega), Blk.new w2 _ _, Nat.le_refl _, hpw, hp2⟩
  have H3 := Lib.hid hst
  clear hst HB2 Hbw2 Hrd2
  generalize hw3 : w2.alloc _ = w3 at *
  generalize w2.heap.size = g5 at *
  clear hw3
  have hct := Lib.hid (rrint_any [g5] p k2 k3 w3 H3.out.rd)
  rw [← Hf.out] at hct
  obtain ⟨f1, f2, f3⟩ := ft
  simp only [] at hct Ht HH
  refine hct.out.mono ?_
  rintro e wz1 ⟨rfl, hA, hk⟩
  have Hz1 := Lib.hid (H3.out.step hA hk)
  clear hA hk H3 hct Hf
  obtain ⟨q0, q1, q2, q3, q4, q5, q6, q7, q8, qf⟩ := blk9 Hz1.out.b5
  have Hy1 : Hid (ReR w (wz1.setCell ⟨g5, 7, none⟩ (.int .i64 f1)) p w.heap.size g5 f2 f3 #[.int .i64 k, .int .i64 0, .int .i64 0, .int .i64 0, .int .i64 0, .slice none 0 0, .string ⟨#[]⟩, .int .i64 f1, .int .i64 0]) := (by simpa using Hz1.out.set 7 (.int .i64 f1) : ReR w _ p w.heap.size g5 f2 f3 _)
  clear Hz1
  go_wp2_with fail
  generalize hgw : wz1.setCell ⟨g5, 7, none⟩ (.int .i64 f1) = wy1 at *
  clear hgw q0 q1 q2 q3 q4 q5 q6 q7 q8 qf
  have hct := Lib.hid (rrint_any [g5] p f2 f3 wy1 Hy1.out.rd)
  rw [← Ht.out] at hct
  obtain ⟨t1, t2, t3⟩ := tt
  simp only [] at hct HH hlt
  refine hct.out.mono ?_
  rintro e wz2 ⟨rfl, hA, hk⟩
  have Hz2 := Lib.hid (Hy1.out.step hA hk)
  clear hA hk Hy1 hct Ht
  obtain ⟨q0, q1, q2, q3, q4, q5, q6, q7, q8, qf⟩ := blk9 Hz2.out.b5
  have Hy2 : Hid (ReR w (wz2.setCell ⟨g5, 8, none⟩ (.int .i64 t1)) p w.heap.size g5 t2 t3 #[.int .i64 k, .int .i64 0, .int .i64 0, .int .i64 0, .int .i64 0, .slice none 0 0, .string ⟨#[]⟩, .int .i64 f1, .int .i64 t1]) := (by simpa using Hz2.out.set 8 (.int .i64 t1) : ReR w _ p w.heap.size g5 t2 t3 _)
  clear Hz2
  go_upto_region 5 with (fail)
  generalize hgw : wz2.setCell ⟨g5, 8, none⟩ (.int .i64 t1) = wy2 at *
  clear hgw q0 q1 q2 q3 q4 q5 q6 q7 q8 qf
  by_cases hk2 : k = 2
  · subst hk2
    have HH2 : Hid (RH = (⟨(2 : Nat), 0, 0, 0, 0, [], ⟨(textS t2 t3).1.toArray⟩, f1, t1⟩, (textS t2 t3).2)) := by show _ = _; rw [HH.out, rreadX_two]
    clear HH
    obtain ⟨tx, htx⟩ : ∃ tx, tx = textS t2 t3 := ⟨_, rfl⟩
    rw [← htx] at HH2
    have Htx := Lib.hid htx
    clear htx
    obtain ⟨q0, q1, q2, q3, q4, q5, q6, q7, q8, qf⟩ := blk9 Hy2.out.b5
    go_wp2_with fail
    clear q0 q1 q2 q3 q4 q5 q6 q7 q8 qf
    have hct := Lib.hid (rstr_any [g5] p t2 t3 wy2 Hy2.out.rd)
    rw [← Htx.out] at hct
    obtain ⟨s1, s2, s3⟩ := tx
    simp only [] at hct HH2
    refine hct.out.mono ?_
    rintro e wz3 ⟨rfl, hA, hk⟩
    have Hz3 := Lib.hid (Hy2.out.step hA hk)
    clear hA hk Hy2 hct Htx
    obtain ⟨q0, q1, q2, q3, q4, q5, q6, q7, q8, qf⟩ := blk9 Hz3.out.b5
    have Hy3 : Hid (ReR w (wz3.setCell ⟨g5, 6, none⟩ (.string ⟨s1.toArray⟩)) p w.heap.size g5 s2 s3 #[.int .i64 (2 : Nat), .int .i64 0, .int .i64 0, .int .i64 0, .int .i64 0, .slice none 0 0, .string ⟨s1.toArray⟩, .int .i64 f1, .int .i64 t1]) := (by simpa using Hz3.out.set 6 (.string ⟨s1.toArray⟩) : ReR w _ p w.heap.size g5 s2 s3 _)
    clear Hz3
    have HC0 : Hid (ReRCut w (wz3.setCell ⟨g5, 6, none⟩ (.string ⟨s1.toArray⟩)) p g5 RH) := by
      show ReRCut _ _ _ _ _
      rw [HH2.out]
      exact ⟨.slice none 0 0, by simpa [eCell] using Hy3.out, fun M _ => Ds.nil _ _⟩
    clear Hy3 HH2
    go_upto_region 14 with (fail)
    generalize hgw : wz3.setCell ⟨g5, 6, none⟩ (.string ⟨s1.toArray⟩) = wc at *
    clear hgw q0 q1 q2 q3 q4 q5 q6 q7 q8 qf
    have HC := HC0
    clear HC0
    have hcut := HC.out
    obtain ⟨dv, hRe, hDs⟩ := hcut
    have HRe := Lib.hid hRe; have HDs := Lib.hid hDs
    clear hRe hDs HC
    obtain ⟨e, lx, bx⟩ := RH
    simp only [] at hsh HE HRe HDs
    obtain ⟨Ad, cd, rfl, hcd⟩ := (HDs.out [] (by simp)).len
    have hdw := Lib.hid (rdone_any [g5] p lx bx _ HRe.out.rd)
    obtain ⟨r0, r1, r2, r3, r4, r5, r6, r7, r8, rf⟩ := blk9 HRe.out.b0
    have ho0 := HRe.out.o0; have ho1 := HRe.out.o1
    cases hdone : (!bx && lx.isEmpty) with
    | false =>
      obtain rfl : RE = (zeroD, 12) := by rw [HE.out, hdone, if_neg (by simp)]
      rw [hdone] at hdw
      clear hdone HE
      go_wp2_with fail
      refine hdw.out.mono ?_
      rintro r w' ⟨rfl, rfl⟩
      go_wp2
      refine bodyPost_ret (v := .tuple #[.agg zeroA, .int .i64 12]) (by simp [results, Tryz.results71, go_sem, zeroA, r0, r1, r2, r3, r4, r5, r6, r7, r8]) rfl ?_
      refine ⟨.slice none 0 0, rfl, fun M _ => Ds.nil _ _, ?_⟩
      repeat (first | (with_reducible exact HRe.out.keeps) | (with_reducible refine Below.setCell ?_ (by simp) _))
    | true =>
      rw [hdone] at hdw
      have hri := Lib.hid (rrightE_any e _ wc (HDs.out [] (by simp)) hsh.out)
      have HR : Hid (RE = if rightE e = 0 then (e, 0) else (zeroD, 12)) := by show _ = _; rw [HE.out, hdone]; simp
      clear hdone HE
      generalize rightE e = rr at *
      obtain ⟨kind, ag, sh, seq, ep, ds, ser, fr, tag⟩ := e
      simp only [eCell] at hri HRe HDs HR hcd
      obtain ⟨q0, q1, q2, q3, q4, q5, q6, q7, q8, qf⟩ := blk9 HRe.out.b5
      have ho2 := HRe.out.o2
      have hg5 : g5 < wc.heap.size := HRe.out.b5.lt
      have hwc : w.heap.size < wc.heap.size := HRe.out.b0.lt
      go_wp2_with fail
      refine hdw.out.mono ?_
      rintro r w' ⟨rfl, rfl⟩
      go_wp2_with fail
      refine hri.out.mono ?_
      rintro r w9 ⟨rfl, hb9⟩
      have H9 := Lib.hid (HRe.out.keeps.trans (hb9.mono HRe.out.keeps.size))
      have HB0 := Lib.hid (HRe.out.b0.below hb9 hwc)
      have HB5 := Lib.hid (HRe.out.b5.below hb9 hg5)
      have HD9 : Hid (∀ M, (∀ g ∈ M, g ≤ w.heap.size) → Ds w9 M (.slice Ad ds.length cd) ds) := fun M hM => (HDs.out M hM).keep (Keeps.of_below (M := []) hb9) (by simp)
      clear hb9 hri hdw r0 r1 r2 r3 r4 r5 r6 r7 r8 rf q0 q1 q2 q3 q4 q5 q6 q7 q8 qf
      obtain ⟨r0, r1, r2, r3, r4, r5, r6, r7, r8, rf⟩ := blk9 HB0.out
      obtain ⟨q0, q1, q2, q3, q4, q5, q6, q7, q8, qf⟩ := blk9 HB5.out
      by_cases hrr : rr = 0
      · obtain rfl : RE = (⟨kind, ag, sh, seq, ep, ds, ser, fr, tag⟩, 0) := by rw [HR.out, if_pos hrr]
        subst hrr
        clear HR
        go_wp2
        refine bodyPost_ret (v := .tuple #[.agg #[.int .i64 kind, .int .i64 ag, .int .i64 sh, .int .i64 seq, .int .i64 ep, .slice Ad ds.length cd, .string ser, .int .i64 fr, .int .i64 tag], .int .i64 0]) (by simp [results, Tryz.results71, go_sem, r0, r1, r2, r3, r4, r5, r6, r7, r8]) rfl ?_
        refine ⟨.slice Ad ds.length cd, rfl, fun M hM => ?_, ?_⟩
        · have h1 := HD9.out (w.heap.size :: M) (by intro g hg; rcases List.mem_cons.1 hg with rfl | hg; exact Nat.le_refl _; exact Nat.le_of_lt (hM g hg))
          refine Rd.more (h1.keep (M' := [w.heap.size]) ?_ (by simp))
          repeat (first | (with_reducible exact Keeps.refl _ _) | (with_reducible refine Keeps.setCell ?_ (by simp) _))
        · repeat (first | (with_reducible exact H9.out) | (with_reducible refine Below.setCell ?_ (by simp) _))
      · obtain rfl : RE = (zeroD, 12) := by rw [HR.out, if_neg hrr]
        have hne : ((rr : Int) != 0) = true := by simpa using hrr
        clear HR hrr
        go_wp2
        refine bodyPost_ret (v := .tuple #[.agg zeroA, .int .i64 12]) (by simp [results, Tryz.results71, go_sem, zeroA, r0, r1, r2, r3, r4, r5, r6, r7, r8]) rfl ?_
        refine ⟨.slice none 0 0, rfl, fun M _ => Ds.nil _ _, ?_⟩
        repeat (first | (with_reducible exact H9.out) | (with_reducible refine Below.setCell ?_ (by simp) _))
  · have hkb : ((k : Int) == 2) = false := by rw [beq_eq_false_iff_ne]; omega
    by_cases hk1 : k = 1
    · subst hk1
      obtain ⟨a, s, u, pp, d, ha, hs, hq, hpp, hd, he⟩ := rreadX_one f1 t1 t2 t3
      have hlp : pp.2.1.length < 4294967281 := by
        have e1 := intS_len t2 t3
        have e2 := intS_len a.2.1 a.2.2
        have e3 := intS_len s.2.1 s.2.2
        have e4 := intS_len u.2.1 u.2.2
        rw [← ha] at e1; rw [← hs] at e2; rw [← hq] at e3; rw [← hpp] at e4
        omega
      have HH2 := Lib.hid (HH.out.trans he)
      have Ha := Lib.hid ha; have Hs := Lib.hid hs; have Hq := Lib.hid hq; have Hpp := Lib.hid hpp; have Hd := Lib.hid hd
      clear HH ha hs hq hpp hd he
      obtain ⟨q0, q1, q2, q3, q4, q5, q6, q7, q8, qf⟩ := blk9 Hy2.out.b5
      go_wp2_with fail
      clear q0 q1 q2 q3 q4 q5 q6 q7 q8 qf
      have hct := Lib.hid (rrint_any [g5] p t2 t3 wy2 Hy2.out.rd)
      rw [← Ha.out] at hct
      obtain ⟨a1, a2, a3⟩ := a
      simp only [] at hct Hs HH2
      refine hct.out.mono ?_
      rintro e wz4 ⟨rfl, hA, hk⟩
      have Hz4 := Lib.hid (Hy2.out.step hA hk)
      clear hA hk Hy2 hct Ha
      obtain ⟨q0, q1, q2, q3, q4, q5, q6, q7, q8, qf⟩ := blk9 Hz4.out.b5
      have Hy4 : Hid (ReR w (wz4.setCell ⟨g5, 1, none⟩ (.int .i64 a1)) p w.heap.size g5 a2 a3 #[.int .i64 (1 : Nat), .int .i64 a1, .int .i64 0, .int .i64 0, .int .i64 0, .slice none 0 0, .string ⟨#[]⟩, .int .i64 f1, .int .i64 t1]) := (by simpa using Hz4.out.set 1 (.int .i64 a1) : ReR w _ p w.heap.size g5 a2 a3 _)
      clear Hz4
      go_wp2_with fail
      generalize hgw : wz4.setCell ⟨g5, 1, none⟩ (.int .i64 a1) = wy4 at *
      clear hgw q0 q1 q2 q3 q4 q5 q6 q7 q8 qf
      have hct := Lib.hid (rrint_any [g5] p a2 a3 wy4 Hy4.out.rd)
      rw [← Hs.out] at hct
      obtain ⟨s1, s2, s3⟩ := s
      simp only [] at hct Hq HH2
      refine hct.out.mono ?_
      rintro e wz5 ⟨rfl, hA, hk⟩
      have Hz5 := Lib.hid (Hy4.out.step hA hk)
      clear hA hk Hy4 hct Hs
      obtain ⟨q0, q1, q2, q3, q4, q5, q6, q7, q8, qf⟩ := blk9 Hz5.out.b5
      have Hy5 : Hid (ReR w (wz5.setCell ⟨g5, 2, none⟩ (.int .i64 s1)) p w.heap.size g5 s2 s3 #[.int .i64 (1 : Nat), .int .i64 a1, .int .i64 s1, .int .i64 0, .int .i64 0, .slice none 0 0, .string ⟨#[]⟩, .int .i64 f1, .int .i64 t1]) := (by simpa using Hz5.out.set 2 (.int .i64 s1) : ReR w _ p w.heap.size g5 s2 s3 _)
      clear Hz5
      go_wp2_with fail
      generalize hgw : wz5.setCell ⟨g5, 2, none⟩ (.int .i64 s1) = wy5 at *
      clear hgw q0 q1 q2 q3 q4 q5 q6 q7 q8 qf
      have hct := Lib.hid (rrint_any [g5] p s2 s3 wy5 Hy5.out.rd)
      rw [← Hq.out] at hct
      obtain ⟨u1, u2, u3⟩ := u
      simp only [] at hct Hpp HH2
      refine hct.out.mono ?_
      rintro e wz6 ⟨rfl, hA, hk⟩
      have Hz6 := Lib.hid (Hy5.out.step hA hk)
      clear hA hk Hy5 hct Hq
      obtain ⟨q0, q1, q2, q3, q4, q5, q6, q7, q8, qf⟩ := blk9 Hz6.out.b5
      have Hy6 : Hid (ReR w (wz6.setCell ⟨g5, 3, none⟩ (.int .i64 u1)) p w.heap.size g5 u2 u3 #[.int .i64 (1 : Nat), .int .i64 a1, .int .i64 s1, .int .i64 u1, .int .i64 0, .slice none 0 0, .string ⟨#[]⟩, .int .i64 f1, .int .i64 t1]) := (by simpa using Hz6.out.set 3 (.int .i64 u1) : ReR w _ p w.heap.size g5 u2 u3 _)
      clear Hz6
      go_wp2_with fail
      generalize hgw : wz6.setCell ⟨g5, 3, none⟩ (.int .i64 u1) = wy6 at *
      clear hgw q0 q1 q2 q3 q4 q5 q6 q7 q8 qf
      have hct := Lib.hid (rrint_any [g5] p u2 u3 wy6 Hy6.out.rd)
      rw [← Hpp.out] at hct
      obtain ⟨pp1, pp2, pp3⟩ := pp
      simp only [] at hct Hd HH2 hlp
      refine hct.out.mono ?_
      rintro e wz7 ⟨rfl, hA, hk⟩
      have Hz7 := Lib.hid (Hy6.out.step hA hk)
      clear hA hk Hy6 hct Hpp
      obtain ⟨q0, q1, q2, q3, q4, q5, q6, q7, q8, qf⟩ := blk9 Hz7.out.b5
      have Hy7 : Hid (ReR w (wz7.setCell ⟨g5, 4, none⟩ (.int .i64 pp1)) p w.heap.size g5 pp2 pp3 #[.int .i64 (1 : Nat), .int .i64 a1, .int .i64 s1, .int .i64 u1, .int .i64 pp1, .slice none 0 0, .string ⟨#[]⟩, .int .i64 f1, .int .i64 t1]) := (by simpa using Hz7.out.set 4 (.int .i64 pp1) : ReR w _ p w.heap.size g5 pp2 pp3 _)
      clear Hz7
      go_wp2_with fail
      generalize hgw : wz7.setCell ⟨g5, 4, none⟩ (.int .i64 pp1) = wy7 at *
      clear hgw q0 q1 q2 q3 q4 q5 q6 q7 q8 qf
      have hct := Lib.hid (rreadDs_any [g5] p pp2 pp3 wy7 Hy7.out.rd hlp)
      unfold RDsPost at hct
      rw [← Hd.out] at hct
      obtain ⟨d1, d2, d3⟩ := d
      simp only [] at hct HH2
      refine hct.out.mono ?_
      rintro e wi ⟨dv, rfl, hown, hA, hk⟩
      have hgh : g5 < wy7.heap.size := Hy7.out.b5.lt
      have hgw : w.heap.size < wy7.heap.size := Hy7.out.b0.lt
      have HI6 := Lib.hid (Hy7.out.step hA hk)
      have HD : Hid (∀ M, (∀ g ∈ M, g ≤ w.heap.size) → Ds wi (g5 :: M) dv d1) := fun M hM => Rd.of_own hown (by intro g hg; rcases List.mem_cons.1 hg with rfl | hg; exact hgh; have := hM g hg; omega)
      obtain ⟨Ad, cd, rfl, hcd⟩ := (HD.out [] (by simp)).len
      clear hA hk Hy7 hct Hd hown
      obtain ⟨q0, q1, q2, q3, q4, q5, q6, q7, q8, qf⟩ := blk9 HI6.out.b5
      have HC0 : Hid (ReRCut w (wi.setCell ⟨g5, 5, none⟩ (.slice Ad d1.length cd)) p g5 RH) := by
        show ReRCut _ _ _ _ _
        rw [HH2.out]
        exact ⟨.slice Ad d1.length cd, by simpa [eCell] using HI6.out.set 5 (.slice Ad d1.length cd), fun M hM => Rd.more ((HD.out M hM).keep (M' := [g5]) ((Keeps.refl _ _).setCell (by simp) _) (by simp))⟩
      clear HI6 HD HH2
      go_upto_region 14 with (fail)
      generalize hgx : wi.setCell ⟨g5, 5, none⟩ (.slice Ad d1.length cd) = wc at *
      clear hgx hgh hgw hcd q0 q1 q2 q3 q4 q5 q6 q7 q8 qf
      have HC := HC0
      clear HC0
      have hcut := HC.out
      obtain ⟨dv, hRe, hDs⟩ := hcut
      have HRe := Lib.hid hRe; have HDs := Lib.hid hDs
      clear hRe hDs HC
      obtain ⟨e, lx, bx⟩ := RH
      simp only [] at hsh HE HRe HDs
      obtain ⟨Ae, ce, rfl, hcd⟩ := (HDs.out [] (by simp)).len
      have hdw := Lib.hid (rdone_any [g5] p lx bx _ HRe.out.rd)
      obtain ⟨r0, r1, r2, r3, r4, r5, r6, r7, r8, rf⟩ := blk9 HRe.out.b0
      have ho0 := HRe.out.o0; have ho1 := HRe.out.o1
      cases hdone : (!bx && lx.isEmpty) with
      | false =>
        obtain rfl : RE = (zeroD, 12) := by rw [HE.out, hdone, if_neg (by simp)]
        rw [hdone] at hdw
        clear hdone HE
        go_wp2_with fail
        refine hdw.out.mono ?_
        rintro r w' ⟨rfl, rfl⟩
        go_wp2
        refine bodyPost_ret (v := .tuple #[.agg zeroA, .int .i64 12]) (by simp [results, Tryz.results71, go_sem, zeroA, r0, r1, r2, r3, r4, r5, r6, r7, r8]) rfl ?_
        refine ⟨.slice none 0 0, rfl, fun M _ => Ds.nil _ _, ?_⟩
        repeat (first | (with_reducible exact HRe.out.keeps) | (with_reducible refine Below.setCell ?_ (by simp) _))
      | true =>
        rw [hdone] at hdw
        have hri := Lib.hid (rrightE_any e _ wc (HDs.out [] (by simp)) hsh.out)
        have HR : Hid (RE = if rightE e = 0 then (e, 0) else (zeroD, 12)) := by show _ = _; rw [HE.out, hdone]; simp
        clear hdone HE
        generalize rightE e = rr at *
        obtain ⟨kind, ag, sh, seq, ep, ds, ser, fr, tag⟩ := e
        simp only [eCell] at hri HRe HDs HR hcd
        obtain ⟨q0, q1, q2, q3, q4, q5, q6, q7, q8, qf⟩ := blk9 HRe.out.b5
        have ho2 := HRe.out.o2
        have hg5 : g5 < wc.heap.size := HRe.out.b5.lt
        have hwc : w.heap.size < wc.heap.size := HRe.out.b0.lt
        go_wp2_with fail
        refine hdw.out.mono ?_
        rintro r w' ⟨rfl, rfl⟩
        go_wp2_with fail
        refine hri.out.mono ?_
        rintro r w9 ⟨rfl, hb9⟩
        have H9 := Lib.hid (HRe.out.keeps.trans (hb9.mono HRe.out.keeps.size))
        have HB0 := Lib.hid (HRe.out.b0.below hb9 hwc)
        have HB5 := Lib.hid (HRe.out.b5.below hb9 hg5)
        have HD9 : Hid (∀ M, (∀ g ∈ M, g ≤ w.heap.size) → Ds w9 M (.slice Ae ds.length ce) ds) := fun M hM => (HDs.out M hM).keep (Keeps.of_below (M := []) hb9) (by simp)
        clear hb9 hri hdw r0 r1 r2 r3 r4 r5 r6 r7 r8 rf q0 q1 q2 q3 q4 q5 q6 q7 q8 qf
        obtain ⟨r0, r1, r2, r3, r4, r5, r6, r7, r8, rf⟩ := blk9 HB0.out
        obtain ⟨q0, q1, q2, q3, q4, q5, q6, q7, q8, qf⟩ := blk9 HB5.out
        by_cases hrr : rr = 0
        · obtain rfl : RE = (⟨kind, ag, sh, seq, ep, ds, ser, fr, tag⟩, 0) := by rw [HR.out, if_pos hrr]
          subst hrr
          clear HR
          go_wp2
          refine bodyPost_ret (v := .tuple #[.agg #[.int .i64 kind, .int .i64 ag, .int .i64 sh, .int .i64 seq, .int .i64 ep, .slice Ae ds.length ce, .string ser, .int .i64 fr, .int .i64 tag], .int .i64 0]) (by simp [results, Tryz.results71, go_sem, r0, r1, r2, r3, r4, r5, r6, r7, r8]) rfl ?_
          refine ⟨.slice Ae ds.length ce, rfl, fun M hM => ?_, ?_⟩
          · have h1 := HD9.out (w.heap.size :: M) (by intro g hg; rcases List.mem_cons.1 hg with rfl | hg; exact Nat.le_refl _; exact Nat.le_of_lt (hM g hg))
            refine Rd.more (h1.keep (M' := [w.heap.size]) ?_ (by simp))
            repeat (first | (with_reducible exact Keeps.refl _ _) | (with_reducible refine Keeps.setCell ?_ (by simp) _))
          · repeat (first | (with_reducible exact H9.out) | (with_reducible refine Below.setCell ?_ (by simp) _))
        · obtain rfl : RE = (zeroD, 12) := by rw [HR.out, if_neg hrr]
          have hne : ((rr : Int) != 0) = true := by simpa using hrr
          clear HR hrr
          go_wp2
          refine bodyPost_ret (v := .tuple #[.agg zeroA, .int .i64 12]) (by simp [results, Tryz.results71, go_sem, zeroA, r0, r1, r2, r3, r4, r5, r6, r7, r8]) rfl ?_
          refine ⟨.slice none 0 0, rfl, fun M _ => Ds.nil _ _, ?_⟩
          repeat (first | (with_reducible exact H9.out) | (with_reducible refine Below.setCell ?_ (by simp) _))
    · have hkc : ((k : Int) == 1) = false := by rw [beq_eq_false_iff_ne]; omega
      have HC : Hid (ReRCut w wy2 p g5 RH) := by
        show ReRCut _ _ _ _ _
        rw [HH.out, rreadX_no f1 t1 t2 t3 hk2 hk1]
        exact ⟨.slice none 0 0, by simpa [eCell] using Hy2.out, fun M _ => Ds.nil _ _⟩
      obtain ⟨q0, q1, q2, q3, q4, q5, q6, q7, q8, qf⟩ := blk9 Hy2.out.b5
      clear HH Hy2 hk2 hk1
      go_upto_region 14 with (fail)
      clear q0 q1 q2 q3 q4 q5 q6 q7 q8 qf
      generalize wy2 = wc at *
      have hcut := HC.out
      obtain ⟨dv, hRe, hDs⟩ := hcut
      have HRe := Lib.hid hRe; have HDs := Lib.hid hDs
      clear hRe hDs HC
      obtain ⟨e, lx, bx⟩ := RH
      simp only [] at hsh HE HRe HDs
      obtain ⟨Ad, cd, rfl, hcd⟩ := (HDs.out [] (by simp)).len
      have hdw := Lib.hid (rdone_any [g5] p lx bx _ HRe.out.rd)
      obtain ⟨r0, r1, r2, r3, r4, r5, r6, r7, r8, rf⟩ := blk9 HRe.out.b0
      have ho0 := HRe.out.o0; have ho1 := HRe.out.o1
      cases hdone : (!bx && lx.isEmpty) with
      | false =>
        obtain rfl : RE = (zeroD, 12) := by rw [HE.out, hdone, if_neg (by simp)]
        rw [hdone] at hdw
        clear hdone HE
        go_wp2_with fail
        refine hdw.out.mono ?_
        rintro r w' ⟨rfl, rfl⟩
        go_wp2
        refine bodyPost_ret (v := .tuple #[.agg zeroA, .int .i64 12]) (by simp [results, Tryz.results71, go_sem, zeroA, r0, r1, r2, r3, r4, r5, r6, r7, r8]) rfl ?_
        refine ⟨.slice none 0 0, rfl, fun M _ => Ds.nil _ _, ?_⟩
        repeat (first | (with_reducible exact HRe.out.keeps) | (with_reducible refine Below.setCell ?_ (by simp) _))
      | true =>
        rw [hdone] at hdw
        have hri := Lib.hid (rrightE_any e _ wc (HDs.out [] (by simp)) hsh.out)
        have HR : Hid (RE = if rightE e = 0 then (e, 0) else (zeroD, 12)) := by show _ = _; rw [HE.out, hdone]; simp
        clear hdone HE
        generalize rightE e = rr at *
        obtain ⟨kind, ag, sh, seq, ep, ds, ser, fr, tag⟩ := e
        simp only [eCell] at hri HRe HDs HR hcd
        obtain ⟨q0, q1, q2, q3, q4, q5, q6, q7, q8, qf⟩ := blk9 HRe.out.b5
        have ho2 := HRe.out.o2
        have hg5 : g5 < wc.heap.size := HRe.out.b5.lt
        have hwc : w.heap.size < wc.heap.size := HRe.out.b0.lt
        go_wp2_with fail
        refine hdw.out.mono ?_
        rintro r w' ⟨rfl, rfl⟩
        go_wp2_with fail
        refine hri.out.mono ?_
        rintro r w9 ⟨rfl, hb9⟩
        have H9 := Lib.hid (HRe.out.keeps.trans (hb9.mono HRe.out.keeps.size))
        have HB0 := Lib.hid (HRe.out.b0.below hb9 hwc)
        have HB5 := Lib.hid (HRe.out.b5.below hb9 hg5)
        have HD9 : Hid (∀ M, (∀ g ∈ M, g ≤ w.heap.size) → Ds w9 M (.slice Ad ds.length cd) ds) := fun M hM => (HDs.out M hM).keep (Keeps.of_below (M := []) hb9) (by simp)
        clear hb9 hri hdw r0 r1 r2 r3 r4 r5 r6 r7 r8 rf q0 q1 q2 q3 q4 q5 q6 q7 q8 qf
        obtain ⟨r0, r1, r2, r3, r4, r5, r6, r7, r8, rf⟩ := blk9 HB0.out
        obtain ⟨q0, q1, q2, q3, q4, q5, q6, q7, q8, qf⟩ := blk9 HB5.out
        by_cases hrr : rr = 0
        · obtain rfl : RE = (⟨kind, ag, sh, seq, ep, ds, ser, fr, tag⟩, 0) := by rw [HR.out, if_pos hrr]
          subst hrr
          clear HR
          go_wp2
          refine bodyPost_ret (v := .tuple #[.agg #[.int .i64 kind, .int .i64 ag, .int .i64 sh, .int .i64 seq, .int .i64 ep, .slice Ad ds.length cd, .string ser, .int .i64 fr, .int .i64 tag], .int .i64 0]) (by simp [results, Tryz.results71, go_sem, r0, r1, r2, r3, r4, r5, r6, r7, r8]) rfl ?_
          refine ⟨.slice Ad ds.length cd, rfl, fun M hM => ?_, ?_⟩
          · have h1 := HD9.out (w.heap.size :: M) (by intro g hg; rcases List.mem_cons.1 hg with rfl | hg; exact Nat.le_refl _; exact Nat.le_of_lt (hM g hg))
            refine Rd.more (h1.keep (M' := [w.heap.size]) ?_ (by simp))
            repeat (first | (with_reducible exact Keeps.refl _ _) | (with_reducible refine Keeps.setCell ?_ (by simp) _))
          · repeat (first | (with_reducible exact H9.out) | (with_reducible refine Below.setCell ?_ (by simp) _))
        · obtain rfl : RE = (zeroD, 12) := by rw [HR.out, if_neg hrr]
          have hne : ((rr : Int) != 0) = true := by simpa using hrr
          clear HR hrr
          go_wp2
          refine bodyPost_ret (v := .tuple #[.agg zeroA, .int .i64 12]) (by simp [results, Tryz.results71, go_sem, zeroA, r0, r1, r2, r3, r4, r5, r6, r7, r8]) rfl ?_
          refine ⟨.slice none 0 0, rfl, fun M _ => Ds.nil _ _, ?_⟩
          repeat (first | (with_reducible exact H9.out) | (with_reducible refine Below.setCell ?_ (by simp) _))
end Go.Proofs.YtinnifhnabncfaaGreatDoor.Vi
end
/- Contract of entry.Bytes at a Write. -/
section
namespace Go.Proofs.YtinnifhnabncfaaGreatDoor.Vi
open Go.RowKit Base Mem Go.Shelf
/-- The five numbers of a batch. -/
def nums5 (a b c d e : Nat) : List Nat := [a, b, c, d, e]
theorem nums5_lt (a b c d e : Nat) (ha : a < 18446744073709551616) (hb : b < 18446744073709551616) (hc : c < 18446744073709551616) (hd : d < 18446744073709551616) (he : e < 18446744073709551616) : ∀ n ∈ nums5 a b c d e, n < 18446744073709551616 := by
  intro n hn
  simp [nums5] at hn
  omega
theorem nums5_len (a b c d e : Nat) (ha : a < 18446744073709551616) (hb : b < 18446744073709551616) (hc : c < 18446744073709551616) (hd : d < 18446744073709551616) (he : e < 18446744073709551616) : ((nums5 a b c d e).flatMap Lib.uvarint).length ≤ 50 := by
  have h1 := Lib.uvarint_length64 ha
  have h2 := Lib.uvarint_length64 hb
  have h3 := Lib.uvarint_length64 hc
  have h4 := Lib.uvarint_length64 hd
  have h5 := Lib.uvarint_length64 he
  simp [nums5]
  omega
theorem dBytes_len (ds : List DeltaD) (h : ∀ d ∈ ds, d.ser.size < 4294967281) (hn : ∀ d ∈ ds, NOk d) : (ds.flatMap dBytes).length ≤ ds.length * 4294967301 := by
  induction ds with
  | nil => simp
  | cons d ds ih =>
    have h1 := ih (fun x hx => h x (by simp [hx])) (fun x hx => hn x (by simp [hx]))
    have h2 := h d (by simp)
    obtain ⟨h3, h4⟩ := hn d (by simp)
    have h5 := Lib.uvarint_length64 (x := d.ser.size) (by omega)
    have h6 := Lib.uvarint_length64 (x := d.n.toNat) (by omega)
    have h7 : (dBytes d).length = (Lib.uvarint d.ser.size).length + d.ser.size + (Lib.uvarint d.n.toNat).length := by
      unfold dBytes; rw [List.length_append, List.length_append]; rfl
    rw [List.flatMap_cons, List.length_append, List.length_cons]
    omega
set_option maxRecDepth 100000 in
set_option maxHeartbeats 1000000 in
theorem ebytes_1 (e : EntryD) (dv : Value) (m : Int) (w : World) (hkind : e.kind = 1) (hr0 : rightE e = 0) (h : Ds w [] dv e.ds) (hs : Short e) (hw : Wf e) (hm : w.cell? ⟨0, 0, none⟩ = some (.int .i64 m)) :
    Calls Tryz.prog 64 #[.agg (eCell (e, dv)).toArray] w fun r w' => EB0 (bytesE e) w r w' := by
  obtain ⟨⟨hf0, hf8, ht0⟩, hrest⟩ := right_facts hr0
  have hri := Lib.hid (fun W (hk : Keeps [] w W) (hmW : W.cell? ⟨0, 0, none⟩ = some (.int .i64 m)) => eright_any e dv m W (h.keep hk (by simp)) hs hmW)
  have hw0 : 0 < w.heap.size := by
    have := World.block_lt_of_cell? w _ hm
    simpa using this
  have HP : Hid (∀ A w', (∀ M, (∀ g ∈ M, g < w.heap.size) → Bs w' M (.slice A (bytesE e).length (bytesE e).length) (bytesE e)) → Below w.heap.size w w' → EB0 (bytesE e) w (.returned (.tuple #[.slice A (bytesE e).length (bytesE e).length, .int .i64 0])) w') := fun A w' h1 h2 => ⟨A, rfl, h1, h2⟩
  rw [hr0] at hri
  obtain ⟨hw1, hw2, hw3, hw4⟩ := hw
  obtain ⟨hs1, hs2, hs3⟩ := hs
  obtain ⟨A, c, rfl, hc⟩ := h.len
  have HBE : Hid (bytesE e = headB e.kind.toNat e.fr.toNat e.tag.toNat ++ (if e.kind = 2 then Lib.uvarint e.ser.size ++ sB e.ser else Lib.uvarint e.ag.toNat ++ Lib.uvarint e.sh.toNat ++ Lib.uvarint e.seq.toNat ++ Lib.uvarint e.ep.toNat ++ Lib.uvarint e.ds.length ++ e.ds.flatMap dBytes)) := rfl
  clear hr0
  generalize bytesE e = be at *
  obtain ⟨kind, ag, sh, seq, ep, ds, ser, fr, tag⟩ := e
  simp only [] at hkind h hf0 hf8 ht0 hrest hri HP hw1 hw2 hw3 hw4 hs1 hs2 hs3 hc HBE
  subst hkind
  obtain ⟨fr, rfl⟩ := Int.eq_ofNat_of_zero_le hf0
  obtain ⟨tag, rfl⟩ := Int.eq_ofNat_of_zero_le ht0
  have ht9 : tag < 18446744073709551616 := by omega
  have hfr9 : fr < 18446744073709551616 := by omega
  rw [Int.toNat_natCast, Int.toNat_natCast] at HBE
  obtain ⟨_, ha0, ha8, hs0, hs4, hq0, hp0, hd8⟩ := hrest.resolve_left (by decide)
  obtain ⟨ag, rfl⟩ := Int.eq_ofNat_of_zero_le ha0
  obtain ⟨sh, rfl⟩ := Int.eq_ofNat_of_zero_le hs0
  obtain ⟨seq, rfl⟩ := Int.eq_ofNat_of_zero_le (show 0 ≤ seq by omega)
  obtain ⟨ep, rfl⟩ := Int.eq_ofNat_of_zero_le (show 0 ≤ ep by omega)
  have HE : Hid (be = headB 1 fr tag ++ (nums5 ag sh seq ep ds.length).flatMap Lib.uvarint ++ ds.flatMap dBytes) := by show _ = _; rw [HBE.out, if_neg (by decide)]; simp [nums5]
  clear HBE hrest
  obtain ⟨w2, hw2e⟩ : ∃ w2, w2 = w.alloc (.cells #[.int .i64 1, .int .i64 ag, .int .i64 sh, .int .i64 seq, .int .i64 ep, .slice A ds.length c, .string ser, .int .i64 fr, .int .i64 tag] 26) := ⟨_, rfl⟩
  have hB : Blk w2 w.heap.size 26 #[.int .i64 1, .int .i64 ag, .int .i64 sh, .int .i64 seq, .int .i64 ep, .slice A ds.length c, .string ser, .int .i64 fr, .int .i64 tag] := by rw [hw2e]; exact Blk.new w _ _
  have hk2 : Keeps [] w w2 := by rw [hw2e]; exact (Keeps.refl _ _).alloc _
  have hm2 : w2.cell? ⟨0, 0, none⟩ = some (.int .i64 m) := (hk2.cell (p := ⟨0, 0, none⟩) hw0 (by simp)).trans hm
  have Hri := Lib.hid (show Calls Tryz.prog 66 #[.agg #[.int .i64 1, .int .i64 ag, .int .i64 sh, .int .i64 seq, .int .i64 ep, .slice A ds.length c, .string ser, .int .i64 fr, .int .i64 tag]] w2 fun r w' => r = .returned (.int .i64 0) ∧ Below w2.heap.size w2 w' from hri.out w2 hk2 hm2)
  have Hk2 := Lib.hid hk2; have Hw2 := Lib.hid hw2e; have HB := Lib.hid hB; have Hh := Lib.hid h
  have c0 := hB.cell 0; have c1 := hB.cell 1; have c2 := hB.cell 2; have c3 := hB.cell 3; have c4 := hB.cell 4; have c5 := hB.cell 5; have c6 := hB.cell 6; have c7 := hB.cell 7; have c8 := hB.cell 8
  simp only [List.getElem?_toArray, List.getElem?_cons_succ, List.getElem?_cons_zero] at c0 c1 c2 c3 c4 c5 c6 c7 c8
  clear hri hB hk2 hm2 hw2e h hm
  show Calls Tryz.prog 64 #[.agg #[.int .i64 1, .int .i64 ag, .int .i64 sh, .int .i64 seq, .int .i64 ep, .slice A ds.length c, .string ser, .int .i64 fr, .int .i64 tag]] w fun r w' => EB0 be w r w'
  go_enter Tryz.func64, Tryz.ntmps64
  go_upto_region 1 with (fail)
  rw [← Hw2.out]
  go_wp2_with fail
  refine Hri.out.mono ?_
  rintro r w3 ⟨rfl, hb3⟩
  have hw2s : w.heap.size < w2.heap.size := HB.out.lt
  have HB3 := Lib.hid (HB.out.below hb3 hw2s)
  have Hk3 : Hid (Keeps [] w w3) := Hk2.out.trans (Keeps.of_below (M := []) hb3) (by simp)
  have c0 := HB3.out.cell 0; have c1 := HB3.out.cell 1; have c2 := HB3.out.cell 2; have c3 := HB3.out.cell 3; have c4 := HB3.out.cell 4; have c5 := HB3.out.cell 5; have c6 := HB3.out.cell 6; have c7 := HB3.out.cell 7; have c8 := HB3.out.cell 8
  simp only [List.getElem?_toArray, List.getElem?_cons_succ, List.getElem?_cons_zero] at c0 c1 c2 c3 c4 c5 c6 c7 c8
  have hw3s : w.heap.size < w3.heap.size := HB3.out.lt
  clear hb3 Hri
  have ka : Keeps [] w3 (w3.alloc (.cells #[.int .u8 1] 5)).drew := ((Keeps.refl _ _).alloc _).drew
  have hBa := HB3.out
  have hb8 : Bs (w3.alloc (.cells #[.int .u8 1] 5)).drew [] (.slice (some ⟨w3.heap.size, 0, none⟩) 1 1) [UInt8.ofNat 1] := ⟨_, _, rfl, Nat.le_refl _, rfl, fun _ => ⟨w3.heap.size, 0, rfl, by simp, by simp, fun j u hu => by
    have := (Blk.new w3 5 #[.int .u8 1]).cell (0 + j)
    rw [show ((w3.alloc (.cells #[.int .u8 1] 5)).drew).cell? ⟨w3.heap.size, 0 + j, none⟩ = (w3.alloc (.cells #[.int .u8 1] 5)).cell? ⟨w3.heap.size, 0 + j, none⟩ from rfl, this, Nat.zero_add]
    cases j with
    | zero => exact hu
    | succ j => cases hu⟩⟩
  have Hp1 : Hid (Calls Tryz.prog 118 #[.slice (some ⟨w3.heap.size, 0, none⟩) 1 1, .int .u64 fr] (w3.alloc (.cells #[.int .u8 1] 5)).drew fun r w' => BsPost ([UInt8.ofNat 1] ++ Lib.uvarint fr) (w3.alloc (.cells #[.int .u8 1] 5)).drew r w') := put_any _ [UInt8.ofNat 1] fr _ hb8 hfr9 (by simp)
  have Hp2 : Hid (∀ W A2, Bs W [] (.slice A2 ([UInt8.ofNat 1] ++ Lib.uvarint fr).length ([UInt8.ofNat 1] ++ Lib.uvarint fr).length) ([UInt8.ofNat 1] ++ Lib.uvarint fr) → Calls Tryz.prog 118 #[.slice A2 ([UInt8.ofNat 1] ++ Lib.uvarint fr).length ([UInt8.ofNat 1] ++ Lib.uvarint fr).length, .int .u64 tag] W fun r w' => BsPost (headB 1 fr tag) W r w') := fun W A2 h2 => by
    have hl := Lib.uvarint_length64 hfr9
    exact put_any _ ([UInt8.ofNat 1] ++ Lib.uvarint fr) tag W h2 ht9 (by rw [List.length_append]; simp; omega)
  have hHl : (headB 1 fr tag).length ≤ 21 := by
    have h1 := Lib.uvarint_length64 hfr9
    have h2 := Lib.uvarint_length64 ht9
    unfold headB
    rw [List.length_append, List.length_append]; simp; omega
  generalize headB 1 fr tag = H at *
  generalize hL1 : [UInt8.ofNat 1] ++ Lib.uvarint fr = L1 at *
  have Hka := Lib.hid (show Below w3.heap.size w3 (w3.alloc (.cells #[.int .u8 1] 5)).drew from ka.below)
  have a0 : (w3.alloc (.cells #[.int .u8 1] 5)).cell? ⟨w.heap.size, 0, none⟩ = some (.int .i64 1) := (Hka.out.cell (p := ⟨w.heap.size, 0, none⟩) hw3s).trans c0
  have a7 : (w3.alloc (.cells #[.int .u8 1] 5)).cell? ⟨w.heap.size, 7, none⟩ = some (.int .i64 fr) := (Hka.out.cell (p := ⟨w.heap.size, 7, none⟩) hw3s).trans c7
  have a8 : (w3.alloc (.cells #[.int .u8 1] 5)).cell? ⟨w.heap.size, 8, none⟩ = some (.int .i64 tag) := (Hka.out.cell (p := ⟨w.heap.size, 8, none⟩) hw3s).trans c8
  clear hb8 ka hBa hL1
  have hfi : (fr : Int) < 8 := by omega
  have hwf : IntKind.u64.wrap (fr : Int) = (fr : Int) := by rw [IntKind.wrap_u64]; omega
  have hwt : IntKind.u64.wrap (tag : Int) = (tag : Int) := by rw [IntKind.wrap_u64]; omega
  have hwk : IntKind.u8.wrap 1 = 1 := by decide
  have hti : (tag : Int) ≤ 9223372036854775807 := by omega
  go_upto_region 4 with (fail)
  go_cut [5] (fun s wx => ∃ A6, s = .slice A6 H.length H.length ∧ Hid (∀ M, (∀ g ∈ M, g < w3.heap.size) → Bs wx M (.slice A6 H.length H.length) H) ∧ Hid (Below w3.heap.size w3 wx))
  case first =>
    go_region_held3 (fun w' => w'.cell? ⟨w.heap.size, 0, none⟩ = some (.int .i64 1) ∧ w'.cell? ⟨w.heap.size, 7, none⟩ = some (.int .i64 fr) ∧ w'.cell? ⟨w.heap.size, 8, none⟩ = some (.int .i64 tag)) (first | exact ⟨r0, r7, r8⟩ | exact ⟨q0, q7, q8⟩ | exact ⟨a0, a7, a8⟩ | exact ⟨c0, c7, c8⟩) (first
      | (go_at_call_of 118 (Value.slice (some ⟨w3.heap.size, 0, none⟩) 1 1)
         with_reducible refine Hp1.out.mono ?_
         rintro r w5 ⟨A5, rfl, hR5, hb5⟩
         have HR5 := Lib.hid (hR5 [] (by simp))
         have Hb5 := Lib.hid (below_then Hka.out hb5)
         have q0 : w5.cell? ⟨w.heap.size, 0, none⟩ = some (.int .i64 1) := (Hb5.out.cell (p := ⟨w.heap.size, 0, none⟩) hw3s).trans c0
         have q7 : w5.cell? ⟨w.heap.size, 7, none⟩ = some (.int .i64 fr) := (Hb5.out.cell (p := ⟨w.heap.size, 7, none⟩) hw3s).trans c7
         have q8 : w5.cell? ⟨w.heap.size, 8, none⟩ = some (.int .i64 tag) := (Hb5.out.cell (p := ⟨w.heap.size, 8, none⟩) hw3s).trans c8
         clear hR5 hb5)
      | (go_at_call 118
         with_reducible refine (Hp2.out _ A5 HR5.out).mono ?_
         rintro r w6 ⟨A6, rfl, hR6, hb6⟩
         have HR6 := Lib.hid (fun M (hM : ∀ g ∈ M, g < w3.heap.size) => hR6 M (fun g hg => Nat.lt_of_lt_of_le (hM g hg) Hb5.out.size))
         have Hb6 := Lib.hid (below_then Hb5.out hb6)
         have r0 : w6.cell? ⟨w.heap.size, 0, none⟩ = some (.int .i64 1) := (Hb6.out.cell (p := ⟨w.heap.size, 0, none⟩) hw3s).trans c0
         have r7 : w6.cell? ⟨w.heap.size, 7, none⟩ = some (.int .i64 fr) := (Hb6.out.cell (p := ⟨w.heap.size, 7, none⟩) hw3s).trans c7
         have r8 : w6.cell? ⟨w.heap.size, 8, none⟩ = some (.int .i64 tag) := (Hb6.out.cell (p := ⟨w.heap.size, 8, none⟩) hw3s).trans c8
         clear hR6 hb6))
    all_goals
      go_wp2_with fail
      go_meet
      exact ⟨A6, rfl, HR6.out, Hb6.out⟩
  case rest =>
    obtain ⟨A6, rfl, HR6, Hb6⟩ := hcut
    clear Hp1 Hp2 a0 a7 a8 Hka c0 c1 c2 c3 c4 c5 c6 c7 c8
    have HB6 := Lib.hid (HB3.out.below Hb6.out hw3s)
    have c0 := HB6.out.cell 0; have c1 := HB6.out.cell 1; have c2 := HB6.out.cell 2; have c3 := HB6.out.cell 3; have c4 := HB6.out.cell 4; have c5 := HB6.out.cell 5; have c6 := HB6.out.cell 6
    simp only [List.getElem?_toArray, List.getElem?_cons_succ, List.getElem?_cons_zero] at c0 c1 c2 c3 c4 c5 c6
    have HA6 := Lib.hid (below_then Hk3.out.below Hb6.out)
    have hwa : IntKind.u64.wrap (ag : Int) = (ag : Int) := by rw [IntKind.wrap_u64]; omega
    have hwb : IntKind.u64.wrap (sh : Int) = (sh : Int) := by rw [IntKind.wrap_u64]; omega
    have hwc : IntKind.u64.wrap (seq : Int) = (seq : Int) := by rw [IntKind.wrap_u64]; omega
    have hwd : IntKind.u64.wrap (ep : Int) = (ep : Int) := by rw [IntKind.wrap_u64]; omega
    have hwe : IntKind.u64.wrap (ds.length : Int) = (ds.length : Int) := by rw [IntKind.wrap_u64]; omega
    have hN := Lib.hid (nums5_lt ag sh seq ep ds.length (by omega) (by omega) (by omega) (by omega) (by omega))
    have hNl := Lib.hid (nums5_len ag sh seq ep ds.length (by omega) (by omega) (by omega) (by omega) (by omega))
    have hDl := Lib.hid (dBytes_len ds hs2 hw4)
    have HNw := Lib.hid hw4
    have Hhl := Lib.hid hHl
    have hka : Keeps [] wc (wc.alloc (.cells #[.int .u64 ag, .int .u64 sh, .int .u64 seq, .int .u64 ep, .int .u64 ds.length] 66)) := (Keeps.refl _ _).alloc _
    have Hka := Lib.hid hka
    have HN5 := Lib.hid (Blk.new wc 66 #[.int .u64 ag, .int .u64 sh, .int .u64 seq, .int .u64 ep, .int .u64 ds.length])
    have Hcc : Hid (∀ x, (hx : x < 5) → (#[Value.int .u64 ag, .int .u64 sh, .int .u64 seq, .int .u64 ep, .int .u64 ds.length])[x]? = some (.int .u64 ((nums5 ag sh seq ep ds.length)[x]'hx))) := fun x hx => by
      rcases x with _ | _ | _ | _ | _ | x
      all_goals first | rfl | omega
    clear hka hw1 hw2 hw3 hw4 hs1 hs2 hs3
    obtain ⟨w7, hw7⟩ : ∃ w7, w7 = wc.alloc (.cells #[.int .u64 ag, .int .u64 sh, .int .u64 seq, .int .u64 ep, .int .u64 ds.length] 66) := ⟨_, rfl⟩
    have Hw7 := Lib.hid hw7
    rw [← hw7] at Hka HN5
    have hwc7 : wc.heap.size < w7.heap.size := HN5.out.lt
    clear hw7
    go_upto_block 1 with (fail)
    rw [← Hw7.out]
    have hww3 : w.heap.size < w3.heap.size := hw3s
    have hwc3 : w3.heap.size ≤ wc.heap.size := Hb6.out.size
    have HR7 : Hid (∀ M, (∀ g ∈ M, g < w.heap.size) → Bs w7 M (.slice A6 H.length H.length) H) := fun M hM => (HR6.out M (fun g hg => by have := hM g hg; omega)).keep Hka.out (by simp)
    go_loopw [5, 53] (fun b i wr => ∃ (x : Nat) (A' : Option Addr) (L : List UInt8), i = .int .i64 x ∧ x ≤ 5 ∧ b = .slice A' L.length L.length ∧ Hid (L = H ++ ((nums5 ag sh seq ep ds.length).take x).flatMap Lib.uvarint) ∧ Hid (∀ M, (∀ g ∈ M, g < w.heap.size) → Bs wr M (.slice A' L.length L.length) L) ∧ Hid (Below w7.heap.size w7 wr)) (fun _ i _ => 5 - (intOf i).toNat)
    case atStart => exact ⟨0, A6, H, rfl, by omega, rfl, (show H = H ++ ((nums5 ag sh seq ep ds.length).take 0).flatMap Lib.uvarint by simp), HR7.out, Below.refl _ _⟩
    case round =>
      obtain ⟨x, A', L, rfl, hx, rfl, HL, HB, Hbr⟩ := hrel
      clear c0 c1 c2 c3 c4 c5 c6
      have hLl : Hid (L.length ≤ 71) := by
        have h1 := Hhl.out
        have h2 := hNl.out
        have h3 := congrArg List.length HL.out
        have h4 : (((nums5 ag sh seq ep ds.length).take x).flatMap Lib.uvarint).length ≤ ((nums5 ag sh seq ep ds.length).flatMap Lib.uvarint).length := by
          conv => rhs; rw [← List.take_append_drop x (nums5 ag sh seq ep ds.length), List.flatMap_append, List.length_append]
          omega
        rw [List.length_append] at h3
        show _ ≤ _; omega
      by_cases hlt : x < 5
      · have hx1 : (x : Int) < 5 := by omega
        have hc7 : wr.cell? ⟨wc.heap.size, x, none⟩ = some (.int .u64 ((nums5 ag sh seq ep ds.length)[x]'hlt)) := by
          rw [(HN5.out.below Hbr.out hwc7).cell x]; exact Hcc.out x hlt
        have Hn := Lib.hid (hN.out _ (List.getElem_mem (l := nums5 ag sh seq ep ds.length) (n := x) hlt))
        have HL2 : Hid (L ++ Lib.uvarint ((nums5 ag sh seq ep ds.length)[x]'hlt) = H ++ ((nums5 ag sh seq ep ds.length).take (x + 1)).flatMap Lib.uvarint) := by
          show _ = _
          rw [List.take_succ_eq_append_getElem (l := nums5 ag sh seq ep ds.length) (i := x) hlt, List.flatMap_append, HL.out]
          simp
        generalize (nums5 ag sh seq ep ds.length)[x]'hlt = n at *
        have Hp := Lib.hid (put_any _ L n wr (HB.out [] (by simp)) Hn.out (by have := hLl.out; omega))
        go_wp2_with fail
        refine Hp.out.mono ?_
        rintro r w8 ⟨A8, rfl, hR8, hb8⟩
        have HR8 := Lib.hid (fun M (hM : ∀ g ∈ M, g < w.heap.size) => hR8 M (fun g hg => by have := hM g hg; have := Hbr.out.size; omega))
        have Hb8 := Lib.hid (below_then Hbr.out hb8)
        clear hR8 hb8 Hp
        generalize L ++ Lib.uvarint n = L2 at *
        go_wp2
        go_roundw
        case rel => exact ⟨x + 1, A8, L2, by go_num, by omega, rfl, HL2, HR8, Hb8⟩
        case measure => simp [intOf] <;> omega
      · obtain rfl : x = 5 := by omega
        have hL5 : Hid (L = H ++ (nums5 ag sh seq ep ds.length).flatMap Lib.uvarint) := HL.out
        have HBw := Lib.hid ((HB6.out.below Hka.out.below (by have := Hb6.out.size; omega)).below Hbr.out (by have := Hb6.out.size; omega))
        have c5 := HBw.out.cell 5
        simp only [List.getElem?_toArray, List.getElem?_cons_succ, List.getElem?_cons_zero] at c5
        have Hw : Hid (Below w.heap.size w wr) := below_then (below_then HA6.out Hka.out.below) Hbr.out
        have hds : Ds wr [] (.slice A ds.length c) ds := Hh.out.keep (Keeps.of_below (M := []) Hw.out) (by simp)
        have Hpt := Lib.hid (eput_any (List.range w.heap.size) A' L (.slice A ds.length c) ds wr (fun g hg => by have := List.mem_range.1 hg; have := Hw.out.size; omega) (HB.out (List.range w.heap.size) (fun g hg => List.mem_range.1 hg)) hds HNw.out (by omega) (by have := hLl.out; have := hDl.out; have : ds.length * 4294967301 ≤ 8 * 4294967301 := Nat.mul_le_mul_right _ (by omega); omega))
        clear hds
        go_wp2_with fail
        refine Hpt.out.mono ?_
        rintro r w9 ⟨A9, rfl, hR9, hb9⟩
        have hp : Hid (EB0 be w (.returned (.tuple #[.slice A9 (L ++ ds.flatMap dBytes).length (L ++ ds.flatMap dBytes).length, .int .i64 0])) w9) := by
          have := HP.out A9 w9
          show EB0 _ _ _ _
          rw [HE.out, ← hL5.out] at this ⊢
          exact this (fun M hM => hR9.avoid (fun g hg => .inl (List.mem_range.2 (hM g hg)))) (below_then Hw.out hb9)
        clear hR9 hb9 Hpt
        generalize L ++ ds.flatMap dBytes = F at *
        go_wp2
        go_ret2
        exact hp.out
end Go.Proofs.YtinnifhnabncfaaGreatDoor.Vi
end
/- slices.IndexFunc at no deltas. -/
section
namespace Go.Proofs.YtinnifhnabncfaaGreatDoor.Vi
open Go.RowKit Base Mem Go.Shelf
theorem indexf_nil (A : Option Addr) (c g : Nat) (lb : Array Value) (w : World) :
    Calls Tryz.prog 73 #[.slice A 0 c, .func (.func g) #[] lb] w fun e w' => e = .returned (.int .i64 (-1)) ∧ Below w.heap.size w w' := by
  go_enter Tryz.func73, Tryz.ntmps73
  go_wp2_with fail
  go_slots
  go_loopw [8] (fun i wr => i = .int .i64 0 ∧ Hid (Below w.heap.size w wr)) (fun i _ => 0)
  case atStart => exact ⟨rfl, Below.refl _ _⟩
  case round =>
    obtain ⟨rfl, Hb⟩ := hrel
    go_wp2
    go_ret
    exact ⟨rfl, Hb.out⟩
end Go.Proofs.YtinnifhnabncfaaGreatDoor.Vi
end
/- Contract of slices.Equal at deltas; of entry.Same. -/
section
namespace Go.Proofs.YtinnifhnabncfaaGreatDoor.Vi
open Go.RowKit Base Mem Go.Shelf
def dEq (x y : DeltaD) : Bool := x.ser.toList == y.ser.toList && (x.n == y.n)
def dsEq (a b : List DeltaD) : Bool := Lib.allEq dEq a b
theorem dEq_at : NeqAt Tryz.prog 86 (fun x => .agg (dCell x).toArray) dEq := by
  refine ⟨fun x y w => ?_, GuardAt.agg _ (by kernel_rfl)⟩
  have u1 := Tryz.underlying9
  have a1 := Tryz.isAgg9
  have z1 := Tryz.sizeOf9
  have u3 := Tryz.underlying66
  have a3 := Tryz.isAgg66
  have z3 := Tryz.sizeOf66
  have hS : Tryz.prog.underlying 86 = some (.struct (Tryz.prog.fieldsOf 86)) := by kernel_rfl
  have hp : Tryz.prog.stoodInHeld 86 = false := by kernel_rfl
  simp only [dCell, dEq]
  rw [run_neq_struct, show (10000 : Nat) = 9999 + 1 from rfl, run_equalIn_agg w 9999 86 _ _ hS hp]
  simp only [Program.fieldsOf, Tryz.underlying86]
  go_simp
  by_cases h1 : x.ser.toList = y.ser.toList <;> by_cases h2 : x.n = y.n <;> simp [h1, h2]
set_option maxRecDepth 100000 in
theorem equal_any (va vb : Value) (a b : List DeltaD) (w : World) (ha : Ds w [] va a) (hb : Ds w [] vb b) (h1 : a.length ≤ 4611686018427387904) (h2 : b.length ≤ 4611686018427387904) :
    Calls Tryz.prog 72 #[va, vb] w fun e w' => e = .returned (.bool (dsEq a b)) ∧ ∃ q, w' = w.drewN q := by
  by_cases h0 : 0 < a.length ∧ 0 < b.length
  · obtain ⟨ga, oa, ca, rfl, hga, hca⟩ := ds_cells ha h0.1
    obtain ⟨gb, ob, cb, rfl, hgb, hcb⟩ := ds_cells hb h0.2
    have := AnyQ.slices_Equal Tryz.equalDelta 2 Tryz.isAgg86 Tryz.sizeOf86 dCell (fun _ => rfl) dEq dEq_at ga oa a.length ca gb ob b.length cb a b w (Nat.le_refl _) (Nat.le_refl _) (by omega) (by omega) hca hcb
    rw [List.take_length, List.take_length] at this
    exact this
  · obtain ⟨Aa, ca, rfl, hca⟩ := ha.len
    obtain ⟨Ab, cb, rfl, hcb⟩ := hb.len
    clear ha hb
    by_cases hne : a.length = b.length
    · have ha0 : a = [] := List.length_eq_zero_iff.1 (by omega)
      have hb0 : b = [] := List.length_eq_zero_iff.1 (by omega)
      subst ha0 hb0
      clear h0 h1 h2 hne hca hcb
      simp only [List.length_nil]
      go_enter Tryz.func72, Tryz.ntmps72
      go_wp2_with fail
      go_loopw [13] (fun i wr => i = .int .i64 0 ∧ Hid (wr = w)) (fun i _ => 0)
      case atStart => exact ⟨rfl, rfl⟩
      case round =>
        obtain ⟨rfl, hw⟩ := hrel
        obtain rfl := hw.out
        go_wp2
        go_ret
        exact ⟨rfl, 0, rfl⟩
    · have hR : Hid (dsEq a b = false) := Lib.allEq_len dEq a b hne
      have hnm' : ¬ (a.length : Int) = (b.length : Int) := by omega
      rw [hR.out]
      clear h0 h1 h2 hne
      go_enter Tryz.func72, Tryz.ntmps72
      go_wp2
      go_ret
      exact ⟨rfl, 0, rfl⟩
/-- Are entries the same? -/
def sameE (a b : EntryD) : Bool := a.kind == b.kind && eqI a.ag a.sh a.seq b.ag b.sh b.seq && a.ep == b.ep && dsEq a.ds b.ds && a.ser.toList == b.ser.toList && a.fr == b.fr && a.tag == b.tag
def SamePost (r : Bool) (w : World) (e : Ending) (w' : World) : Prop := e = .returned (.bool r) ∧ Below w.heap.size w w'
set_option maxRecDepth 100000 in
set_option maxHeartbeats 1000000 in
theorem same_any (a b : EntryD) (va vb : Value) (w : World) (ha : Ds w [] va a.ds) (hb : Ds w [] vb b.ds) (h1 : a.ds.length ≤ 4611686018427387904) (h2 : b.ds.length ≤ 4611686018427387904) :
    Calls Tryz.prog 23 #[.agg (eCell (a, va)).toArray, .agg (eCell (b, vb)).toArray] w fun r w' => SamePost (sameE a b) w r w' := by
  have heq := Lib.hid (fun W (hk : Keeps [] w W) => equal_any va vb a.ds b.ds W (ha.keep hk (by simp)) (hb.keep hk (by simp)) h1 h2)
  obtain ⟨Aa, ca, rfl, hca⟩ := ha.len
  obtain ⟨Ab, cb, rfl, hcb⟩ := hb.len
  have HS : Hid (sameE a b = (a.kind == b.kind && eqI a.ag a.sh a.seq b.ag b.sh b.seq && a.ep == b.ep && dsEq a.ds b.ds && a.ser.toList == b.ser.toList && a.fr == b.fr && a.tag == b.tag)) := rfl
  generalize sameE a b = R at *
  generalize dsEq a.ds b.ds = dse at *
  obtain ⟨kind, ag, sh, seq, ep, ds, ser, fr, tag⟩ := a
  obtain ⟨kind', ag', sh', seq', ep', ds', ser', fr', tag'⟩ := b
  simp only [] at heq hca hcb HS
  clear ha hb
  simp only [eCell]
  generalize ds.length = n at *
  generalize ds'.length = n' at *
  have hk : Hid (Keeps [] w ((w.alloc (.cells #[.int .i64 kind, .int .i64 ag, .int .i64 sh, .int .i64 seq, .int .i64 ep, .slice Aa n ca, .string ser, .int .i64 fr, .int .i64 tag] 26)).alloc (.cells #[.int .i64 kind', .int .i64 ag', .int .i64 sh', .int .i64 seq', .int .i64 ep', .slice Ab n' cb, .string ser', .int .i64 fr', .int .i64 tag'] 26))) := ((Keeps.refl _ _).alloc _).alloc _
  have heq2 := Lib.hid (heq.out _ hk.out)
  clear heq
  cases h0 : (kind == kind') with
  | false =>
    obtain rfl : R = false := by rw [HS.out, h0]; simp
    clear HS
    go_enter Tryz.func23, Tryz.ntmps23
    go_wp2
    go_ret
    exact ⟨rfl, hk.out.below⟩
  | true =>
    cases h1 : (eqI ag sh seq ag' sh' seq') with
    | false =>
      obtain rfl : R = false := by rw [HS.out, h0, h1]; simp
      have he := fun W => eqI_run ag sh seq ag' sh' seq' false h1 W
      clear h1
      clear HS
      go_enter Tryz.func23, Tryz.ntmps23
      go_wp2
      go_ret
      exact ⟨rfl, hk.out.below⟩
    | true =>
      cases h2 : (ep == ep') with
      | false =>
        obtain rfl : R = false := by rw [HS.out, h0, h1, h2]; simp
        have he := fun W => eqI_run ag sh seq ag' sh' seq' true h1 W
        clear h1
        clear HS
        go_enter Tryz.func23, Tryz.ntmps23
        go_wp2
        go_ret
        exact ⟨rfl, hk.out.below⟩
      | true =>
        cases h3 : dse with
        | false =>
          subst h3
          obtain rfl : R = false := by rw [HS.out, h0, h1, h2]; simp
          have he := fun W => eqI_run ag sh seq ag' sh' seq' true h1 W
          clear h1
          clear HS
          go_enter Tryz.func23, Tryz.ntmps23
          go_wp2_with fail
          refine heq2.out.mono ?_
          rintro r w' ⟨rfl, q, rfl⟩
          have HB := Lib.hid (hk.out.drewN q).below
          clear hk heq2
          go_wp2
          go_ret
          exact ⟨rfl, HB.out⟩
        | true =>
          subst h3
          cases h4 : (ser.toList == ser'.toList) with
          | false =>
            obtain rfl : R = false := by rw [HS.out, h0, h1, h2, h4]; simp
            have he := fun W => eqI_run ag sh seq ag' sh' seq' true h1 W
            clear h1
            clear HS
            go_enter Tryz.func23, Tryz.ntmps23
            go_wp2_with fail
            refine heq2.out.mono ?_
            rintro r w' ⟨rfl, q, rfl⟩
            have HB := Lib.hid (hk.out.drewN q).below
            clear hk heq2
            go_wp2
            go_ret
            exact ⟨rfl, HB.out⟩
          | true =>
            cases h5 : (fr == fr') with
            | false =>
              obtain rfl : R = false := by rw [HS.out, h0, h1, h2, h4, h5]; simp
              have he := fun W => eqI_run ag sh seq ag' sh' seq' true h1 W
              clear h1
              clear HS
              go_enter Tryz.func23, Tryz.ntmps23
              go_wp2_with fail
              refine heq2.out.mono ?_
              rintro r w' ⟨rfl, q, rfl⟩
              have HB := Lib.hid (hk.out.drewN q).below
              clear hk heq2
              go_wp2
              go_ret
              exact ⟨rfl, HB.out⟩
            | true =>
              cases h6 : (tag == tag') with
              | false =>
                obtain rfl : R = false := by rw [HS.out, h0, h1, h2, h4, h5, h6]; simp
                have he := fun W => eqI_run ag sh seq ag' sh' seq' true h1 W
                clear h1
                clear HS
                go_enter Tryz.func23, Tryz.ntmps23
                go_wp2_with fail
                refine heq2.out.mono ?_
                rintro r w' ⟨rfl, q, rfl⟩
                have HB := Lib.hid (hk.out.drewN q).below
                clear hk heq2
                go_wp2
                go_ret
                exact ⟨rfl, HB.out⟩
              | true =>
                obtain rfl : R = true := by rw [HS.out, h0, h1, h2, h4, h5, h6]; simp
                have he := fun W => eqI_run ag sh seq ag' sh' seq' true h1 W
                clear h1
                clear HS
                go_enter Tryz.func23, Tryz.ntmps23
                go_wp2_with fail
                refine heq2.out.mono ?_
                rintro r w' ⟨rfl, q, rfl⟩
                have HB := Lib.hid (hk.out.drewN q).below
                clear hk heq2
                go_wp2
                go_ret
                exact ⟨rfl, HB.out⟩
end Go.Proofs.YtinnifhnabncfaaGreatDoor.Vi
end
