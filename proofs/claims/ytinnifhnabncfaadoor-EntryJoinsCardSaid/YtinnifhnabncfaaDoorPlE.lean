/- Plain words: an entry that is written is read as itself. -/
import Derived.Test.YtinnifhnabncfaaDoorPlN
import Derived.Test.YtinnifhnabncfaaDoorEnt8
import Derived.Lib.Strings
namespace Go.Proofs.YtinnifhnabncfaaDoor.Vi
open Go.RowKit Base Mem
theorem right_kind {e : EntryD} (h : rightE e = 0) : kindS e = true := by
  unfold rightE at h
  cases hk : kindS e with
  | true => rfl
  | false => rw [hk] at h; cases h
theorem byteS_cons (c : UInt8) (r : List UInt8) : byteS (c :: r) false = (c, r, false) := rfl
/-- What follows a message's head. -/
def readX (k fr tag : Nat) (l : List UInt8) (b : Bool) : EntryD × List UInt8 × Bool :=
  if k = 2 then (⟨k, 0, 0, 0, 0, [], ⟨(textS l b).1.toArray⟩, fr, tag⟩, (textS l b).2)
  else
    let a := countS l b 8
    let s := countS a.2.1 a.2.2 4
    let q := intS s.2.1 s.2.2
    let p := intS q.2.1 q.2.2
    let n := countS p.2.1 p.2.2 8
    let d := getDs n.1 n.2.1 n.2.2
    (⟨k, a.1, s.1, q.1, p.1, d.1, ⟨#[]⟩, fr, tag⟩, d.2)
def readH (b : List UInt8) : EntryD × List UInt8 × Bool :=
  let k := byteS b false
  let f := countS k.2.1 k.2.2 8
  let t := intS f.2.1 f.2.2
  readX k.1.toNat f.1 t.1 t.2.1 t.2.2
def zeroD : EntryD := ⟨0, 0, 0, 0, 0, [], ⟨#[]⟩, 0, 0⟩
/-- The entry that bytes are, or why not. -/
def readE (b : List UInt8) : EntryD × Nat := if (!(readH b).2.2 && (readH b).2.1.isEmpty) = true ∧ rightE (readH b).1 = 0 then ((readH b).1, 0) else (zeroD, 12)
theorem getDs_put (ds : List DeltaD) (r : List UInt8) (hn : ∀ d ∈ ds, NOk d) (hs : ∀ d ∈ ds, d.ser.size < 4294967281) : getDs ds.length (ds.flatMap dBytes ++ r) false = (ds, r, false) := by
  induction ds with
  | nil => rfl
  | cons d ds ih =>
    obtain ⟨h0, h1⟩ := hn d (by simp)
    have h2 := hs d (by simp)
    obtain ⟨ser, n⟩ := d
    obtain ⟨n, rfl⟩ := Int.eq_ofNat_of_zero_le h0
    simp only [] at h1 h2
    have ht := textS_put (sB ser) (Lib.uvarint n ++ (ds.flatMap dBytes ++ r)) (by show ser.size < _; omega)
    have hu := numS_put n (ds.flatMap dBytes ++ r) (by omega)
    have hd : dBytes ⟨ser, n⟩ = Lib.uvarint (sB ser).length ++ sB ser ++ Lib.uvarint n := rfl
    rw [List.flatMap_cons, hd, List.length_cons, getDs]
    simp only [List.append_assoc] at ht ⊢
    rw [ht]
    simp only []
    rw [hu]
    simp only []
    rw [ih (fun d hd => hn d (by simp [hd])) (fun d hd => hs d (by simp [hd]))]
    rfl
theorem read_bytes (e : EntryD) (hr : rightE e = 0) (hw : Wf e) (hs : Short e) : readE (bytesE e) = (e, 0) := by
  obtain ⟨⟨hf0, hf8, ht0⟩, hrest⟩ := right_facts hr
  have hk := right_kind hr
  have hH : readH (bytesE e) = (e, [], false) := by
    obtain ⟨hw1, hw2, hw3, hw4⟩ := hw
    obtain ⟨hs1, hs2, hs3⟩ := hs
    clear hr
    obtain ⟨kind, ag, sh, seq, ep, ds, ser, fr, tag⟩ := e
    simp only [] at hf0 hf8 ht0 hrest hw1 hw2 hw3 hw4 hs1 hs2 hs3
    obtain ⟨fr, rfl⟩ := Int.eq_ofNat_of_zero_le hf0
    obtain ⟨tag, rfl⟩ := Int.eq_ofNat_of_zero_le ht0
    have hfr := fun r => countS_put fr r 8 (by omega) (by omega)
    have htg := fun r => intS_put tag r (by omega)
    unfold kindS at hk
    simp only [] at hk
    rcases hrest with rfl | ⟨rfl, h1, h2, h3, h4, h5, h6, h7⟩
    · rw [if_neg (by omega), if_pos rfl] at hk
      simp [eqI] at hk
      obtain ⟨⟨⟨rfl, rfl, rfl⟩, rfl⟩, hds⟩ := hk
      obtain rfl : ds = [] := by simpa using hds
      have ht := textS_put (sB ser) [] (by show ser.size < _; omega)
      unfold readH bytesE headB
      rw [if_pos rfl]
      simp only [List.append_nil] at ht
      simp only [List.append_assoc, List.nil_append, List.cons_append, byteS_cons, Int.toNat_natCast, hfr, htg]
      unfold readX
      rw [if_pos (by decide)]
      rw [show Lib.uvarint ser.size ++ sB ser = Lib.uvarint (sB ser).length ++ sB ser from rfl, ht]
      rfl
    · rw [if_pos rfl] at hk
      have hse : ser = ⟨#[]⟩ := by
        have h0 : ser.toList = [] := by simpa using hk
        rw [Lib.toList_data] at h0
        obtain ⟨⟨l⟩⟩ := ser
        simp only [] at h0
        rw [h0]
      subst hse
      obtain ⟨ag, rfl⟩ := Int.eq_ofNat_of_zero_le h1
      obtain ⟨sh, rfl⟩ := Int.eq_ofNat_of_zero_le h3
      obtain ⟨seq, rfl⟩ := Int.eq_ofNat_of_zero_le (show 0 ≤ seq by omega)
      obtain ⟨ep, rfl⟩ := Int.eq_ofNat_of_zero_le (show 0 ≤ ep by omega)
      have ha := fun r => countS_put ag r 8 (by omega) (by omega)
      have hsh := fun r => countS_put sh r 4 (by omega) (by omega)
      have hq := fun r => intS_put seq r (by omega)
      have hp := fun r => intS_put ep r (by omega)
      have hn := fun r => countS_put ds.length r 8 (by omega) (by omega)
      have hg := getDs_put ds [] hw4 hs2
      unfold readH bytesE headB
      rw [if_neg (by simp)]
      simp only [List.append_nil] at hg
      simp only [List.append_assoc, List.nil_append, List.cons_append, byteS_cons, Int.toNat_natCast, hfr, htg]
      unfold readX
      rw [if_neg (by decide)]
      simp only [ha, hsh, hq, hp, hn, hg]
      rfl
  unfold readE
  rw [hH, if_pos ⟨rfl, hr⟩]
end Go.Proofs.YtinnifhnabncfaaDoor.Vi
