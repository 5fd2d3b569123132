/- Texts put together: PlE, PlE2, EntC, Ent9, EntA, EntD, EntK, Tape, Tape2, Tape3, EntE, PlF, MPut, EqF, Msg1. -/
import Derived.Lib.Strings
import Derived.Shelf.SlicesQ.Equal
import Derived.Test.YtdaceeijifjpeaaGreatDoorRT1
import Derived.Test.YtdaceeijifjpeaaGreatDoorRT3
set_option linter.unusedVariables false
set_option linter.unusedSimpArgs false
section
namespace Go.Proofs.YtdaceeijifjpeaaGreatDoor.Vi
open Go.RowKit Base Mem
theorem right_kind {e : EntryD} (h : rightE e = 0) : kindS e = true := by
 unfold rightE at h
 cases hk : kindS e with
 | true => rfl
 | false => rw [hk] at h; cases h
theorem byteS_cons (c : UInt8) (r : List UInt8) : byteS (c :: r) false = (c, r, false) := rfl
/-- What follows a message's head. -/
def readX (k fr tag : Nat) (l : List UInt8) (b : Bool) : EntryD × List UInt8 × Bool :=
 if k = 2 then (⟨k, 0, 0, 0, 0, [], ⟨(textS l b).1.toArray⟩, fr, tag⟩, (textS l b).2)
 else
  let a := countS l b 8
  let s := countS a.2.1 a.2.2 4
  let q := intS s.2.1 s.2.2
  let p := intS q.2.1 q.2.2
  let n := countS p.2.1 p.2.2 8
  let d := getDs n.1 n.2.1 n.2.2
  (⟨k, a.1, s.1, q.1, p.1, d.1, ⟨#[]⟩, fr, tag⟩, d.2)
def readH (b : List UInt8) : EntryD × List UInt8 × Bool :=
 let k := byteS b false
 let f := countS k.2.1 k.2.2 8
 let t := intS f.2.1 f.2.2
 readX k.1.toNat f.1 t.1 t.2.1 t.2.2
def zeroD : EntryD := ⟨0, 0, 0, 0, 0, [], ⟨#[]⟩, 0, 0⟩
/-- The entry that bytes are, or why not. -/
def readE (b : List UInt8) : EntryD × Nat := if (!(readH b).2.2 && (readH b).2.1.isEmpty) = true ∧ rightE (readH b).1 = 0 then ((readH b).1, 0) else (zeroD, 12)
theorem getDs_put (ds : List DeltaD) (r : List UInt8) (hn : ∀ d ∈ ds, NOk d) (hs : ∀ d ∈ ds, d.ser.size < 4294967281) : getDs ds.length (ds.flatMap dBytes ++ r) false = (ds, r, false) := by
 induction ds with
 | nil => rfl
 | cons d ds ih =>
  obtain ⟨h0, h1⟩ := hn d (by simp)
  have h2 := hs d (by simp)
  obtain ⟨ser, n⟩ := d
  obtain ⟨n, rfl⟩ := Int.eq_ofNat_of_zero_le h0
  simp only [] at h1 h2
  have ht := textS_put (sB ser) (Lib.uvarint n ++ (ds.flatMap dBytes ++ r)) (by show ser.size < _; omega)
  have hu := numS_put n (ds.flatMap dBytes ++ r) (by omega)
  have hd : dBytes ⟨ser, n⟩ = Lib.uvarint (sB ser).length ++ sB ser ++ Lib.uvarint n := rfl
  rw [List.flatMap_cons, hd, List.length_cons, getDs]
  simp only [List.append_assoc] at ht ⊢
  rw [ht]
  simp only []
  rw [hu]
  simp only []
  rw [ih (fun d hd => hn d (by simp [hd])) (fun d hd => hs d (by simp [hd]))]
  rfl
theorem read_bytes (e : EntryD) (hr : rightE e = 0) (hw : Wf e) (hs : Short e) : readE (bytesE e) = (e, 0) := by
 obtain ⟨⟨hf0, hf8, ht0⟩, hrest⟩ := right_facts hr
 have hk := right_kind hr
 have hH : readH (bytesE e) = (e, [], false) := by
  obtain ⟨hw1, hw2, hw3, hw4⟩ := hw
  obtain ⟨hs1, hs2, hs3⟩ := hs
  clear hr
  obtain ⟨kind, ag, sh, seq, ep, ds, ser, fr, tag⟩ := e
  simp only [] at hf0 hf8 ht0 hrest hw1 hw2 hw3 hw4 hs1 hs2 hs3
  obtain ⟨fr, rfl⟩ := Int.eq_ofNat_of_zero_le hf0
  obtain ⟨tag, rfl⟩ := Int.eq_ofNat_of_zero_le ht0
  have hfr := fun r => countS_put fr r 8 (by omega) (by omega)
  have htg := fun r => intS_put tag r (by omega)
  unfold kindS at hk
  simp only [] at hk
  rcases hrest with rfl | ⟨rfl, h1, h2, h3, h4, h5, h6, h7⟩
  ·rw [if_neg (by omega), if_pos rfl] at hk
   simp [eqI] at hk
   obtain ⟨⟨⟨rfl, rfl, rfl⟩, rfl⟩, hds⟩ := hk
   obtain rfl : ds = [] := by simpa using hds
   have ht := textS_put (sB ser) [] (by show ser.size < _; omega)
   unfold readH bytesE headB
   rw [if_pos rfl]
   simp only [List.append_nil] at ht
   simp only [List.append_assoc, List.nil_append, List.cons_append, byteS_cons, Int.toNat_natCast, hfr, htg]
   unfold readX
   rw [if_pos (by decide)]
   rw [show Lib.uvarint ser.size ++ sB ser = Lib.uvarint (sB ser).length ++ sB ser from rfl, ht]
   rfl
  ·rw [if_pos rfl] at hk
   have hse : ser = ⟨#[]⟩ := by
    have h0 : ser.toList = [] := by simpa using hk
    rw [Lib.toList_data] at h0
    obtain ⟨⟨l⟩⟩ := ser
    simp only [] at h0
    rw [h0]
   subst hse
   obtain ⟨ag, rfl⟩ := Int.eq_ofNat_of_zero_le h1
   obtain ⟨sh, rfl⟩ := Int.eq_ofNat_of_zero_le h3
   obtain ⟨seq, rfl⟩ := Int.eq_ofNat_of_zero_le (show 0 ≤ seq by omega)
   obtain ⟨ep, rfl⟩ := Int.eq_ofNat_of_zero_le (show 0 ≤ ep by omega)
   have ha := fun r => countS_put ag r 8 (by omega) (by omega)
   have hsh := fun r => countS_put sh r 4 (by omega) (by omega)
   have hq := fun r => intS_put seq r (by omega)
   have hp := fun r => intS_put ep r (by omega)
   have hn := fun r => countS_put ds.length r 8 (by omega) (by omega)
   have hg := getDs_put ds [] hw4 hs2
   unfold readH bytesE headB
   rw [if_neg (by simp)]
   simp only [List.append_nil] at hg
   simp only [List.append_assoc, List.nil_append, List.cons_append, byteS_cons, Int.toNat_natCast, hfr, htg]
   unfold readX
   rw [if_neg (by decide)]
   simp only [ha, hsh, hq, hp, hn, hg]
   rfl
 unfold readE
 rw [hH, if_pos ⟨rfl, hr⟩]
theorem numS_len (l : List UInt8) (b : Bool) : (numS l b).2.1.length ≤ l.length := by
 unfold numS
 split
 ·exact Nat.le_refl _
 ·simp only [List.length_drop]; omega
theorem intS_len (l : List UInt8) (b : Bool) : (intS l b).2.1.length ≤ l.length := by
 unfold intS
 split <;> exact numS_len l b
theorem countS_len (l : List UInt8) (b : Bool) (m : Nat) : (countS l b m).2.1.length ≤ l.length := by
 unfold countS
 split <;> exact intS_len l b
theorem countS_most (l : List UInt8) (b : Bool) (m : Nat) : (countS l b m).1 ≤ m := by
 unfold countS
 split
 ·simp
 ·omega
theorem textS_len (l : List UInt8) (b : Bool) : (textS l b).2.1.length ≤ l.length ∧ (textS l b).1.length ≤ l.length := by
 unfold textS
 split
 ·simp
 ·refine ⟨by simp only [List.length_drop]; omega, ?_⟩
  unfold cutL
  split
  ·simp
  ·simp only [List.length_take, List.length_drop]; omega
theorem byteS_len (l : List UInt8) (b : Bool) : (byteS l b).2.1.length ≤ l.length := by
 unfold byteS
 split
 ·exact Nat.le_refl _
 ·cases l <;> simp
theorem getDs_short : ∀ (n : Nat) (l : List UInt8) (b : Bool), (∀ d ∈ (getDs n l b).1, d.ser.size ≤ l.length ∧ NOk d) ∧ (getDs n l b).1.length = n
 | 0, _, _ => ⟨by simp [getDs], rfl⟩
 | n + 1, l, b => by
  have h1 := textS_len l b
  have h2 := numS_len (textS l b).2.1 (textS l b).2.2
  have h4 := numS_lt (textS l b).2.1 (textS l b).2.2
  obtain ⟨h3, h5⟩ := getDs_short n (numS (textS l b).2.1 (textS l b).2.2).2.1 (numS (textS l b).2.1 (textS l b).2.2).2.2
  rw [getDs]
  refine ⟨fun d hd => ?_, by simp only [List.length_cons, h5]⟩
  rcases List.mem_cons.1 hd with rfl | hd
  ·refine ⟨h1.2, ?_⟩
   unfold NOk
   simp only []
   omega
  ·obtain ⟨h6, h7⟩ := h3 d hd
   exact ⟨by omega, h7⟩
theorem readX_two (fr tag : Nat) (l : List UInt8) (b : Bool) : readX 2 fr tag l b = (⟨(2 : Nat), 0, 0, 0, 0, [], ⟨(textS l b).1.toArray⟩, fr, tag⟩, (textS l b).2) := if_pos rfl
theorem readX_else (k fr tag : Nat) (l : List UInt8) (b : Bool) (hk : ¬ k = 2) : ∃ a s q p n d, a = countS l b 8 ∧ s = countS a.2.1 a.2.2 4 ∧ q = intS s.2.1 s.2.2 ∧ p = intS q.2.1 q.2.2 ∧ n = countS p.2.1 p.2.2 8 ∧ d = getDs n.1 n.2.1 n.2.2 ∧
  readX k fr tag l b = (⟨k, a.1, s.1, q.1, p.1, d.1, ⟨#[]⟩, fr, tag⟩, d.2) := ⟨_, _, _, _, _, _, rfl, rfl, rfl, rfl, rfl, rfl, if_neg hk⟩
theorem readX_all (k fr tag : Nat) (l : List UInt8) (b : Bool) (N : Nat) (h : l.length ≤ N) (ht : tag ≤ 9223372036854775807) : (readX k fr tag l b).1.ser.size ≤ N ∧ (∀ d ∈ (readX k fr tag l b).1.ds, d.ser.size ≤ N ∧ NOk d) ∧ (readX k fr tag l b).1.ds.length ≤ 8 ∧ Wf (readX k fr tag l b).1 := by
 by_cases hk : k = 2
 ·subst hk
  have h1 := (textS_len l b).2
  rw [readX_two]
  generalize textS l b = t at *
  refine ⟨?_, fun d hd => (by cases hd), Nat.zero_le _, ?_, ?_, ?_, fun d hd => (by cases hd)⟩
  ·show t.1.toArray.size ≤ N
   rw [List.size_toArray]; omega
  ·show (tag : Int) ≤ _; omega
  ·show (0 : Int) ≤ _; omega
  ·show (0 : Int) ≤ _; omega
 ·obtain ⟨a, s, q, p, n, d, ha, hs, hq, hp, hn, hd, e⟩ := readX_else k fr tag l b hk
  have h1 := countS_len l b 8
  have h2 := countS_len a.2.1 a.2.2 4
  have h3 := intS_len s.2.1 s.2.2
  have h4 := intS_len q.2.1 q.2.2
  have h5 := countS_len p.2.1 p.2.2 8
  have h6 := countS_most p.2.1 p.2.2 8
  have h7 := intS_lt s.2.1 s.2.2
  have h8 := intS_lt q.2.1 q.2.2
  obtain ⟨h9, h10⟩ := getDs_short n.1 n.2.1 n.2.2
  rw [← ha] at h1
  rw [← hs] at h2
  rw [← hq] at h3 h7
  rw [← hp] at h4 h8
  rw [← hn] at h5 h6
  rw [← hd] at h9 h10
  rw [e]
  refine ⟨Nat.zero_le _, fun x hx => ?_, by show d.1.length ≤ 8; omega, ?_, ?_, ?_, fun x hx => (h9 x hx).2⟩
  ·obtain ⟨h11, h12⟩ := h9 x hx
   exact ⟨by omega, h12⟩
  ·show (tag : Int) ≤ _; omega
  ·show (q.1 : Int) ≤ _; omega
  ·show (p.1 : Int) ≤ _; omega
theorem readH_eq (l : List UInt8) : ∃ k f t, k = byteS l false ∧ f = countS k.2.1 k.2.2 8 ∧ t = intS f.2.1 f.2.2 ∧ readH l = readX k.1.toNat f.1 t.1 t.2.1 t.2.2 := ⟨_, _, _, rfl, rfl, rfl, rfl⟩
theorem readH_short (l : List UInt8) (h : l.length < 4294967281) : Short (readH l).1 ∧ (readH l).1.ds.length ≤ 8 ∧ Wf (readH l).1 := by
 obtain ⟨k, f, t, hk, hf, ht, e⟩ := readH_eq l
 have h1 := byteS_len l false
 have h2 := countS_len k.2.1 k.2.2 8
 have h3 := intS_len f.2.1 f.2.2
 have h4 := intS_lt f.2.1 f.2.2
 rw [← hk] at h1
 rw [← hf] at h2
 rw [← ht] at h3 h4
 rw [e]
 obtain ⟨h5, h6, h7, h8⟩ := readX_all k.1.toNat f.1 t.1 t.2.1 t.2.2 l.length (by omega) h4
 exact ⟨⟨by omega, fun d hd => by have := (h6 d hd).1; omega, by omega⟩, h7, h8⟩
end Go.Proofs.YtdaceeijifjpeaaGreatDoor.Vi
end
section
namespace Go.Proofs.YtdaceeijifjpeaaGreatDoor.Vi
open Go.RowKit Base Mem Go.Shelf
def zeroA : Array Value := #[.int .i64 0, .int .i64 0, .int .i64 0, .int .i64 0, .int .i64 0, .slice none 0 0, .string ⟨#[]⟩, .int .i64 0, .int .i64 0]
/-- What stands between two calls: the reader, the result's block, the entry's block. -/
structure Re (w0 w : World) (p g0 g5 : Nat) (l : List UInt8) (bad : Bool) (c : Array Value) : Prop where
 rd : RdAt w [g5] p l bad
 keeps : Below w0.heap.size w0 w
 b0 : Blk w g0 33 zeroA
 b5 : Blk w g5 33 c
 o0 : w0.heap.size ≤ g0
 o1 : g0 < p
 o2 : p < g5
theorem Re.step {w0 w w' : World} {p g0 g5 : Nat} {l l' : List UInt8} {bad bad' : Bool} {c : Array Value} (h : Re w0 w p g0 g5 l bad c) (hr : RdAt w' [g5] p l' bad') (hk : Keeps [p] w w') : Re w0 w' p g0 g5 l' bad' c := by
 have h0 := h.o0; have h1 := h.o1; have h2 := h.o2
 exact ⟨hr, ((Keeps.of_below (M := []) h.keeps).trans hk (by intro g hg; simp at hg; right; omega)).below, hk.blk h.b0 (by simp; omega), hk.blk h.b5 (by simp; omega), h0, h1, h2⟩
theorem Re.set {w0 w : World} {p g0 g5 : Nat} {l : List UInt8} {bad : Bool} {c : Array Value} (h : Re w0 w p g0 g5 l bad c) (i : Nat) (v : Value) : Re w0 (w.setCell ⟨g5, i, none⟩ v) p g0 g5 l bad (c.setIfInBounds i v) := by
 have h0 := h.o0; have h1 := h.o1; have h2 := h.o2
 have hk : Keeps [g5] w (w.setCell ⟨g5, i, none⟩ v) := (Keeps.refl _ _).setCell (by simp) v
 exact ⟨h.rd.keep hk (by simp) (by simp; omega), ((Keeps.of_below (M := []) h.keeps).trans hk (by intro g hg; simp at hg; right; omega)).below, hk.blk h.b0 (by simp; omega), h.b5.set_ i v, h0, h1, h2⟩
theorem blk9 {w : World} {g : Nat} {t : TypeId} {c0 c1 c2 c3 c4 c5 c6 c7 c8 : Value} (h : Blk w g t #[c0, c1, c2, c3, c4, c5, c6, c7, c8]) :
  w.cell? ⟨g, 0, none⟩ = some c0 ∧ w.cell? ⟨g, 1, none⟩ = some c1 ∧ w.cell? ⟨g, 2, none⟩ = some c2 ∧ w.cell? ⟨g, 3, none⟩ = some c3 ∧ w.cell? ⟨g, 4, none⟩ = some c4 ∧ w.cell? ⟨g, 5, none⟩ = some c5 ∧ w.cell? ⟨g, 6, none⟩ = some c6 ∧ w.cell? ⟨g, 7, none⟩ = some c7 ∧ w.cell? ⟨g, 8, none⟩ = some c8 ∧ (∀ i, w.frozen? ⟨g, i, none⟩ = false) :=
 ⟨h.cell 0, h.cell 1, h.cell 2, h.cell 3, h.cell 4, h.cell 5, h.cell 6, h.cell 7, h.cell 8, h.frozen⟩
/-- What a read answers. -/
def ReadPost (r : EntryD × Nat) (w : World) (e : Ending) (w' : World) : Prop := ∃ dv, e = .returned (.tuple #[.agg (eCell (r.1, dv)).toArray, .int .i64 r.2]) ∧ (∀ M, (∀ g ∈ M, g < w.heap.size) → Ds w' M dv r.1.ds) ∧ Below w.heap.size w w'
/-- What stands where both ways have met. -/
def ReCut (w wx : World) (p g5 : Nat) (RH : EntryD × List UInt8 × Bool) : Prop := ∃ dv, Re w wx p w.heap.size g5 RH.2.1 RH.2.2 (eCell (RH.1, dv)).toArray ∧ ∀ M, (∀ g ∈ M, g ≤ w.heap.size) → Ds wx M dv RH.1.ds
set_option maxRecDepth 100000 in
set_option maxHeartbeats 1000000 in
theorem eread_any (v : Value) (l : List UInt8) (m : Int) (w : World) (h : Bs w [] v l) (hl : l.length < 4294967281) (hm : w.cell? ⟨0, 0, none⟩ = some (.int .i64 m)) :
  Calls Tryz.prog 135 #[v] w fun e w' => ReadPost (readE l) w e w' := by
 have hw0 : 0 < w.heap.size := by
  have := World.block_lt_of_cell? w _ hm
  simpa using this
 have Hm := Lib.hid hm
 have hsh := Lib.hid (readH_short l hl)
 have HE : Hid (readE l = if (!(readH l).2.2 && (readH l).2.1.isEmpty) = true ∧ rightE (readH l).1 = 0 then ((readH l).1, 0) else (zeroD, 12)) := rfl
 obtain ⟨kt, ft, tt, hk, hf, ht, hH⟩ := readH_eq l
 generalize readE l = RE at *
 generalize readH l = RH at *
 obtain ⟨A, c, rfl, hc⟩ := h.len
 have Hh := Lib.hid h
 have Hk := Lib.hid hk; have Hf := Lib.hid hf; have Ht := Lib.hid ht; have HH := Lib.hid hH
 clear h hm hk hf ht hH
 go_enter Tryz.func135, Tryz.ntmps135
 go_wp2_with fail
 refine (new_any [] _ l (w.alloc (.cells zeroA 33)) (Hh.out.keep (M' := []) ((Keeps.refl _ _).alloc _) (by simp)) (by omega)).mono ?_
 rintro e w1 ⟨rfl, hrd, hb1⟩
 have hsz : (w.alloc (.cells zeroA 33)).heap.size = w.heap.size + 1 := by simp
 rw [hsz] at hrd hb1 ⊢
 have hB0 : Blk w1 w.heap.size 33 zeroA := (Blk.new w 33 zeroA).below (B := w.heap.size + 1) hb1 (by omega)
 have hbw : Below w.heap.size w w1 := ((Below.refl _ _).alloc (Nat.le_refl _) _).trans (hb1.mono (by omega))
 obtain ⟨p, hp⟩ : ∃ p, p = w.heap.size + 1 := ⟨_, rfl⟩
 rw [← hp] at hrd hb1 ⊢
 have Hrd := Lib.hid hrd; have HB0 := Lib.hid hB0; have Hbw := Lib.hid hbw
 have hpw : w.heap.size < p := by omega
 have hpw1 : p < w1.heap.size := hrd.lt
 clear hrd hB0 hbw hb1 hsz hp
 go_wp2_with fail
 have hby := Lib.hid (byte_any [] p l false w1 Hrd.out)
 rw [← Hk.out] at hby
 obtain ⟨k1, k2, k3⟩ := kt
 simp only [] at hby Hf HH
 refine hby.out.mono ?_
 rintro e w2 ⟨rfl, hrd2, hk2⟩
 have HB2 := Lib.hid (hk2.blk HB0.out (by simp; omega))
 have Hbw2 := Lib.hid ((Keeps.of_below (M := []) Hbw.out).trans hk2 (by intro g hg; simp at hg; right; omega)).below
 have Hrd2 := Lib.hid hrd2
 have hp2 : p < w2.heap.size := hrd2.lt
 simp only [bV]
 have hk256 := UInt8.toNat_lt k1
 generalize k1.toNat = k at *
 have hwk : IntKind.i64.wrap (k : Int) = (k : Int) := by rw [IntKind.wrap_i64]; omega
 clear hrd2 hk2 hby Hbw HB0 Hrd Hk hk256
 go_wp2_with fail
 have hst : Re w (w2.alloc (.cells #[.int .i64 k, .int .i64 0, .int .i64 0, .int .i64 0, .int .i64 0, .slice none 0 0, .string ⟨#[]⟩, .int .i64 0, .int .i64 0] 33)) p w.heap.size w2.heap.size k2 k3 #[.int .i64 k, .int .i64 0, .int .i64 0, .int .i64 0, .int .i64 0, .slice none 0 0, .string ⟨#[]⟩, .int .i64 0, .int .i64 0] :=
  ⟨(Hrd2.out.avoid (M' := [w2.heap.size]) (by intro g hg; simp at hg; right; omega)).keep (M' := []) ((Keeps.refl _ _).alloc _) (by simp) (by simp), Hbw2.out.alloc (by omega) _, HB2.out.below (below_new' w2 _) (by omega), Blk.new w2 _ _, Nat.le_refl _, hpw, hp2⟩
 have H3 := Lib.hid hst
 clear hst HB2 Hbw2 Hrd2
 generalize hw3 : w2.alloc _ = w3 at *
 generalize w2.heap.size = g5 at *
 clear hw3
 have hct := Lib.hid (count_any [g5] p k2 k3 8 (by omega) w3 H3.out.rd)
 rw [← Hf.out] at hct
 obtain ⟨f1, f2, f3⟩ := ft
 simp only [] at hct Ht HH
 refine hct.out.mono ?_
 rintro e w4 ⟨rfl, hA4, hk4⟩
 have H4 := Lib.hid (H3.out.step hA4 hk4)
 clear hA4 hk4 H3 hct Hf
 go_wp2_with fail
 have hct := Lib.hid (rint_any [g5] p f2 f3 w4 H4.out.rd)
 rw [← Ht.out] at hct
 obtain ⟨t1, t2, t3⟩ := tt
 simp only [] at hct HH
 refine hct.out.mono ?_
 rintro e w5 ⟨rfl, hA5, hk5⟩
 have H5 := Lib.hid (H4.out.step hA5 hk5)
 clear hA5 hk5 H4 hct Ht
 obtain ⟨q0, q1, q2, q3, q4, q5, q6, q7, q8, qf⟩ := blk9 H5.out.b5
 have H6 : Hid (Re w ((w5.setCell ⟨g5, 7, none⟩ (.int .i64 f1)).setCell ⟨g5, 8, none⟩ (.int .i64 t1)) p w.heap.size g5 t2 t3 #[.int .i64 k, .int .i64 0, .int .i64 0, .int .i64 0, .int .i64 0, .slice none 0 0, .string ⟨#[]⟩, .int .i64 f1, .int .i64 t1]) :=
  (by simpa using (H5.out.set 7 (.int .i64 f1)).set 8 (.int .i64 t1) : Re w _ p w.heap.size g5 t2 t3 _)
 have ho2 := H5.out.o2
 clear H5
 go_upto_if 20 with (fail)
 go_cut [] (fun wx => ReCut w wx p g5 RH)
 case first =>
  generalize (w5.setCell ⟨g5, 7, none⟩ (.int .i64 f1)).setCell ⟨g5, 8, none⟩ (.int .i64 t1) = w6 at *
  clear q0 q1 q2 q3 q4 q5 q6 q7 q8 qf
  obtain ⟨q0, q1, q2, q3, q4, q5, q6, q7, q8, qf⟩ := blk9 H6.out.b5
  by_cases hk2 : k = 2
  ·subst hk2
   have HH2 : Hid (RH = (⟨(2 : Nat), 0, 0, 0, 0, [], ⟨(textS t2 t3).1.toArray⟩, f1, t1⟩, (textS t2 t3).2)) := by show _ = _; rw [HH.out, readX_two]
   clear HH
   have hct := Lib.hid (rtext_any [g5] p t2 t3 w6 H6.out.rd)
   generalize textS t2 t3 = s at *
   obtain ⟨s1, s2, s3⟩ := s
   simp only [] at hct HH2
   go_wp2_with fail
   refine hct.out.mono ?_
   rintro e w7 ⟨rfl, hA7, hk7⟩
   have H7 := Lib.hid (H6.out.step hA7 hk7)
   clear hA7 hk7 H6 hct q0 q1 q2 q3 q4 q5 q6 q7 q8 qf
   obtain ⟨q0, q1, q2, q3, q4, q5, q6, q7, q8, qf⟩ := blk9 H7.out.b5
   have hC : Hid (ReCut w (w7.setCell ⟨g5, 6, none⟩ (.string ⟨s1.toArray⟩)) p g5 RH) := by
    show ReCut _ _ _ _ _
    rw [HH2.out]
    exact ⟨.slice none 0 0, by simpa [eCell] using H7.out.set 6 (.string ⟨s1.toArray⟩), fun M _ => Ds.nil _ _⟩
   clear H7
   go_wp2_with fail
   go_meet
   exact hC.out
  ·have hkb : ((k : Int) == 2) = false := by simp; omega
   obtain ⟨a, s, u, pp, n, d, ha, hs, hq, hpp, hn, hd, e⟩ := readX_else k f1 t1 t2 t3 hk2
   have HH2 := Lib.hid (HH.out.trans e)
   have Ha := Lib.hid ha; have Hs := Lib.hid hs; have Hq := Lib.hid hq; have Hpp := Lib.hid hpp; have Hn := Lib.hid hn; have Hd := Lib.hid hd
   clear HH ha hs hq hpp hn hd e hk2
   have hct := Lib.hid (count_any [g5] p t2 t3 8 (by omega) w6 H6.out.rd)
   rw [← Ha.out] at hct
   obtain ⟨a1, a2, a3⟩ := a
   simp only [] at hct Hs HH2
   go_wp2_with fail
   refine hct.out.mono ?_
   rintro e wa ⟨rfl, hA, hk⟩
   have HA6 := Lib.hid (H6.out.step hA hk)
   clear hA hk H6 hct Ha
   have hct := Lib.hid (count_any [g5] p a2 a3 4 (by omega) wa HA6.out.rd)
   rw [← Hs.out] at hct
   obtain ⟨s1, s2, s3⟩ := s
   simp only [] at hct Hq HH2
   go_wp2_with fail
   refine hct.out.mono ?_
   rintro e wb ⟨rfl, hA, hk⟩
   have HB6 := Lib.hid (HA6.out.step hA hk)
   clear hA hk HA6 hct Hs
   clear q0 q1 q2 q3 q4 q5 q6 q7 q8 qf
   obtain ⟨q0, q1, q2, q3, q4, q5, q6, q7, q8, qf⟩ := blk9 HB6.out.b5
   have HC6 : Hid (Re w (((wb.setCell ⟨g5, 1, none⟩ (.int .i64 a1)).setCell ⟨g5, 2, none⟩ (.int .i64 s1)).setCell ⟨g5, 3, none⟩ (.int .i64 0)) p w.heap.size g5 s2 s3 #[.int .i64 k, .int .i64 a1, .int .i64 s1, .int .i64 0, .int .i64 0, .slice none 0 0, .string ⟨#[]⟩, .int .i64 f1, .int .i64 t1]) :=
    (by simpa using ((HB6.out.set 1 (.int .i64 a1)).set 2 (.int .i64 s1)).set 3 (.int .i64 0) : Re w _ p w.heap.size g5 s2 s3 _)
   clear HB6
   go_wp2_with fail
   generalize hwd : ((wb.setCell ⟨g5, 1, none⟩ (.int .i64 a1)).setCell ⟨g5, 2, none⟩ (.int .i64 s1)).setCell ⟨g5, 3, none⟩ (.int .i64 0) = wd at *
   clear hwd
   have hct := Lib.hid (rint_any [g5] p s2 s3 wd HC6.out.rd)
   rw [← Hq.out] at hct
   obtain ⟨u1, u2, u3⟩ := u
   simp only [] at hct Hpp HH2
   refine hct.out.mono ?_
   rintro e we ⟨rfl, hA, hk⟩
   have HE6 := Lib.hid (HC6.out.step hA hk)
   clear hA hk HC6 hct Hq
   have hct := Lib.hid (rint_any [g5] p u2 u3 we HE6.out.rd)
   rw [← Hpp.out] at hct
   obtain ⟨pp1, pp2, pp3⟩ := pp
   simp only [] at hct Hn HH2
   go_wp2_with fail
   refine hct.out.mono ?_
   rintro e wf ⟨rfl, hA, hk⟩
   have HF6 := Lib.hid (HE6.out.step hA hk)
   clear hA hk HE6 hct Hpp
   clear q0 q1 q2 q3 q4 q5 q6 q7 q8 qf
   obtain ⟨q0, q1, q2, q3, q4, q5, q6, q7, q8, qf⟩ := blk9 HF6.out.b5
   have HG6 : Hid (Re w ((wf.setCell ⟨g5, 3, none⟩ (.int .i64 u1)).setCell ⟨g5, 4, none⟩ (.int .i64 pp1)) p w.heap.size g5 pp2 pp3 #[.int .i64 k, .int .i64 a1, .int .i64 s1, .int .i64 u1, .int .i64 pp1, .slice none 0 0, .string ⟨#[]⟩, .int .i64 f1, .int .i64 t1]) :=
    (by simpa using (HF6.out.set 3 (.int .i64 u1)).set 4 (.int .i64 pp1) : Re w _ p w.heap.size g5 pp2 pp3 _)
   clear HF6
   go_wp2_with fail
   generalize hwg : (wf.setCell ⟨g5, 3, none⟩ (.int .i64 u1)).setCell ⟨g5, 4, none⟩ (.int .i64 pp1) = wg at *
   clear hwg
   have hn8 := countS_most pp2 pp3 8
   rw [← Hn.out] at hn8
   have hct := Lib.hid (count_any [g5] p pp2 pp3 8 (by omega) wg HG6.out.rd)
   rw [← Hn.out] at hct
   obtain ⟨n1, n2, n3⟩ := n
   simp only [] at hct hn8 Hd HH2
   refine hct.out.mono ?_
   rintro e wh ⟨rfl, hA, hk⟩
   have HH6 := Lib.hid (HG6.out.step hA hk)
   clear hA hk HG6 hct Hn
   have hct := Lib.hid (get_ds [g5] p n1 n2 n3 wh HH6.out.rd hn8)
   have Hdn := Lib.hid (getDs_short n1 n2 n3).2
   unfold GetPost at hct
   rw [← Hd.out] at hct Hdn
   obtain ⟨d1, d2, d3⟩ := d
   simp only [] at hct HH2 Hdn
   go_wp2_with fail
   refine hct.out.mono ?_
   rintro e wi ⟨dv, rfl, hown, hA, hk⟩
   have hgh : g5 < wh.heap.size := HH6.out.b5.lt
   have hgw : w.heap.size < wh.heap.size := HH6.out.b0.lt
   have HI6 := Lib.hid (HH6.out.step hA hk)
   rw [← Hdn.out] at hown
   have HD : Hid (∀ M, (∀ g ∈ M, g ≤ w.heap.size) → Ds wi (g5 :: M) dv d1) := fun M hM => Rd.of_own hown (by intro g hg; rcases List.mem_cons.1 hg with rfl | hg; exact hgh; have := hM g hg; omega)
   obtain ⟨Ad, cd, rfl, hcd⟩ := (HD.out [] (by simp)).len
   clear hA hk HH6 hct Hd hown
   clear q0 q1 q2 q3 q4 q5 q6 q7 q8 qf
   obtain ⟨q0, q1, q2, q3, q4, q5, q6, q7, q8, qf⟩ := blk9 HI6.out.b5
   have hC : Hid (ReCut w (wi.setCell ⟨g5, 5, none⟩ (.slice Ad d1.length cd)) p g5 RH) := by
    show ReCut _ _ _ _ _
    rw [HH2.out]
    exact ⟨.slice Ad d1.length cd, by simpa [eCell] using HI6.out.set 5 (.slice Ad d1.length cd), fun M hM => Rd.more ((HD.out M hM).keep (M' := [g5]) ((Keeps.refl _ _).setCell (by simp) _) (by simp))⟩
   clear HI6 HD
   go_wp2_with fail
   go_meet
   exact hC.out
 case rest =>
  obtain ⟨dv, hRe, hDs⟩ := hcut
  have HRe := Lib.hid hRe; have HDs := Lib.hid hDs
  clear hRe hDs H6 q0 q1 q2 q3 q4 q5 q6 q7 q8 qf HH
  obtain ⟨e, lx, bx⟩ := RH
  simp only [] at hsh HE HRe HDs
  obtain ⟨Ad, cd, rfl, hcd⟩ := (HDs.out [] (by simp)).len
  have hdw := Lib.hid (done_any [g5] p lx bx _ HRe.out.rd)
  obtain ⟨r0, r1, r2, r3, r4, r5, r6, r7, r8, rf⟩ := blk9 HRe.out.b0
  have ho0 := HRe.out.o0; have ho1 := HRe.out.o1
  cases hdone : (!bx && lx.isEmpty) with
  | false =>
   obtain rfl : RE = (zeroD, 12) := by rw [HE.out, hdone, if_neg (by simp)]
   rw [hdone] at hdw
   clear hdone HE
   go_wp2_with fail
   refine hdw.out.mono ?_
   rintro r w' ⟨rfl, rfl⟩
   go_wp2
   refine bodyPost_ret (v := .tuple #[.agg zeroA, .int .i64 12]) (by simp [results, Tryz.results135, go_sem, zeroA, r0, r1, r2, r3, r4, r5, r6, r7, r8]) rfl ?_
   refine ⟨.slice none 0 0, rfl, fun M _ => Ds.nil _ _, ?_⟩
   repeat (first | (with_reducible exact HRe.out.keeps) | (with_reducible refine Below.setCell ?_ (by simp) _))
  | true =>
   rw [hdone] at hdw
   have hri := Lib.hid (eright_any e _ m wc (HDs.out [] (by simp)) hsh.out.1 ((HRe.out.keeps.cell (p := ⟨0, 0, none⟩) hw0).trans Hm.out))
   have HR : Hid (RE = if rightE e = 0 then (e, 0) else (zeroD, 12)) := by show _ = _; rw [HE.out, hdone]; simp
   clear hdone HE
   generalize rightE e = rr at *
   obtain ⟨kind, ag, sh, seq, ep, ds, ser, fr, tag⟩ := e
   simp only [eCell] at hri HRe HDs HR hcd
   obtain ⟨q0, q1, q2, q3, q4, q5, q6, q7, q8, qf⟩ := blk9 HRe.out.b5
   have ho2 := HRe.out.o2
   have hg5 : g5 < wc.heap.size := HRe.out.b5.lt
   have hwc : w.heap.size < wc.heap.size := HRe.out.b0.lt
   go_wp2_with fail
   refine hdw.out.mono ?_
   rintro r w' ⟨rfl, rfl⟩
   go_wp2_with fail
   refine hri.out.mono ?_
   rintro r w9 ⟨rfl, hb9⟩
   have H9 := Lib.hid (HRe.out.keeps.trans (hb9.mono HRe.out.keeps.size))
   have HB0 := Lib.hid (HRe.out.b0.below hb9 hwc)
   have HB5 := Lib.hid (HRe.out.b5.below hb9 hg5)
   have HD9 : Hid (∀ M, (∀ g ∈ M, g ≤ w.heap.size) → Ds w9 M (.slice Ad ds.length cd) ds) := fun M hM => (HDs.out M hM).keep (Keeps.of_below (M := []) hb9) (by simp)
   clear hb9 hri hdw r0 r1 r2 r3 r4 r5 r6 r7 r8 rf q0 q1 q2 q3 q4 q5 q6 q7 q8 qf
   obtain ⟨r0, r1, r2, r3, r4, r5, r6, r7, r8, rf⟩ := blk9 HB0.out
   obtain ⟨q0, q1, q2, q3, q4, q5, q6, q7, q8, qf⟩ := blk9 HB5.out
   by_cases hrr : rr = 0
   ·obtain rfl : RE = (⟨kind, ag, sh, seq, ep, ds, ser, fr, tag⟩, 0) := by rw [HR.out, if_pos hrr]
    subst hrr
    clear HR
    go_wp2
    refine bodyPost_ret (v := .tuple #[.agg #[.int .i64 kind, .int .i64 ag, .int .i64 sh, .int .i64 seq, .int .i64 ep, .slice Ad ds.length cd, .string ser, .int .i64 fr, .int .i64 tag], .int .i64 0]) (by simp [results, Tryz.results135, go_sem, r0, r1, r2, r3, r4, r5, r6, r7, r8]) rfl ?_
    refine ⟨.slice Ad ds.length cd, rfl, fun M hM => ?_, ?_⟩
    ·have h1 := HD9.out (w.heap.size :: M) (by intro g hg; rcases List.mem_cons.1 hg with rfl | hg; exact Nat.le_refl _; exact Nat.le_of_lt (hM g hg))
     refine Rd.more (h1.keep (M' := [w.heap.size]) ?_ (by simp))
     repeat (first | (with_reducible exact Keeps.refl _ _) | (with_reducible refine Keeps.setCell ?_ (by simp) _))
    ·repeat (first | (with_reducible exact H9.out) | (with_reducible refine Below.setCell ?_ (by simp) _))
   ·obtain rfl : RE = (zeroD, 12) := by rw [HR.out, if_neg hrr]
    have hne : ((rr : Int) != 0) = true := by simpa using hrr
    clear HR hrr
    go_wp2
    refine bodyPost_ret (v := .tuple #[.agg zeroA, .int .i64 12]) (by simp [results, Tryz.results135, go_sem, zeroA, r0, r1, r2, r3, r4, r5, r6, r7, r8]) rfl ?_
    refine ⟨.slice none 0 0, rfl, fun M _ => Ds.nil _ _, ?_⟩
    repeat (first | (with_reducible exact H9.out) | (with_reducible refine Below.setCell ?_ (by simp) _))

def dEq (x y : DeltaD) : Bool := x.ser.toList == y.ser.toList && (x.n == y.n)
def dsEq (a b : List DeltaD) : Bool := Lib.allEq dEq a b
theorem dEq_at : NeqAt Tryz.prog 91 (fun x => .agg (dCell x).toArray) dEq := by
 refine ⟨fun x y w => ?_, GuardAt.agg _ (by kernel_rfl)⟩
 have u1 := Tryz.underlying9
 have a1 := Tryz.isAgg9
 have z1 := Tryz.sizeOf9
 have u3 := Tryz.underlying34
 have a3 := Tryz.isAgg34
 have z3 := Tryz.sizeOf34
 have hS : Tryz.prog.underlying 91 = some (.struct (Tryz.prog.fieldsOf 91)) := by kernel_rfl
 have hp : Tryz.prog.stoodInHeld 91 = false := by kernel_rfl
 simp only [dCell, dEq]
 rw [run_neq_struct, show (10000 : Nat) = 9999 + 1 from rfl, run_equalIn_agg w 9999 91 _ _ hS hp]
 simp only [Program.fieldsOf, Tryz.underlying91]
 go_simp
 by_cases h1 : x.ser.toList = y.ser.toList <;> by_cases h2 : x.n = y.n <;> simp [h1, h2]
set_option maxRecDepth 100000 in
theorem equal_any (va vb : Value) (a b : List DeltaD) (w : World) (ha : Ds w [] va a) (hb : Ds w [] vb b) (h1 : a.length ≤ 4611686018427387904) (h2 : b.length ≤ 4611686018427387904) :
  Calls Tryz.prog 194 #[va, vb] w fun e w' => e = .returned (.bool (dsEq a b)) ∧ ∃ q, w' = w.drewN q := by
 by_cases h0 : 0 < a.length ∧ 0 < b.length
 ·obtain ⟨ga, oa, ca, rfl, hga, hca⟩ := ds_cells ha h0.1
  obtain ⟨gb, ob, cb, rfl, hgb, hcb⟩ := ds_cells hb h0.2
  have := AnyQ.slices_Equal Tryz.equalDelta 2 Tryz.isAgg91 Tryz.sizeOf91 dCell (fun _ => rfl) dEq dEq_at ga oa a.length ca gb ob b.length cb a b w (Nat.le_refl _) (Nat.le_refl _) (by omega) (by omega) hca hcb
  rw [List.take_length, List.take_length] at this
  exact this
 ·obtain ⟨Aa, ca, rfl, hca⟩ := ha.len
  obtain ⟨Ab, cb, rfl, hcb⟩ := hb.len
  clear ha hb
  by_cases hne : a.length = b.length
  ·have ha0 : a = [] := List.length_eq_zero_iff.1 (by omega)
   have hb0 : b = [] := List.length_eq_zero_iff.1 (by omega)
   subst ha0 hb0
   clear h0 h1 h2 hne hca hcb
   simp only [List.length_nil]
   go_enter Tryz.func194, Tryz.ntmps194
   go_wp2_with fail
   go_loopw [13] (fun i wr => i = .int .i64 0 ∧ Hid (wr = w)) (fun i _ => 0)
   case atStart => exact ⟨rfl, rfl⟩
   case round =>
    obtain ⟨rfl, hw⟩ := hrel
    obtain rfl := hw.out
    go_wp2
    go_ret
    exact ⟨rfl, 0, rfl⟩
  ·have hR : Hid (dsEq a b = false) := Lib.allEq_len dEq a b hne
   have hnm' : ¬ (a.length : Int) = (b.length : Int) := by omega
   rw [hR.out]
   clear h0 h1 h2 hne
   go_enter Tryz.func194, Tryz.ntmps194
   go_wp2
   go_ret
   exact ⟨rfl, 0, rfl⟩
/-- Are entries the same? -/
def sameE (a b : EntryD) : Bool := a.kind == b.kind && eqI a.ag a.sh a.seq b.ag b.sh b.seq && a.ep == b.ep && dsEq a.ds b.ds && a.ser.toList == b.ser.toList && a.fr == b.fr && a.tag == b.tag
def SamePost (r : Bool) (w : World) (e : Ending) (w' : World) : Prop := e = .returned (.bool r) ∧ Below w.heap.size w w'
set_option maxRecDepth 100000 in
set_option maxHeartbeats 1000000 in
theorem same_any (a b : EntryD) (va vb : Value) (w : World) (ha : Ds w [] va a.ds) (hb : Ds w [] vb b.ds) (h1 : a.ds.length ≤ 4611686018427387904) (h2 : b.ds.length ≤ 4611686018427387904) :
  Calls Tryz.prog 142 #[.agg (eCell (a, va)).toArray, .agg (eCell (b, vb)).toArray] w fun r w' => SamePost (sameE a b) w r w' := by
 have heq := Lib.hid (fun W (hk : Keeps [] w W) => equal_any va vb a.ds b.ds W (ha.keep hk (by simp)) (hb.keep hk (by simp)) h1 h2)
 obtain ⟨Aa, ca, rfl, hca⟩ := ha.len
 obtain ⟨Ab, cb, rfl, hcb⟩ := hb.len
 have HS : Hid (sameE a b = (a.kind == b.kind && eqI a.ag a.sh a.seq b.ag b.sh b.seq && a.ep == b.ep && dsEq a.ds b.ds && a.ser.toList == b.ser.toList && a.fr == b.fr && a.tag == b.tag)) := rfl
 generalize sameE a b = R at *
 generalize dsEq a.ds b.ds = dse at *
 obtain ⟨kind, ag, sh, seq, ep, ds, ser, fr, tag⟩ := a
 obtain ⟨kind', ag', sh', seq', ep', ds', ser', fr', tag'⟩ := b
 simp only [] at heq hca hcb HS
 clear ha hb
 simp only [eCell]
 generalize ds.length = n at *
 generalize ds'.length = n' at *
 have hk : Hid (Keeps [] w ((w.alloc (.cells #[.int .i64 kind, .int .i64 ag, .int .i64 sh, .int .i64 seq, .int .i64 ep, .slice Aa n ca, .string ser, .int .i64 fr, .int .i64 tag] 33)).alloc (.cells #[.int .i64 kind', .int .i64 ag', .int .i64 sh', .int .i64 seq', .int .i64 ep', .slice Ab n' cb, .string ser', .int .i64 fr', .int .i64 tag'] 33))) := ((Keeps.refl _ _).alloc _).alloc _
 have heq2 := Lib.hid (heq.out _ hk.out)
 clear heq
 cases h0 : (kind == kind') with
 | false =>
  obtain rfl : R = false := by rw [HS.out, h0]; simp
  clear HS
  go_enter Tryz.func142, Tryz.ntmps142
  go_wp2
  go_ret
  exact ⟨rfl, hk.out.below⟩
 | true =>
  cases h1 : (eqI ag sh seq ag' sh' seq') with
  | false =>
   obtain rfl : R = false := by rw [HS.out, h0, h1]; simp
   have he := fun W => eqI_run ag sh seq ag' sh' seq' false h1 W
   clear h1
   clear HS
   go_enter Tryz.func142, Tryz.ntmps142
   go_wp2
   go_ret
   exact ⟨rfl, hk.out.below⟩
  | true =>
   cases h2 : (ep == ep') with
   | false =>
    obtain rfl : R = false := by rw [HS.out, h0, h1, h2]; simp
    have he := fun W => eqI_run ag sh seq ag' sh' seq' true h1 W
    clear h1
    clear HS
    go_enter Tryz.func142, Tryz.ntmps142
    go_wp2
    go_ret
    exact ⟨rfl, hk.out.below⟩
   | true =>
    cases h3 : dse with
    | false =>
     subst h3
     obtain rfl : R = false := by rw [HS.out, h0, h1, h2]; simp
     have he := fun W => eqI_run ag sh seq ag' sh' seq' true h1 W
     clear h1
     clear HS
     go_enter Tryz.func142, Tryz.ntmps142
     go_wp2_with fail
     refine heq2.out.mono ?_
     rintro r w' ⟨rfl, q, rfl⟩
     have HB := Lib.hid (hk.out.drewN q).below
     clear hk heq2
     go_wp2
     go_ret
     exact ⟨rfl, HB.out⟩
    | true =>
     subst h3
     cases h4 : (ser.toList == ser'.toList) with
     | false =>
      obtain rfl : R = false := by rw [HS.out, h0, h1, h2, h4]; simp
      have he := fun W => eqI_run ag sh seq ag' sh' seq' true h1 W
      clear h1
      clear HS
      go_enter Tryz.func142, Tryz.ntmps142
      go_wp2_with fail
      refine heq2.out.mono ?_
      rintro r w' ⟨rfl, q, rfl⟩
      have HB := Lib.hid (hk.out.drewN q).below
      clear hk heq2
      go_wp2
      go_ret
      exact ⟨rfl, HB.out⟩
     | true =>
      cases h5 : (fr == fr') with
      | false =>
       obtain rfl : R = false := by rw [HS.out, h0, h1, h2, h4, h5]; simp
       have he := fun W => eqI_run ag sh seq ag' sh' seq' true h1 W
       clear h1
       clear HS
       go_enter Tryz.func142, Tryz.ntmps142
       go_wp2_with fail
       refine heq2.out.mono ?_
       rintro r w' ⟨rfl, q, rfl⟩
       have HB := Lib.hid (hk.out.drewN q).below
       clear hk heq2
       go_wp2
       go_ret
       exact ⟨rfl, HB.out⟩
      | true =>
       cases h6 : (tag == tag') with
       | false =>
        obtain rfl : R = false := by rw [HS.out, h0, h1, h2, h4, h5, h6]; simp
        have he := fun W => eqI_run ag sh seq ag' sh' seq' true h1 W
        clear h1
        clear HS
        go_enter Tryz.func142, Tryz.ntmps142
        go_wp2_with fail
        refine heq2.out.mono ?_
        rintro r w' ⟨rfl, q, rfl⟩
        have HB := Lib.hid (hk.out.drewN q).below
        clear hk heq2
        go_wp2
        go_ret
        exact ⟨rfl, HB.out⟩
       | true =>
        obtain rfl : R = true := by rw [HS.out, h0, h1, h2, h4, h5, h6]; simp
        have he := fun W => eqI_run ag sh seq ag' sh' seq' true h1 W
        clear h1
        clear HS
        go_enter Tryz.func142, Tryz.ntmps142
        go_wp2_with fail
        refine heq2.out.mono ?_
        rintro r w' ⟨rfl, q, rfl⟩
        have HB := Lib.hid (hk.out.drewN q).below
        clear hk heq2
        go_wp2
        go_ret
        exact ⟨rfl, HB.out⟩

def kx : EntryD := ⟨2, 0, 0, 0, 0, [], ⟨#[97, 61, 49]⟩, 2, 3⟩
def kl : List DeltaD := [⟨⟨#[97]⟩, 1⟩, ⟨⟨#[98]⟩, 2⟩, ⟨⟨#[97]⟩, 3⟩]
end Go.Proofs.YtdaceeijifjpeaaGreatDoor.Vi
end
section
namespace Go.Proofs.YtdaceeijifjpeaaGreatDoor.Tape
open Go.RowKit Base Mem
def withinS (n lo hi : Int) : Int := if lo ≤ n ∧ n ≤ hi then n else lo + n % (hi - lo + 1)
theorem tmod_fix (n m : Int) (hm : 0 < m) : (n.tmod m < 0 → n.tmod m + m = n % m) ∧ (¬ n.tmod m < 0 → n.tmod m = n % m) := by
 have h := Int.tmod_eq_emod (a := n) (b := m)
 have h1 := Int.emod_nonneg n (show m ≠ 0 by omega)
 have h2 := Int.emod_lt_of_pos n hm
 split at h
 ·omega
 ·rename_i hc
  have h3 : n % m ≠ 0 := fun h0 => hc (.inr (Int.dvd_of_emod_eq_zero h0))
  omega
theorem within_bd (n lo hi : Int) (h : lo ≤ hi) : lo ≤ withinS n lo hi ∧ withinS n lo hi ≤ hi := by
 unfold withinS
 have h1 := Int.emod_nonneg n (show hi - lo + 1 ≠ 0 by omega)
 have h2 := Int.emod_lt_of_pos n (show 0 < hi - lo + 1 by omega)
 split <;> omega
theorem within_any (n lo hi : Int) (w : World) (h0 : 0 ≤ lo) (h1 : lo ≤ hi) (h2 : hi ≤ 1073741824) :
  Calls Tryz.prog 11 #[.int .i64 n, .int .i64 lo, .int .i64 hi] w fun e w' => e = .returned (.int .i64 (withinS n lo hi)) ∧ w = w' := by
 by_cases hin : lo ≤ n ∧ n ≤ hi
 ·have Hw : Hid (withinS n lo hi = n) := if_pos hin
  obtain ⟨hi1, hi2⟩ := hin
  go_enter Tryz.func11, Tryz.ntmps11
  go_wp2
  go_ret
  exact ⟨ret_int Hw.out.symm, rfl⟩
 ·have Hw : Hid (withinS n lo hi = lo + n % (hi - lo + 1)) := if_neg hin
  obtain ⟨t1, t2⟩ := tmod_fix n (hi - lo + 1) (by omega)
  have h3 := Int.emod_nonneg n (show hi - lo + 1 ≠ 0 by omega)
  have h4 := Int.emod_lt_of_pos n (show 0 < hi - lo + 1 by omega)
  have hc : n < lo ∨ (lo ≤ n ∧ hi < n) := by omega
  have T1 := Lib.hid t1; have T2 := Lib.hid t2
  clear hin t1 t2
  have hb : n.tmod (hi - lo + 1) < hi - lo + 1 ∧ -(hi - lo + 1) ≤ n.tmod (hi - lo + 1) := by
   have a := T1.out; have b := T2.out
   by_cases hh : n.tmod (hi - lo + 1) < 0
   ·have := a hh; omega
   ·have := b hh; omega
  obtain ⟨hb1, hb2⟩ := hb
  generalize hg : n.tmod (hi - lo + 1) = t at *
  generalize n % (hi - lo + 1) = r at *
  by_cases ht : t < 0
  ·have Hr : Hid (t + hi - lo + 1 = r) := by have := T1.out ht; show _ = _; omega
   rcases hc with hc | ⟨hc, hc2⟩
   all_goals
    go_enter Tryz.func11, Tryz.ntmps11
    go_wp2
    go_ret
    exact ⟨ret_int (by rw [Hw.out, ← Hr.out]), rfl⟩
  ·have Hr : Hid (t = r) := T2.out ht
   rcases hc with hc | ⟨hc, hc2⟩
   all_goals
    go_enter Tryz.func11, Tryz.ntmps11
    go_wp2
    go_ret
    exact ⟨ret_int (by rw [Hw.out, ← Hr.out]), rfl⟩
/-- A tape's numbers, and below which block they lie. -/
structure TapeL where
 l : List Int
 B : Nat
/-- A tape lies in block b: its numbers, how many are read. -/
structure TapeAt (w : World) (b : Nat) (L : TapeL) (k : Nat) : Prop where
 le : k ≤ L.l.length
 max : L.l.length ≤ 9223372036854775807
 low : L.B ≤ b
 mem : ∃ A c, Blk w b 43 #[.slice A L.l.length c, .int .i64 k] ∧ L.l.length ≤ c ∧ (0 < L.l.length → ∃ g off, A = some ⟨g, off, none⟩ ∧ g < L.B ∧ ∀ (j : Nat) (x : Int), L.l[j]? = some x → w.cell? ⟨g, off + j, none⟩ = some (.int .i64 x))
section
variable {w w' : World} {M' : List Nat} {b k : Nat} {L : TapeL}
theorem TapeAt.lt (h : TapeAt w b L k) : b < w.heap.size := by obtain ⟨_, _, _, _, _, hv, _⟩ := h; exact hv.lt
theorem TapeAt.keep2 (h : TapeAt w b L k) (hk : Keeps M' w w') (hM : ∀ g ∈ M', L.B ≤ g ∧ g ≠ b) : TapeAt w' b L k := by
 obtain ⟨h1, h2, h3, A, c, hv, hc, hr⟩ := h
 refine ⟨h1, h2, h3, A, c, hk.blk hv (fun hm => (hM b hm).2 rfl), hc, fun hn => ?_⟩
 obtain ⟨g, off, e, hg, hx⟩ := hr hn
 exact ⟨g, off, e, hg, fun j x hj => (hk.cell (p := ⟨g, off + j, none⟩) (by have := hv.lt; simp; omega) (fun hm => by have := hM g hm; omega)).trans (hx j x hj)⟩
theorem TapeAt.keep (h : TapeAt w b L k) (hk : Keeps M' w w') (hM : ∀ g ∈ M', b < g) : TapeAt w' b L k :=
 h.keep2 hk (fun g hg => by have := hM g hg; have := h.low; omega)
theorem TapeAt.set_at (h : TapeAt w b L k) {j : Nat} (hj : j ≤ L.l.length) : TapeAt (w.setCell ⟨b, 1, none⟩ (.int .i64 j)) b L j := by
 obtain ⟨h1, h2, h3, A, c, hv, hc, hr⟩ := h
 refine ⟨hj, h2, h3, A, c, hv.set_ 1 (.int .i64 j), hc, fun hn => ?_⟩
 obtain ⟨g, off, e, hg, hx⟩ := hr hn
 exact ⟨g, off, e, hg, fun j' x hj' => (World.cell?_setCell_other _ _ _ _ (by intro e; injection e with e1; omega)).trans (hx j' x hj')⟩
theorem TapeAt.drewN (h : TapeAt w b L k) (n : Nat) : TapeAt (w.drewN n) b L k := h.keep (M' := []) ((Keeps.refl _ _).drewN n) (by simp)
theorem TapeAt.cells (h : TapeAt w b L k) : ∃ A c, w.cell? ⟨b, 0, none⟩ = some (.slice A L.l.length c) ∧ L.l.length ≤ c ∧ w.cell? ⟨b, 1, none⟩ = some (.int .i64 k) ∧ w.frozen? ⟨b, 1, none⟩ = false ∧ b < w.heap.size ∧
  (k < L.l.length → ∃ g off x, A = some ⟨g, off, none⟩ ∧ g < w.heap.size ∧ g ≠ b ∧ w.cell? ⟨g, off + k, none⟩ = some (.int .i64 x)) := by
 obtain ⟨h1, h2, h3, A, c, hv, hc, hr⟩ := h
 refine ⟨A, c, hv.cell 0, hc, hv.cell 1, hv.frozen 1, hv.lt, fun hk => ?_⟩
 obtain ⟨g, off, e, hg, hx⟩ := hr (by omega)
 exact ⟨g, off, L.l[k], e, by have := hv.lt; omega, by omega, hx k _ (List.getElem?_eq_getElem hk)⟩
end
theorem next_any (b : Nat) (L : TapeL) (k : Nat) (n : Int) (w : World) (h : TapeAt w b L k) :
  Calls Tryz.prog 16 #[.pointer (some ⟨b, 0, none⟩), .int .i64 n] w fun e w' => ∃ (v : Int) (k' : Nat), e = .returned (.int .i64 v) ∧ 0 ≤ v ∧ (1 ≤ n → v < n) ∧ TapeAt w' b L k' ∧ Keeps [b] w w' := by
 obtain ⟨A, c, c0, hc, c1, f1, hlt, hx⟩ := h.cells
 have hle := h.le
 have hmx := h.max
 have H := Lib.hid h
 by_cases hk : k < L.l.length
 ·by_cases hn : 1 ≤ n
  ·obtain ⟨g, off, x, rfl, hg, hne, hcell⟩ := hx hk
   have hwi := Lib.hid (fun W => within_any x 0 1073741824 W (by omega) (by omega) (by omega))
   have hwb := within_bd x 0 1073741824 (by omega)
   have hcell2 : (w.setCell ⟨b, 1, none⟩ (.int .i64 ((k : Int) + 1))).cell? ⟨g, off + k, none⟩ = some (.int .i64 x) := by
    rw [World.cell?_setCell_other _ _ _ _ (by intro e; injection e with e1; exact hne e1.symm)]; exact hcell
   have hj : ((k : Int) + 1 - 1) = k := by omega
   clear h hx hcell
   generalize withinS x 0 1073741824 = y at *
   have hr1 := Int.emod_nonneg y (show n ≠ 0 by omega)
   have hr2 := Int.emod_lt_of_pos y (show 0 < n by omega)
   have d0 : decide (L.l.length ≤ k) = false := by simp; omega
   have d1 : decide (n < 1) = false := by simp; omega
   go_enter Tryz.func16, Tryz.ntmps16
   go_wp2
   go_quiet (fail)
   go_wp2
   have hT : TapeAt ((w.drewN nq).setCell ⟨b, 1, none⟩ (.int .i64 ((k : Int) + 1))) b L (k + 1) := by
    have := (H.out.drewN nq).set_at (j := k + 1) (by omega)
    rwa [show (((k + 1 : Nat)) : Int) = (k : Int) + 1 by omega] at this
   have hK : Keeps [b] w ((w.drewN nq).setCell ⟨b, 1, none⟩ (.int .i64 ((k : Int) + 1))) := ((Keeps.refl _ _).drewN nq).setCell (by simp) _
   have e0 : ((w.drewN nq).setCell ⟨b, 1, none⟩ (.int .i64 ((k : Int) + 1))).cell? ⟨b, 0, none⟩ = some (.slice (some ⟨g, off, none⟩) L.l.length c) := by
    rw [World.cell?_setCell_other _ _ _ _ (by intro e; injection e with e1 e2; omega)]; exact c0
   have e1 : ((w.drewN nq).setCell ⟨b, 1, none⟩ (.int .i64 ((k : Int) + 1))).cell? ⟨b, 1, none⟩ = some (.int .i64 ((k : Int) + 1)) := by
    obtain ⟨_, _, _, _, _, hv, _⟩ := hT
    have := hv.cell 1
    simpa using this
   have e2 : ((w.drewN nq).setCell ⟨b, 1, none⟩ (.int .i64 ((k : Int) + 1))).cell? ⟨g, off + k, none⟩ = some (.int .i64 x) := hcell2
   clear hcell2 c0 c1 f1
   generalize ((w.drewN nq).setCell ⟨b, 1, none⟩ (.int .i64 ((k : Int) + 1))) = W at *
   have hk0 : (0 : Int) ≤ (k : Int) := by omega
   have hk1 : (k : Int) < (L.l.length : Int) := by omega
   go_quiet ((go_at_call 11; exact quiet_left (hwi.out _)))
   go_wp2
   go_ret
   exact ⟨_, _, rfl, hr1, fun _ => hr2, hT.drewN _, hK.drewN _⟩
  ·have d0 : decide (L.l.length ≤ k) = false := by simp; omega
   have d1 : decide (n < 1) = true := by simp; omega
   clear h hx
   go_enter Tryz.func16, Tryz.ntmps16
   go_wp2
   go_quiet (fail)
   go_wp2
   go_ret
   exact ⟨0, k, rfl, by omega, fun h => by omega, H.out.drewN _, (Keeps.refl _ _).drewN _⟩
 ·have d0 : decide (L.l.length ≤ k) = true := by simp; omega
  clear h hx
  go_enter Tryz.func16, Tryz.ntmps16
  go_wp2
  go_quiet (fail)
  go_wp2
  go_ret
  exact ⟨0, k, rfl, by omega, fun h => by omega, H.out.drewN _, (Keeps.refl _ _).drewN _⟩
def nameL : List (List UInt8) := [[97, 61, 49], [97, 61, 50], [97, 61, 49, 44, 98, 61, 120], [106, 111, 98, 61, 97, 112, 105, 44, 122, 111, 110, 101, 61, 101, 117], [106, 111, 98, 61, 119, 101, 98], [107, 61, 118], [110, 61, 48], [97, 61, 51, 44, 99, 61, 57]]
/-- A series that there is. -/
def NameOk (s : ByteArray) : Prop := ∃ l ∈ nameL, s = ⟨l.toArray⟩
def DeltaOk (d : DeltaD) : Prop := NameOk d.ser ∧ 1 ≤ d.n ∧ d.n ≤ 18446744073709551615
theorem names_any (w : World) : Calls Tryz.prog 79 #[] w fun e w' => e = .returned (.slice (some ⟨w.heap.size, 0, none⟩) 8 8) ∧ Blk w' w.heap.size 9 (nameL.map fun l => Value.string ⟨l.toArray⟩).toArray ∧ Below w.heap.size w w' := by
 go_enter Tryz.func79, Tryz.ntmps79
 go_wp2
 go_ret
 exact ⟨rfl, Blk.new w _ _, below_new' _ _⟩
theorem name_at {w : World} {g j : Nat} (h : Blk w g 9 (nameL.map fun l => Value.string ⟨l.toArray⟩).toArray) (hj : j < 8) : ∃ s, w.cell? ⟨g, j, none⟩ = some (.string s) ∧ NameOk s := by
 have hl : j < nameL.length := hj
 refine ⟨⟨nameL[j].toArray⟩, ?_, nameL[j], List.getElem_mem hl, rfl⟩
 rw [h.cell, List.getElem?_toArray, List.getElem?_map, List.getElem?_eq_getElem hl]
 rfl
theorem series_any (b : Nat) (L : TapeL) (k : Nat) (w : World) (h : TapeAt w b L k) :
  Calls Tryz.prog 45 #[.pointer (some ⟨b, 0, none⟩)] w fun e w' => ∃ (s : ByteArray) (k' : Nat), e = .returned (.string s) ∧ NameOk s ∧ TapeAt w' b L k' ∧ Keeps [b] w w' := by
 have H := Lib.hid h
 obtain ⟨_, _, _, _, _, _, hlt, _⟩ := h.cells
 clear h
 go_enter Tryz.func45, Tryz.ntmps45
 go_wp2_with fail
 refine (names_any w).mono ?_
 rintro e w1 ⟨rfl, hb1, hbel⟩
 have hT := H.out.keep (Keeps.of_below (M := []) hbel) (by simp)
 have Hb1 := Lib.hid hb1; have Hbel := Lib.hid hbel; have HT := Lib.hid hT
 clear hb1 hbel hT
 go_wp2_with fail
 refine (next_any b L k 8 w1 HT.out).mono ?_
 rintro e w2 ⟨v, k', rfl, hv0, hv8, hT2, hK2⟩
 obtain ⟨j, rfl⟩ := Int.eq_ofNat_of_zero_le hv0
 have hj8 : (j : Int) < 8 := hv8 (by omega)
 obtain ⟨s, hs, hok⟩ := name_at (hK2.blk Hb1.out (by simp; omega)) (show j < 8 by omega)
 have HT2 := Lib.hid hT2; have HK := Lib.hid ((Keeps.of_below (M := [b]) Hbel.out).trans hK2 (by simp))
 have Hok := Lib.hid hok
 clear hv8 hT2 hK2 hok
 go_wp2
 go_ret
 exact ⟨s, k', rfl, Hok.out, HT2.out, HK.out⟩
theorem n_any (b : Nat) (L : TapeL) (k : Nat) (w : World) (h : TapeAt w b L k) :
  Calls Tryz.prog 80 #[.pointer (some ⟨b, 0, none⟩)] w fun e w' => ∃ (n : Int) (k' : Nat), e = .returned (.int .u64 n) ∧ (1 ≤ n ∧ n ≤ 18446744073709551615) ∧ TapeAt w' b L k' ∧ Keeps [b] w w' := by
 have H := Lib.hid h
 clear h
 go_enter Tryz.func80, Tryz.ntmps80
 go_wp2_with fail
 refine (next_any b L k 12 w H.out).mono ?_
 rintro e w1 ⟨v, k', rfl, hv0, hv8, hT, hK⟩
 have hv12 := hv8 (by omega)
 have HT := Lib.hid hT; have HK := Lib.hid hK
 clear hv8 hT hK
 by_cases c0 : v = 0
 ·subst c0
  go_wp2
  go_ret
  exact ⟨_, _, rfl, ⟨by omega, by omega⟩, HT.out, HK.out⟩
 ·by_cases c1 : v = 1
  ·subst c1
   go_wp2
   go_ret
   exact ⟨_, _, rfl, ⟨by omega, by omega⟩, HT.out, HK.out⟩
  ·by_cases c2 : v = 2
   ·subst c2
    go_wp2_with fail
    refine (next_any b L k' 1073741824 w1 HT.out).mono ?_
    rintro e w2 ⟨x, k2, rfl, hx0, hx1, hT2, hK2⟩
    have hx2 := hx1 (by omega)
    have HT2 := Lib.hid hT2; have HK2 := Lib.hid (HK.out.trans hK2 (by simp))
    clear hx1 hT2 hK2
    go_wp2
    go_ret
    exact ⟨_, _, rfl, ⟨by omega, by omega⟩, HT2.out, HK2.out⟩
   ·have d0 : (v == 0) = false := by simpa using c0
    have d1 : (v == 1) = false := by simpa using c1
    have d2 : (v == 2) = false := by simpa using c2
    clear c0 c1 c2
    go_wp2_with fail
    refine (next_any b L k' 50 w1 HT.out).mono ?_
    rintro e w2 ⟨x, k2, rfl, hx0, hx1, hT2, hK2⟩
    have hx2 := hx1 (by omega)
    have HT2 := Lib.hid hT2; have HK2 := Lib.hid (HK.out.trans hK2 (by simp))
    clear hx1 hT2 hK2
    go_wp2
    go_ret
    exact ⟨_, _, rfl, ⟨by omega, by omega⟩, HT2.out, HK2.out⟩
theorem infoDelta' : (Tryz.prog.info? 91).map (fun i => (i.zero, i.size, i.bytes)) = some (some (.agg #[.string ByteArray.empty, .int .u64 0]), 2, 24) := by kernel_rfl
def DeltasPost (b : Nat) (L : TapeL) (most : Int) (w : World) (e : Ending) (w' : World) : Prop := ∃ (v : Value) (ds : List DeltaD) (k' : Nat), e = .returned v ∧ (∀ d ∈ ds, DeltaOk d) ∧ 1 ≤ ds.length ∧ (ds.length : Int) ≤ most ∧
   w'.ownsRow w.heap.size 91 2 v ds.length (dCells ds) ∧ TapeAt w' b L k' ∧ Keeps [b] w w'
set_option maxRecDepth 100000 in
theorem deltas_any (b : Nat) (L : TapeL) (k : Nat) (most : Int) (w : World) (h : TapeAt w b L k) (h1 : 1 ≤ most) (h2 : most ≤ 1000) :
  Calls Tryz.prog 46 #[.pointer (some ⟨b, 0, none⟩), .int .i64 most] w fun e w' => DeltasPost b L most w e w' := by
 obtain ⟨_, _, _, _, _, _, hbw, _⟩ := h.cells
 have H := Lib.hid h
 obtain ⟨i0, hi0, hz0, hz1, hz2⟩ := info_parts infoDelta'
 have Hi0 := Lib.hid hi0; have Hz0 := Lib.hid hz0; have Hz1 := Lib.hid hz1; have Hz2 := Lib.hid hz2
 clear h hi0 hz0 hz1 hz2
 go_enter Tryz.func46, Tryz.ntmps46
 go_wp2_with fail
 refine (next_any b L k most w H.out).mono ?_
 rintro e w1 ⟨v, k1, rfl, hv0, hv8, hT, hK⟩
 have hv9 := hv8 h1
 have HT := Lib.hid hT; have HK := Lib.hid hK
 clear hv8 hT hK
 go_wp2
 go_loopw [5, 6] (fun out nn wr => ∃ (ds : List DeltaD) (r : Int) (k' : Nat), nn = .int .i64 r ∧ 0 ≤ r ∧ r + ds.length = 1 + v ∧ Hid (∀ d ∈ ds, DeltaOk d) ∧ Hid (wr.ownsRow w.heap.size 91 2 out ds.length (dCells ds)) ∧ Hid (TapeAt wr b L k') ∧ Hid (Keeps [b] w wr))
  (fun _ nn _ => (intOf nn).toNat)
 case atStart => exact ⟨[], 1 + v, k1, rfl, by omega, by simp, (show ∀ _, _ from by simp), World.ownsRow_nil _ _ _ _, HT.out, HK.out⟩
 case round =>
  obtain ⟨ds, r, k', rfl, hr0, hrl, Hok, Hown, HTr, HKr⟩ := hrel
  have Hrl := Lib.hid hrl
  have hr1 : r ≤ 1 + v := by omega
  clear hrl
  by_cases hr : 0 < r
  ·go_wp2_with fail
   refine (series_any b L k' wr HTr.out).mono ?_
   rintro e w2 ⟨s, k2, rfl, hs, hT2, hK2⟩
   have Hs := Lib.hid hs; have HT2 := Lib.hid hT2; have HK2 := Lib.hid hK2
   clear hs hT2 hK2
   go_wp2_with fail
   refine (n_any b L k2 w2 HT2.out).mono ?_
   rintro e w3 ⟨n, k3, rfl, hn, hT3, hK3⟩
   have Hn := Lib.hid hn; have HT3 := Lib.hid hT3
   have hK4 := HK2.out.trans hK3 (by simp)
   have HK4 := Lib.hid hK4
   have hown3 : w3.ownsRow w.heap.size 91 2 u5 ds.length (dCells ds) := own_keep Hown.out hK4 (by simp; omega)
   have Hown3 := Lib.hid (hown3.alloc (.cells #[.string s, .int .u64 n] 91))
   have hds : ds.length ≤ 1000 := by have := Hrl.out; omega
   clear hn hT3 hK3 hK4 hown3
   go_wp2_with (at_builtin; refine wpList_append_any _ rfl (.tmp 15) (.tmp 21) _ rfl w.heap.size 91 i0 _ 2 24 Tryz.underlying31 Hi0.out Hz0.out Hz1.out Hz2.out rfl (by omega) u5 ds.length (dCells ds) rfl Hown3.out (w3.heap.size + 1) (some ⟨w3.heap.size, 0, none⟩) 1 1 (dCell ⟨s, n⟩) rfl (reads_new _ _ _ _ _ rfl) (by intro u hu; simp [dCell] at hu; rcases hu with rfl | rfl <;> rfl) (by unfold maxLen; omega) (by omega) (by have := HKr.out.size; have := HK4.out.size; simp; omega) ?_)
   intro v' w4 hown4 hg4 hat4
   have hlt0 := Hown.out.lt
   have hK5 : Keeps [b] w w4 := ((HKr.out.trans HK4.out (by simp)).alloc _).grown hg4 (fun g hg => .inr (hlt0 g hg).1)
   have hT5 : TapeAt w4 b L k3 := HT3.out.keep (M' := u5.ownBlock.toList) (((Keeps.refl _ _).alloc _).grown hg4 (fun g hg => .inl (by simpa using hg))) (by intro g hg; have := hlt0 g (by simpa using hg); omega)
   have hok4 : ∀ d ∈ ds ++ [(⟨s, n⟩ : DeltaD)], DeltaOk d := fun d hd => by
    rcases List.mem_append.1 hd with hd | hd
    ·exact Hok.out d hd
    ·simp at hd; subst hd; exact ⟨Hs.out, Hn.out⟩
   have Hok4 := Lib.hid hok4
   clear hok4
   have Hown4 : Hid (w4.ownsRow w.heap.size 91 2 v' (ds ++ [(⟨s, n⟩ : DeltaD)]).length (dCells (ds ++ [(⟨s, n⟩ : DeltaD)]))) := by
    show World.ownsRow _ _ _ _ _ _ _
    rw [List.length_append]
    unfold dCells at hown4 ⊢
    rw [List.flatMap_append]
    simpa using hown4
   have HT5 := Lib.hid hT5; have HK5 := Lib.hid hK5
   clear hown4 hg4 hat4 hlt0 hK5 hT5
   go_wp2
   go_roundw
   case rel => exact ⟨ds ++ [(⟨s, n⟩ : DeltaD)], r - 1, k3, rfl, by omega, by have := Hrl.out; simp; omega, Hok4, Hown4, HT5, HK5⟩
   case measure => simp [intOf]; omega
  ·have hr0 : r = 0 := by omega
   subst hr0
   have hpost : DeltasPost b L most w (.returned u5) wr := ⟨u5, ds, k', rfl, Hok.out, by have := Hrl.out; omega, by have := Hrl.out; omega, Hown.out, HTr.out, HKr.out⟩
   go_wp2
   go_ret
   exact hpost
def EntryOk (e : EntryD) : Prop := 0 ≤ e.fr ∧ e.fr < 8 ∧ 0 ≤ e.tag ∧ e.tag < 40 ∧
  ((e.kind = 2 ∧ NameOk e.ser ∧ e.ag = 0 ∧ e.sh = 0 ∧ e.seq = 0 ∧ e.ep = 0 ∧ e.ds = []) ∨
   (e.kind = 1 ∧ e.ser = ByteArray.empty ∧ 0 ≤ e.ag ∧ e.ag < 3 ∧ 0 ≤ e.sh ∧ e.sh < 2 ∧ 1 ≤ e.seq ∧ e.seq ≤ 90 ∧ 1 ≤ e.ep ∧ e.ep ≤ 4 ∧ 1 ≤ e.ds.length ∧ e.ds.length ≤ 4 ∧ ∀ d ∈ e.ds, DeltaOk d))
def EntryPost (b : Nat) (L : TapeL) (w : World) (e : Ending) (w' : World) : Prop := ∃ (en : EntryD) (dv : Value) (k' : Nat), e = .returned (.agg (eCell (en, dv)).toArray) ∧ EntryOk en ∧ (∀ M, (∀ g ∈ M, g < w.heap.size) → Ds w' M dv en.ds) ∧ TapeAt w' b L k' ∧ Keeps [b] w w'
def zeroE : Array Value := #[.int .i64 0, .int .i64 0, .int .i64 0, .int .i64 0, .int .i64 0, .slice none 0 0, .string ⟨#[]⟩, .int .i64 0, .int .i64 0]
/-- The cells of a block that is known whole. -/
theorem blk_cells {w : World} {g : Nat} {t : TypeId} {c0 c1 c2 c3 c4 c5 c6 c7 c8 : Value} (h : Blk w g t #[c0, c1, c2, c3, c4, c5, c6, c7, c8]) :
  w.cell? ⟨g, 0, none⟩ = some c0 ∧ w.cell? ⟨g, 1, none⟩ = some c1 ∧ w.cell? ⟨g, 2, none⟩ = some c2 ∧ w.cell? ⟨g, 3, none⟩ = some c3 ∧ w.cell? ⟨g, 4, none⟩ = some c4 ∧ w.cell? ⟨g, 5, none⟩ = some c5 ∧ w.cell? ⟨g, 6, none⟩ = some c6 ∧ w.cell? ⟨g, 7, none⟩ = some c7 ∧ w.cell? ⟨g, 8, none⟩ = some c8 ∧ (∀ i, w.frozen? ⟨g, i, none⟩ = false) :=
 ⟨h.cell 0, h.cell 1, h.cell 2, h.cell 3, h.cell 4, h.cell 5, h.cell 6, h.cell 7, h.cell 8, h.frozen⟩
theorem step_next (b : Nat) (L : TapeL) (k : Nat) (n : Int) (w0 w : World) (h : TapeAt w b L k) (hK : Keeps [b] w0 w) (hn : 1 ≤ n) :
  Calls Tryz.prog 16 #[.pointer (some ⟨b, 0, none⟩), .int .i64 n] w fun e w' => ∃ (v : Int) (k' : Nat), e = .returned (.int .i64 v) ∧ (0 ≤ v ∧ v < n) ∧ Hid (TapeAt w' b L k') ∧ Hid (Keeps [b] w w') ∧ Hid (Keeps [b] w0 w') :=
 (next_any b L k n w h).mono fun _ _ ⟨v, k', he, h0, h1, hT, hk⟩ => ⟨v, k', he, ⟨h0, h1 hn⟩, hT, hk, hK.trans hk (by simp)⟩
/-- What is known between two calls: the tape, the result's block g0, the entry's block g1. -/
structure St (w0 w : World) (b : Nat) (L : TapeL) (k g0 g1 : Nat) (c1 : Array Value) : Prop where
 tape : TapeAt w b L k
 keeps : Keeps [b] w0 w
 b0 : Blk w g0 33 zeroE
 b1 : Blk w g1 33 c1
 lt0 : b < g0
 lt1 : g0 < g1
 old : w0.heap.size ≤ g0
theorem St.set {w0 w : World} {b : Nat} {L : TapeL} {k g0 g1 : Nat} {c1 : Array Value} (h : St w0 w b L k g0 g1 c1) (i : Nat) (v : Value) : St w0 (w.setCell ⟨g1, i, none⟩ v) b L k g0 g1 (c1.setIfInBounds i v) := by
 have hk : Keeps [g1] w (w.setCell ⟨g1, i, none⟩ v) := (Keeps.refl _ _).setCell (by simp) v
 have := h.lt0; have := h.lt1; have := h.old
 exact ⟨h.tape.keep hk (by intro g hg; simp at hg; omega), h.keeps.trans hk (by intro g hg; simp at hg; right; omega), hk.blk h.b0 (by simp; omega), h.b1.set_ i v, h.lt0, h.lt1, h.old⟩
theorem St.keep {w0 w w' : World} {b : Nat} {L : TapeL} {k k' g0 g1 : Nat} {c1 : Array Value} (h : St w0 w b L k g0 g1 c1) (hT : TapeAt w' b L k') (hk : Keeps [b] w w') : St w0 w' b L k' g0 g1 c1 := by
 have := h.lt0; have := h.lt1; have := h.old
 exact ⟨hT, h.keeps.trans hk (by simp), hk.blk h.b0 (by simp; omega), hk.blk h.b1 (by simp; omega), h.lt0, h.lt1, h.old⟩
theorem st_next {w0 w : World} {b : Nat} {L : TapeL} {k g0 g1 : Nat} {c1 : Array Value} (h : St w0 w b L k g0 g1 c1) (n : Int) (hn : 1 ≤ n) :
  Calls Tryz.prog 16 #[.pointer (some ⟨b, 0, none⟩), .int .i64 n] w fun e w' => ∃ (v : Int) (k' : Nat), e = .returned (.int .i64 v) ∧ (0 ≤ v ∧ v < n) ∧ Hid (St w0 w' b L k' g0 g1 c1) :=
 (next_any b L k n w h.tape).mono fun _ _ ⟨v, k', he, h0, h1, hT, hk⟩ => ⟨v, k', he, ⟨h0, h1 hn⟩, h.keep hT hk⟩
theorem st_series {w0 w : World} {b : Nat} {L : TapeL} {k g0 g1 : Nat} {c1 : Array Value} (h : St w0 w b L k g0 g1 c1) :
  Calls Tryz.prog 45 #[.pointer (some ⟨b, 0, none⟩)] w fun e w' => ∃ (s : ByteArray) (k' : Nat), e = .returned (.string s) ∧ Hid (NameOk s) ∧ Hid (St w0 w' b L k' g0 g1 c1) :=
 (series_any b L k w h.tape).mono fun _ _ ⟨s, k', he, h0, hT, hk⟩ => ⟨s, k', he, h0, h.keep hT hk⟩
def DelOk (w0 w' : World) (v : Value) (ds : List DeltaD) : Prop := (∀ d ∈ ds, DeltaOk d) ∧ 1 ≤ ds.length ∧ ds.length ≤ 4 ∧ (∀ M, (∀ g ∈ M, g < w0.heap.size) → Ds w' M v ds)
theorem st_deltas {w0 w : World} {b : Nat} {L : TapeL} {k g0 g1 : Nat} {c1 : Array Value} (h : St w0 w b L k g0 g1 c1) :
  Calls Tryz.prog 46 #[.pointer (some ⟨b, 0, none⟩), .int .i64 4] w fun e w' => ∃ (v : Value) (ds : List DeltaD) (k' : Nat), e = .returned v ∧ Hid (DelOk w w' v ds) ∧ Hid (St w0 w' b L k' g0 g1 c1) :=
 (deltas_any b L k 4 w h.tape (by omega) (by omega)).mono fun _ _ ⟨v, ds, k', he, h1, h2, h3, h4, hT, hk⟩ => ⟨v, ds, k', he, ⟨h1, h2, by omega, fun M hM => Rd.of_own h4 hM⟩, h.keep hT hk⟩
set_option maxRecDepth 100000 in
set_option maxHeartbeats 1000000 in
theorem entry_any (b : Nat) (L : TapeL) (k : Nat) (w : World) (h : TapeAt w b L k) :
  Calls Tryz.prog 12 #[.pointer (some ⟨b, 0, none⟩)] w fun e w' => EntryPost b L w e w' := by
 have hbw := h.lt
 have H := Lib.hid h
 clear h
 go_enter Tryz.func12, Tryz.ntmps12
 go_wp2_with fail
 have hT0 : TapeAt (w.alloc (.cells zeroE 33)) b L k := H.out.keep (M' := []) ((Keeps.refl _ _).alloc _) (by simp)
 have hB0 : Blk (w.alloc (.cells zeroE 33)) w.heap.size 33 zeroE := Blk.new w _ _
 have hK0 : Keeps [b] w (w.alloc (.cells zeroE 33)) := (Keeps.refl _ _).alloc _
 have hsz : w.heap.size < (w.alloc (.cells zeroE 33)).heap.size := by simp
 refine (step_next b L k 8 w _ hT0 hK0 (by omega)).mono ?_
 rintro e w1 ⟨fr, k1, rfl, ⟨hf0, hf1⟩, HT1, HK1, HKw1⟩
 have hB1 := HK1.out.blk hB0 (by simp; omega)
 have hs1 := HK1.out.size
 clear hT0 hB0 hK0
 obtain ⟨g0, hg0⟩ : ∃ g, g = w.heap.size := ⟨_, rfl⟩
 rw [← hg0] at hB1 ⊢
 have hbg0 : b < g0 := by omega
 have hg1 : g0 < w1.heap.size := by omega
 have HB1 := Lib.hid hB1; have Hg0 := Lib.hid hg0
 clear hB1 hg0 hsz hs1
 go_wp2_with fail
 refine (step_next b L k1 40 w w1 HT1.out HKw1.out (by omega)).mono ?_
 rintro e w2 ⟨tag, k2, rfl, ⟨ht0, ht1⟩, HT2, HK2, HKw2⟩
 have HB2 := Lib.hid (HK2.out.blk HB1.out (by simp; omega))
 have hg2 : g0 < w2.heap.size := Nat.lt_of_lt_of_le hg1 HK2.out.size
 go_wp2_with fail
 have hst : St w (w2.alloc (.cells #[.int .i64 1, .int .i64 0, .int .i64 0, .int .i64 0, .int .i64 0, .slice none 0 0, .string ⟨#[]⟩, .int .i64 fr, .int .i64 tag] 33)) b L k2 g0 w2.heap.size #[.int .i64 1, .int .i64 0, .int .i64 0, .int .i64 0, .int .i64 0, .slice none 0 0, .string ⟨#[]⟩, .int .i64 fr, .int .i64 tag] :=
  ⟨HT2.out.keep (M' := []) ((Keeps.refl _ _).alloc _) (by simp), HKw2.out.alloc _, (HB2.out.below (below_new' w2 _) hg2), Blk.new w2 _ _, hbg0, hg2, by have := Hg0.out; omega⟩
 have Hst := Lib.hid hst
 clear hst
 generalize (w2.alloc (.cells #[.int .i64 1, .int .i64 0, .int .i64 0, .int .i64 0, .int .i64 0, .slice none 0 0, .string ⟨#[]⟩, .int .i64 fr, .int .i64 tag] 33)) = w3 at *
 generalize w2.heap.size = g1 at *
 clear HT2 HK2 HKw2 HB2 HT1 HK1 HKw1 HB1 hg1
 go_wp2_with fail
 refine (st_next Hst.out 5 (by omega)).mono ?_
 rintro e w4 ⟨v, k4, rfl, ⟨hv0, hv1⟩, H4⟩
 clear Hst
 by_cases c0 : v = 0
 ·subst c0
  go_wp2_with fail
  refine (st_series H4.out).mono ?_
  rintro e w5 ⟨sr, k5, rfl, Hok, H5⟩
  obtain ⟨q0, q1, q2, q3, q4, q5, q6, q7, q8, qf⟩ := blk_cells H5.out.b1
  obtain ⟨r0, r1, r2, r3, r4, r5, r6, r7, r8, rf⟩ := blk_cells H5.out.b0
  have H6 := Lib.hid ((H5.out.set 0 (.int .i64 2)).set 6 (.string sr))
  have hl0 := H5.out.lt0; have hl1 := H5.out.lt1; have hl2 := H5.out.old
  clear H4 H5
  go_wp2
  refine bodyPost_ret (v := .agg #[.int .i64 2, .int .i64 0, .int .i64 0, .int .i64 0, .int .i64 0, .slice none 0 0, .string sr, .int .i64 fr, .int .i64 tag]) (by simp [results, Tryz.results12, go_sem, r0, r1, r2, r3, r4, r5, r6, r7, r8]) rfl ?_
  refine ⟨⟨2, 0, 0, 0, 0, [], sr, fr, tag⟩, .slice none 0 0, k5, rfl, ⟨hf0, hf1, ht0, ht1, .inl ⟨rfl, Hok.out, rfl, rfl, rfl, rfl, rfl⟩⟩, fun M _ => Ds.nil _ _, ?_, ?_⟩
  ·refine H6.out.tape.keep (M' := [g0]) ?_ (by intro g hg; simp at hg; omega)
   repeat (first | (with_reducible exact Keeps.refl _ _) | (with_reducible refine Keeps.setCell ?_ (by simp) _))
  ·repeat (first | (with_reducible exact H6.out.keeps) | (with_reducible refine Keeps.setCell ?_ (by right; simp; omega) _))
 ·have d0 : (v == 0) = false := by simpa using c0
  clear c0
  go_wp2_with fail
  refine (st_next H4.out 3 (by omega)).mono ?_
  rintro e w5 ⟨ag, k5, rfl, ⟨ha0, ha1⟩, H5⟩
  clear H4
  go_wp2_with fail
  refine (st_next H5.out 2 (by omega)).mono ?_
  rintro e w6 ⟨sh, k6, rfl, ⟨hs0, hs1⟩, H6⟩
  clear H5
  go_wp2_with fail
  refine (st_next H6.out 12 (by omega)).mono ?_
  rintro e w7 ⟨sq, k7, rfl, ⟨hq0, hq1⟩, H7⟩
  clear H6
  obtain ⟨q0, q1, q2, q3, q4, q5, q6, q7, q8, qf⟩ := blk_cells H7.out.b1
  have hst := ((H7.out.set 1 (.int .i64 ag)).set 2 (.int .i64 sh)).set 3 (.int .i64 (1 + sq))
  have H8 := Lib.hid hst
  clear hst H7
  go_wp2_with fail
  refine (st_next H8.out 9 (by omega)).mono ?_
  rintro e w9 ⟨v9, k9, rfl, ⟨hn0, hn1⟩, H9⟩
  clear H8 q0 q1 q2 q3 q4 q5 q6 q7 q8 qf
  by_cases c9 : v9 = 0
  ·subst c9
   go_wp2_with fail
   refine (st_next H9.out 90 (by omega)).mono ?_
   rintro e wa ⟨sq2, ka, rfl, ⟨hz0, hz1⟩, Ha⟩
   clear H9 hq0 hq1
   have hsq : 1 ≤ 1 + sq2 ∧ 1 + sq2 ≤ 90 := by omega
   obtain ⟨q0, q1, q2, q3, q4, q5, q6, q7, q8, qf⟩ := blk_cells Ha.out.b1
   have hst := Ha.out.set 3 (.int .i64 (1 + sq2))
   have Hb := Lib.hid hst
   clear hst Ha
   go_wp2_with fail
   refine (st_next Hb.out 4 (by omega)).mono ?_
   rintro e wb ⟨ep, kb, rfl, ⟨he0, he1⟩, Hc⟩
   clear Hb
   try clear q0 q1 q2 q3 q4 q5 q6 q7 q8 qf
   obtain ⟨q0, q1, q2, q3, q4, q5, q6, q7, q8, qf⟩ := blk_cells Hc.out.b1
   have Hd := Lib.hid (Hc.out.set 4 (.int .i64 (1 + ep)))
   clear Hc
   go_wp2_with fail
   refine (st_deltas Hd.out).mono ?_
   rintro e wd ⟨dv, ds, kd, rfl, Hdel, He⟩
   clear q0 q1 q2 q3 q4 q5 q6 q7 q8 qf
   obtain ⟨Av, cv, hve, _⟩ := (Hdel.out.2.2.2 [] (by simp)).len
   subst hve
   have hdold : w.heap.size ≤ (wb.setCell ⟨g1, 4, none⟩ (.int .i64 (1 + ep))).heap.size := Hd.out.keeps.size
   have hgs : g1 < (wb.setCell ⟨g1, 4, none⟩ (.int .i64 (1 + ep))).heap.size := Hd.out.b1.lt
   have Hdold := Lib.hid hdold
   have Hgs := Lib.hid hgs
   clear hdold hgs
   obtain ⟨q0, q1, q2, q3, q4, q5, q6, q7, q8, qf⟩ := blk_cells He.out.b1
   obtain ⟨r0, r1, r2, r3, r4, r5, r6, r7, r8, rf⟩ := blk_cells He.out.b0
   have hl2 := He.out.old
   have Hf := Lib.hid (He.out.set 5 (.slice Av ds.length cv))
   clear He Hd
   go_wp2
   refine bodyPost_ret (v := .agg #[.int .i64 1, .int .i64 ag, .int .i64 sh, .int .i64 (1 + sq2), .int .i64 (1 + ep), .slice Av ds.length cv, .string ⟨#[]⟩, .int .i64 fr, .int .i64 tag]) (by simp [results, Tryz.results12, go_sem, r0, r1, r2, r3, r4, r5, r6, r7, r8]) rfl ?_
   refine ⟨⟨1, ag, sh, 1 + sq2, 1 + ep, ds, ⟨#[]⟩, fr, tag⟩, .slice Av ds.length cv, kd, rfl, ⟨hf0, hf1, ht0, ht1, .inr ⟨rfl, rfl, ha0, ha1, hs0, hs1, hsq.1, hsq.2, by simp only []; omega, by simp only []; omega, Hdel.out.2.1, Hdel.out.2.2.1, Hdel.out.1⟩⟩, ?_, ?_, ?_⟩
   ·intro M hM
    have h0 := Hdel.out.2.2.2 (g0 :: g1 :: M) (by intro g hg; simp at hg; have := Hgs.out; have := Hdold.out; rcases hg with rfl | rfl | hg; omega; omega; have := hM g hg; omega)
    refine ((h0.keep (M' := [g0, g1]) ?_ (by intro g hg; simp at hg; rcases hg with rfl | rfl <;> simp)).avoid (fun g hg => .inl (List.mem_cons_of_mem _ (List.mem_cons_of_mem _ hg))))
    repeat (first | (with_reducible exact Keeps.refl _ _) | (with_reducible refine Keeps.setCell ?_ (by simp) _))
   ·refine Hf.out.tape.keep (M' := [g0]) ?_ (by intro g hg; simp at hg; omega)
    repeat (first | (with_reducible exact Keeps.refl _ _) | (with_reducible refine Keeps.setCell ?_ (by simp) _))
   ·repeat (first | (with_reducible exact Hf.out.keeps) | (with_reducible refine Keeps.setCell ?_ (by right; simp; omega) _))
  ·have d9 : (v9 == 0) = false := by simpa using c9
   clear c9
   have hsq : 1 ≤ 1 + sq ∧ 1 + sq ≤ 90 := by omega
   have Hb := H9
   clear H9
   go_wp2_with fail
   refine (st_next Hb.out 4 (by omega)).mono ?_
   rintro e wb ⟨ep, kb, rfl, ⟨he0, he1⟩, Hc⟩
   clear Hb
   try clear q0 q1 q2 q3 q4 q5 q6 q7 q8 qf
   obtain ⟨q0, q1, q2, q3, q4, q5, q6, q7, q8, qf⟩ := blk_cells Hc.out.b1
   have Hd := Lib.hid (Hc.out.set 4 (.int .i64 (1 + ep)))
   clear Hc
   go_wp2_with fail
   refine (st_deltas Hd.out).mono ?_
   rintro e wd ⟨dv, ds, kd, rfl, Hdel, He⟩
   clear q0 q1 q2 q3 q4 q5 q6 q7 q8 qf
   obtain ⟨Av, cv, hve, _⟩ := (Hdel.out.2.2.2 [] (by simp)).len
   subst hve
   have hdold : w.heap.size ≤ (wb.setCell ⟨g1, 4, none⟩ (.int .i64 (1 + ep))).heap.size := Hd.out.keeps.size
   have hgs : g1 < (wb.setCell ⟨g1, 4, none⟩ (.int .i64 (1 + ep))).heap.size := Hd.out.b1.lt
   have Hdold := Lib.hid hdold
   have Hgs := Lib.hid hgs
   clear hdold hgs
   obtain ⟨q0, q1, q2, q3, q4, q5, q6, q7, q8, qf⟩ := blk_cells He.out.b1
   obtain ⟨r0, r1, r2, r3, r4, r5, r6, r7, r8, rf⟩ := blk_cells He.out.b0
   have hl2 := He.out.old
   have Hf := Lib.hid (He.out.set 5 (.slice Av ds.length cv))
   clear He Hd
   go_wp2
   refine bodyPost_ret (v := .agg #[.int .i64 1, .int .i64 ag, .int .i64 sh, .int .i64 (1 + sq), .int .i64 (1 + ep), .slice Av ds.length cv, .string ⟨#[]⟩, .int .i64 fr, .int .i64 tag]) (by simp [results, Tryz.results12, go_sem, r0, r1, r2, r3, r4, r5, r6, r7, r8]) rfl ?_
   refine ⟨⟨1, ag, sh, 1 + sq, 1 + ep, ds, ⟨#[]⟩, fr, tag⟩, .slice Av ds.length cv, kd, rfl, ⟨hf0, hf1, ht0, ht1, .inr ⟨rfl, rfl, ha0, ha1, hs0, hs1, hsq.1, hsq.2, by simp only []; omega, by simp only []; omega, Hdel.out.2.1, Hdel.out.2.2.1, Hdel.out.1⟩⟩, ?_, ?_, ?_⟩
   ·intro M hM
    have h0 := Hdel.out.2.2.2 (g0 :: g1 :: M) (by intro g hg; simp at hg; have := Hgs.out; have := Hdold.out; rcases hg with rfl | rfl | hg; omega; omega; have := hM g hg; omega)
    refine ((h0.keep (M' := [g0, g1]) ?_ (by intro g hg; simp at hg; rcases hg with rfl | rfl <;> simp)).avoid (fun g hg => .inl (List.mem_cons_of_mem _ (List.mem_cons_of_mem _ hg))))
    repeat (first | (with_reducible exact Keeps.refl _ _) | (with_reducible refine Keeps.setCell ?_ (by simp) _))
   ·refine Hf.out.tape.keep (M' := [g0]) ?_ (by intro g hg; simp at hg; omega)
    repeat (first | (with_reducible exact Keeps.refl _ _) | (with_reducible refine Keeps.setCell ?_ (by simp) _))
   ·repeat (first | (with_reducible exact Hf.out.keeps) | (with_reducible refine Keeps.setCell ?_ (by right; simp; omega) _))

end Go.Proofs.YtdaceeijifjpeaaGreatDoor.Tape
end
section
namespace Go.Proofs.YtdaceeijifjpeaaGreatDoor.Vi
open Go.RowKit Base Mem Tape
theorem toList_inj {a b : ByteArray} (h : a.toList = b.toList) : a = b := by
 rw [Lib.toList_data, Lib.toList_data] at h
 obtain ⟨⟨a⟩⟩ := a
 obtain ⟨⟨b⟩⟩ := b
 simp only [] at h
 rw [h]
set_option maxRecDepth 100000 in
theorem names_ok : (nameL.all fun l => serOk ⟨l.toArray⟩) = true := by decide +kernel
theorem names_len : (nameL.all fun l => decide (l.length ≤ 100)) = true := by decide
theorem name_ser {s : ByteArray} (h : NameOk s) : serOk s = true ∧ s.size ≤ 100 := by
 obtain ⟨l, hl, rfl⟩ := h
 refine ⟨List.all_eq_true.1 names_ok l hl, ?_⟩
 have := List.all_eq_true.1 names_len l hl
 show l.toArray.size ≤ 100
 simpa using this
theorem entry_right {e : EntryD} (h : EntryOk e) : rightE e = 0 ∧ Short e ∧ Wf e := by
 obtain ⟨h1, h2, h3, h4, h5⟩ := h
 have hw : withinB e.fr 8 = true := by simp [withinB]; omega
 have ht : decide (e.tag < 0) = false := decide_eq_false (by omega)
 rcases h5 with ⟨hk, hn, ha, hs, hq, hp, hd⟩ | ⟨hk, hse, a0, a1, s0, s1, q0, q1, p0, p1, d0, d1, hd⟩
 ·obtain ⟨hser, hsz⟩ := (name_ser hn)
  refine ⟨?_, ⟨by omega, by simp [hd], by simp [hd]⟩, by omega, by omega, by omega, by simp [hd]⟩
  unfold rightE kindS
  rw [hw, ht, hk, ha, hs, hq, hp, hd, hser]
  rfl
 ·refine ⟨?_, ⟨by rw [hse]; decide, fun d hx => by have := (name_ser (hd d hx).1).2; omega, by omega⟩, by omega, by omega, by omega, fun d hx => ⟨by have := (hd d hx).2; omega, by have := (hd d hx).2; omega⟩⟩
  have hb : badId e = false := by
   unfold badId withinB
   simp; omega
  have h0 : (e.ds.length == 0 || e.ds.any fun d => d.n == 0) = false := by
   rw [Bool.or_eq_false_iff]
   refine ⟨by simp; intro h; rw [h] at d0; simp at d0, ?_⟩
   rw [List.any_eq_false]
   intro d hx
   have := (hd d hx).2
   simp; omega
  have hall : (e.ds.all fun d => serOk d.ser) = true := by
   rw [List.all_eq_true]
   exact fun d hx => (name_ser (hd d hx).1).1
  have hse2 : e.ser.toList.isEmpty = true := by rw [hse]; decide +kernel
  unfold rightE kindS writtenS
  rw [hw, ht, hb, h0, hall, hk, hse2, if_neg (by simp), if_neg (by simp), if_pos rfl, if_neg (by simp), if_neg (by omega), if_neg (by simp), if_pos rfl]
theorem dsEq_iff (a b : List DeltaD) : dsEq a b = true ↔ a = b := by
 unfold dsEq
 induction a generalizing b with
 | nil => cases b <;> simp [Lib.allEq]
 | cons x a ih =>
  cases b with
  | nil => simp [Lib.allEq]
  | cons y b =>
   obtain ⟨xs, xn⟩ := x
   obtain ⟨ys, yn⟩ := y
   simp only [Lib.allEq, Bool.and_eq_true, ih, dEq, beq_iff_eq, List.cons.injEq, DeltaD.mk.injEq]
   constructor
   ·rintro ⟨⟨h1, h2⟩, h3⟩; exact ⟨⟨toList_inj h1, h2⟩, h3⟩
   ·rintro ⟨⟨rfl, rfl⟩, rfl⟩; exact ⟨⟨rfl, rfl⟩, rfl⟩
theorem sameE_iff (a b : EntryD) : sameE a b = true ↔ a = b := by
 obtain ⟨k, ag, sh, sq, ep, ds, se, fr, tg⟩ := a
 obtain ⟨k', ag', sh', sq', ep', ds', se', fr', tg'⟩ := b
 simp only [sameE, eqI, Bool.and_eq_true, dsEq_iff, beq_iff_eq, EntryD.mk.injEq]
 constructor
 ·rintro ⟨⟨⟨⟨⟨⟨h1, h2, h3, h4⟩, h5⟩, h6⟩, h7⟩, h8⟩, h9⟩
  exact ⟨h1, h2, h3, h4, h5, h6, toList_inj h7, h8, h9⟩
 ·rintro ⟨h1, h2, h3, h4, h5, h6, h7, h8, h9⟩
  exact ⟨⟨⟨⟨⟨⟨h1, h2, h3, h4⟩, h5⟩, h6⟩, by rw [h7]⟩, h8⟩, h9⟩
theorem dBytes_len2 (ds : List DeltaD) (h : ∀ d ∈ ds, d.ser.size ≤ 100) (hn : ∀ d ∈ ds, NOk d) : (ds.flatMap dBytes).length ≤ ds.length * 120 := by
 induction ds with
 | nil => simp
 | cons d ds ih =>
  have h1 := ih (fun x hx => h x (by simp [hx])) (fun x hx => hn x (by simp [hx]))
  have h2 := h d (by simp)
  obtain ⟨h3, h4⟩ := hn d (by simp)
  have h5 := Lib.uvarint_length64 (x := d.ser.size) (by omega)
  have h6 := Lib.uvarint_length64 (x := d.n.toNat) (by omega)
  have h7 : (dBytes d).length = (Lib.uvarint d.ser.size).length + d.ser.size + (Lib.uvarint d.n.toNat).length := by
   unfold dBytes; rw [List.length_append, List.length_append]; rfl
  rw [List.flatMap_cons, List.length_append, List.length_cons]
  omega
theorem bytesE_len {e : EntryD} (h : EntryOk e) : (bytesE e).length ≤ 1200 := by
 obtain ⟨hr, _, hw1, hw2, hw3, hw4⟩ := entry_right h
 obtain ⟨h1, h2, h3, h4, h5⟩ := h
 have u1 := Lib.uvarint_length64 (x := e.fr.toNat) (by omega)
 have u2 := Lib.uvarint_length64 (x := e.tag.toNat) (by omega)
 unfold bytesE headB
 rcases h5 with ⟨hk, hn, _⟩ | ⟨hk, _, a0, a1, s0, s1, q0, q1, p0, p1, d0, d1, hd⟩
 ·have h6 := (name_ser hn).2
  have u3 := Lib.uvarint_length64 (x := e.ser.size) (by omega)
  have h7 : (sB e.ser).length = e.ser.size := rfl
  rw [if_pos hk]
  simp only [List.length_append, List.length_singleton]
  omega
 ·have u3 := Lib.uvarint_length64 (x := e.ag.toNat) (by omega)
  have u4 := Lib.uvarint_length64 (x := e.sh.toNat) (by omega)
  have u5 := Lib.uvarint_length64 (x := e.seq.toNat) (by omega)
  have u6 := Lib.uvarint_length64 (x := e.ep.toNat) (by omega)
  have u7 := Lib.uvarint_length64 (x := e.ds.length) (by omega)
  have h8 := dBytes_len2 e.ds (fun d hx => (name_ser (hd d hx).1).2) hw4
  rw [if_neg (by omega)]
  simp only [List.length_append, List.length_singleton]
  omega
theorem ebytes_ok (e : EntryD) (dv : Value) (m : Int) (w : World) (hr0 : rightE e = 0) (h : Ds w [] dv e.ds) (hs : Short e) (hw : Wf e) (hm : w.cell? ⟨0, 0, none⟩ = some (.int .i64 m)) :
  Calls Tryz.prog 138 #[.agg (eCell (e, dv)).toArray] w fun r w' => EB0 (bytesE e) w r w' := by
 rcases (right_facts hr0).2 with hk | ⟨hk, _⟩
 ·exact ebytes_2 e dv m w hk hr0 h hs hw hm
 ·exact ebytes_1 e dv m w hk hr0 h hs hw hm
end Go.Proofs.YtdaceeijifjpeaaGreatDoor.Vi
end
section
namespace Go.Proofs.YtdaceeijifjpeaaGreatDoor.Vi
open Go.RowKit Base Mem
def crcStep (c : Nat) : Nat := (c / 2) ^^^ (3988292384 * (c % 2))
def crcN : Nat → Nat → Nat
 | 0, c => c
 | k + 1, c => crcN k (crcStep c)
def crcNext (c : Nat) (b : UInt8) : Nat := crcN 8 (c ^^^ b.toNat)
def crcOn (c : Nat) (l : List UInt8) : Nat := l.foldl crcNext c
/-- The sum of bytes. -/
def crcOf (l : List UInt8) : Nat := 4294967295 - crcOn 4294967295 l
theorem crcStep_lt {c : Nat} (h : c < 4294967296) : crcStep c < 4294967296 := by
 unfold crcStep
 exact Nat.xor_lt_two_pow (n := 32) (by omega) (by omega)
theorem crcN_lt : ∀ (k : Nat) {c : Nat}, c < 4294967296 → crcN k c < 4294967296
 | 0, _, h => h
 | k + 1, _, h => crcN_lt k (crcStep_lt h)
theorem xor_byte_lt {c : Nat} (h : c < 4294967296) (b : UInt8) : c ^^^ b.toNat < 4294967296 :=
 Nat.xor_lt_two_pow (n := 32) h (Nat.lt_trans b.toNat_lt (by decide))
theorem crcNext_lt {c : Nat} (h : c < 4294967296) (b : UInt8) : crcNext c b < 4294967296 := crcN_lt 8 (xor_byte_lt h b)
theorem crcOn_lt : ∀ (l : List UInt8) {c : Nat}, c < 4294967296 → crcOn c l < 4294967296
 | [], _, h => h
 | x :: l, _, h => crcOn_lt l (crcNext_lt h x)
theorem crcOf_lt (l : List UInt8) : crcOf l < 4294967296 := by unfold crcOf; omega
/-- A sum's four bytes. -/
def leL (s : Nat) : List UInt8 := [UInt8.ofNat s, UInt8.ofNat (s / 256), UInt8.ofNat (s / 65536), UInt8.ofNat (s / 16777216)]
def unL (b : List UInt8) : Nat := (b.getD 0 0).toNat + 256 * (b.getD 1 0).toNat + 65536 * (b.getD 2 0).toNat + 16777216 * (b.getD 3 0).toNat
def frameL (l : List UInt8) : List UInt8 := Lib.uvarint l.length ++ (leL (crcOf l) ++ l)
/-- The frame at the front, and its bytes. -/
def readF (b : List UInt8) : Option (List UInt8 × Nat) :=
 if (getL b).2 = 0 ∨ 65536 < (getL b).1 ∨ b.length < (getL b).2 + 4 + (getL b).1 then none
 else if crcOf ((b.drop ((getL b).2 + 4)).take (getL b).1) = unL (b.drop (getL b).2) then some ((b.drop ((getL b).2 + 4)).take (getL b).1, (getL b).2 + 4 + (getL b).1) else none
theorem unL_leL (s : Nat) (h : s < 4294967296) (r : List UInt8) : unL (leL s ++ r) = s := by
 unfold unL leL
 simp
 omega
theorem leL_len (s : Nat) : (leL s).length = 4 := rfl
theorem frameL_len (l : List UInt8) : (frameL l).length = (Lib.uvarint l.length).length + 4 + l.length := by
 unfold frameL
 rw [List.length_append, List.length_append, leL_len]; omega
theorem readF_put (l r : List UInt8) (hl : l.length ≤ 65536) : readF (frameL l ++ r) = some (l, (frameL l).length) := by
 have h1 := Lib.uvarint_pos l.length
 have hg : getL (frameL l ++ r) = (l.length, (Lib.uvarint l.length).length) := by
  unfold frameL; rw [List.append_assoc]; exact getL_put _ _ (by omega)
 unfold readF
 rw [hg]
 simp only []
 rw [if_neg (by rw [List.length_append, frameL_len]; omega)]
 have hd : (frameL l ++ r).drop (Lib.uvarint l.length).length = leL (crcOf l) ++ (l ++ r) := by
  unfold frameL; rw [List.append_assoc, List.drop_left, List.append_assoc]
 have hx : ((frameL l ++ r).drop ((Lib.uvarint l.length).length + 4)).take l.length = l := by
  rw [← List.drop_drop, hd, show 4 = (leL (crcOf l)).length from rfl, List.drop_left, List.take_left]
 rw [hx, hd, unL_leL _ (crcOf_lt l), if_pos rfl, frameL_len]
/-- The frames from the front on, and their bytes. -/
def scanF : Nat → List UInt8 → List (List UInt8) × Nat
 | 0, _ => ([], 0)
 | k + 1, b => match readF b with
  | none => ([], 0)
  | some (x, n) => (x :: (scanF k (b.drop n)).1, n + (scanF k (b.drop n)).2)
theorem scanF_put (t : List UInt8) (ht : readF t = none) : ∀ (rs : List (List UInt8)) (k : Nat), (∀ l ∈ rs, l.length ≤ 65536) → rs.length ≤ k → scanF k (rs.flatMap frameL ++ t) = (rs, (rs.flatMap frameL).length)
 | [], 0, _, _ => rfl
 | [], k + 1, _, _ => by rw [scanF, List.flatMap_nil, List.nil_append, ht]; rfl
 | l :: rs, 0, _, h => by simp at h
 | l :: rs, k + 1, hl, h => by
  have ih := scanF_put t ht rs k (fun x hx => hl x (List.mem_cons_of_mem _ hx)) (by simpa using h)
  rw [scanF, List.flatMap_cons, List.append_assoc, readF_put l _ (hl l (by simp))]
  simp only []
  rw [List.drop_left, ih, List.length_append]
end Go.Proofs.YtdaceeijifjpeaaGreatDoor.Vi
end
section
namespace Go.Proofs.YtdaceeijifjpeaaGreatDoor.Vi
open Go.RowKit Base Mem Go.Shelf
def eBlob (e : EntryD) : List UInt8 := Lib.uvarint (bytesE e).length ++ bytesE e
def putLog (es : List EntryD) : List UInt8 := Lib.uvarint es.length ++ es.flatMap eBlob
/-- An entry that may be, of texts that are short. -/
def EOk (e : EntryD) : Prop := rightE e = 0 ∧ Short e ∧ Wf e
theorem ens_at {w : World} {M : List Nat} {v : Value} {l : List EntryD} (h : Ens w M v l) {k : Nat} (hk : k < l.length) :
  ∃ g off cap dv, v = .slice (some ⟨g, off, none⟩) l.length cap ∧ g < w.heap.size ∧ g ∉ M ∧ Ds w M dv l[k].ds ∧ ∀ j u, (eCell (l[k], dv))[j]? = some u → w.cell? ⟨g, off + k * 9 + j, none⟩ = some u := by
 obtain ⟨ps, rfl, hr, hd⟩ := h
 have hk' : k < ps.length := by simpa using hk
 obtain ⟨g, off, cap, e, _, hg, hm, hx⟩ := Rd.at_ eCell 9 (fun _ => rfl) hr hk'
 refine ⟨g, off, cap, ps[k].2, by simpa using e, hg, hm, ?_, ?_⟩
 ·simpa using hd ps[k] (List.getElem_mem _)
 ·simpa using hx
theorem bytesE_big {e : EntryD} (h : EOk e) : (bytesE e).length ≤ 40000000000 := by
 obtain ⟨hr, ⟨hs1, hs2, _⟩, hw1, hw2, hw3, hw4⟩ := h
 obtain ⟨⟨hf0, hf8, ht0⟩, hrest⟩ := right_facts hr
 have u1 := Lib.uvarint_length64 (x := e.fr.toNat) (by omega)
 have u2 := Lib.uvarint_length64 (x := e.tag.toNat) (by omega)
 unfold bytesE headB
 by_cases hk : e.kind = 2
 ·have u3 := Lib.uvarint_length64 (x := e.ser.size) (by omega)
  have h7 : (sB e.ser).length = e.ser.size := rfl
  rw [if_pos hk]
  simp only [List.length_append, List.length_singleton]
  omega
 ·obtain ⟨_, a0, a1, s0, s1, q0, p0, d8⟩ := hrest.resolve_left hk
  have u3 := Lib.uvarint_length64 (x := e.ag.toNat) (by omega)
  have u4 := Lib.uvarint_length64 (x := e.sh.toNat) (by omega)
  have u5 := Lib.uvarint_length64 (x := e.seq.toNat) (by omega)
  have u6 := Lib.uvarint_length64 (x := e.ep.toNat) (by omega)
  have u7 := Lib.uvarint_length64 (x := e.ds.length) (by omega)
  have h8 := dBytes_len e.ds hs2 hw4
  rw [if_neg hk]
  simp only [List.length_append, List.length_singleton]
  omega
theorem eBlob_big {e : EntryD} (h : EOk e) : (eBlob e).length ≤ 40000000010 := by
 have h1 := bytesE_big h
 have h2 := Lib.uvarint_length64 (x := (bytesE e).length) (by omega)
 unfold eBlob
 rw [List.length_append]; omega
theorem blobs_big (es : List EntryD) (h : ∀ e ∈ es, EOk e) : (es.flatMap eBlob).length ≤ es.length * 40000000010 := by
 induction es with
 | nil => simp
 | cons e es ih =>
  have h1 := ih (fun x hx => h x (by simp [hx]))
  have h2 := eBlob_big (h e (by simp))
  rw [List.flatMap_cons, List.length_append, List.length_cons]
  omega
set_option maxRecDepth 100000 in
set_option maxHeartbeats 1000000 in
theorem mput_any (v : Value) (lb : List UInt8) (ev : Value) (es : List EntryD) (m : Int) (w : World) (hb : Bs w [] v lb) (he : Ens w [] ev es) (hok : ∀ e ∈ es, EOk e) (hl : es.length ≤ 128) (hlb : lb.length ≤ 1000000000) (hm : w.cell? ⟨0, 0, none⟩ = some (.int .i64 m)) :
  Calls Tryz.prog 110 #[v, ev] w fun e w' => BsPost (lb ++ putLog es) w e w' := by
 have hw0 : 0 < w.heap.size := by
  have := World.block_lt_of_cell? w _ hm
  simpa using this
 have hkeepm : Hid (∀ W, Below w.heap.size w W → W.cell? ⟨0, 0, none⟩ = some (.int .i64 m)) := fun W hb => (hb.cell (p := ⟨0, 0, none⟩) hw0).trans hm
 have hput := Lib.hid (put_any v lb es.length w hb (by omega) (by omega))
 obtain ⟨A, c, rfl, _⟩ := hb.len
 obtain ⟨Ae, ce, rfl, hce⟩ := he.len
 have He := Lib.hid he; have Hok := Lib.hid hok
 have hwl : IntKind.u64.wrap (es.length : Int) = (es.length : Int) := by rw [IntKind.wrap_u64]; omega
 have hun := Lib.uvarint_length64 (x := es.length) (by omega)
 obtain ⟨l0, hl0⟩ : ∃ l0, l0 = lb ++ Lib.uvarint es.length := ⟨_, rfl⟩
 have Hl0 := Lib.hid hl0
 have hl0l : l0.length ≤ 1000000010 := by rw [hl0, List.length_append]; omega
 rw [← hl0] at hput
 clear hb he hok hm hl0 hun
 go_enter Tryz.func110, Tryz.ntmps110
 go_wp2_with fail
 refine hput.out.mono ?_
 rintro e w1 ⟨A1, rfl, hB1, hb1⟩
 have HB1 := Lib.hid hB1; have Hb1 := Lib.hid hb1
 clear hB1 hb1 hput
 go_wp2_with fail
 go_loopw [0, 16] (fun b i wr => ∃ (x : Nat) (A' : Option Addr) (L : List UInt8), i = .int .i64 x ∧ x ≤ es.length ∧ b = .slice A' L.length L.length ∧ Hid (L = l0 ++ (es.take x).flatMap eBlob) ∧ Hid (∀ M, (∀ g ∈ M, g < w.heap.size) → Bs wr M (.slice A' L.length L.length) L) ∧ Hid (Below w.heap.size w wr)) (fun _ i _ => es.length - (intOf i).toNat)
 case atStart => exact ⟨0, A1, l0, rfl, by omega, rfl, (show l0 = l0 ++ (es.take 0).flatMap eBlob by simp), HB1.out, Hb1.out⟩
 case round =>
  obtain ⟨x, A', L, rfl, hx, rfl, HL, HB, Hbr⟩ := hrel
  by_cases hlt : x < es.length
  ·have hx1 : (x : Int) < (es.length : Int) := by omega
   obtain ⟨g, off, _, dv, e1, hg, _, hD, hcell⟩ := ens_at (He.out.keep (Keeps.of_below (M := []) Hbr.out) (by simp)) hlt
   injection e1 with e1 _ e9
   subst e1
   clear e9
   have hek := Hok.out es[x] (List.getElem_mem _)
   have HL2 : Hid (L ++ Lib.uvarint (bytesE es[x]).length ++ bytesE es[x] = l0 ++ (es.take (x + 1)).flatMap eBlob) := by
    show _ = _
    rw [List.take_succ_eq_append_getElem hlt, List.flatMap_append, HL.out]
    simp [eBlob]
   have hLl : L.length ≤ 1000000010 + 128 * 40000000010 := by
    have h1 := congrArg List.length HL.out
    have h2 := blobs_big (es.take x) (fun e he => Hok.out e (List.mem_of_mem_take he))
    have h3 : (es.take x).length ≤ 128 := by rw [List.length_take]; omega
    have h4 : (es.take x).length * 40000000010 ≤ 128 * 40000000010 := Nat.mul_le_mul_right _ h3
    rw [List.length_append] at h1
    omega
   have hbig := bytesE_big hek
   obtain ⟨Ad, cd, rfl, _⟩ := hD.len
   have a0 := hcell 0 _ rfl; have a1 := hcell 1 _ rfl; have a2 := hcell 2 _ rfl; have a3 := hcell 3 _ rfl; have a4 := hcell 4 _ rfl; have a5 := hcell 5 _ rfl; have a6 := hcell 6 _ rfl; have a7 := hcell 7 _ rfl; have a8 := hcell 8 _ rfl
   clear hcell
   generalize es[x] = en at *
   obtain ⟨kind, ag, sh, seq, ep, ds, ser, fr, tag⟩ := en
   simp only [] at a0 a1 a2 a3 a4 a5 a6 a7 a8 hD
   rw [Nat.add_zero] at a0
   obtain ⟨w2, hw2⟩ : ∃ w2, w2 = wr.alloc (.cells #[.int .i64 kind, .int .i64 ag, .int .i64 sh, .int .i64 seq, .int .i64 ep, .slice Ad ds.length cd, .string ser, .int .i64 fr, .int .i64 tag] 33) := ⟨_, rfl⟩
   have hk2 : Keeps [] wr w2 := by rw [hw2]; exact (Keeps.refl _ _).alloc _
   have hb2 : Below w.heap.size w w2 := ((Keeps.of_below (M := []) Hbr.out).trans hk2 (by simp)).below
   have hby := ebytes_ok ⟨kind, ag, sh, seq, ep, ds, ser, fr, tag⟩ (.slice Ad ds.length cd) m w2 hek.1 (hD.keep hk2 (by simp)) hek.2.1 hek.2.2 (hkeepm.out _ hb2)
   simp only [eCell] at hby
   have Hby := Lib.hid hby
   have Hw2 := Lib.hid hw2; have Hb2 := Lib.hid hb2
   have Hbw := Lib.hid (HB.out)
   have hk2' := Lib.hid hk2
   generalize bytesE ⟨kind, ag, sh, seq, ep, ds, ser, fr, tag⟩ = bx at *
   clear hby hw2 hb2 hek hD hk2
   go_wp2_with fail
   rw [← Hw2.out]
   refine Hby.out.mono ?_
   rintro e w3 ⟨A3, rfl, hS3, hb3⟩
   have HS3 := Lib.hid (hS3 [] (by simp)); have Hb3 := Lib.hid (below_then Hb2.out hb3)
   have cv := conv_bytes HS3.out
   have HB3 := Lib.hid (fun M hM => (Hbw.out M hM).keep ((Keeps.of_below (M := []) (a := wr) hk2'.out.below).trans (Keeps.of_below (M := []) hb3) (by simp)) (by simp) : ∀ M, (∀ g ∈ M, g < w.heap.size) → Bs w3 M (.slice A' L.length L.length) L)
   have Htx := text_any _ L ⟨bx.toArray⟩ w3 (HB3.out [] (by simp)) (by show L.length + bx.toArray.size ≤ _; rw [List.size_toArray]; omega)
   rw [show (⟨bx.toArray⟩ : ByteArray).size = bx.length from List.size_toArray .., show sB ⟨bx.toArray⟩ = bx from rfl] at Htx
   have HTx := Lib.hid Htx
   generalize hL3 : L ++ Lib.uvarint bx.length ++ bx = L3 at *
   clear hS3 hb3 Hby Htx hL3 HS3
   go_wp2_with fail
   refine HTx.out.mono ?_
   rintro e w4 ⟨A4, rfl, hS4, hb4⟩
   have HB4 : Hid (∀ M, (∀ g ∈ M, g < w.heap.size) → Bs w4 M (.slice A4 L3.length L3.length) L3) := fun M hM => hS4 M (fun g hg => by have := hM g hg; have := Hb3.out.size; omega)
   have Hb4 := Lib.hid (below_then Hb3.out hb4)
   clear hS4 hb4 HTx cv
   go_wp2
   go_roundw
   case rel => exact ⟨x + 1, A4, L3, by go_num, by omega, rfl, HL2, HB4, Hb4⟩
   case measure => simp [intOf] <;> omega
  ·obtain rfl : x = es.length := by omega
   have hfin : Hid (L = lb ++ putLog es) := by
    show _ = _
    rw [HL.out, List.take_length, Hl0.out]
    unfold putLog
    rw [List.append_assoc]
   have hp : Hid (BsPost (lb ++ putLog es) w (.returned (.slice A' L.length L.length)) wr) := by
    show BsPost _ _ _ _
    rw [← hfin.out]
    exact ⟨A', rfl, HB.out, Hbr.out⟩
   go_wp2
   go_ret
   exact hp.out
def rowsEq (a b : List EntryD) : Bool := Lib.allEq sameE a b
/-- No row of an entry is too long to be counted. -/
def Cnt (l : List EntryD) : Prop := l.length ≤ 4611686018427387904 ∧ ∀ e ∈ l, e.ds.length ≤ 4611686018427387904
instance : Inhabited EntryD := ⟨⟨0, 0, 0, 0, 0, [], ⟨#[]⟩, 0, 0⟩⟩
theorem allEq_drop (a b : List EntryD) (x : Nat) (hx : x < a.length) (hy : x < b.length) : Lib.allEq sameE (a.drop x) (b.drop x) = (sameE a[x] b[x] && Lib.allEq sameE (a.drop (x + 1)) (b.drop (x + 1))) := by
 rw [List.drop_eq_getElem_cons hx, List.drop_eq_getElem_cons hy]
 rfl
set_option maxRecDepth 100000 in
set_option maxHeartbeats 1000000 in
theorem eqfunc_any (va vb : Value) (a b : List EntryD) (w : World) (ha : Ens w [] va a) (hb : Ens w [] vb b) (ca : Cnt a) (cb : Cnt b) :
  Calls Tryz.prog 195 #[va, vb, .func (.func 142) #[] #[]] w fun e w' => SamePost (rowsEq a b) w e w' := by
 have Ha := Lib.hid ha; have Hb := Lib.hid hb
 obtain ⟨Aa, ka, rfl, hka⟩ := ha.len
 obtain ⟨Ab, kb, rfl, hkb⟩ := hb.len
 have ha2 := ca.1; have hb2 := cb.1
 have Hca := Lib.hid ca.2; have Hcb := Lib.hid cb.2
 clear ha hb ca cb
 by_cases hne : a.length = b.length
 ·have hbn : ((a.length : Int) != (b.length : Int)) = false := by simp [hne]
  have Hne := Lib.hid hne
  have hHr : Hid (rowsEq a b = Lib.allEq sameE (a.drop 0) (b.drop 0)) := rfl
  clear hne
  go_enter Tryz.func195, Tryz.ntmps195
  go_wp2_with fail
  go_loopw [17] (fun i wr => ∃ x : Nat, i = .int .i64 x ∧ x ≤ a.length ∧ Hid (rowsEq a b = Lib.allEq sameE (a.drop x) (b.drop x)) ∧ Hid (Below w.heap.size w wr)) (fun i _ => a.length - (intOf i).toNat)
  case atStart => exact ⟨0, rfl, by omega, hHr, Below.refl _ _⟩
  case round =>
   obtain ⟨x, rfl, hx, Hq, Hbr⟩ := hrel
   by_cases hlt : x < a.length
   ·have hx1 : (x : Int) < (a.length : Int) := by omega
    have hx0 : (0 : Int) ≤ (x : Int) := by omega
    have hxb : x < b.length := by have := Hne.out; omega
    have hx2 : (x : Int) < (b.length : Int) := by omega
    have HQ2 : Hid (rowsEq a b = (sameE a[x] b[x] && Lib.allEq sameE (a.drop (x + 1)) (b.drop (x + 1)))) := by show _ = _; rw [Hq.out, allEq_drop a b x hlt hxb]
    obtain ⟨ga, oa, _, da, e1, _, _, hDa, hca⟩ := ens_at (Ha.out.keep (Keeps.of_below (M := []) Hbr.out) (by simp)) hlt
    obtain ⟨gb, ob, _, db, e2, _, _, hDb, hcb⟩ := ens_at (Hb.out.keep (Keeps.of_below (M := []) Hbr.out) (by simp)) hxb
    injection e1 with e1 _ e9
    injection e2 with e2 _ e8
    subst e1 e2
    clear e9 e8
    have hsm := Lib.hid (fun W (hk : Keeps [] wr W) => same_any a[x] b[x] da db W (hDa.keep hk (by simp)) (hDb.keep hk (by simp)) (Hca.out _ (List.getElem_mem _)) (Hcb.out _ (List.getElem_mem _)))
    obtain ⟨Da, na, rfl, _⟩ := hDa.len
    obtain ⟨Db, nb, rfl, _⟩ := hDb.len
    have a0 := hca 0 _ rfl; have a1 := hca 1 _ rfl; have a2 := hca 2 _ rfl; have a3 := hca 3 _ rfl; have a4 := hca 4 _ rfl; have a5 := hca 5 _ rfl; have a6 := hca 6 _ rfl; have a7 := hca 7 _ rfl; have a8 := hca 8 _ rfl
    have b0 := hcb 0 _ rfl; have b1 := hcb 1 _ rfl; have b2 := hcb 2 _ rfl; have b3 := hcb 3 _ rfl; have b4 := hcb 4 _ rfl; have b5 := hcb 5 _ rfl; have b6 := hcb 6 _ rfl; have b7 := hcb 7 _ rfl; have b8 := hcb 8 _ rfl
    rw [Nat.add_zero] at a0 b0
    clear hca hcb hDa hDb
    generalize a[x] = ea at *
    generalize b[x] = eb at *
    generalize sameE ea eb = sm at *
    obtain ⟨kind, ag, sh, seq, ep, ds, ser, fr, tag⟩ := ea
    obtain ⟨kind', ag', sh', seq', ep', ds', ser', fr', tag'⟩ := eb
    simp only [eCell] at hsm
    simp only [] at a0 a1 a2 a3 a4 a5 a6 a7 a8 b0 b1 b2 b3 b4 b5 b6 b7 b8
    obtain ⟨w1, hw1⟩ : ∃ w1, w1 = wr.alloc (.cells #[.int .i64 kind, .int .i64 ag, .int .i64 sh, .int .i64 seq, .int .i64 ep, .slice Da ds.length na, .string ser, .int .i64 fr, .int .i64 tag] 33) := ⟨_, rfl⟩
    have hk1 : Keeps [] wr w1 := by rw [hw1]; exact (Keeps.refl _ _).alloc _
    have HB1 := Lib.hid (show Blk w1 wr.heap.size 33 #[.int .i64 kind, .int .i64 ag, .int .i64 sh, .int .i64 seq, .int .i64 ep, .slice Da ds.length na, .string ser, .int .i64 fr, .int .i64 tag] by rw [hw1]; exact Blk.new wr _ _)
    have hgb : gb < wr.heap.size := World.block_lt_of_cell? wr _ b0
    have c0 := (hk1.cell (p := ⟨gb, ob + x * 9, none⟩) hgb (by simp)).trans b0
    have c1 := (hk1.cell (p := ⟨gb, ob + x * 9 + 1, none⟩) hgb (by simp)).trans b1
    have c2 := (hk1.cell (p := ⟨gb, ob + x * 9 + 2, none⟩) hgb (by simp)).trans b2
    have c3 := (hk1.cell (p := ⟨gb, ob + x * 9 + 3, none⟩) hgb (by simp)).trans b3
    have c4 := (hk1.cell (p := ⟨gb, ob + x * 9 + 4, none⟩) hgb (by simp)).trans b4
    have c5 := (hk1.cell (p := ⟨gb, ob + x * 9 + 5, none⟩) hgb (by simp)).trans b5
    have c6 := (hk1.cell (p := ⟨gb, ob + x * 9 + 6, none⟩) hgb (by simp)).trans b6
    have c7 := (hk1.cell (p := ⟨gb, ob + x * 9 + 7, none⟩) hgb (by simp)).trans b7
    have c8 := (hk1.cell (p := ⟨gb, ob + x * 9 + 8, none⟩) hgb (by simp)).trans b8
    have Hw1 := Lib.hid hw1; have Hk1 := Lib.hid hk1
    have Hs1 := Lib.hid (hsm.out (w1.alloc (.cells #[.int .i64 kind', .int .i64 ag', .int .i64 sh', .int .i64 seq', .int .i64 ep', .slice Db ds'.length nb, .string ser', .int .i64 fr', .int .i64 tag'] 33)) (hk1.alloc _))
    clear hw1 hk1 hsm b0 b1 b2 b3 b4 b5 b6 b7 b8 hgb
    go_upto_region 6 with (fail)
    rw [← Hw1.out]
    clear a0 a1 a2 a3 a4 a5 a6 a7 a8
    generalize wr.heap.size = g1 at *
    have hg1 : g1 < w1.heap.size := HB1.out.lt
    obtain ⟨w2, hw2⟩ : ∃ w2, w2 = w1.alloc (.cells #[.int .i64 kind', .int .i64 ag', .int .i64 sh', .int .i64 seq', .int .i64 ep', .slice Db ds'.length nb, .string ser', .int .i64 fr', .int .i64 tag'] 33) := ⟨_, rfl⟩
    have hB2 : Blk w2 w1.heap.size 33 #[.int .i64 kind', .int .i64 ag', .int .i64 sh', .int .i64 seq', .int .i64 ep', .slice Db ds'.length nb, .string ser', .int .i64 fr', .int .i64 tag'] := by rw [hw2]; exact Blk.new w1 _ _
    have hB1 : Blk w2 g1 33 #[.int .i64 kind, .int .i64 ag, .int .i64 sh, .int .i64 seq, .int .i64 ep, .slice Da ds.length na, .string ser, .int .i64 fr, .int .i64 tag] := by rw [hw2]; exact HB1.out.below (below_new' _ _) hg1
    have Hb2 : Hid (Below w.heap.size w w2) := by rw [hw2]; exact ((Keeps.of_below (M := []) Hbr.out).trans (Hk1.out.alloc _) (by simp)).below
    rw [← hw2] at Hs1
    have HB2 := Lib.hid hB2; have HB1 := Lib.hid hB1; have Hw2 := Lib.hid hw2
    clear hB2 hB1 hw2
    go_upto_region 7 with (fail)
    rw [← Hw2.out]
    clear c0 c1 c2 c3 c4 c5 c6 c7 c8
    generalize w1.heap.size = g2 at *
    obtain ⟨q0, q1, q2, q3, q4, q5, q6, q7, q8, qf⟩ := blk9 HB1.out
    obtain ⟨r0, r1, r2, r3, r4, r5, r6, r7, r8, rf⟩ := blk9 HB2.out
    go_wp2_with fail
    refine Hs1.out.mono ?_
    rintro e w3 ⟨rfl, hb3⟩
    have Hb3 := Lib.hid (below_then Hb2.out hb3)
    clear hb3 Hs1 q0 q1 q2 q3 q4 q5 q6 q7 q8 qf r0 r1 r2 r3 r4 r5 r6 r7 r8 rf
    cases sm with
    | true =>
     have HQ3 : Hid (rowsEq a b = Lib.allEq sameE (a.drop (x + 1)) (b.drop (x + 1))) := by show _ = _; rw [HQ2.out]; rfl
     clear HQ2
     go_wp2
     go_roundw
     case rel => exact ⟨x + 1, by go_num, by omega, HQ3, Hb3⟩
     case measure => simp [intOf] <;> omega
    | false =>
     have hR : Hid (rowsEq a b = false) := by show _ = _; rw [HQ2.out]; rfl
     clear HQ2
     go_wp2
     go_ret
     exact ⟨ret_bool hR.out.symm, Hb3.out⟩
   ·obtain rfl : x = a.length := by omega
    have hR : Hid (rowsEq a b = true) := by
     show _ = _
     rw [Hq.out, List.drop_length, List.drop_eq_nil_of_le (by have := Hne.out; omega)]
     rfl
    go_wp2
    go_ret
    exact ⟨ret_bool hR.out.symm, Hbr.out⟩
 ·have hR : Hid (rowsEq a b = false) := Lib.allEq_len sameE a b hne
  have hbn : ((a.length : Int) != (b.length : Int)) = true := by simp; omega
  rw [hR.out]
  clear hne
  go_enter Tryz.func195, Tryz.ntmps195
  go_wp2
  go_ret
  exact ⟨rfl, Below.refl _ _⟩
theorem rows_any (va vb : Value) (a b : List EntryD) (w : World) (ha : Ens w [] va a) (hb : Ens w [] vb b) (ca : Cnt a) (cb : Cnt b) :
  Calls Tryz.prog 143 #[va, vb] w fun e w' => SamePost (rowsEq a b) w e w' := by
 have h := Lib.hid (eqfunc_any va vb a b w ha hb ca cb)
 obtain ⟨Aa, ka, rfl, hka⟩ := ha.len
 obtain ⟨Ab, kb, rfl, hkb⟩ := hb.len
 clear ha hb ca cb
 generalize rowsEq a b = R at *
 go_enter Tryz.func143, Tryz.ntmps143
 go_wp2_with fail
 refine h.out.mono ?_
 rintro e w' ⟨rfl, hb⟩
 have Hb := Lib.hid hb
 clear hb
 go_wp2
 go_ret
 exact ⟨rfl, Hb.out⟩
structure MsgD where
 kd : Int
 en : EntryD
 tag : Int
 code : Int
 nn : Int
 term : Int
 had : Int
 log : List EntryD
 commit : Int
 len : Int
def mCell (m : MsgD) (dv lv : Value) : List Value := .int .i64 m.kd :: (eCell (m.en, dv) ++ [.int .i64 m.tag, .int .i64 m.code, .int .u64 m.nn, .int .i64 m.term, .int .i64 m.had, lv, .int .i64 m.commit, .int .i64 m.len])
/-- A message's slices read as its deltas and its row. -/
def MsgAt (w : World) (M : List Nat) (m : MsgD) (dv lv : Value) : Prop := Ds w M dv m.en.ds ∧ Ens w M lv m.log
theorem MsgAt.keep {w w' : World} {M M' : List Nat} {m : MsgD} {dv lv : Value} (h : MsgAt w M m dv lv) (k : Keeps M' w w') (hM : ∀ g ∈ M', g ∈ M ∨ w.heap.size ≤ g) : MsgAt w' M m dv lv := ⟨h.1.keep k hM, h.2.keep k hM⟩
theorem MsgAt.avoid {w : World} {M M' : List Nat} {m : MsgD} {dv lv : Value} (h : MsgAt w M m dv lv) (hM : ∀ g ∈ M', g ∈ M ∨ w.heap.size ≤ g) : MsgAt w M' m dv lv := ⟨h.1.avoid hM, h.2.avoid hM⟩
def MCnt (m : MsgD) : Prop := m.en.ds.length ≤ 4611686018427387904 ∧ Cnt m.log
theorem blk18 {w : World} {g : Nat} {t : TypeId} {c0 c1 c2 c3 c4 c5 c6 c7 c8 c9 ca cb cc cd ce cf cg ch : Value} (h : Blk w g t #[c0, c1, c2, c3, c4, c5, c6, c7, c8, c9, ca, cb, cc, cd, ce, cf, cg, ch]) :
  w.cell? ⟨g, 0, none⟩ = some c0 ∧ w.cell? ⟨g, 1, none⟩ = some c1 ∧ w.cell? ⟨g, 2, none⟩ = some c2 ∧ w.cell? ⟨g, 3, none⟩ = some c3 ∧ w.cell? ⟨g, 4, none⟩ = some c4 ∧ w.cell? ⟨g, 5, none⟩ = some c5 ∧ w.cell? ⟨g, 6, none⟩ = some c6 ∧ w.cell? ⟨g, 7, none⟩ = some c7 ∧ w.cell? ⟨g, 8, none⟩ = some c8 ∧ w.cell? ⟨g, 9, none⟩ = some c9 ∧ w.cell? ⟨g, 10, none⟩ = some ca ∧ w.cell? ⟨g, 11, none⟩ = some cb ∧ w.cell? ⟨g, 12, none⟩ = some cc ∧ w.cell? ⟨g, 13, none⟩ = some cd ∧ w.cell? ⟨g, 14, none⟩ = some ce ∧ w.cell? ⟨g, 15, none⟩ = some cf ∧ w.cell? ⟨g, 16, none⟩ = some cg ∧ w.cell? ⟨g, 17, none⟩ = some ch ∧ (∀ i, w.frozen? ⟨g, i, none⟩ = false) :=
 ⟨h.cell 0, h.cell 1, h.cell 2, h.cell 3, h.cell 4, h.cell 5, h.cell 6, h.cell 7, h.cell 8, h.cell 9, h.cell 10, h.cell 11, h.cell 12, h.cell 13, h.cell 14, h.cell 15, h.cell 16, h.cell 17, h.frozen⟩
/-- Are messages the same? -/
def sameM (a b : MsgD) : Bool := sameE a.en b.en && rowsEq a.log b.log && (a.kd == b.kd && a.tag == b.tag && a.code == b.code && a.nn == b.nn && a.term == b.term && a.had == b.had && a.commit == b.commit && a.len == b.len)
set_option maxRecDepth 100000 in
set_option maxHeartbeats 2000000 in
theorem msame_any (a b : MsgD) (da la db lb : Value) (w : World) (ha : MsgAt w [] a da la) (hb : MsgAt w [] b db lb) (ca : MCnt a) (cb : MCnt b) :
  Calls Tryz.prog 114 #[.agg (mCell a da la).toArray, .agg (mCell b db lb).toArray] w fun r w' => SamePost (sameM a b) w r w' := by
 have hse := Lib.hid (fun W (hk : Keeps [] w W) => same_any a.en b.en da db W (ha.1.keep hk (by simp)) (hb.1.keep hk (by simp)) ca.1 cb.1)
 have hro := Lib.hid (fun W (hk : Keeps [] w W) => rows_any la lb a.log b.log W (ha.2.keep hk (by simp)) (hb.2.keep hk (by simp)) ca.2 cb.2)
 have HS : Hid (sameM a b = (sameE a.en b.en && rowsEq a.log b.log && (a.kd == b.kd && a.tag == b.tag && a.code == b.code && a.nn == b.nn && a.term == b.term && a.had == b.had && a.commit == b.commit && a.len == b.len))) := rfl
 obtain ⟨Aa, na, rfl, _⟩ := ha.1.len
 obtain ⟨Ab, nb, rfl, _⟩ := hb.1.len
 obtain ⟨Ba, ka, rfl, _⟩ := ha.2.len
 obtain ⟨Bb, kb, rfl, _⟩ := hb.2.len
 generalize sameM a b = R at *
 generalize sameE a.en b.en = s1 at *
 generalize rowsEq a.log b.log = s2 at *
 clear ha hb ca cb
 obtain ⟨kd, ⟨kind, ag, sh, seq, ep, ds, ser, fr, etg⟩, tag, code, nn, term, had, log, commit, len⟩ := a
 obtain ⟨kdz, ⟨kindz, agz, shz, seqz, epz, dsz, serz, frz, etgz⟩, tagz, codez, nnz, termz, hadz, logz, commitz, lenz⟩ := b
 simp only [eCell] at hse
 simp only [] at HS hro
 generalize ds.length = dn at *
 generalize dsz.length = dnz at *
 generalize log.length = ln at *
 generalize logz.length = lnz at *
 simp only [mCell, eCell, List.cons_append, List.nil_append]
 obtain ⟨w2, hw2⟩ : ∃ w2, w2 = (w.alloc (.cells #[.int .i64 kd, .int .i64 kind, .int .i64 ag, .int .i64 sh, .int .i64 seq, .int .i64 ep, .slice Aa dn na, .string ser, .int .i64 fr, .int .i64 etg, .int .i64 tag, .int .i64 code, .int .u64 nn, .int .i64 term, .int .i64 had, .slice Ba ln ka, .int .i64 commit, .int .i64 len] 37)).alloc (.cells #[.int .i64 kdz, .int .i64 kindz, .int .i64 agz, .int .i64 shz, .int .i64 seqz, .int .i64 epz, .slice Ab dnz nb, .string serz, .int .i64 frz, .int .i64 etgz, .int .i64 tagz, .int .i64 codez, .int .u64 nnz, .int .i64 termz, .int .i64 hadz, .slice Bb lnz kb, .int .i64 commitz, .int .i64 lenz] 37) := ⟨_, rfl⟩
 have hk2 : Keeps [] w w2 := by rw [hw2]; exact ((Keeps.refl _ _).alloc _).alloc _
 have hBa : Blk w2 w.heap.size 37 #[.int .i64 kd, .int .i64 kind, .int .i64 ag, .int .i64 sh, .int .i64 seq, .int .i64 ep, .slice Aa dn na, .string ser, .int .i64 fr, .int .i64 etg, .int .i64 tag, .int .i64 code, .int .u64 nn, .int .i64 term, .int .i64 had, .slice Ba ln ka, .int .i64 commit, .int .i64 len] := by rw [hw2]; exact (Blk.new w _ _).below (below_new' _ _) (by simp)
 have hBb : Blk w2 (w.heap.size + 1) 37 #[.int .i64 kdz, .int .i64 kindz, .int .i64 agz, .int .i64 shz, .int .i64 seqz, .int .i64 epz, .slice Ab dnz nb, .string serz, .int .i64 frz, .int .i64 etgz, .int .i64 tagz, .int .i64 codez, .int .u64 nnz, .int .i64 termz, .int .i64 hadz, .slice Bb lnz kb, .int .i64 commitz, .int .i64 lenz] := by
  have := Blk.new (w.alloc (.cells #[.int .i64 kd, .int .i64 kind, .int .i64 ag, .int .i64 sh, .int .i64 seq, .int .i64 ep, .slice Aa dn na, .string ser, .int .i64 fr, .int .i64 etg, .int .i64 tag, .int .i64 code, .int .u64 nn, .int .i64 term, .int .i64 had, .slice Ba ln ka, .int .i64 commit, .int .i64 len] 37)) 37 #[.int .i64 kdz, .int .i64 kindz, .int .i64 agz, .int .i64 shz, .int .i64 seqz, .int .i64 epz, .slice Ab dnz nb, .string serz, .int .i64 frz, .int .i64 etgz, .int .i64 tagz, .int .i64 codez, .int .u64 nnz, .int .i64 termz, .int .i64 hadz, .slice Bb lnz kb, .int .i64 commitz, .int .i64 lenz]
  rw [hw2]; simpa using this
 have Hw2 := Lib.hid hw2; have HBa := Lib.hid hBa; have HBb := Lib.hid hBb; have Hk2 := Lib.hid hk2
 have Hs1 := Lib.hid (hse.out w2 hk2)
 clear hw2 hBa hBb hk2 hse
 show Calls Tryz.prog 114 #[.agg #[.int .i64 kd, .int .i64 kind, .int .i64 ag, .int .i64 sh, .int .i64 seq, .int .i64 ep, .slice Aa dn na, .string ser, .int .i64 fr, .int .i64 etg, .int .i64 tag, .int .i64 code, .int .u64 nn, .int .i64 term, .int .i64 had, .slice Ba ln ka, .int .i64 commit, .int .i64 len], .agg #[.int .i64 kdz, .int .i64 kindz, .int .i64 agz, .int .i64 shz, .int .i64 seqz, .int .i64 epz, .slice Ab dnz nb, .string serz, .int .i64 frz, .int .i64 etgz, .int .i64 tagz, .int .i64 codez, .int .u64 nnz, .int .i64 termz, .int .i64 hadz, .slice Bb lnz kb, .int .i64 commitz, .int .i64 lenz]] w fun r w' => SamePost R w r w'
 go_enter Tryz.func114, Tryz.ntmps114
 go_upto_region 1 with (fail)
 rw [← Hw2.out]
 have hg1 : w.heap.size + 1 < w2.heap.size := HBb.out.lt
 generalize hgs : w.heap.size = g at HBa HBb hg1 ⊢
 have Hgs := Lib.hid hgs
 clear Hw2 hgs
 obtain ⟨q0, q1, q2, q3, q4, q5, q6, q7, q8, q9, qa, qb, qc, qd, qe, qf, qg, qh, _⟩ := blk18 HBa.out
 obtain ⟨r0, r1, r2, r3, r4, r5, r6, r7, r8, r9, ra, rb, rc, rd, re, rf, rg, rh, _⟩ := blk18 HBb.out
 go_wp2_with fail
 refine Hs1.out.mono ?_
 rintro e w3 ⟨rfl, hb3⟩
 have HBa3 := Lib.hid (HBa.out.below hb3 (by omega)); have HBb3 := Lib.hid (HBb.out.below hb3 hg1)
 have Hk3 := Lib.hid (Hk2.out.trans (Keeps.of_below (M := []) hb3) (by simp))
 have hg3 : g + 1 < w3.heap.size := HBb3.out.lt
 clear hb3 Hs1 HBa HBb Hk2 q0 q1 q2 q3 q4 q5 q6 q7 q8 q9 qa qb qc qd qe qf qg qh r0 r1 r2 r3 r4 r5 r6 r7 r8 r9 ra rb rc rd re rf rg rh
 cases s1 with
 | false =>
  obtain rfl : R = false := by rw [HS.out]; simp
  go_wp2
  go_ret
  exact ⟨rfl, Hk3.out.below⟩
 | true =>
  have Hro := Lib.hid (hro.out w3 Hk3.out)
  clear hro
  obtain ⟨q0, q1, q2, q3, q4, q5, q6, q7, q8, q9, qa, qb, qc, qd, qe, qf, qg, qh, _⟩ := blk18 HBa3.out
  obtain ⟨r0, r1, r2, r3, r4, r5, r6, r7, r8, r9, ra, rb, rc, rd, re, rf, rg, rh, _⟩ := blk18 HBb3.out
  go_wp2_with fail
  refine Hro.out.mono ?_
  rintro e w4 ⟨rfl, hb4⟩
  have HBa4 := Lib.hid (HBa3.out.below hb4 (by omega)); have HBb4 := Lib.hid (HBb3.out.below hb4 hg3)
  have Hk4 := Lib.hid (Hk3.out.trans (Keeps.of_below (M := []) hb4) (by simp))
  clear hb4 Hro HBa3 HBb3 Hk3 q0 q1 q2 q3 q4 q5 q6 q7 q8 q9 qa qb qc qd qe qf qg qh r0 r1 r2 r3 r4 r5 r6 r7 r8 r9 ra rb rc rd re rf rg rh
  cases s2 with
  | false =>
   obtain rfl : R = false := by rw [HS.out]; simp
   go_wp2
   go_ret
   exact ⟨rfl, Hk4.out.below⟩
  | true =>
   obtain ⟨q0, q1, q2, q3, q4, q5, q6, q7, q8, q9, qa, qb, qc, qd, qe, qf, qg, qh, _⟩ := blk18 HBa4.out
   obtain ⟨r0, r1, r2, r3, r4, r5, r6, r7, r8, r9, ra, rb, rc, rd, re, rf, rg, rh, _⟩ := blk18 HBb4.out
   cases h0 : (kd == kdz) with
   | false =>
    obtain rfl : R = false := by rw [HS.out, h0]; simp
    clear HS
    go_wp2
    go_ret
    exact ⟨rfl, Hk4.out.below⟩
   | true =>
    cases h1 : (tag == tagz) with
    | false =>
     obtain rfl : R = false := by rw [HS.out, h0, h1]; simp
     clear HS
     go_wp2
     go_ret
     exact ⟨rfl, Hk4.out.below⟩
    | true =>
     cases h2 : (code == codez) with
     | false =>
      obtain rfl : R = false := by rw [HS.out, h0, h1, h2]; simp
      clear HS
      go_wp2
      go_ret
      exact ⟨rfl, Hk4.out.below⟩
     | true =>
      cases h3 : (nn == nnz) with
      | false =>
       obtain rfl : R = false := by rw [HS.out, h0, h1, h2, h3]; simp
       clear HS
       go_wp2
       go_ret
       exact ⟨rfl, Hk4.out.below⟩
      | true =>
       cases h4 : (term == termz) with
       | false =>
        obtain rfl : R = false := by rw [HS.out, h0, h1, h2, h3, h4]; simp
        clear HS
        go_wp2
        go_ret
        exact ⟨rfl, Hk4.out.below⟩
       | true =>
        cases h5 : (had == hadz) with
        | false =>
         obtain rfl : R = false := by rw [HS.out, h0, h1, h2, h3, h4, h5]; simp
         clear HS
         go_wp2
         go_ret
         exact ⟨rfl, Hk4.out.below⟩
        | true =>
         cases h6 : (commit == commitz) with
         | false =>
          obtain rfl : R = false := by rw [HS.out, h0, h1, h2, h3, h4, h5, h6]; simp
          clear HS
          go_wp2
          go_ret
          exact ⟨rfl, Hk4.out.below⟩
         | true =>
          cases h7 : (len == lenz) with
          | false =>
           obtain rfl : R = false := by rw [HS.out, h0, h1, h2, h3, h4, h5, h6, h7]; simp
           clear HS
           go_wp2
           go_ret
           exact ⟨rfl, Hk4.out.below⟩
          | true =>
           obtain rfl : R = true := by rw [HS.out, h0, h1, h2, h3, h4, h5, h6, h7]; simp
           clear HS
           go_wp2
           go_ret
           exact ⟨rfl, Hk4.out.below⟩
end Go.Proofs.YtdaceeijifjpeaaGreatDoor.Vi
end
