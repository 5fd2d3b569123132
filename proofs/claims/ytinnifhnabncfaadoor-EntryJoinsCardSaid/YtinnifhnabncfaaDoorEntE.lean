/- Plain words: an entry of a tape is right; two entries are the same just where their bytes are. -/
import Derived.Test.YtinnifhnabncfaaDoorEntK
import Derived.Test.YtinnifhnabncfaaDoorTape3
namespace Go.Proofs.YtinnifhnabncfaaDoor.Vi
open Go.RowKit Base Mem Tape
theorem toList_inj {a b : ByteArray} (h : a.toList = b.toList) : a = b := by
  rw [Lib.toList_data, Lib.toList_data] at h
  obtain ⟨⟨a⟩⟩ := a
  obtain ⟨⟨b⟩⟩ := b
  simp only [] at h
  rw [h]
set_option maxRecDepth 100000 in
theorem names_ok : (nameL.all fun l => serOk ⟨l.toArray⟩) = true := by decide +kernel
theorem names_len : (nameL.all fun l => decide (l.length ≤ 100)) = true := by decide
theorem name_ser {s : ByteArray} (h : NameOk s) : serOk s = true ∧ s.size ≤ 100 := by
  obtain ⟨l, hl, rfl⟩ := h
  refine ⟨List.all_eq_true.1 names_ok l hl, ?_⟩
  have := List.all_eq_true.1 names_len l hl
  show l.toArray.size ≤ 100
  simpa using this
theorem entry_right {e : EntryD} (h : EntryOk e) : rightE e = 0 ∧ Short e ∧ Wf e := by
  obtain ⟨h1, h2, h3, h4, h5⟩ := h
  have hw : withinB e.fr 8 = true := by simp [withinB]; omega
  have ht : decide (e.tag < 0) = false := decide_eq_false (by omega)
  rcases h5 with ⟨hk, hn, ha, hs, hq, hp, hd⟩ | ⟨hk, hse, a0, a1, s0, s1, q0, q1, p0, p1, d0, d1, hd⟩
  · obtain ⟨hser, hsz⟩ := (name_ser hn)
    refine ⟨?_, ⟨by omega, by simp [hd], by simp [hd]⟩, by omega, by omega, by omega, by simp [hd]⟩
    unfold rightE kindS
    rw [hw, ht, hk, ha, hs, hq, hp, hd, hser]
    rfl
  · refine ⟨?_, ⟨by rw [hse]; decide, fun d hx => by have := (name_ser (hd d hx).1).2; omega, by omega⟩, by omega, by omega, by omega, fun d hx => ⟨by have := (hd d hx).2; omega, by have := (hd d hx).2; omega⟩⟩
    have hb : badId e = false := by
      unfold badId withinB
      simp; omega
    have h0 : (e.ds.length == 0 || e.ds.any fun d => d.n == 0) = false := by
      rw [Bool.or_eq_false_iff]
      refine ⟨by simp; intro h; rw [h] at d0; simp at d0, ?_⟩
      rw [List.any_eq_false]
      intro d hx
      have := (hd d hx).2
      simp; omega
    have hall : (e.ds.all fun d => serOk d.ser) = true := by
      rw [List.all_eq_true]
      exact fun d hx => (name_ser (hd d hx).1).1
    have hse2 : e.ser.toList.isEmpty = true := by rw [hse]; decide +kernel
    unfold rightE kindS writtenS
    rw [hw, ht, hb, h0, hall, hk, hse2, if_neg (by simp), if_neg (by simp), if_pos rfl, if_neg (by simp), if_neg (by omega), if_neg (by simp), if_pos rfl]
theorem dsEq_iff (a b : List DeltaD) : dsEq a b = true ↔ a = b := by
  unfold dsEq
  induction a generalizing b with
  | nil => cases b <;> simp [Lib.allEq]
  | cons x a ih =>
    cases b with
    | nil => simp [Lib.allEq]
    | cons y b =>
      obtain ⟨xs, xn⟩ := x
      obtain ⟨ys, yn⟩ := y
      simp only [Lib.allEq, Bool.and_eq_true, ih, dEq, beq_iff_eq, List.cons.injEq, DeltaD.mk.injEq]
      constructor
      · rintro ⟨⟨h1, h2⟩, h3⟩; exact ⟨⟨toList_inj h1, h2⟩, h3⟩
      · rintro ⟨⟨rfl, rfl⟩, rfl⟩; exact ⟨⟨rfl, rfl⟩, rfl⟩
theorem sameE_iff (a b : EntryD) : sameE a b = true ↔ a = b := by
  obtain ⟨k, ag, sh, sq, ep, ds, se, fr, tg⟩ := a
  obtain ⟨k', ag', sh', sq', ep', ds', se', fr', tg'⟩ := b
  simp only [sameE, eqI, Bool.and_eq_true, dsEq_iff, beq_iff_eq, EntryD.mk.injEq]
  constructor
  · rintro ⟨⟨⟨⟨⟨⟨h1, h2, h3, h4⟩, h5⟩, h6⟩, h7⟩, h8⟩, h9⟩
    exact ⟨h1, h2, h3, h4, h5, h6, toList_inj h7, h8, h9⟩
  · rintro ⟨h1, h2, h3, h4, h5, h6, h7, h8, h9⟩
    exact ⟨⟨⟨⟨⟨⟨h1, h2, h3, h4⟩, h5⟩, h6⟩, by rw [h7]⟩, h8⟩, h9⟩
theorem bytes_same {a b : EntryD} (ha : rightE a = 0) (hb : rightE b = 0) (wa : Wf a) (wb : Wf b) (sa : Short a) (sb : Short b) : (bytesE a = bytesE b) ↔ sameE a b = true := by
  rw [sameE_iff]
  constructor
  · intro h
    have h1 := read_bytes a ha wa sa
    have h2 := read_bytes b hb wb sb
    rw [h, h2] at h1
    exact (Prod.mk.inj h1).1.symm
  · rintro rfl; rfl
theorem dBytes_len2 (ds : List DeltaD) (h : ∀ d ∈ ds, d.ser.size ≤ 100) (hn : ∀ d ∈ ds, NOk d) : (ds.flatMap dBytes).length ≤ ds.length * 120 := by
  induction ds with
  | nil => simp
  | cons d ds ih =>
    have h1 := ih (fun x hx => h x (by simp [hx])) (fun x hx => hn x (by simp [hx]))
    have h2 := h d (by simp)
    obtain ⟨h3, h4⟩ := hn d (by simp)
    have h5 := Lib.uvarint_length64 (x := d.ser.size) (by omega)
    have h6 := Lib.uvarint_length64 (x := d.n.toNat) (by omega)
    have h7 : (dBytes d).length = (Lib.uvarint d.ser.size).length + d.ser.size + (Lib.uvarint d.n.toNat).length := by
      unfold dBytes; rw [List.length_append, List.length_append]; rfl
    rw [List.flatMap_cons, List.length_append, List.length_cons]
    omega
theorem bytesE_len {e : EntryD} (h : EntryOk e) : (bytesE e).length ≤ 1200 := by
  obtain ⟨hr, _, hw1, hw2, hw3, hw4⟩ := entry_right h
  obtain ⟨h1, h2, h3, h4, h5⟩ := h
  have u1 := Lib.uvarint_length64 (x := e.fr.toNat) (by omega)
  have u2 := Lib.uvarint_length64 (x := e.tag.toNat) (by omega)
  unfold bytesE headB
  rcases h5 with ⟨hk, hn, _⟩ | ⟨hk, _, a0, a1, s0, s1, q0, q1, p0, p1, d0, d1, hd⟩
  · have h6 := (name_ser hn).2
    have u3 := Lib.uvarint_length64 (x := e.ser.size) (by omega)
    have h7 : (sB e.ser).length = e.ser.size := rfl
    rw [if_pos hk]
    simp only [List.length_append, List.length_singleton]
    omega
  · have u3 := Lib.uvarint_length64 (x := e.ag.toNat) (by omega)
    have u4 := Lib.uvarint_length64 (x := e.sh.toNat) (by omega)
    have u5 := Lib.uvarint_length64 (x := e.seq.toNat) (by omega)
    have u6 := Lib.uvarint_length64 (x := e.ep.toNat) (by omega)
    have u7 := Lib.uvarint_length64 (x := e.ds.length) (by omega)
    have h8 := dBytes_len2 e.ds (fun d hx => (name_ser (hd d hx).1).2) hw4
    rw [if_neg (by omega)]
    simp only [List.length_append, List.length_singleton]
    omega
theorem ebytes_ok (e : EntryD) (dv : Value) (m : Int) (w : World) (hr0 : rightE e = 0) (h : Ds w [] dv e.ds) (hs : Short e) (hw : Wf e) (hm : w.cell? ⟨0, 0, none⟩ = some (.int .i64 m)) :
    Calls Tryd.prog 8 #[.agg (eCell (e, dv)).toArray] w fun r w' => EB0 (bytesE e) w r w' := by
  rcases (right_facts hr0).2 with hk | ⟨hk, _⟩
  · exact ebytes_2 e dv m w hk hr0 h hs hw hm
  · exact ebytes_1 e dv m w hk hr0 h hs hw hm
end Go.Proofs.YtinnifhnabncfaaDoor.Vi
