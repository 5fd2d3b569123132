/- Texts put together: RefG, RefO, RefP, TNum0. -/
import Derived.Test.YtinnifhnabncfaaGreatDoorET5
import Derived.Test.YtinnifhnabncfaaGreatDoorET7
import Derived.Test.YtinnifhnabncfaaGreatDoorET8
set_option linter.unusedVariables false
set_option linter.unusedSimpArgs false
/- Contract of hopperref4.Bytes. -/
section
namespace Go.Proofs.YtinnifhnabncfaaGreatDoor.Vi
open Go.RowKit Base Mem Go.Shelf
theorem rblk9G {w : World} {g : Nat} {t : TypeId} {c0 c1 c2 c3 c4 c5 c6 c7 c8 : Value} (h : Blk w g t #[c0, c1, c2, c3, c4, c5, c6, c7, c8]) :
    w.cell? ⟨g, 0, none⟩ = some c0 ∧ w.cell? ⟨g, 1, none⟩ = some c1 ∧ w.cell? ⟨g, 2, none⟩ = some c2 ∧ w.cell? ⟨g, 3, none⟩ = some c3 ∧ w.cell? ⟨g, 4, none⟩ = some c4 ∧ w.cell? ⟨g, 5, none⟩ = some c5 ∧ w.cell? ⟨g, 6, none⟩ = some c6 ∧ w.cell? ⟨g, 7, none⟩ = some c7 ∧ w.cell? ⟨g, 8, none⟩ = some c8 ∧ (∀ i, w.frozen? ⟨g, i, none⟩ = false) :=
  ⟨h.cell 0, h.cell 1, h.cell 2, h.cell 3, h.cell 4, h.cell 5, h.cell 6, h.cell 7, h.cell 8, h.frozen⟩
theorem bs_new (w : World) (x : UInt8) : Bs (w.alloc (.cells #[.int .u8 x.toNat] 5)) [] (.slice (some ⟨w.heap.size, 0, none⟩) 1 1) [x] :=
  ⟨_, _, rfl, Nat.le_refl _, rfl, fun _ => ⟨w.heap.size, 0, rfl, (Blk.new w 5 #[.int .u8 x.toNat]).lt, by simp, fun j u hu => by rw [Nat.zero_add, (Blk.new w 5 #[.int .u8 x.toNat]).cell]; simpa [bV] using hu⟩⟩
set_option maxRecDepth 100000 in
set_option maxHeartbeats 4000000 in
theorem rbytes_2 (e : EntryD) (dv : Value) (w : World) (hkind : e.kind = 2) (hr0 : rightE e = 0) (h : Ds w [] dv e.ds) (hs : Short e) (hw : Wf e) :
    Calls Tryz.prog 19 #[.agg (eCell (e, dv)).toArray] w fun r w' => OwnB (bytesE e) w r w' := by
  obtain ⟨⟨hf0, hf8, ht0⟩, hrest⟩ := right_facts hr0
  obtain ⟨hw1, hw2, hw3, hw4⟩ := hw
  obtain ⟨hs1, hs2, hs3⟩ := hs
  have HD := Lib.hid h
  obtain ⟨A, c, rfl, hc⟩ := h.len
  have HBE : Hid (bytesE e = headB e.kind.toNat e.fr.toNat e.tag.toNat ++ (if e.kind = 2 then Lib.uvarint e.ser.size ++ sB e.ser else Lib.uvarint e.ag.toNat ++ Lib.uvarint e.sh.toNat ++ Lib.uvarint e.seq.toNat ++ Lib.uvarint e.ep.toNat ++ Lib.uvarint e.ds.length ++ e.ds.flatMap dBytes)) := rfl
  clear hr0 h
  generalize bytesE e = be at *
  obtain ⟨kind, ag, sh, seq, ep, ds, ser, fr, tag⟩ := e
  simp only [] at hkind hf0 hf8 ht0 hrest hw1 hw2 hw3 hw4 hs1 hs2 hs3 hc HBE HD
  subst hkind
  obtain ⟨fr, rfl⟩ := Int.eq_ofNat_of_zero_le hf0
  obtain ⟨tag, rfl⟩ := Int.eq_ofNat_of_zero_le ht0
  have ht9 : tag < 18446744073709551616 := by omega
  have hfr9 : fr < 18446744073709551616 := by omega
  have hwf : IntKind.u64.wrap (fr : Int) = (fr : Int) := by rw [IntKind.wrap_u64]; omega
  have hwt : IntKind.u64.wrap (tag : Int) = (tag : Int) := by rw [IntKind.wrap_u64]; omega
  have hwk : IntKind.u8.wrap 2 = 2 := by decide
  rw [Int.toNat_natCast, Int.toNat_natCast] at HBE
  have HBE2 : Hid (be = [UInt8.ofNat 2] ++ Lib.uvarint fr ++ Lib.uvarint tag ++ Lib.uvarint ser.size ++ sB ser) := by
    show _ = _
    rw [HBE.out, if_pos rfl]
    simp only [headB, List.append_assoc]
    rfl
  clear hrest hf0 ht0
  have Hw4 := Lib.hid hw4
  clear HBE hw4 hs2
  obtain ⟨w2, hw2⟩ : ∃ w2, w2 = w.alloc (.cells #[.int .i64 2, .int .i64 ag, .int .i64 sh, .int .i64 seq, .int .i64 ep, .slice A ds.length c, .string ser, .int .i64 fr, .int .i64 tag] 26) := ⟨_, rfl⟩
  have hB : Blk w2 w.heap.size 26 #[.int .i64 2, .int .i64 ag, .int .i64 sh, .int .i64 seq, .int .i64 ep, .slice A ds.length c, .string ser, .int .i64 fr, .int .i64 tag] := by rw [hw2]; exact Blk.new w _ _
  have hbw2 : Below w.heap.size w w2 := by rw [hw2]; exact (Below.refl _ _).alloc (Nat.le_refl _) _
  have Hbw2 := Lib.hid hbw2; have Hw2 := Lib.hid hw2
  have HD2 := Lib.hid (HD.out.keep (Keeps.of_below (M := []) hbw2) (by simp))
  obtain ⟨c0, c1, c2, c3, c4, c5, c6, c7, c8, _⟩ := rblk9G hB
  have hg1 : w.heap.size < w2.heap.size := hB.lt
  clear hw2 hB hbw2
  show Calls Tryz.prog 19 #[.agg #[.int .i64 2, .int .i64 ag, .int .i64 sh, .int .i64 seq, .int .i64 ep, .slice A ds.length c, .string ser, .int .i64 fr, .int .i64 tag]] w fun r w' => OwnB be w r w'
  go_enter Tryz.func19, Tryz.ntmps19
  go_upto_region 1 with (fail)
  rw [← Hw2.out]
  have HSB : Hid (∀ W, Below w2.heap.size w2 W → W.cell? ⟨w.heap.size, 0, none⟩ = some (.int .i64 2) ∧ W.cell? ⟨w.heap.size, 1, none⟩ = some (.int .i64 ag) ∧ W.cell? ⟨w.heap.size, 2, none⟩ = some (.int .i64 sh) ∧ W.cell? ⟨w.heap.size, 3, none⟩ = some (.int .i64 seq) ∧ W.cell? ⟨w.heap.size, 4, none⟩ = some (.int .i64 ep) ∧ W.cell? ⟨w.heap.size, 5, none⟩ = some (.slice A ds.length c) ∧ W.cell? ⟨w.heap.size, 6, none⟩ = some (.string ser) ∧ W.cell? ⟨w.heap.size, 7, none⟩ = some (.int .i64 fr) ∧ W.cell? ⟨w.heap.size, 8, none⟩ = some (.int .i64 tag)) := fun W hb => ⟨(hb.cell (p := ⟨w.heap.size, 0, none⟩) hg1).trans c0, (hb.cell (p := ⟨w.heap.size, 1, none⟩) hg1).trans c1, (hb.cell (p := ⟨w.heap.size, 2, none⟩) hg1).trans c2, (hb.cell (p := ⟨w.heap.size, 3, none⟩) hg1).trans c3, (hb.cell (p := ⟨w.heap.size, 4, none⟩) hg1).trans c4, (hb.cell (p := ⟨w.heap.size, 5, none⟩) hg1).trans c5, (hb.cell (p := ⟨w.heap.size, 6, none⟩) hg1).trans c6, (hb.cell (p := ⟨w.heap.size, 7, none⟩) hg1).trans c7, (hb.cell (p := ⟨w.heap.size, 8, none⟩) hg1).trans c8⟩
  have hgl : w.heap.size ≤ w2.heap.size := Hbw2.out.size
  have hFin : Hid (∀ v W, Below w2.heap.size w2 W → W.ownsRow w2.heap.size 5 1 v be.length (be.map bV) → OwnB be w (.returned v) W) := fun v W hb ho => ⟨v, rfl, own_more ho hgl, below_then Hbw2.out hb⟩
  generalize w.heap.size = g1 at *
  clear c0 c1 c2 c3 c4 c5 c6 c7 c8
  refine wp_region_held_drew (S := (fun W => W.cell? ⟨g1, 0, none⟩ = some (.int .i64 2) ∧ W.cell? ⟨g1, 1, none⟩ = some (.int .i64 ag) ∧ W.cell? ⟨g1, 2, none⟩ = some (.int .i64 sh) ∧ W.cell? ⟨g1, 3, none⟩ = some (.int .i64 seq) ∧ W.cell? ⟨g1, 4, none⟩ = some (.int .i64 ep) ∧ W.cell? ⟨g1, 5, none⟩ = some (.slice A ds.length c) ∧ W.cell? ⟨g1, 6, none⟩ = some (.string ser) ∧ W.cell? ⟨g1, 7, none⟩ = some (.int .i64 fr) ∧ W.cell? ⟨g1, 8, none⟩ = some (.int .i64 tag))) (by kernel_rfl) (HSB.out _ (bdrewG (Below.refl _ w2))) (fun hHeld => ?_)
  refine wpAnyH_take (i := 0) (oi := _) (v := ?v0a) rfl (by kernel_rfl) (by kernel_rfl) (by kernel_rfl) (fun _ _ _ h => h) (Or.inl ⟨by rfl, ?y0a⟩) (by assumption) ?r0a
  case y0a => (intro w hSw; (obtain ⟨hS0, hS1, hS2, hS3, hS4, hS5, hS6, hS7, hS8⟩ := hSw); go_simp <;> with_reducible rfl)
  try simp only [List.getElem_toArray, List.getElem_cons_succ, List.getElem_cons_zero, Act.put, List.setIfInBounds_toArray, List.set_cons_zero, List.set_cons_succ]
  refine wpAnyH_take (i := 1) (oi := _) (v := ?v1a) rfl (by kernel_rfl) (by kernel_rfl) (by kernel_rfl) (fun _ _ _ h => h) (Or.inl ⟨by rfl, ?y1a⟩) (by assumption) ?r1a
  case y1a => (intro w hSw; (obtain ⟨hS0, hS1, hS2, hS3, hS4, hS5, hS6, hS7, hS8⟩ := hSw); go_simp <;> with_reducible rfl)
  try simp only [List.getElem_toArray, List.getElem_cons_succ, List.getElem_cons_zero, Act.put, List.setIfInBounds_toArray, List.set_cons_zero, List.set_cons_succ]
  refine wpAnyH_take (i := 2) (oi := _) (v := ?v2a) rfl (by kernel_rfl) (by kernel_rfl) (by kernel_rfl) (fun _ _ _ h => h) (Or.inl ⟨by rfl, ?y2a⟩) (by assumption) ?r2a
  case y2a => (intro w hSw; (obtain ⟨hS0, hS1, hS2, hS3, hS4, hS5, hS6, hS7, hS8⟩ := hSw); go_simp <;> with_reducible rfl)
  try simp only [List.getElem_toArray, List.getElem_cons_succ, List.getElem_cons_zero, Act.put, List.setIfInBounds_toArray, List.set_cons_zero, List.set_cons_succ]
  refine wpAnyH_take (i := 4) (oi := _) (v := ?v4a) rfl (by kernel_rfl) (by kernel_rfl) (by kernel_rfl) (fun _ _ _ h => h) (Or.inl ⟨by rfl, ?y4a⟩) (by assumption) ?r4a
  case y4a => (intro w hSw; (obtain ⟨hS0, hS1, hS2, hS3, hS4, hS5, hS6, hS7, hS8⟩ := hSw); go_simp <;> with_reducible rfl)
  try simp only [List.getElem_toArray, List.getElem_cons_succ, List.getElem_cons_zero, Act.put, List.setIfInBounds_toArray, List.set_cons_zero, List.set_cons_succ]
  refine wpAnyH_take (i := 5) (oi := _) (v := ?v5a) rfl (by kernel_rfl) (by kernel_rfl) (by kernel_rfl) (fun _ _ _ h => h) (Or.inl ⟨by rfl, ?y5a⟩) (by assumption) ?r5a
  case y5a => (intro w hSw; (obtain ⟨hS0, hS1, hS2, hS3, hS4, hS5, hS6, hS7, hS8⟩ := hSw); go_simp <;> with_reducible rfl)
  try simp only [List.getElem_toArray, List.getElem_cons_succ, List.getElem_cons_zero, Act.put, List.setIfInBounds_toArray, List.set_cons_zero, List.set_cons_succ]
  refine wpAnyH_take (i := 6) (oi := _) (v := ?v6a) rfl (by kernel_rfl) (by kernel_rfl) (by kernel_rfl) (fun _ _ _ h => h) (Or.inl ⟨by rfl, ?y6a⟩) (by assumption) ?r6a
  case y6a => (intro w hSw; (obtain ⟨hS0, hS1, hS2, hS3, hS4, hS5, hS6, hS7, hS8⟩ := hSw); go_simp <;> with_reducible rfl)
  try simp only [List.getElem_toArray, List.getElem_cons_succ, List.getElem_cons_zero, Act.put, List.setIfInBounds_toArray, List.set_cons_zero, List.set_cons_succ]
  refine wpAnyH_take (i := 8) (oi := _) (v := ?v8a) rfl (by kernel_rfl) (by kernel_rfl) (by kernel_rfl) (fun _ _ _ h => h) (Or.inl ⟨by rfl, ?y8a⟩) (by assumption) ?r8a
  case y8a => (intro w hSw; (obtain ⟨hS0, hS1, hS2, hS3, hS4, hS5, hS6, hS7, hS8⟩ := hSw); go_simp <;> with_reducible rfl)
  try simp only [List.getElem_toArray, List.getElem_cons_succ, List.getElem_cons_zero, Act.put, List.setIfInBounds_toArray, List.set_cons_zero, List.set_cons_succ]
  refine wpAnyH_take (i := 9) (oi := _) (v := ?v9a) rfl (by kernel_rfl) (by kernel_rfl) (by kernel_rfl) (fun _ _ _ h => h) (Or.inl ⟨by rfl, ?y9a⟩) (by assumption) ?r9a
  case y9a => (intro w hSw; (obtain ⟨hS0, hS1, hS2, hS3, hS4, hS5, hS6, hS7, hS8⟩ := hSw); go_simp <;> with_reducible rfl)
  try simp only [List.getElem_toArray, List.getElem_cons_succ, List.getElem_cons_zero, Act.put, List.setIfInBounds_toArray, List.set_cons_zero, List.set_cons_succ]
  refine wpAnyH_take (i := 10) (oi := _) (v := ?v10a) rfl (by kernel_rfl) (by kernel_rfl) (by kernel_rfl) (fun _ _ _ h => h) (Or.inl ⟨by rfl, ?y10a⟩) (by assumption) ?r10a
  case y10a => (intro w hSw; (obtain ⟨hS0, hS1, hS2, hS3, hS4, hS5, hS6, hS7, hS8⟩ := hSw); go_simp <;> with_reducible rfl)
  try simp only [List.getElem_toArray, List.getElem_cons_succ, List.getElem_cons_zero, Act.put, List.setIfInBounds_toArray, List.set_cons_zero, List.set_cons_succ]
  refine wpAnyH_ready (rs := [3]) (by kernel_rfl) (by simp) ?_
  refine AllReadyH.cons (o := _) rfl (fun K hK => ?_) AllReadyH.nil
  go_simp
  have HbA : Hid (Below w2.heap.size w2 (w2.drew.alloc (.cells #[.int .u8 2] 5))) := (bdrewG (Below.refl _ w2)).alloc (Nat.le_refl _) _
  have HbsA : Hid (Bs (w2.drew.alloc (.cells #[.int .u8 2] 5)) [] (.slice (some ⟨w2.heap.size, 0, none⟩) 1 1) [UInt8.ofNat 2]) := bs_new w2.drew (UInt8.ofNat 2)
  change K _ (w2.drew.alloc (.cells #[.int .u8 2] 5))
  generalize w2.drew.alloc (.cells #[.int .u8 2] 5) = wA at *
  have HlA : Hid (([UInt8.ofNat 2] : List UInt8).length ≤ 1) := Nat.le_refl _
  refine hK.out _ _ (HSB.out _ HbA.out) (fun hHeld2 => ?_)
  clear hK K hHeld
  have hHeld := hHeld2
  clear hHeld2
  try simp only [List.getElem_toArray, List.getElem_cons_succ, List.getElem_cons_zero, Act.put, List.setIfInBounds_toArray, List.set_cons_zero, List.set_cons_succ]
  refine wpAnyH_ready (rs := [7]) (by kernel_rfl) (by simp) ?_
  refine AllReadyH.cons (o := _) rfl (fun K hK => ?_) AllReadyH.nil
  go_simp
  refine (rput_any _ [UInt8.ofNat 2] fr _ HbsA.out hfr9 (by have := HlA.out; omega)).mono ?_
  rintro e w1 ⟨v2, rfl, ho9, hb9⟩
  have Hb4 := Lib.hid (bthenG HbA.out hb9)
  have Hlb6 := Lib.hid Hb4.out.size
  have Ho3 := Lib.hid (own_bs ho9)
  have Hl7 : Hid (([UInt8.ofNat 2] ++ Lib.uvarint fr).length ≤ 1 + 10) := by
    have h1 := Lib.uvarint_length64 (x := fr) hfr9
    have h2 := HlA.out
    show List.length _ ≤ _
    rw [List.length_append]
    omega
  clear hb9 ho9
  refine hK.out _ _ (HSB.out _ Hb4.out) (fun hHeld2 => ?_)
  clear hK K hHeld
  have hHeld := hHeld2
  clear hHeld2
  try simp only [List.getElem_toArray, List.getElem_cons_succ, List.getElem_cons_zero, Act.put, List.setIfInBounds_toArray, List.set_cons_zero, List.set_cons_succ]
  refine wpAnyH_ready (rs := [11]) (by kernel_rfl) (by simp) ?_
  refine AllReadyH.cons (o := _) rfl (fun K hK => ?_) AllReadyH.nil
  go_simp
  refine (rput_any v2 ([UInt8.ofNat 2] ++ Lib.uvarint fr) tag _ Ho3.out ht9 (by have := Hl7.out; omega)).mono ?_
  rintro e w8 ⟨v9, rfl, ho9, hb9⟩
  have Hb11 := Lib.hid (bthenG Hb4.out hb9)
  have Hlb13 := Lib.hid Hb11.out.size
  have Ho10 := Lib.hid (own_bs ho9)
  have Hl14 : Hid ((([UInt8.ofNat 2] ++ Lib.uvarint fr) ++ Lib.uvarint tag).length ≤ 1 + 10 + 10) := by
    have h1 := Lib.uvarint_length64 (x := tag) ht9
    have h2 := Hl7.out
    show List.length _ ≤ _
    rw [List.length_append]
    omega
  clear hb9 ho9
  refine hK.out _ _ (HSB.out _ Hb11.out) (fun hHeld2 => ?_)
  clear hK K hHeld
  have hHeld := hHeld2
  clear hHeld2
  try simp only [List.getElem_toArray, List.getElem_cons_succ, List.getElem_cons_zero, Act.put, List.setIfInBounds_toArray, List.set_cons_zero, List.set_cons_succ]
  refine wpAnyH_take (i := 12) (oi := _) (v := ?v12a) rfl (by kernel_rfl) (by kernel_rfl) (by kernel_rfl) (fun _ _ _ h => h) (Or.inl ⟨by rfl, ?y12a⟩) (by assumption) ?r12a
  case y12a => (intro w hSw; (try dsimp only at hSw); go_simp <;> with_reducible rfl)
  try simp only [List.getElem_toArray, List.getElem_cons_succ, List.getElem_cons_zero, Act.put, List.setIfInBounds_toArray, List.set_cons_zero, List.set_cons_succ]
  refine wpAnyH_done (by kernel_rfl) ?_ _
  clear hHeld
  obtain ⟨c0, c1, c2, c3, c4, c5, c6, c7, c8⟩ := HSB.out _ Hb11.out
  go_wp2_with fail
  refine (rtxt_any v9 (([UInt8.ofNat 2] ++ Lib.uvarint fr) ++ Lib.uvarint tag) ser _ Ho10.out (by have := Hl14.out; omega)).mono ?_
  rintro e w9 ⟨v9, rfl, ho9, hb9⟩
  have hC := Lib.hid (hFin.out v9 w9 (below_then Hb11.out hb9) (by rw [HBE2.out]; exact own_more ho9 (Hb11.out.size)))
  clear ho9 hb9
  go_wp2
  go_ret
  exact hC.out
set_option maxRecDepth 100000 in
set_option maxHeartbeats 4000000 in
theorem rbytes_1 (e : EntryD) (dv : Value) (w : World) (hkind : e.kind = 1) (hr0 : rightE e = 0) (h : Ds w [] dv e.ds) (hs : Short e) (hw : Wf e) :
    Calls Tryz.prog 19 #[.agg (eCell (e, dv)).toArray] w fun r w' => OwnB (bytesE e) w r w' := by
  obtain ⟨⟨hf0, hf8, ht0⟩, hrest⟩ := right_facts hr0
  obtain ⟨hw1, hw2, hw3, hw4⟩ := hw
  obtain ⟨hs1, hs2, hs3⟩ := hs
  have HD := Lib.hid h
  obtain ⟨A, c, rfl, hc⟩ := h.len
  have HBE : Hid (bytesE e = headB e.kind.toNat e.fr.toNat e.tag.toNat ++ (if e.kind = 2 then Lib.uvarint e.ser.size ++ sB e.ser else Lib.uvarint e.ag.toNat ++ Lib.uvarint e.sh.toNat ++ Lib.uvarint e.seq.toNat ++ Lib.uvarint e.ep.toNat ++ Lib.uvarint e.ds.length ++ e.ds.flatMap dBytes)) := rfl
  clear hr0 h
  generalize bytesE e = be at *
  obtain ⟨kind, ag, sh, seq, ep, ds, ser, fr, tag⟩ := e
  simp only [] at hkind hf0 hf8 ht0 hrest hw1 hw2 hw3 hw4 hs1 hs2 hs3 hc HBE HD
  subst hkind
  obtain ⟨fr, rfl⟩ := Int.eq_ofNat_of_zero_le hf0
  obtain ⟨tag, rfl⟩ := Int.eq_ofNat_of_zero_le ht0
  have ht9 : tag < 18446744073709551616 := by omega
  have hfr9 : fr < 18446744073709551616 := by omega
  have hwf : IntKind.u64.wrap (fr : Int) = (fr : Int) := by rw [IntKind.wrap_u64]; omega
  have hwt : IntKind.u64.wrap (tag : Int) = (tag : Int) := by rw [IntKind.wrap_u64]; omega
  have hwk : IntKind.u8.wrap 1 = 1 := by decide
  rw [Int.toNat_natCast, Int.toNat_natCast] at HBE
  obtain ⟨_, ha0, ha8, hs0, hs4, hq0, hp0, hd8⟩ := hrest.resolve_left (by decide)
  obtain ⟨ag, rfl⟩ := Int.eq_ofNat_of_zero_le ha0
  obtain ⟨sh, rfl⟩ := Int.eq_ofNat_of_zero_le hs0
  obtain ⟨seq, rfl⟩ := Int.eq_ofNat_of_zero_le (show 0 ≤ seq by omega)
  obtain ⟨ep, rfl⟩ := Int.eq_ofNat_of_zero_le (show 0 ≤ ep by omega)
  have ha9 : ag < 18446744073709551616 := by omega
  have hs9 : sh < 18446744073709551616 := by omega
  have hq9 : seq < 18446744073709551616 := by omega
  have hp9 : ep < 18446744073709551616 := by omega
  have hwa : IntKind.u64.wrap (ag : Int) = (ag : Int) := by rw [IntKind.wrap_u64]; omega
  have hws : IntKind.u64.wrap (sh : Int) = (sh : Int) := by rw [IntKind.wrap_u64]; omega
  have hwq : IntKind.u64.wrap (seq : Int) = (seq : Int) := by rw [IntKind.wrap_u64]; omega
  have hwp : IntKind.u64.wrap (ep : Int) = (ep : Int) := by rw [IntKind.wrap_u64]; omega
  have HBE2 : Hid (be = [UInt8.ofNat 1] ++ Lib.uvarint fr ++ Lib.uvarint tag ++ Lib.uvarint ag ++ Lib.uvarint sh ++ Lib.uvarint seq ++ Lib.uvarint ep ++ Lib.uvarint ds.length ++ ds.flatMap dBytes) := by
    show _ = _
    rw [HBE.out, if_neg (by decide)]
    simp only [headB, Int.toNat_natCast, List.append_assoc]
    rfl
  have hdl := Lib.hid (dBytes_len ds hs2 hw4)
  clear ha0 hs0 hrest hf0 ht0
  have Hw4 := Lib.hid hw4
  clear HBE hw4 hs2
  obtain ⟨w2, hw2⟩ : ∃ w2, w2 = w.alloc (.cells #[.int .i64 1, .int .i64 ag, .int .i64 sh, .int .i64 seq, .int .i64 ep, .slice A ds.length c, .string ser, .int .i64 fr, .int .i64 tag] 26) := ⟨_, rfl⟩
  have hB : Blk w2 w.heap.size 26 #[.int .i64 1, .int .i64 ag, .int .i64 sh, .int .i64 seq, .int .i64 ep, .slice A ds.length c, .string ser, .int .i64 fr, .int .i64 tag] := by rw [hw2]; exact Blk.new w _ _
  have hbw2 : Below w.heap.size w w2 := by rw [hw2]; exact (Below.refl _ _).alloc (Nat.le_refl _) _
  have Hbw2 := Lib.hid hbw2; have Hw2 := Lib.hid hw2
  have HD2 := Lib.hid (HD.out.keep (Keeps.of_below (M := []) hbw2) (by simp))
  obtain ⟨c0, c1, c2, c3, c4, c5, c6, c7, c8, _⟩ := rblk9G hB
  have hg1 : w.heap.size < w2.heap.size := hB.lt
  clear hw2 hB hbw2
  show Calls Tryz.prog 19 #[.agg #[.int .i64 1, .int .i64 ag, .int .i64 sh, .int .i64 seq, .int .i64 ep, .slice A ds.length c, .string ser, .int .i64 fr, .int .i64 tag]] w fun r w' => OwnB be w r w'
  go_enter Tryz.func19, Tryz.ntmps19
  go_upto_region 1 with (fail)
  rw [← Hw2.out]
  have HSB : Hid (∀ W, Below w2.heap.size w2 W → W.cell? ⟨w.heap.size, 0, none⟩ = some (.int .i64 1) ∧ W.cell? ⟨w.heap.size, 1, none⟩ = some (.int .i64 ag) ∧ W.cell? ⟨w.heap.size, 2, none⟩ = some (.int .i64 sh) ∧ W.cell? ⟨w.heap.size, 3, none⟩ = some (.int .i64 seq) ∧ W.cell? ⟨w.heap.size, 4, none⟩ = some (.int .i64 ep) ∧ W.cell? ⟨w.heap.size, 5, none⟩ = some (.slice A ds.length c) ∧ W.cell? ⟨w.heap.size, 6, none⟩ = some (.string ser) ∧ W.cell? ⟨w.heap.size, 7, none⟩ = some (.int .i64 fr) ∧ W.cell? ⟨w.heap.size, 8, none⟩ = some (.int .i64 tag)) := fun W hb => ⟨(hb.cell (p := ⟨w.heap.size, 0, none⟩) hg1).trans c0, (hb.cell (p := ⟨w.heap.size, 1, none⟩) hg1).trans c1, (hb.cell (p := ⟨w.heap.size, 2, none⟩) hg1).trans c2, (hb.cell (p := ⟨w.heap.size, 3, none⟩) hg1).trans c3, (hb.cell (p := ⟨w.heap.size, 4, none⟩) hg1).trans c4, (hb.cell (p := ⟨w.heap.size, 5, none⟩) hg1).trans c5, (hb.cell (p := ⟨w.heap.size, 6, none⟩) hg1).trans c6, (hb.cell (p := ⟨w.heap.size, 7, none⟩) hg1).trans c7, (hb.cell (p := ⟨w.heap.size, 8, none⟩) hg1).trans c8⟩
  have hgl : w.heap.size ≤ w2.heap.size := Hbw2.out.size
  have hFin : Hid (∀ v W, Below w2.heap.size w2 W → W.ownsRow w2.heap.size 5 1 v be.length (be.map bV) → OwnB be w (.returned v) W) := fun v W hb ho => ⟨v, rfl, own_more ho hgl, below_then Hbw2.out hb⟩
  generalize w.heap.size = g1 at *
  clear c0 c1 c2 c3 c4 c5 c6 c7 c8
  refine wp_region_held_drew (S := (fun W => W.cell? ⟨g1, 0, none⟩ = some (.int .i64 1) ∧ W.cell? ⟨g1, 1, none⟩ = some (.int .i64 ag) ∧ W.cell? ⟨g1, 2, none⟩ = some (.int .i64 sh) ∧ W.cell? ⟨g1, 3, none⟩ = some (.int .i64 seq) ∧ W.cell? ⟨g1, 4, none⟩ = some (.int .i64 ep) ∧ W.cell? ⟨g1, 5, none⟩ = some (.slice A ds.length c) ∧ W.cell? ⟨g1, 6, none⟩ = some (.string ser) ∧ W.cell? ⟨g1, 7, none⟩ = some (.int .i64 fr) ∧ W.cell? ⟨g1, 8, none⟩ = some (.int .i64 tag))) (by kernel_rfl) (HSB.out _ (bdrewG (Below.refl _ w2))) (fun hHeld => ?_)
  refine wpAnyH_take (i := 0) (oi := _) (v := ?v0a) rfl (by kernel_rfl) (by kernel_rfl) (by kernel_rfl) (fun _ _ _ h => h) (Or.inl ⟨by rfl, ?y0a⟩) (by assumption) ?r0a
  case y0a => (intro w hSw; (obtain ⟨hS0, hS1, hS2, hS3, hS4, hS5, hS6, hS7, hS8⟩ := hSw); go_simp <;> with_reducible rfl)
  try simp only [List.getElem_toArray, List.getElem_cons_succ, List.getElem_cons_zero, Act.put, List.setIfInBounds_toArray, List.set_cons_zero, List.set_cons_succ]
  refine wpAnyH_take (i := 1) (oi := _) (v := ?v1a) rfl (by kernel_rfl) (by kernel_rfl) (by kernel_rfl) (fun _ _ _ h => h) (Or.inl ⟨by rfl, ?y1a⟩) (by assumption) ?r1a
  case y1a => (intro w hSw; (obtain ⟨hS0, hS1, hS2, hS3, hS4, hS5, hS6, hS7, hS8⟩ := hSw); go_simp <;> with_reducible rfl)
  try simp only [List.getElem_toArray, List.getElem_cons_succ, List.getElem_cons_zero, Act.put, List.setIfInBounds_toArray, List.set_cons_zero, List.set_cons_succ]
  refine wpAnyH_take (i := 2) (oi := _) (v := ?v2a) rfl (by kernel_rfl) (by kernel_rfl) (by kernel_rfl) (fun _ _ _ h => h) (Or.inl ⟨by rfl, ?y2a⟩) (by assumption) ?r2a
  case y2a => (intro w hSw; (obtain ⟨hS0, hS1, hS2, hS3, hS4, hS5, hS6, hS7, hS8⟩ := hSw); go_simp <;> with_reducible rfl)
  try simp only [List.getElem_toArray, List.getElem_cons_succ, List.getElem_cons_zero, Act.put, List.setIfInBounds_toArray, List.set_cons_zero, List.set_cons_succ]
  refine wpAnyH_take (i := 4) (oi := _) (v := ?v4a) rfl (by kernel_rfl) (by kernel_rfl) (by kernel_rfl) (fun _ _ _ h => h) (Or.inl ⟨by rfl, ?y4a⟩) (by assumption) ?r4a
  case y4a => (intro w hSw; (obtain ⟨hS0, hS1, hS2, hS3, hS4, hS5, hS6, hS7, hS8⟩ := hSw); go_simp <;> with_reducible rfl)
  try simp only [List.getElem_toArray, List.getElem_cons_succ, List.getElem_cons_zero, Act.put, List.setIfInBounds_toArray, List.set_cons_zero, List.set_cons_succ]
  refine wpAnyH_take (i := 5) (oi := _) (v := ?v5a) rfl (by kernel_rfl) (by kernel_rfl) (by kernel_rfl) (fun _ _ _ h => h) (Or.inl ⟨by rfl, ?y5a⟩) (by assumption) ?r5a
  case y5a => (intro w hSw; (obtain ⟨hS0, hS1, hS2, hS3, hS4, hS5, hS6, hS7, hS8⟩ := hSw); go_simp <;> with_reducible rfl)
  try simp only [List.getElem_toArray, List.getElem_cons_succ, List.getElem_cons_zero, Act.put, List.setIfInBounds_toArray, List.set_cons_zero, List.set_cons_succ]
  refine wpAnyH_take (i := 6) (oi := _) (v := ?v6a) rfl (by kernel_rfl) (by kernel_rfl) (by kernel_rfl) (fun _ _ _ h => h) (Or.inl ⟨by rfl, ?y6a⟩) (by assumption) ?r6a
  case y6a => (intro w hSw; (obtain ⟨hS0, hS1, hS2, hS3, hS4, hS5, hS6, hS7, hS8⟩ := hSw); go_simp <;> with_reducible rfl)
  try simp only [List.getElem_toArray, List.getElem_cons_succ, List.getElem_cons_zero, Act.put, List.setIfInBounds_toArray, List.set_cons_zero, List.set_cons_succ]
  refine wpAnyH_take (i := 8) (oi := _) (v := ?v8a) rfl (by kernel_rfl) (by kernel_rfl) (by kernel_rfl) (fun _ _ _ h => h) (Or.inl ⟨by rfl, ?y8a⟩) (by assumption) ?r8a
  case y8a => (intro w hSw; (obtain ⟨hS0, hS1, hS2, hS3, hS4, hS5, hS6, hS7, hS8⟩ := hSw); go_simp <;> with_reducible rfl)
  try simp only [List.getElem_toArray, List.getElem_cons_succ, List.getElem_cons_zero, Act.put, List.setIfInBounds_toArray, List.set_cons_zero, List.set_cons_succ]
  refine wpAnyH_take (i := 9) (oi := _) (v := ?v9a) rfl (by kernel_rfl) (by kernel_rfl) (by kernel_rfl) (fun _ _ _ h => h) (Or.inl ⟨by rfl, ?y9a⟩) (by assumption) ?r9a
  case y9a => (intro w hSw; (obtain ⟨hS0, hS1, hS2, hS3, hS4, hS5, hS6, hS7, hS8⟩ := hSw); go_simp <;> with_reducible rfl)
  try simp only [List.getElem_toArray, List.getElem_cons_succ, List.getElem_cons_zero, Act.put, List.setIfInBounds_toArray, List.set_cons_zero, List.set_cons_succ]
  refine wpAnyH_take (i := 10) (oi := _) (v := ?v10a) rfl (by kernel_rfl) (by kernel_rfl) (by kernel_rfl) (fun _ _ _ h => h) (Or.inl ⟨by rfl, ?y10a⟩) (by assumption) ?r10a
  case y10a => (intro w hSw; (obtain ⟨hS0, hS1, hS2, hS3, hS4, hS5, hS6, hS7, hS8⟩ := hSw); go_simp <;> with_reducible rfl)
  try simp only [List.getElem_toArray, List.getElem_cons_succ, List.getElem_cons_zero, Act.put, List.setIfInBounds_toArray, List.set_cons_zero, List.set_cons_succ]
  refine wpAnyH_ready (rs := [3]) (by kernel_rfl) (by simp) ?_
  refine AllReadyH.cons (o := _) rfl (fun K hK => ?_) AllReadyH.nil
  go_simp
  have HbA : Hid (Below w2.heap.size w2 (w2.drew.alloc (.cells #[.int .u8 1] 5))) := (bdrewG (Below.refl _ w2)).alloc (Nat.le_refl _) _
  have HbsA : Hid (Bs (w2.drew.alloc (.cells #[.int .u8 1] 5)) [] (.slice (some ⟨w2.heap.size, 0, none⟩) 1 1) [UInt8.ofNat 1]) := bs_new w2.drew (UInt8.ofNat 1)
  change K _ (w2.drew.alloc (.cells #[.int .u8 1] 5))
  generalize w2.drew.alloc (.cells #[.int .u8 1] 5) = wA at *
  have HlA : Hid (([UInt8.ofNat 1] : List UInt8).length ≤ 1) := Nat.le_refl _
  refine hK.out _ _ (HSB.out _ HbA.out) (fun hHeld2 => ?_)
  clear hK K hHeld
  have hHeld := hHeld2
  clear hHeld2
  try simp only [List.getElem_toArray, List.getElem_cons_succ, List.getElem_cons_zero, Act.put, List.setIfInBounds_toArray, List.set_cons_zero, List.set_cons_succ]
  refine wpAnyH_ready (rs := [7]) (by kernel_rfl) (by simp) ?_
  refine AllReadyH.cons (o := _) rfl (fun K hK => ?_) AllReadyH.nil
  go_simp
  refine (rput_any _ [UInt8.ofNat 1] fr _ HbsA.out hfr9 (by have := HlA.out; omega)).mono ?_
  rintro e w1 ⟨v2, rfl, ho9, hb9⟩
  have Hb4 := Lib.hid (bthenG HbA.out hb9)
  have Hlb6 := Lib.hid Hb4.out.size
  have Ho3 := Lib.hid (own_bs ho9)
  have Hl7 : Hid (([UInt8.ofNat 1] ++ Lib.uvarint fr).length ≤ 1 + 10) := by
    have h1 := Lib.uvarint_length64 (x := fr) hfr9
    have h2 := HlA.out
    show List.length _ ≤ _
    rw [List.length_append]
    omega
  clear hb9 ho9
  refine hK.out _ _ (HSB.out _ Hb4.out) (fun hHeld2 => ?_)
  clear hK K hHeld
  have hHeld := hHeld2
  clear hHeld2
  try simp only [List.getElem_toArray, List.getElem_cons_succ, List.getElem_cons_zero, Act.put, List.setIfInBounds_toArray, List.set_cons_zero, List.set_cons_succ]
  refine wpAnyH_ready (rs := [11]) (by kernel_rfl) (by simp) ?_
  refine AllReadyH.cons (o := _) rfl (fun K hK => ?_) AllReadyH.nil
  go_simp
  refine (rput_any v2 ([UInt8.ofNat 1] ++ Lib.uvarint fr) tag _ Ho3.out ht9 (by have := Hl7.out; omega)).mono ?_
  rintro e w8 ⟨v9, rfl, ho9, hb9⟩
  have Hb11 := Lib.hid (bthenG Hb4.out hb9)
  have Hlb13 := Lib.hid Hb11.out.size
  have Ho10 := Lib.hid (own_bs ho9)
  have Hl14 : Hid ((([UInt8.ofNat 1] ++ Lib.uvarint fr) ++ Lib.uvarint tag).length ≤ 1 + 10 + 10) := by
    have h1 := Lib.uvarint_length64 (x := tag) ht9
    have h2 := Hl7.out
    show List.length _ ≤ _
    rw [List.length_append]
    omega
  clear hb9 ho9
  refine hK.out _ _ (HSB.out _ Hb11.out) (fun hHeld2 => ?_)
  clear hK K hHeld
  have hHeld := hHeld2
  clear hHeld2
  try simp only [List.getElem_toArray, List.getElem_cons_succ, List.getElem_cons_zero, Act.put, List.setIfInBounds_toArray, List.set_cons_zero, List.set_cons_succ]
  refine wpAnyH_take (i := 12) (oi := _) (v := ?v12a) rfl (by kernel_rfl) (by kernel_rfl) (by kernel_rfl) (fun _ _ _ h => h) (Or.inl ⟨by rfl, ?y12a⟩) (by assumption) ?r12a
  case y12a => (intro w hSw; (try dsimp only at hSw); go_simp <;> with_reducible rfl)
  try simp only [List.getElem_toArray, List.getElem_cons_succ, List.getElem_cons_zero, Act.put, List.setIfInBounds_toArray, List.set_cons_zero, List.set_cons_succ]
  refine wpAnyH_done (by kernel_rfl) ?_ _
  clear hHeld
  obtain ⟨c0, c1, c2, c3, c4, c5, c6, c7, c8⟩ := HSB.out _ Hb11.out
  go_upto_region 4 with (fail)
  clear c0 c1 c2 c3 c4 c5 c6 c7 c8
  refine wp_region_held_drew (S := (fun W => W.cell? ⟨g1, 0, none⟩ = some (.int .i64 1) ∧ W.cell? ⟨g1, 1, none⟩ = some (.int .i64 ag) ∧ W.cell? ⟨g1, 2, none⟩ = some (.int .i64 sh) ∧ W.cell? ⟨g1, 3, none⟩ = some (.int .i64 seq) ∧ W.cell? ⟨g1, 4, none⟩ = some (.int .i64 ep) ∧ W.cell? ⟨g1, 5, none⟩ = some (.slice A ds.length c) ∧ W.cell? ⟨g1, 6, none⟩ = some (.string ser) ∧ W.cell? ⟨g1, 7, none⟩ = some (.int .i64 fr) ∧ W.cell? ⟨g1, 8, none⟩ = some (.int .i64 tag))) (by kernel_rfl) (HSB.out _ (bdrewG Hb11.out)) (fun hHeld => ?_)
  refine wpAnyH_take (i := 0) (oi := _) (v := ?v0b) rfl (by kernel_rfl) (by kernel_rfl) (by kernel_rfl) (fun _ _ _ h => h) (Or.inl ⟨by rfl, ?y0b⟩) (by assumption) ?r0b
  case y0b => (intro w hSw; (obtain ⟨hS0, hS1, hS2, hS3, hS4, hS5, hS6, hS7, hS8⟩ := hSw); go_simp <;> with_reducible rfl)
  try simp only [List.getElem_toArray, List.getElem_cons_succ, List.getElem_cons_zero, Act.put, List.setIfInBounds_toArray, List.set_cons_zero, List.set_cons_succ]
  refine wpAnyH_take (i := 1) (oi := _) (v := ?v1b) rfl (by kernel_rfl) (by kernel_rfl) (by kernel_rfl) (fun _ _ _ h => h) (Or.inl ⟨by rfl, ?y1b⟩) (by assumption) ?r1b
  case y1b => (intro w hSw; (obtain ⟨hS0, hS1, hS2, hS3, hS4, hS5, hS6, hS7, hS8⟩ := hSw); go_simp <;> with_reducible rfl)
  try simp only [List.getElem_toArray, List.getElem_cons_succ, List.getElem_cons_zero, Act.put, List.setIfInBounds_toArray, List.set_cons_zero, List.set_cons_succ]
  refine wpAnyH_take (i := 2) (oi := _) (v := ?v2b) rfl (by kernel_rfl) (by kernel_rfl) (by kernel_rfl) (fun _ _ _ h => h) (Or.inl ⟨by rfl, ?y2b⟩) (by assumption) ?r2b
  case y2b => (intro w hSw; (obtain ⟨hS0, hS1, hS2, hS3, hS4, hS5, hS6, hS7, hS8⟩ := hSw); go_simp <;> with_reducible rfl)
  try simp only [List.getElem_toArray, List.getElem_cons_succ, List.getElem_cons_zero, Act.put, List.setIfInBounds_toArray, List.set_cons_zero, List.set_cons_succ]
  refine wpAnyH_take (i := 3) (oi := _) (v := ?v3b) rfl (by kernel_rfl) (by kernel_rfl) (by kernel_rfl) (fun _ _ _ h => h) (Or.inl ⟨by rfl, ?y3b⟩) (by assumption) ?r3b
  case y3b => (intro w hSw; (obtain ⟨hS0, hS1, hS2, hS3, hS4, hS5, hS6, hS7, hS8⟩ := hSw); go_simp <;> with_reducible rfl)
  try simp only [List.getElem_toArray, List.getElem_cons_succ, List.getElem_cons_zero, Act.put, List.setIfInBounds_toArray, List.set_cons_zero, List.set_cons_succ]
  refine wpAnyH_take (i := 4) (oi := _) (v := ?v4b) rfl (by kernel_rfl) (by kernel_rfl) (by kernel_rfl) (fun _ _ _ h => h) (Or.inl ⟨by rfl, ?y4b⟩) (by assumption) ?r4b
  case y4b => (intro w hSw; (obtain ⟨hS0, hS1, hS2, hS3, hS4, hS5, hS6, hS7, hS8⟩ := hSw); go_simp <;> with_reducible rfl)
  try simp only [List.getElem_toArray, List.getElem_cons_succ, List.getElem_cons_zero, Act.put, List.setIfInBounds_toArray, List.set_cons_zero, List.set_cons_succ]
  refine wpAnyH_take (i := 6) (oi := _) (v := ?v6b) rfl (by kernel_rfl) (by kernel_rfl) (by kernel_rfl) (fun _ _ _ h => h) (Or.inl ⟨by rfl, ?y6b⟩) (by assumption) ?r6b
  case y6b => (intro w hSw; (obtain ⟨hS0, hS1, hS2, hS3, hS4, hS5, hS6, hS7, hS8⟩ := hSw); go_simp <;> with_reducible rfl)
  try simp only [List.getElem_toArray, List.getElem_cons_succ, List.getElem_cons_zero, Act.put, List.setIfInBounds_toArray, List.set_cons_zero, List.set_cons_succ]
  refine wpAnyH_take (i := 7) (oi := _) (v := ?v7b) rfl (by kernel_rfl) (by kernel_rfl) (by kernel_rfl) (fun _ _ _ h => h) (Or.inl ⟨by rfl, ?y7b⟩) (by assumption) ?r7b
  case y7b => (intro w hSw; (obtain ⟨hS0, hS1, hS2, hS3, hS4, hS5, hS6, hS7, hS8⟩ := hSw); go_simp <;> with_reducible rfl)
  try simp only [List.getElem_toArray, List.getElem_cons_succ, List.getElem_cons_zero, Act.put, List.setIfInBounds_toArray, List.set_cons_zero, List.set_cons_succ]
  refine wpAnyH_take (i := 8) (oi := _) (v := ?v8b) rfl (by kernel_rfl) (by kernel_rfl) (by kernel_rfl) (fun _ _ _ h => h) (Or.inl ⟨by rfl, ?y8b⟩) (by assumption) ?r8b
  case y8b => (intro w hSw; (obtain ⟨hS0, hS1, hS2, hS3, hS4, hS5, hS6, hS7, hS8⟩ := hSw); go_simp <;> with_reducible rfl)
  try simp only [List.getElem_toArray, List.getElem_cons_succ, List.getElem_cons_zero, Act.put, List.setIfInBounds_toArray, List.set_cons_zero, List.set_cons_succ]
  refine wpAnyH_take (i := 9) (oi := _) (v := ?v9b) rfl (by kernel_rfl) (by kernel_rfl) (by kernel_rfl) (fun _ _ _ h => h) (Or.inl ⟨by rfl, ?y9b⟩) (by assumption) ?r9b
  case y9b => (intro w hSw; (obtain ⟨hS0, hS1, hS2, hS3, hS4, hS5, hS6, hS7, hS8⟩ := hSw); go_simp <;> with_reducible rfl)
  try simp only [List.getElem_toArray, List.getElem_cons_succ, List.getElem_cons_zero, Act.put, List.setIfInBounds_toArray, List.set_cons_zero, List.set_cons_succ]
  have Hd15 := Lib.hid (bdrewG Hb11.out)
  have Hs16 : Hid (Bs w8.drew [] v9 (([UInt8.ofNat 1] ++ Lib.uvarint fr) ++ Lib.uvarint tag)) := Ho10.out
  refine wpAnyH_ready (rs := [5]) (by kernel_rfl) (by simp) ?_
  refine AllReadyH.cons (o := _) rfl (fun K hK => ?_) AllReadyH.nil
  go_simp
  refine (rput_any v9 (([UInt8.ofNat 1] ++ Lib.uvarint fr) ++ Lib.uvarint tag) ag _ Hs16.out ha9 (by have := Hl14.out; omega)).mono ?_
  rintro e w17 ⟨v18, rfl, ho9, hb9⟩
  have Hb20 := Lib.hid (bthenG Hd15.out hb9)
  have Hlb22 := Lib.hid Hb20.out.size
  have Ho19 := Lib.hid (own_bs ho9)
  have Hl23 : Hid (((([UInt8.ofNat 1] ++ Lib.uvarint fr) ++ Lib.uvarint tag) ++ Lib.uvarint ag).length ≤ 1 + 10 + 10 + 10) := by
    have h1 := Lib.uvarint_length64 (x := ag) ha9
    have h2 := Hl14.out
    show List.length _ ≤ _
    rw [List.length_append]
    omega
  clear hb9 ho9
  refine hK.out _ _ (HSB.out _ Hb20.out) (fun hHeld2 => ?_)
  clear hK K hHeld
  have hHeld := hHeld2
  clear hHeld2
  try simp only [List.getElem_toArray, List.getElem_cons_succ, List.getElem_cons_zero, Act.put, List.setIfInBounds_toArray, List.set_cons_zero, List.set_cons_succ]
  refine wpAnyH_ready (rs := [10]) (by kernel_rfl) (by simp) ?_
  refine AllReadyH.cons (o := _) rfl (fun K hK => ?_) AllReadyH.nil
  go_simp
  refine (rput_any v18 ((([UInt8.ofNat 1] ++ Lib.uvarint fr) ++ Lib.uvarint tag) ++ Lib.uvarint ag) sh _ Ho19.out hs9 (by have := Hl23.out; omega)).mono ?_
  rintro e w24 ⟨v25, rfl, ho9, hb9⟩
  have Hb27 := Lib.hid (bthenG Hb20.out hb9)
  have Hlb29 := Lib.hid Hb27.out.size
  have Ho26 := Lib.hid (own_bs ho9)
  have Hl30 : Hid ((((([UInt8.ofNat 1] ++ Lib.uvarint fr) ++ Lib.uvarint tag) ++ Lib.uvarint ag) ++ Lib.uvarint sh).length ≤ 1 + 10 + 10 + 10 + 10) := by
    have h1 := Lib.uvarint_length64 (x := sh) hs9
    have h2 := Hl23.out
    show List.length _ ≤ _
    rw [List.length_append]
    omega
  clear hb9 ho9
  refine hK.out _ _ (HSB.out _ Hb27.out) (fun hHeld2 => ?_)
  clear hK K hHeld
  have hHeld := hHeld2
  clear hHeld2
  try simp only [List.getElem_toArray, List.getElem_cons_succ, List.getElem_cons_zero, Act.put, List.setIfInBounds_toArray, List.set_cons_zero, List.set_cons_succ]
  refine wpAnyH_take (i := 11) (oi := _) (v := ?v11b) rfl (by kernel_rfl) (by kernel_rfl) (by kernel_rfl) (fun _ _ _ h => h) (Or.inl ⟨by rfl, ?y11b⟩) (by assumption) ?r11b
  case y11b => (intro w hSw; (try dsimp only at hSw); go_simp <;> with_reducible rfl)
  try simp only [List.getElem_toArray, List.getElem_cons_succ, List.getElem_cons_zero, Act.put, List.setIfInBounds_toArray, List.set_cons_zero, List.set_cons_succ]
  refine wpAnyH_done (by kernel_rfl) ?_ _
  clear hHeld
  obtain ⟨c0, c1, c2, c3, c4, c5, c6, c7, c8⟩ := HSB.out _ Hb27.out
  go_upto_region 5 with (fail)
  clear c0 c1 c2 c3 c4 c5 c6 c7 c8
  refine wp_region_held_drew (S := (fun W => W.cell? ⟨g1, 0, none⟩ = some (.int .i64 1) ∧ W.cell? ⟨g1, 1, none⟩ = some (.int .i64 ag) ∧ W.cell? ⟨g1, 2, none⟩ = some (.int .i64 sh) ∧ W.cell? ⟨g1, 3, none⟩ = some (.int .i64 seq) ∧ W.cell? ⟨g1, 4, none⟩ = some (.int .i64 ep) ∧ W.cell? ⟨g1, 5, none⟩ = some (.slice A ds.length c) ∧ W.cell? ⟨g1, 6, none⟩ = some (.string ser) ∧ W.cell? ⟨g1, 7, none⟩ = some (.int .i64 fr) ∧ W.cell? ⟨g1, 8, none⟩ = some (.int .i64 tag))) (by kernel_rfl) (HSB.out _ (bdrewG Hb27.out)) (fun hHeld => ?_)
  refine wpAnyH_take (i := 0) (oi := _) (v := ?v0c) rfl (by kernel_rfl) (by kernel_rfl) (by kernel_rfl) (fun _ _ _ h => h) (Or.inl ⟨by rfl, ?y0c⟩) (by assumption) ?r0c
  case y0c => (intro w hSw; (obtain ⟨hS0, hS1, hS2, hS3, hS4, hS5, hS6, hS7, hS8⟩ := hSw); go_simp <;> with_reducible rfl)
  try simp only [List.getElem_toArray, List.getElem_cons_succ, List.getElem_cons_zero, Act.put, List.setIfInBounds_toArray, List.set_cons_zero, List.set_cons_succ]
  refine wpAnyH_take (i := 1) (oi := _) (v := ?v1c) rfl (by kernel_rfl) (by kernel_rfl) (by kernel_rfl) (fun _ _ _ h => h) (Or.inl ⟨by rfl, ?y1c⟩) (by assumption) ?r1c
  case y1c => (intro w hSw; (obtain ⟨hS0, hS1, hS2, hS3, hS4, hS5, hS6, hS7, hS8⟩ := hSw); go_simp <;> with_reducible rfl)
  try simp only [List.getElem_toArray, List.getElem_cons_succ, List.getElem_cons_zero, Act.put, List.setIfInBounds_toArray, List.set_cons_zero, List.set_cons_succ]
  refine wpAnyH_take (i := 2) (oi := _) (v := ?v2c) rfl (by kernel_rfl) (by kernel_rfl) (by kernel_rfl) (fun _ _ _ h => h) (Or.inl ⟨by rfl, ?y2c⟩) (by assumption) ?r2c
  case y2c => (intro w hSw; (obtain ⟨hS0, hS1, hS2, hS3, hS4, hS5, hS6, hS7, hS8⟩ := hSw); go_simp <;> with_reducible rfl)
  try simp only [List.getElem_toArray, List.getElem_cons_succ, List.getElem_cons_zero, Act.put, List.setIfInBounds_toArray, List.set_cons_zero, List.set_cons_succ]
  refine wpAnyH_take (i := 3) (oi := _) (v := ?v3c) rfl (by kernel_rfl) (by kernel_rfl) (by kernel_rfl) (fun _ _ _ h => h) (Or.inl ⟨by rfl, ?y3c⟩) (by assumption) ?r3c
  case y3c => (intro w hSw; (obtain ⟨hS0, hS1, hS2, hS3, hS4, hS5, hS6, hS7, hS8⟩ := hSw); go_simp <;> with_reducible rfl)
  try simp only [List.getElem_toArray, List.getElem_cons_succ, List.getElem_cons_zero, Act.put, List.setIfInBounds_toArray, List.set_cons_zero, List.set_cons_succ]
  refine wpAnyH_take (i := 4) (oi := _) (v := ?v4c) rfl (by kernel_rfl) (by kernel_rfl) (by kernel_rfl) (fun _ _ _ h => h) (Or.inl ⟨by rfl, ?y4c⟩) (by assumption) ?r4c
  case y4c => (intro w hSw; (obtain ⟨hS0, hS1, hS2, hS3, hS4, hS5, hS6, hS7, hS8⟩ := hSw); go_simp <;> with_reducible rfl)
  try simp only [List.getElem_toArray, List.getElem_cons_succ, List.getElem_cons_zero, Act.put, List.setIfInBounds_toArray, List.set_cons_zero, List.set_cons_succ]
  refine wpAnyH_take (i := 6) (oi := _) (v := ?v6c) rfl (by kernel_rfl) (by kernel_rfl) (by kernel_rfl) (fun _ _ _ h => h) (Or.inl ⟨by rfl, ?y6c⟩) (by assumption) ?r6c
  case y6c => (intro w hSw; (obtain ⟨hS0, hS1, hS2, hS3, hS4, hS5, hS6, hS7, hS8⟩ := hSw); go_simp <;> with_reducible rfl)
  try simp only [List.getElem_toArray, List.getElem_cons_succ, List.getElem_cons_zero, Act.put, List.setIfInBounds_toArray, List.set_cons_zero, List.set_cons_succ]
  refine wpAnyH_take (i := 7) (oi := _) (v := ?v7c) rfl (by kernel_rfl) (by kernel_rfl) (by kernel_rfl) (fun _ _ _ h => h) (Or.inl ⟨by rfl, ?y7c⟩) (by assumption) ?r7c
  case y7c => (intro w hSw; (obtain ⟨hS0, hS1, hS2, hS3, hS4, hS5, hS6, hS7, hS8⟩ := hSw); go_simp <;> with_reducible rfl)
  try simp only [List.getElem_toArray, List.getElem_cons_succ, List.getElem_cons_zero, Act.put, List.setIfInBounds_toArray, List.set_cons_zero, List.set_cons_succ]
  refine wpAnyH_take (i := 8) (oi := _) (v := ?v8c) rfl (by kernel_rfl) (by kernel_rfl) (by kernel_rfl) (fun _ _ _ h => h) (Or.inl ⟨by rfl, ?y8c⟩) (by assumption) ?r8c
  case y8c => (intro w hSw; (obtain ⟨hS0, hS1, hS2, hS3, hS4, hS5, hS6, hS7, hS8⟩ := hSw); go_simp <;> with_reducible rfl)
  try simp only [List.getElem_toArray, List.getElem_cons_succ, List.getElem_cons_zero, Act.put, List.setIfInBounds_toArray, List.set_cons_zero, List.set_cons_succ]
  have Hd31 := Lib.hid (bdrewG Hb27.out)
  have Hs32 : Hid (Bs w24.drew [] v25 (((([UInt8.ofNat 1] ++ Lib.uvarint fr) ++ Lib.uvarint tag) ++ Lib.uvarint ag) ++ Lib.uvarint sh)) := Ho26.out
  refine wpAnyH_ready (rs := [5]) (by kernel_rfl) (by simp) ?_
  refine AllReadyH.cons (o := _) rfl (fun K hK => ?_) AllReadyH.nil
  go_simp
  refine (rput_any v25 (((([UInt8.ofNat 1] ++ Lib.uvarint fr) ++ Lib.uvarint tag) ++ Lib.uvarint ag) ++ Lib.uvarint sh) seq _ Hs32.out hq9 (by have := Hl30.out; omega)).mono ?_
  rintro e w33 ⟨v34, rfl, ho9, hb9⟩
  have Hb36 := Lib.hid (bthenG Hd31.out hb9)
  have Hlb38 := Lib.hid Hb36.out.size
  have Ho35 := Lib.hid (own_bs ho9)
  have Hl39 : Hid (((((([UInt8.ofNat 1] ++ Lib.uvarint fr) ++ Lib.uvarint tag) ++ Lib.uvarint ag) ++ Lib.uvarint sh) ++ Lib.uvarint seq).length ≤ 1 + 10 + 10 + 10 + 10 + 10) := by
    have h1 := Lib.uvarint_length64 (x := seq) hq9
    have h2 := Hl30.out
    show List.length _ ≤ _
    rw [List.length_append]
    omega
  clear hb9 ho9
  refine hK.out _ _ (HSB.out _ Hb36.out) (fun hHeld2 => ?_)
  clear hK K hHeld
  have hHeld := hHeld2
  clear hHeld2
  try simp only [List.getElem_toArray, List.getElem_cons_succ, List.getElem_cons_zero, Act.put, List.setIfInBounds_toArray, List.set_cons_zero, List.set_cons_succ]
  refine wpAnyH_ready (rs := [9]) (by kernel_rfl) (by simp) ?_
  refine AllReadyH.cons (o := _) rfl (fun K hK => ?_) AllReadyH.nil
  go_simp
  refine (rput_any v34 ((((([UInt8.ofNat 1] ++ Lib.uvarint fr) ++ Lib.uvarint tag) ++ Lib.uvarint ag) ++ Lib.uvarint sh) ++ Lib.uvarint seq) ep _ Ho35.out hp9 (by have := Hl39.out; omega)).mono ?_
  rintro e w40 ⟨v41, rfl, ho9, hb9⟩
  have Hb43 := Lib.hid (bthenG Hb36.out hb9)
  have Hlb45 := Lib.hid Hb43.out.size
  have Ho42 := Lib.hid (own_bs ho9)
  have Hl46 : Hid ((((((([UInt8.ofNat 1] ++ Lib.uvarint fr) ++ Lib.uvarint tag) ++ Lib.uvarint ag) ++ Lib.uvarint sh) ++ Lib.uvarint seq) ++ Lib.uvarint ep).length ≤ 1 + 10 + 10 + 10 + 10 + 10 + 10) := by
    have h1 := Lib.uvarint_length64 (x := ep) hp9
    have h2 := Hl39.out
    show List.length _ ≤ _
    rw [List.length_append]
    omega
  clear hb9 ho9
  refine hK.out _ _ (HSB.out _ Hb43.out) (fun hHeld2 => ?_)
  clear hK K hHeld
  have hHeld := hHeld2
  clear hHeld2
  try simp only [List.getElem_toArray, List.getElem_cons_succ, List.getElem_cons_zero, Act.put, List.setIfInBounds_toArray, List.set_cons_zero, List.set_cons_succ]
  refine wpAnyH_take (i := 10) (oi := _) (v := ?v10c) rfl (by kernel_rfl) (by kernel_rfl) (by kernel_rfl) (fun _ _ _ h => h) (Or.inl ⟨by rfl, ?y10c⟩) (by assumption) ?r10c
  case y10c => (intro w hSw; (try dsimp only at hSw); go_simp <;> with_reducible rfl)
  try simp only [List.getElem_toArray, List.getElem_cons_succ, List.getElem_cons_zero, Act.put, List.setIfInBounds_toArray, List.set_cons_zero, List.set_cons_succ]
  refine wpAnyH_done (by kernel_rfl) ?_ _
  clear hHeld
  obtain ⟨c0, c1, c2, c3, c4, c5, c6, c7, c8⟩ := HSB.out _ Hb43.out
  have HD3 := Lib.hid (HD2.out.keep (Keeps.of_below (M := []) Hb43.out) (by simp))
  have hlim : Hid (((((((([UInt8.ofNat 1] ++ Lib.uvarint fr) ++ Lib.uvarint tag) ++ Lib.uvarint ag) ++ Lib.uvarint sh) ++ Lib.uvarint seq) ++ Lib.uvarint ep) ++ Lib.uvarint ds.length ++ ds.flatMap dBytes).length ≤ 140737488300000) := by
    have h1 := Lib.uvarint_length64 (x := ds.length) (by omega)
    have h2 := Hl46.out
    have h3 := hdl.out
    show List.length _ ≤ _
    rw [List.length_append, List.length_append]
    have h4 : ds.length * 4294967301 ≤ 8 * 4294967301 := Nat.mul_le_mul_right _ hd8
    omega
  go_wp2_with fail
  refine (rdeltas_any v41 (((((([UInt8.ofNat 1] ++ Lib.uvarint fr) ++ Lib.uvarint tag) ++ Lib.uvarint ag) ++ Lib.uvarint sh) ++ Lib.uvarint seq) ++ Lib.uvarint ep) _ ds _ Ho42.out HD3.out Hw4.out (by omega) hlim.out).mono ?_
  rintro e w9 ⟨v9, rfl, ho9, hb9⟩
  have hC := Lib.hid (hFin.out v9 w9 (below_then Hb43.out hb9) (by rw [HBE2.out]; exact own_more ho9 (Hb43.out.size)))
  clear ho9 hb9
  go_wp2
  go_ret
  exact hC.out
theorem rbytes_any (e : EntryD) (dv : Value) (w : World) (hr0 : rightE e = 0) (h : Ds w [] dv e.ds) (hs : Short e) (hw : Wf e) :
    Calls Tryz.prog 19 #[.agg (eCell (e, dv)).toArray] w fun r w' => OwnB (bytesE e) w r w' := by
  rcases (right_facts hr0).2 with h2 | h1
  · exact rbytes_2 e dv w h2 hr0 h hs hw
  · exact rbytes_1 e dv w h1.1 hr0 h hs hw
end Go.Proofs.YtinnifhnabncfaaGreatDoor.Vi
end
/- Contract of hopperlaw4.same. -/
section
namespace Go.Proofs.YtinnifhnabncfaaGreatDoor.Vi
open Go.RowKit Base Mem Go.Shelf
/-- An entry of no great size, its numbers within their types. -/
structure Wide (K : Nat) (e : EntryD) : Prop where
  ser : e.ser.size ≤ 1048576
  sers : ∀ d ∈ e.ds, d.ser.size ≤ 1048576
  nums : ∀ d ∈ e.ds, NOk d
  len : e.ds.length ≤ K
  tag : e.tag ≤ 9223372036854775807
  seq : e.seq ≤ 9223372036854775807
  ep : e.ep ≤ 9223372036854775807
theorem Wide.short {K : Nat} {e : EntryD} (h : Wide K e) (hK : K ≤ 4611686018427387904) : Short e :=
  ⟨by have := h.ser; omega, fun d hd => by have := h.sers d hd; omega, Nat.le_trans h.len hK⟩
theorem Wide.wf {K : Nat} {e : EntryD} (h : Wide K e) : Wf e := ⟨h.tag, h.seq, h.ep, h.nums⟩
theorem dBytes_len3 (ds : List DeltaD) (h : ∀ d ∈ ds, d.ser.size ≤ 1048576) (hn : ∀ d ∈ ds, NOk d) : (ds.flatMap dBytes).length ≤ ds.length * 1048600 := by
  induction ds with
  | nil => simp
  | cons d ds ih =>
    have h1 := ih (fun x hx => h x (List.mem_cons_of_mem _ hx)) (fun x hx => hn x (List.mem_cons_of_mem _ hx))
    have h2 := h d (by simp)
    obtain ⟨h3, h4⟩ := hn d (by simp)
    have u1 := Lib.uvarint_length64 (x := d.ser.size) (by omega)
    have u2 := Lib.uvarint_length64 (x := d.n.toNat) (by omega)
    have h5 : (dBytes d).length ≤ 1048600 := by
      unfold dBytes
      rw [List.length_append, List.length_append, sB_len]
      omega
    rw [List.flatMap_cons, List.length_append, List.length_cons]
    omega
theorem Wide.bytes {K : Nat} {e : EntryD} (h : Wide K e) (hr : rightE e = 0) : (bytesE e).length < 4294967281 := by
  obtain ⟨⟨f0, f8, t0⟩, hk⟩ := right_facts hr
  have u1 := Lib.uvarint_length64 (x := e.fr.toNat) (by omega)
  have u2 := Lib.uvarint_length64 (x := e.tag.toNat) (by have := h.tag; omega)
  have hs := h.ser
  unfold bytesE headB
  rcases hk with hk | ⟨hk, a0, a8, s0, s4, q1, p1, d8⟩
  · have u3 := Lib.uvarint_length64 (x := e.ser.size) (by omega)
    rw [if_pos hk]
    simp only [List.length_append, List.length_singleton, sB_len]
    omega
  · have u3 := Lib.uvarint_length64 (x := e.ag.toNat) (by omega)
    have u4 := Lib.uvarint_length64 (x := e.sh.toNat) (by omega)
    have u5 := Lib.uvarint_length64 (x := e.seq.toNat) (by have := h.seq; omega)
    have u6 := Lib.uvarint_length64 (x := e.ep.toNat) (by have := h.ep; omega)
    have u7 := Lib.uvarint_length64 (x := e.ds.length) (by omega)
    have u8 := dBytes_len3 e.ds h.sers h.nums
    have u9 : e.ds.length * 1048600 ≤ 8 * 1048600 := Nat.mul_le_mul_right _ d8
    rw [if_neg (by omega)]
    simp only [List.length_append, List.length_singleton]
    omega
set_option maxRecDepth 100000 in
set_option maxHeartbeats 4000000 in
theorem lawsame_any (K : Nat) (e : EntryD) (dv : Value) (m : Int) (w : World) (h : Ds w [] dv e.ds) (hK : K ≤ 4611686018427387904) (hwd : Wide K e) (hm : w.cell? ⟨0, 0, none⟩ = some (.int .i64 m)) :
    Calls Tryz.prog 17 #[.agg (eCell (e, dv)).toArray] w fun r w' => SamePost true w r w' := by
  have hw0 : 0 < w.heap.size := by
    have := World.block_lt_of_cell? w _ hm
    simpa using this
  have hs := hwd.short hK
  have hwf := hwd.wf
  have hlen : e.ds.length ≤ 4611686018427387904 := hs.2.2
  have Hm : Hid (∀ W, Keeps [] w W → W.cell? ⟨0, 0, none⟩ = some (.int .i64 m)) := fun W hk => (hk.cell (p := ⟨0, 0, none⟩) hw0 (by simp)).trans hm
  have HRi := Lib.hid (fun W (hk : Keeps [] w W) => eright_any e dv m W (h.keep hk (by simp)) hs (Hm.out W hk))
  have HRr := Lib.hid (fun W (hk : Keeps [] w W) => rrightE_any e dv W (h.keep hk (by simp)) hs)
  have HSa := Lib.hid (fun W (hk : Keeps [] w W) => same_any e e dv dv W (h.keep hk (by simp)) (h.keep hk (by simp)) hlen hlen)
  rw [(sameE_iff e e).2 rfl] at HSa
  have HNo := Lib.hid (fun (hr : rightE e ≠ 0) W (hk : Keeps [] w W) => ebytes_no e dv m W hr (h.keep hk (by simp)) hs (Hm.out W hk))
  have HOk := Lib.hid (fun (hr : rightE e = 0) W (hk : Keeps [] w W) => ebytes_ok e dv m W hr (h.keep hk (by simp)) hs hwf (Hm.out W hk))
  have HBy := Lib.hid (fun (hr : rightE e = 0) W (hk : Keeps [] w W) => rbytes_any e dv W hr (h.keep hk (by simp)) hs hwf)
  have Hbl := Lib.hid (fun (hr : rightE e = 0) => hwd.bytes hr)
  have HRd := Lib.hid (fun (be : List UInt8) (hb : be.length < 4294967281) v W (hv : Bs W [] v be) (hk : Keeps [] w W) => reads_any v be m W hv hb (Hm.out W hk))
  obtain ⟨A, c, rfl, hc⟩ := h.len
  clear h hs hwf hwd hm hlen
  generalize rightE e = rr at *
  generalize bytesE e = be at *
  obtain ⟨kind, ag, sh, seq, ep, ds, ser, fr, tag⟩ := e
  simp only [eCell] at *
  obtain ⟨w2, hw2⟩ : ∃ w2, w2 = w.alloc (.cells #[.int .i64 kind, .int .i64 ag, .int .i64 sh, .int .i64 seq, .int .i64 ep, .slice A ds.length c, .string ser, .int .i64 fr, .int .i64 tag] 26) := ⟨_, rfl⟩
  have hB : Blk w2 w.heap.size 26 #[.int .i64 kind, .int .i64 ag, .int .i64 sh, .int .i64 seq, .int .i64 ep, .slice A ds.length c, .string ser, .int .i64 fr, .int .i64 tag] := by rw [hw2]; exact Blk.new w _ _
  have hk2 : Keeps [] w w2 := by rw [hw2]; exact (Keeps.refl _ _).alloc _
  have Hk2 := Lib.hid hk2; have Hw2 := Lib.hid hw2
  obtain ⟨c0, c1, c2, c3, c4, c5, c6, c7, c8, _⟩ := rblk9 hB
  have hg1 : w.heap.size < w2.heap.size := hB.lt
  clear hw2 hB hk2
  have HSB : Hid (∀ W, Below w2.heap.size w2 W → W.cell? ⟨w.heap.size, 0, none⟩ = some (.int .i64 kind) ∧ W.cell? ⟨w.heap.size, 1, none⟩ = some (.int .i64 ag) ∧ W.cell? ⟨w.heap.size, 2, none⟩ = some (.int .i64 sh) ∧ W.cell? ⟨w.heap.size, 3, none⟩ = some (.int .i64 seq) ∧ W.cell? ⟨w.heap.size, 4, none⟩ = some (.int .i64 ep) ∧ W.cell? ⟨w.heap.size, 5, none⟩ = some (.slice A ds.length c) ∧ W.cell? ⟨w.heap.size, 6, none⟩ = some (.string ser) ∧ W.cell? ⟨w.heap.size, 7, none⟩ = some (.int .i64 fr) ∧ W.cell? ⟨w.heap.size, 8, none⟩ = some (.int .i64 tag)) := fun W hb => ⟨(hb.cell (p := ⟨w.heap.size, 0, none⟩) hg1).trans c0, (hb.cell (p := ⟨w.heap.size, 1, none⟩) hg1).trans c1, (hb.cell (p := ⟨w.heap.size, 2, none⟩) hg1).trans c2, (hb.cell (p := ⟨w.heap.size, 3, none⟩) hg1).trans c3, (hb.cell (p := ⟨w.heap.size, 4, none⟩) hg1).trans c4, (hb.cell (p := ⟨w.heap.size, 5, none⟩) hg1).trans c5, (hb.cell (p := ⟨w.heap.size, 6, none⟩) hg1).trans c6, (hb.cell (p := ⟨w.heap.size, 7, none⟩) hg1).trans c7, (hb.cell (p := ⟨w.heap.size, 8, none⟩) hg1).trans c8⟩
  have HKB : Hid (∀ W, Below w2.heap.size w2 W → Keeps [] w W) := fun W hb => Hk2.out.trans (Keeps.of_below (M := []) hb) (by simp)
  show Calls Tryz.prog 17 #[.agg #[.int .i64 kind, .int .i64 ag, .int .i64 sh, .int .i64 seq, .int .i64 ep, .slice A ds.length c, .string ser, .int .i64 fr, .int .i64 tag]] w fun r w' => SamePost true w r w'
  go_enter Tryz.func17, Tryz.ntmps17
  go_upto_region 1 with (fail)
  rw [← Hw2.out]
  clear Hw2
  by_cases hr : rr = 0
  · subst hr
    have HB1 := Lib.hid (HOk.out rfl w2 Hk2.out)
    have HBy2 := Lib.hid (HBy.out rfl)
    have hbl := Hbl.out rfl
    clear HNo HOk HBy Hbl
    go_wp2_with fail
    refine HB1.out.mono ?_
    rintro r w3 ⟨Ab, rfl, hbs, hb3⟩
    have Hbs3 := Lib.hid (hbs [] (by simp)); have Hb3 := Lib.hid hb3
    clear hbs hb3 HB1
    clear c0 c1 c2 c3 c4 c5 c6 c7 c8
    obtain ⟨c0, c1, c2, c3, c4, c5, c6, c7, c8⟩ := HSB.out _ Hb3.out
    go_wp2_with fail
    refine (HRr.out _ (HKB.out _ Hb3.out)).mono ?_
    rintro r w4 ⟨rfl, hb⟩
    have Hb4 := Lib.hid (Hb3.out.trans (hb.mono Hb3.out.size))
    have Hxw4 := Lib.hid hb
    clear hb c0 c1 c2 c3 c4 c5 c6 c7 c8
    obtain ⟨c0, c1, c2, c3, c4, c5, c6, c7, c8⟩ := HSB.out _ Hb4.out
    go_wp2_with fail
    refine (HRi.out _ (HKB.out _ Hb4.out)).mono ?_
    rintro r w5 ⟨rfl, hb⟩
    have Hb5 := Lib.hid (Hb4.out.trans (hb.mono Hb4.out.size))
    have Hxw5 := Lib.hid hb
    clear hb c0 c1 c2 c3 c4 c5 c6 c7 c8
    obtain ⟨c0, c1, c2, c3, c4, c5, c6, c7, c8⟩ := HSB.out _ Hb5.out
    go_wp2_with fail
    refine (HSa.out _ (HKB.out _ Hb5.out)).mono ?_
    rintro r w6 ⟨rfl, hb⟩
    have Hb6 := Lib.hid (Hb5.out.trans (hb.mono Hb5.out.size))
    have Hxw6 := Lib.hid hb
    clear hb c0 c1 c2 c3 c4 c5 c6 c7 c8
    have Hb36 := Lib.hid (below_then Hxw4.out (below_then Hxw5.out Hxw6.out))
    obtain ⟨c0, c1, c2, c3, c4, c5, c6, c7, c8⟩ := HSB.out _ Hb6.out
    go_upto_region 7 with (fail)
    clear c0 c1 c2 c3 c4 c5 c6 c7 c8
    have Hbs6 := Lib.hid (Hbs3.out.keep (M' := []) (Keeps.of_below Hb36.out) (by simp))
    have hcv := conv_bytes Hbs6.out
    obtain ⟨tA, htA⟩ : ∃ tA : ByteArray, tA = ⟨be.toArray⟩ := ⟨_, rfl⟩
    rw [← htA] at hcv
    have HS7 : Hid (∀ W, Below w6.heap.size w6 W → (convert 36 9 (.slice Ab be.length be.length)).run Tryz.prog W = .ok (.string tA) W) := fun W hb => by
      have := conv_bytes (Hbs6.out.keep (M' := []) (Keeps.of_below hb) (by simp))
      rwa [← htA] at this
    have HCV : Hid (∀ W v, W.ownsRow w6.heap.size 5 1 v be.length (be.map bV) → ∃ A7 c7, v = .slice A7 be.length c7 ∧ (convert 36 9 (.slice A7 be.length c7)).run Tryz.prog W = .ok (.string tA) W) := fun W v h => by
      rw [htA]; exact conv_own h
    clear hcv htA
    have HSC : Hid (∀ W, Below w6.heap.size w6 W → W.cell? ⟨w.heap.size, 0, none⟩ = some (.int .i64 kind) ∧ W.cell? ⟨w.heap.size, 1, none⟩ = some (.int .i64 ag) ∧ W.cell? ⟨w.heap.size, 2, none⟩ = some (.int .i64 sh) ∧ W.cell? ⟨w.heap.size, 3, none⟩ = some (.int .i64 seq) ∧ W.cell? ⟨w.heap.size, 4, none⟩ = some (.int .i64 ep) ∧ W.cell? ⟨w.heap.size, 5, none⟩ = some (.slice A ds.length c) ∧ W.cell? ⟨w.heap.size, 6, none⟩ = some (.string ser) ∧ W.cell? ⟨w.heap.size, 7, none⟩ = some (.int .i64 fr) ∧ W.cell? ⟨w.heap.size, 8, none⟩ = some (.int .i64 tag) ∧ (convert 36 9 (.slice Ab be.length be.length)).run Tryz.prog W = .ok (.string tA) W) := fun W hb => by
      obtain ⟨e0, e1, e2, e3, e4, e5, e6, e7, e8⟩ := HSB.out W (Hb6.out.trans (hb.mono Hb6.out.size))
      exact ⟨e0, e1, e2, e3, e4, e5, e6, e7, e8, HS7.out W hb⟩
    refine wp_region_held_drew (S := (fun W => W.cell? ⟨w.heap.size, 0, none⟩ = some (.int .i64 kind) ∧ W.cell? ⟨w.heap.size, 1, none⟩ = some (.int .i64 ag) ∧ W.cell? ⟨w.heap.size, 2, none⟩ = some (.int .i64 sh) ∧ W.cell? ⟨w.heap.size, 3, none⟩ = some (.int .i64 seq) ∧ W.cell? ⟨w.heap.size, 4, none⟩ = some (.int .i64 ep) ∧ W.cell? ⟨w.heap.size, 5, none⟩ = some (.slice A ds.length c) ∧ W.cell? ⟨w.heap.size, 6, none⟩ = some (.string ser) ∧ W.cell? ⟨w.heap.size, 7, none⟩ = some (.int .i64 fr) ∧ W.cell? ⟨w.heap.size, 8, none⟩ = some (.int .i64 tag) ∧ (convert 36 9 (.slice Ab be.length be.length)).run Tryz.prog W = .ok (.string tA) W)) (by kernel_rfl) (HSC.out _ (bdrewG (Below.refl _ w6))) (fun hHeld => ?_)
    refine wpAnyH_take (i := 0) (oi := _) (v := ?v0) rfl (by kernel_rfl) (by kernel_rfl) (by kernel_rfl) (fun _ _ _ h => h) (Or.inl ⟨by rfl, ?y0⟩) (by assumption) ?r0
    case y0 => (intro w hSw; (obtain ⟨hS0, hS1, hS2, hS3, hS4, hS5, hS6, hS7, hS8, hS9⟩ := hSw); go_simp <;> with_reducible rfl)
    try simp only [List.getElem_toArray, List.getElem_cons_succ, List.getElem_cons_zero, Act.put, List.setIfInBounds_toArray, List.set_cons_zero, List.set_cons_succ]
    refine wpAnyH_take (i := 1) (oi := _) (v := ?v1) rfl (by kernel_rfl) (by kernel_rfl) (by kernel_rfl) (fun _ _ _ h => h) (Or.inl ⟨by rfl, ?y1⟩) (by assumption) ?r1
    case y1 => (intro w hSw; (obtain ⟨hS0, hS1, hS2, hS3, hS4, hS5, hS6, hS7, hS8, hS9⟩ := hSw); go_simp <;> with_reducible rfl)
    try simp only [List.getElem_toArray, List.getElem_cons_succ, List.getElem_cons_zero, Act.put, List.setIfInBounds_toArray, List.set_cons_zero, List.set_cons_succ]
    refine wpAnyH_take (i := 2) (oi := _) (v := ?v2) rfl (by kernel_rfl) (by kernel_rfl) (by kernel_rfl) (fun _ _ _ h => h) (Or.inl ⟨by rfl, ?y2⟩) (by assumption) ?r2
    case y2 => (intro w hSw; (obtain ⟨hS0, hS1, hS2, hS3, hS4, hS5, hS6, hS7, hS8, hS9⟩ := hSw); go_simp <;> with_reducible rfl)
    try simp only [List.getElem_toArray, List.getElem_cons_succ, List.getElem_cons_zero, Act.put, List.setIfInBounds_toArray, List.set_cons_zero, List.set_cons_succ]
    refine wpAnyH_ready (rs := [3]) (by kernel_rfl) (by simp) ?_
    refine AllReadyH.cons (o := _) rfl (fun K hK => ?_) AllReadyH.nil
    go_simp
    refine (HBy2.out _ (HKB.out _ (bdrewG Hb6.out))).mono ?_
    rintro e w7 ⟨v7, rfl, hown7, hb7⟩
    have Hb7 := Lib.hid (bthenG (bdrewG (Below.refl _ w6)) hb7)
    have HcvX := Lib.hid (HCV.out w7 v7 (show w7.ownsRow w6.heap.size 5 1 v7 be.length (be.map bV) from hown7))
    clear hb7 hown7
    obtain ⟨A7, c7x, rfl, hcv7⟩ := HcvX.out
    refine hK.out _ _ (HSC.out _ Hb7.out) (fun hHeld2 => ?_)
    clear hK K hHeld
    have hHeld := hHeld2
    clear hHeld2
    try simp only [List.getElem_toArray, List.getElem_cons_succ, List.getElem_cons_zero, Act.put, List.setIfInBounds_toArray, List.set_cons_zero, List.set_cons_succ]
    refine wpAnyH_ready (rs := [4]) (by kernel_rfl) (by simp) ?_
    refine AllReadyH.cons (o := _) rfl (fun K hK => ?_) AllReadyH.nil
    go_simp
    refine hK.out _ _ (HSC.out _ Hb7.out) (fun hHeld2 => ?_)
    clear hK K hHeld
    have hHeld := hHeld2
    clear hHeld2
    try simp only [List.getElem_toArray, List.getElem_cons_succ, List.getElem_cons_zero, Act.put, List.setIfInBounds_toArray, List.set_cons_zero, List.set_cons_succ]
    refine wpAnyH_take (i := 5) (oi := _) (v := ?v5) rfl (by kernel_rfl) (by kernel_rfl) (by kernel_rfl) (fun _ _ _ h => h) (Or.inl ⟨by rfl, ?y5⟩) (by assumption) ?r5
    case y5 => (intro w hSw; (obtain ⟨hS0, hS1, hS2, hS3, hS4, hS5, hS6, hS7, hS8, hS9⟩ := hSw); go_simp <;> with_reducible rfl)
    try simp only [List.getElem_toArray, List.getElem_cons_succ, List.getElem_cons_zero, Act.put, List.setIfInBounds_toArray, List.set_cons_zero, List.set_cons_succ]
    refine wpAnyH_take (i := 6) (oi := _) (v := ?v6) rfl (by kernel_rfl) (by kernel_rfl) (by kernel_rfl) (fun _ _ _ h => h) (Or.inl ⟨by rfl, ?y6⟩) (by assumption) ?r6
    case y6 => (intro w hSw; (obtain ⟨hS0, hS1, hS2, hS3, hS4, hS5, hS6, hS7, hS8, hS9⟩ := hSw); go_simp <;> with_reducible rfl)
    try simp only [List.getElem_toArray, List.getElem_cons_succ, List.getElem_cons_zero, Act.put, List.setIfInBounds_toArray, List.set_cons_zero, List.set_cons_succ]
    refine wpAnyH_take (i := 7) (oi := _) (v := ?v7) rfl (by kernel_rfl) (by kernel_rfl) (by kernel_rfl) (fun _ _ _ h => h) (Or.inl ⟨by rfl, ?y7⟩) (by assumption) ?r7
    case y7 => (intro w hSw; (obtain ⟨hS0, hS1, hS2, hS3, hS4, hS5, hS6, hS7, hS8, hS9⟩ := hSw); go_simp <;> with_reducible rfl)
    try simp only [List.getElem_toArray, List.getElem_cons_succ, List.getElem_cons_zero, Act.put, List.setIfInBounds_toArray, List.set_cons_zero, List.set_cons_succ]
    refine wpAnyH_ready (rs := [8]) (by kernel_rfl) (by simp) ?_
    refine AllReadyH.cons (o := _) rfl (fun K hK => ?_) AllReadyH.nil
    go_simp
    refine (HRd.out be hbl (.slice Ab be.length be.length) w7 (Hbs6.out.keep (M' := []) (Keeps.of_below Hb7.out) (by simp)) (HKB.out _ (Hb6.out.trans (Hb7.out.mono Hb6.out.size)))).mono ?_
    rintro e w8 ⟨rfl, hb8⟩
    have Hb8 := Lib.hid (below_then Hb7.out hb8)
    clear hb8
    refine hK.out _ _ (HSC.out _ Hb8.out) (fun hHeld2 => ?_)
    clear hK K hHeld
    have hHeld := hHeld2
    clear hHeld2
    try simp only [List.getElem_toArray, List.getElem_cons_succ, List.getElem_cons_zero, Act.put, List.setIfInBounds_toArray, List.set_cons_zero, List.set_cons_succ]
    refine wpAnyH_take (i := 9) (oi := _) (v := ?v9) rfl (by kernel_rfl) (by kernel_rfl) (by kernel_rfl) (fun _ _ _ h => h) (Or.inl ⟨by rfl, ?y9⟩) (by assumption) ?r9
    case y9 => (intro w hSw; (obtain ⟨hS0, hS1, hS2, hS3, hS4, hS5, hS6, hS7, hS8, hS9⟩ := hSw); go_simp <;> with_reducible rfl)
    try simp only [List.getElem_toArray, List.getElem_cons_succ, List.getElem_cons_zero, Act.put, List.setIfInBounds_toArray, List.set_cons_zero, List.set_cons_succ]
    refine wpAnyH_take (i := 10) (oi := _) (v := ?v10) rfl (by kernel_rfl) (by kernel_rfl) (by kernel_rfl) (fun _ _ _ h => h) (Or.inl ⟨by rfl, ?y10⟩) (by assumption) ?r10
    case y10 => (intro w hSw; (obtain ⟨hS0, hS1, hS2, hS3, hS4, hS5, hS6, hS7, hS8, hS9⟩ := hSw); go_simp <;> with_reducible rfl)
    try simp only [List.getElem_toArray, List.getElem_cons_succ, List.getElem_cons_zero, Act.put, List.setIfInBounds_toArray, List.set_cons_zero, List.set_cons_succ]
    refine wpAnyH_done (by kernel_rfl) ?_ _
    have HF := Lib.hid (HKB.out _ (Hb6.out.trans (Hb8.out.mono Hb6.out.size))).below
    clear hHeld
    go_wp2
    go_ret
    exact ⟨rfl, HF.out⟩
  · have HB1 := Lib.hid (HNo.out hr w2 Hk2.out)
    clear HNo HOk HBy Hbl
    have hrn : ((rr : Int) != 0) = true := by rw [bne_iff_ne]; omega
    clear hr
    go_wp2_with fail
    refine HB1.out.mono ?_
    rintro r w3 ⟨rfl, hb3⟩
    have Hb3 := Lib.hid hb3
    clear hb3 HB1
    clear c0 c1 c2 c3 c4 c5 c6 c7 c8
    obtain ⟨c0, c1, c2, c3, c4, c5, c6, c7, c8⟩ := HSB.out _ Hb3.out
    go_wp2_with fail
    refine (HRr.out _ (HKB.out _ Hb3.out)).mono ?_
    rintro r w4 ⟨rfl, hb⟩
    have Hb4 := Lib.hid (Hb3.out.trans (hb.mono Hb3.out.size))
    have Hxw4 := Lib.hid hb
    clear hb c0 c1 c2 c3 c4 c5 c6 c7 c8
    obtain ⟨c0, c1, c2, c3, c4, c5, c6, c7, c8⟩ := HSB.out _ Hb4.out
    go_wp2_with fail
    refine (HRi.out _ (HKB.out _ Hb4.out)).mono ?_
    rintro r w5 ⟨rfl, hb⟩
    have Hb5 := Lib.hid (Hb4.out.trans (hb.mono Hb4.out.size))
    have Hxw5 := Lib.hid hb
    clear hb c0 c1 c2 c3 c4 c5 c6 c7 c8
    obtain ⟨c0, c1, c2, c3, c4, c5, c6, c7, c8⟩ := HSB.out _ Hb5.out
    go_wp2_with fail
    refine (HSa.out _ (HKB.out _ Hb5.out)).mono ?_
    rintro r w6 ⟨rfl, hb⟩
    have Hb6 := Lib.hid (Hb5.out.trans (hb.mono Hb5.out.size))
    have Hxw6 := Lib.hid hb
    clear hb c0 c1 c2 c3 c4 c5 c6 c7 c8
    go_wp2
    go_ret
    exact ⟨rfl, (HKB.out _ Hb6.out).below⟩
end Go.Proofs.YtinnifhnabncfaaGreatDoor.Vi
end
/- Contract of hopperlaw4.odd. -/
section
namespace Go.Proofs.YtinnifhnabncfaaGreatDoor.Vi
open Go.RowKit Base Mem Go.Shelf Tape
theorem own_made1 {w : World} {base : Nat} {e : TypeId} {size : Nat} (cur : List Value) (hb : base ≤ w.heap.size) (hs : cur.length = 1 * size) :
    (w.alloc (.cells cur.toArray e)).ownsRow base e size (.slice (some ⟨w.heap.size, 0, none⟩) 1 1) 1 cur :=
  ⟨hs, .inr ⟨w.heap.size, 1, cur.toArray, rfl, hb, heap_alloc_new w _, Nat.le_refl _, by unfold maxLen; omega, by simpa using hs, by rw [List.take_of_length_le (by simpa using Nat.le_of_eq hs)]⟩⟩
theorem dCells_one (l : List DeltaD) : ∀ u ∈ dCells l, u.oneCell' = true := by
  intro u hu
  unfold dCells at hu
  obtain ⟨d, _, hd⟩ := List.mem_flatMap.1 hu
  simp [dCell] at hd
  rcases hd with rfl | rfl <;> rfl
def OddPost (K : Nat) (w : World) (r : Ending) (w' : World) : Prop := ∃ (e : EntryD) (dv : Value), r = .returned (.agg (eCell (e, dv)).toArray) ∧ Ds w' [] dv e.ds ∧ Wide K e ∧ Below w.heap.size w w'
/-- What stands behind the switch. -/
structure OddS (K g : Nat) (w0 w : World) (e : EntryD) (dv : Value) : Prop where
  b3 : Blk w g 26 (eCell (e, dv)).toArray
  b6 : Blk w (g + 1) 26 zeroA
  ds : Ds w [g, g + 1] dv e.ds
  wide : Wide K e
  keeps : Below g w0 w
/-- How many deltas stand in the entry's block. -/
def lenAt (w : World) (g : Nat) : Nat := match w.cell? ⟨g, 5, none⟩ with | some (.slice _ n _) => n | _ => 0
theorem Wide.more {K K' : Nat} {e : EntryD} (h : Wide K e) (hk : K ≤ K') : Wide K' e := ⟨h.ser, h.sers, h.nums, Nat.le_trans h.len hk, h.tag, h.seq, h.ep⟩
set_option maxRecDepth 100000 in
set_option maxHeartbeats 8000000 in
theorem odd_any (K : Nat) (e : EntryD) (dv : Value) (what n : Int) (w : World) (h : Ds w [] dv e.ds) (hK : K ≤ 1048600) (hwd : Wide K e) (hn : n ≤ 9223372036854775807) :
    Calls Tryz.prog 18 #[.agg (eCell (e, dv)).toArray, .int .i64 what, .int .i64 n] w fun r w' => OddPost (K + 10) w r w' := by
  obtain ⟨i0, hi0, hz0, hz1, hz2⟩ := info_parts infoDelta2
  have Hi0 := Lib.hid hi0; have Hz0 := Lib.hid hz0; have Hz1 := Lib.hid hz1; have Hz2 := Lib.hid hz2
  clear hi0 hz0 hz1 hz2
  have hwi := Lib.hid (fun W => within_any what 0 11 W (by omega) (by omega) (by omega))
  obtain ⟨hk0, hk1⟩ := within_bd what 0 11 (by omega)
  generalize withinS what 0 11 = k at *
  have HD := Lib.hid h
  obtain ⟨A, c, rfl, hc⟩ := h.len
  obtain ⟨kind, ag, sh, seq, ep, ds, ser, fr, tag⟩ := e
  have HW := Lib.hid hwd
  have hdl : ds.length ≤ K := hwd.len
  simp only [eCell] at *
  clear h hwd
  obtain ⟨w2, hw2⟩ : ∃ w2, w2 = (w.alloc (.cells #[.int .i64 kind, .int .i64 ag, .int .i64 sh, .int .i64 seq, .int .i64 ep, .slice A ds.length c, .string ser, .int .i64 fr, .int .i64 tag] 26)).alloc (.cells zeroA 26) := ⟨_, rfl⟩
  have hS : OddS K w.heap.size w w2 ⟨kind, ag, sh, seq, ep, ds, ser, fr, tag⟩ (.slice A ds.length c) := by
    rw [hw2]
    refine ⟨(Blk.new w 26 #[.int .i64 kind, .int .i64 ag, .int .i64 sh, .int .i64 seq, .int .i64 ep, .slice A ds.length c, .string ser, .int .i64 fr, .int .i64 tag]).below (B := w.heap.size + 1) (((Below.refl _ _)).alloc (by simp) _) (by omega), ?_, ?_, HW.out, ((Below.refl _ _).alloc (Nat.le_refl _) _).alloc (by simp) _⟩
    · have := Blk.new (w.alloc (.cells #[.int .i64 kind, .int .i64 ag, .int .i64 sh, .int .i64 seq, .int .i64 ep, .slice A ds.length c, .string ser, .int .i64 fr, .int .i64 tag] 26)) 26 zeroA
      rwa [World.size_alloc] at this
    · exact (HD.out.avoid (M' := [w.heap.size, w.heap.size + 1]) (by intro g hg; simp at hg; right; omega)).keep (M' := []) (((Keeps.refl _ _).alloc _).alloc _) (by simp)
  have hsz : w.heap.size + 2 ≤ w2.heap.size := by rw [hw2]; simp
  unfold zeroA at hw2
  have HS := Lib.hid hS; have Hw2 := Lib.hid hw2
  clear hS hw2 HD
  go_enter Tryz.func18, Tryz.ntmps18
  go_upto_region 1 with (fail)
  rw [← Hw2.out]
  clear Hw2
  have HF : Hid (∀ e' dv' W, OddS (K + 10) w.heap.size w W e' dv' → ∀ W', Keeps [w.heap.size + 1] W W' → OddPost (K + 10) w (.returned (.agg (eCell (e', dv')).toArray)) W') := fun e' dv' W hS W' hk =>
    ⟨e', dv', rfl, (hS.ds.keep hk (by simp)).avoid (by simp), hS.wide, ((Keeps.of_below (M := []) hS.keeps).trans hk (by intro g hg; simp at hg; right; omega)).below⟩
  generalize w.heap.size = g3 at *
  go_wp2_with fail
  refine (hwi.out _).mono ?_
  rintro e w' ⟨rfl, rfl⟩
  clear hwi
  rcases (show k = 0 ∨ k = 1 ∨ k = 2 ∨ k = 3 ∨ k = 4 ∨ k = 5 ∨ k = 6 ∨ k = 7 ∨ k = 8 ∨ k = 9 ∨ k = 10 ∨ k = 11 by omega) with rfl | rfl | rfl | rfl | rfl | rfl | rfl | rfl | rfl | rfl | rfl | rfl
  · obtain ⟨q0, q1, q2, q3, q4, q5, q6, q7, q8, qf⟩ := rblk9 HS.out.b3
    have HX0 : Hid (OddS (K + 10) g3 w (w2.setCell ⟨g3, 0, none⟩ (.int .i64 n)) ⟨n, ag, sh, seq, ep, ds, ser, fr, tag⟩ (.slice A ds.length c)) := by
      have hk : Keeps [g3] w2 (w2.setCell ⟨g3, 0, none⟩ (.int .i64 n)) := (Keeps.refl _ _).setCell (by simp) _
      exact ⟨by simpa [eCell] using HS.out.b3.set_ 0 (.int .i64 n), hk.blk HS.out.b6 (by simp), HS.out.ds.keep hk (by simp), ⟨HW.out.ser, HW.out.sers, HW.out.nums, Nat.le_trans hdl (by omega), HW.out.tag, HW.out.seq, HW.out.ep⟩, HS.out.keeps.setCell (Nat.le_refl _) _⟩
    clear HS
    go_upto_region 26 with (fail)
    generalize w2.setCell ⟨g3, 0, none⟩ (.int .i64 n) = wX at *
    have HX := HX0
    clear HX0 q0 q1 q2 q3 q4 q5 q6 q7 q8 qf
    obtain ⟨q0, q1, q2, q3, q4, q5, q6, q7, q8, qf⟩ := rblk9 HX.out.b3
    obtain ⟨r0, r1, r2, r3, r4, r5, r6, r7, r8, rf⟩ := rblk9 HX.out.b6
    go_wp2
    refine bodyPost_ret (v := .agg #[.int .i64 n, .int .i64 ag, .int .i64 sh, .int .i64 seq, .int .i64 ep, .slice A ds.length c, .string ser, .int .i64 fr, .int .i64 tag]) (by simp [results, Tryz.results18, go_sem, r0, r1, r2, r3, r4, r5, r6, r7, r8]) rfl ?_
    refine HF.out ⟨n, ag, sh, seq, ep, ds, ser, fr, tag⟩ (.slice A ds.length c) _ HX.out _ ?_
    repeat (first | (with_reducible exact Keeps.refl _ _) | (with_reducible refine Keeps.setCell ?_ (by simp) _))
  · obtain ⟨q0, q1, q2, q3, q4, q5, q6, q7, q8, qf⟩ := rblk9 HS.out.b3
    have HX0 : Hid (OddS (K + 10) g3 w (w2.setCell ⟨g3, 1, none⟩ (.int .i64 n)) ⟨kind, n, sh, seq, ep, ds, ser, fr, tag⟩ (.slice A ds.length c)) := by
      have hk : Keeps [g3] w2 (w2.setCell ⟨g3, 1, none⟩ (.int .i64 n)) := (Keeps.refl _ _).setCell (by simp) _
      exact ⟨by simpa [eCell] using HS.out.b3.set_ 1 (.int .i64 n), hk.blk HS.out.b6 (by simp), HS.out.ds.keep hk (by simp), ⟨HW.out.ser, HW.out.sers, HW.out.nums, Nat.le_trans hdl (by omega), HW.out.tag, HW.out.seq, HW.out.ep⟩, HS.out.keeps.setCell (Nat.le_refl _) _⟩
    clear HS
    go_upto_region 26 with (fail)
    generalize w2.setCell ⟨g3, 1, none⟩ (.int .i64 n) = wX at *
    have HX := HX0
    clear HX0 q0 q1 q2 q3 q4 q5 q6 q7 q8 qf
    obtain ⟨q0, q1, q2, q3, q4, q5, q6, q7, q8, qf⟩ := rblk9 HX.out.b3
    obtain ⟨r0, r1, r2, r3, r4, r5, r6, r7, r8, rf⟩ := rblk9 HX.out.b6
    go_wp2
    refine bodyPost_ret (v := .agg #[.int .i64 kind, .int .i64 n, .int .i64 sh, .int .i64 seq, .int .i64 ep, .slice A ds.length c, .string ser, .int .i64 fr, .int .i64 tag]) (by simp [results, Tryz.results18, go_sem, r0, r1, r2, r3, r4, r5, r6, r7, r8]) rfl ?_
    refine HF.out ⟨kind, n, sh, seq, ep, ds, ser, fr, tag⟩ (.slice A ds.length c) _ HX.out _ ?_
    repeat (first | (with_reducible exact Keeps.refl _ _) | (with_reducible refine Keeps.setCell ?_ (by simp) _))
  · obtain ⟨q0, q1, q2, q3, q4, q5, q6, q7, q8, qf⟩ := rblk9 HS.out.b3
    have HX0 : Hid (OddS (K + 10) g3 w (w2.setCell ⟨g3, 2, none⟩ (.int .i64 n)) ⟨kind, ag, n, seq, ep, ds, ser, fr, tag⟩ (.slice A ds.length c)) := by
      have hk : Keeps [g3] w2 (w2.setCell ⟨g3, 2, none⟩ (.int .i64 n)) := (Keeps.refl _ _).setCell (by simp) _
      exact ⟨by simpa [eCell] using HS.out.b3.set_ 2 (.int .i64 n), hk.blk HS.out.b6 (by simp), HS.out.ds.keep hk (by simp), ⟨HW.out.ser, HW.out.sers, HW.out.nums, Nat.le_trans hdl (by omega), HW.out.tag, HW.out.seq, HW.out.ep⟩, HS.out.keeps.setCell (Nat.le_refl _) _⟩
    clear HS
    go_upto_region 26 with (fail)
    generalize w2.setCell ⟨g3, 2, none⟩ (.int .i64 n) = wX at *
    have HX := HX0
    clear HX0 q0 q1 q2 q3 q4 q5 q6 q7 q8 qf
    obtain ⟨q0, q1, q2, q3, q4, q5, q6, q7, q8, qf⟩ := rblk9 HX.out.b3
    obtain ⟨r0, r1, r2, r3, r4, r5, r6, r7, r8, rf⟩ := rblk9 HX.out.b6
    go_wp2
    refine bodyPost_ret (v := .agg #[.int .i64 kind, .int .i64 ag, .int .i64 n, .int .i64 seq, .int .i64 ep, .slice A ds.length c, .string ser, .int .i64 fr, .int .i64 tag]) (by simp [results, Tryz.results18, go_sem, r0, r1, r2, r3, r4, r5, r6, r7, r8]) rfl ?_
    refine HF.out ⟨kind, ag, n, seq, ep, ds, ser, fr, tag⟩ (.slice A ds.length c) _ HX.out _ ?_
    repeat (first | (with_reducible exact Keeps.refl _ _) | (with_reducible refine Keeps.setCell ?_ (by simp) _))
  · obtain ⟨q0, q1, q2, q3, q4, q5, q6, q7, q8, qf⟩ := rblk9 HS.out.b3
    have HX0 : Hid (OddS (K + 10) g3 w (w2.setCell ⟨g3, 3, none⟩ (.int .i64 n)) ⟨kind, ag, sh, n, ep, ds, ser, fr, tag⟩ (.slice A ds.length c)) := by
      have hk : Keeps [g3] w2 (w2.setCell ⟨g3, 3, none⟩ (.int .i64 n)) := (Keeps.refl _ _).setCell (by simp) _
      exact ⟨by simpa [eCell] using HS.out.b3.set_ 3 (.int .i64 n), hk.blk HS.out.b6 (by simp), HS.out.ds.keep hk (by simp), ⟨HW.out.ser, HW.out.sers, HW.out.nums, Nat.le_trans hdl (by omega), HW.out.tag, hn, HW.out.ep⟩, HS.out.keeps.setCell (Nat.le_refl _) _⟩
    clear HS
    go_upto_region 26 with (fail)
    generalize w2.setCell ⟨g3, 3, none⟩ (.int .i64 n) = wX at *
    have HX := HX0
    clear HX0 q0 q1 q2 q3 q4 q5 q6 q7 q8 qf
    obtain ⟨q0, q1, q2, q3, q4, q5, q6, q7, q8, qf⟩ := rblk9 HX.out.b3
    obtain ⟨r0, r1, r2, r3, r4, r5, r6, r7, r8, rf⟩ := rblk9 HX.out.b6
    go_wp2
    refine bodyPost_ret (v := .agg #[.int .i64 kind, .int .i64 ag, .int .i64 sh, .int .i64 n, .int .i64 ep, .slice A ds.length c, .string ser, .int .i64 fr, .int .i64 tag]) (by simp [results, Tryz.results18, go_sem, r0, r1, r2, r3, r4, r5, r6, r7, r8]) rfl ?_
    refine HF.out ⟨kind, ag, sh, n, ep, ds, ser, fr, tag⟩ (.slice A ds.length c) _ HX.out _ ?_
    repeat (first | (with_reducible exact Keeps.refl _ _) | (with_reducible refine Keeps.setCell ?_ (by simp) _))
  · obtain ⟨q0, q1, q2, q3, q4, q5, q6, q7, q8, qf⟩ := rblk9 HS.out.b3
    have HX0 : Hid (OddS (K + 10) g3 w (w2.setCell ⟨g3, 4, none⟩ (.int .i64 n)) ⟨kind, ag, sh, seq, n, ds, ser, fr, tag⟩ (.slice A ds.length c)) := by
      have hk : Keeps [g3] w2 (w2.setCell ⟨g3, 4, none⟩ (.int .i64 n)) := (Keeps.refl _ _).setCell (by simp) _
      exact ⟨by simpa [eCell] using HS.out.b3.set_ 4 (.int .i64 n), hk.blk HS.out.b6 (by simp), HS.out.ds.keep hk (by simp), ⟨HW.out.ser, HW.out.sers, HW.out.nums, Nat.le_trans hdl (by omega), HW.out.tag, HW.out.seq, hn⟩, HS.out.keeps.setCell (Nat.le_refl _) _⟩
    clear HS
    go_upto_region 26 with (fail)
    generalize w2.setCell ⟨g3, 4, none⟩ (.int .i64 n) = wX at *
    have HX := HX0
    clear HX0 q0 q1 q2 q3 q4 q5 q6 q7 q8 qf
    obtain ⟨q0, q1, q2, q3, q4, q5, q6, q7, q8, qf⟩ := rblk9 HX.out.b3
    obtain ⟨r0, r1, r2, r3, r4, r5, r6, r7, r8, rf⟩ := rblk9 HX.out.b6
    go_wp2
    refine bodyPost_ret (v := .agg #[.int .i64 kind, .int .i64 ag, .int .i64 sh, .int .i64 seq, .int .i64 n, .slice A ds.length c, .string ser, .int .i64 fr, .int .i64 tag]) (by simp [results, Tryz.results18, go_sem, r0, r1, r2, r3, r4, r5, r6, r7, r8]) rfl ?_
    refine HF.out ⟨kind, ag, sh, seq, n, ds, ser, fr, tag⟩ (.slice A ds.length c) _ HX.out _ ?_
    repeat (first | (with_reducible exact Keeps.refl _ _) | (with_reducible refine Keeps.setCell ?_ (by simp) _))
  · obtain ⟨q0, q1, q2, q3, q4, q5, q6, q7, q8, qf⟩ := rblk9 HS.out.b3
    have HX0 : Hid (OddS (K + 10) g3 w (w2.setCell ⟨g3, 7, none⟩ (.int .i64 n)) ⟨kind, ag, sh, seq, ep, ds, ser, n, tag⟩ (.slice A ds.length c)) := by
      have hk : Keeps [g3] w2 (w2.setCell ⟨g3, 7, none⟩ (.int .i64 n)) := (Keeps.refl _ _).setCell (by simp) _
      exact ⟨by simpa [eCell] using HS.out.b3.set_ 7 (.int .i64 n), hk.blk HS.out.b6 (by simp), HS.out.ds.keep hk (by simp), ⟨HW.out.ser, HW.out.sers, HW.out.nums, Nat.le_trans hdl (by omega), HW.out.tag, HW.out.seq, HW.out.ep⟩, HS.out.keeps.setCell (Nat.le_refl _) _⟩
    clear HS
    go_upto_region 26 with (fail)
    generalize w2.setCell ⟨g3, 7, none⟩ (.int .i64 n) = wX at *
    have HX := HX0
    clear HX0 q0 q1 q2 q3 q4 q5 q6 q7 q8 qf
    obtain ⟨q0, q1, q2, q3, q4, q5, q6, q7, q8, qf⟩ := rblk9 HX.out.b3
    obtain ⟨r0, r1, r2, r3, r4, r5, r6, r7, r8, rf⟩ := rblk9 HX.out.b6
    go_wp2
    refine bodyPost_ret (v := .agg #[.int .i64 kind, .int .i64 ag, .int .i64 sh, .int .i64 seq, .int .i64 ep, .slice A ds.length c, .string ser, .int .i64 n, .int .i64 tag]) (by simp [results, Tryz.results18, go_sem, r0, r1, r2, r3, r4, r5, r6, r7, r8]) rfl ?_
    refine HF.out ⟨kind, ag, sh, seq, ep, ds, ser, n, tag⟩ (.slice A ds.length c) _ HX.out _ ?_
    repeat (first | (with_reducible exact Keeps.refl _ _) | (with_reducible refine Keeps.setCell ?_ (by simp) _))
  · obtain ⟨q0, q1, q2, q3, q4, q5, q6, q7, q8, qf⟩ := rblk9 HS.out.b3
    have HX0 : Hid (OddS (K + 10) g3 w (w2.setCell ⟨g3, 8, none⟩ (.int .i64 n)) ⟨kind, ag, sh, seq, ep, ds, ser, fr, n⟩ (.slice A ds.length c)) := by
      have hk : Keeps [g3] w2 (w2.setCell ⟨g3, 8, none⟩ (.int .i64 n)) := (Keeps.refl _ _).setCell (by simp) _
      exact ⟨by simpa [eCell] using HS.out.b3.set_ 8 (.int .i64 n), hk.blk HS.out.b6 (by simp), HS.out.ds.keep hk (by simp), ⟨HW.out.ser, HW.out.sers, HW.out.nums, Nat.le_trans hdl (by omega), hn, HW.out.seq, HW.out.ep⟩, HS.out.keeps.setCell (Nat.le_refl _) _⟩
    clear HS
    go_upto_region 26 with (fail)
    generalize w2.setCell ⟨g3, 8, none⟩ (.int .i64 n) = wX at *
    have HX := HX0
    clear HX0 q0 q1 q2 q3 q4 q5 q6 q7 q8 qf
    obtain ⟨q0, q1, q2, q3, q4, q5, q6, q7, q8, qf⟩ := rblk9 HX.out.b3
    obtain ⟨r0, r1, r2, r3, r4, r5, r6, r7, r8, rf⟩ := rblk9 HX.out.b6
    go_wp2
    refine bodyPost_ret (v := .agg #[.int .i64 kind, .int .i64 ag, .int .i64 sh, .int .i64 seq, .int .i64 ep, .slice A ds.length c, .string ser, .int .i64 fr, .int .i64 n]) (by simp [results, Tryz.results18, go_sem, r0, r1, r2, r3, r4, r5, r6, r7, r8]) rfl ?_
    refine HF.out ⟨kind, ag, sh, seq, ep, ds, ser, fr, n⟩ (.slice A ds.length c) _ HX.out _ ?_
    repeat (first | (with_reducible exact Keeps.refl _ _) | (with_reducible refine Keeps.setCell ?_ (by simp) _))
  · obtain ⟨q0, q1, q2, q3, q4, q5, q6, q7, q8, qf⟩ := rblk9 HS.out.b3
    have hwj := Lib.hid (fun W => within_any n 0 3 W (by omega) (by omega) (by omega))
    obtain ⟨hj0, hj1⟩ := within_bd n 0 3 (by omega)
    generalize withinS n 0 3 = j at *
    have hBs := Blk.new w2 9 #[.string ⟨#[]⟩, .string ⟨#[97, 61, 49]⟩, .string ⟨#[98, 61, 49, 44, 97, 61, 50]⟩, .string ⟨#[120]⟩]
    have HS2 : Hid (OddS K g3 w (w2.alloc (.cells #[.string ⟨#[]⟩, .string ⟨#[97, 61, 49]⟩, .string ⟨#[98, 61, 49, 44, 97, 61, 50]⟩, .string ⟨#[120]⟩] 9)) ⟨kind, ag, sh, seq, ep, ds, ser, fr, tag⟩ (.slice A ds.length c)) := by
      have hk : Keeps [] w2 (w2.alloc (.cells #[.string ⟨#[]⟩, .string ⟨#[97, 61, 49]⟩, .string ⟨#[98, 61, 49, 44, 97, 61, 50]⟩, .string ⟨#[120]⟩] 9)) := (Keeps.refl _ _).alloc _
      exact ⟨hk.blk HS.out.b3 (by simp), hk.blk HS.out.b6 (by simp), HS.out.ds.keep hk (by simp), HS.out.wide, HS.out.keeps.alloc (by omega) _⟩
    have HBs := Lib.hid hBs
    clear hBs HS q0 q1 q2 q3 q4 q5 q6 q7 q8 qf
    go_wp2_with fail
    refine (hwj.out _).mono ?_
    rintro e w' ⟨rfl, rfl⟩
    clear hwj
    generalize w2.alloc (.cells #[.string ⟨#[]⟩, .string ⟨#[97, 61, 49]⟩, .string ⟨#[98, 61, 49, 44, 97, 61, 50]⟩, .string ⟨#[120]⟩] 9) = w3 at *
    generalize w2.heap.size = gs at *
    obtain ⟨q0, q1, q2, q3, q4, q5, q6, q7, q8, qf⟩ := rblk9 HS2.out.b3
    have t0 := HBs.out.cell 0; have t1 := HBs.out.cell 1; have t2 := HBs.out.cell 2; have t3 := HBs.out.cell 3
    simp only [List.getElem?_toArray, List.getElem?_cons_succ, List.getElem?_cons_zero] at t0 t1 t2 t3
    rcases (show j = 0 ∨ j = 1 ∨ j = 2 ∨ j = 3 by omega) with rfl | rfl | rfl | rfl
    · clear hj0 hj1
      have HX0 : Hid (OddS (K + 10) g3 w (w3.setCell ⟨g3, 6, none⟩ (.string ⟨#[]⟩)) ⟨kind, ag, sh, seq, ep, ds, ⟨#[]⟩, fr, tag⟩ (.slice A ds.length c)) := by
        have hk : Keeps [g3] w3 (w3.setCell ⟨g3, 6, none⟩ (.string ⟨#[]⟩)) := (Keeps.refl _ _).setCell (by simp) _
        exact ⟨by simpa [eCell] using HS2.out.b3.set_ 6 (.string ⟨#[]⟩), hk.blk HS2.out.b6 (by simp), HS2.out.ds.keep hk (by simp), ⟨(show (0 : Nat) ≤ _ by omega), HW.out.sers, HW.out.nums, Nat.le_trans hdl (by omega), HW.out.tag, HW.out.seq, HW.out.ep⟩, HS2.out.keeps.setCell (Nat.le_refl _) _⟩
      clear HS2 HBs
      go_upto_region 26 with (fail)
      generalize w3.setCell ⟨g3, 6, none⟩ (.string ⟨#[]⟩) = wX at *
      have HX := HX0
      clear HX0 q0 q1 q2 q3 q4 q5 q6 q7 q8 qf t0 t1 t2 t3
      obtain ⟨q0, q1, q2, q3, q4, q5, q6, q7, q8, qf⟩ := rblk9 HX.out.b3
      obtain ⟨r0, r1, r2, r3, r4, r5, r6, r7, r8, rf⟩ := rblk9 HX.out.b6
      go_wp2
      refine bodyPost_ret (v := .agg #[.int .i64 kind, .int .i64 ag, .int .i64 sh, .int .i64 seq, .int .i64 ep, .slice A ds.length c, .string ⟨#[]⟩, .int .i64 fr, .int .i64 tag]) (by simp [results, Tryz.results18, go_sem, r0, r1, r2, r3, r4, r5, r6, r7, r8]) rfl ?_
      refine HF.out ⟨kind, ag, sh, seq, ep, ds, ⟨#[]⟩, fr, tag⟩ (.slice A ds.length c) _ HX.out _ ?_
      repeat (first | (with_reducible exact Keeps.refl _ _) | (with_reducible refine Keeps.setCell ?_ (by simp) _))
    · clear hj0 hj1
      have HX0 : Hid (OddS (K + 10) g3 w (w3.setCell ⟨g3, 6, none⟩ (.string ⟨#[97, 61, 49]⟩)) ⟨kind, ag, sh, seq, ep, ds, ⟨#[97, 61, 49]⟩, fr, tag⟩ (.slice A ds.length c)) := by
        have hk : Keeps [g3] w3 (w3.setCell ⟨g3, 6, none⟩ (.string ⟨#[97, 61, 49]⟩)) := (Keeps.refl _ _).setCell (by simp) _
        exact ⟨by simpa [eCell] using HS2.out.b3.set_ 6 (.string ⟨#[97, 61, 49]⟩), hk.blk HS2.out.b6 (by simp), HS2.out.ds.keep hk (by simp), ⟨(show (3 : Nat) ≤ _ by omega), HW.out.sers, HW.out.nums, Nat.le_trans hdl (by omega), HW.out.tag, HW.out.seq, HW.out.ep⟩, HS2.out.keeps.setCell (Nat.le_refl _) _⟩
      clear HS2 HBs
      go_upto_region 26 with (fail)
      generalize w3.setCell ⟨g3, 6, none⟩ (.string ⟨#[97, 61, 49]⟩) = wX at *
      have HX := HX0
      clear HX0 q0 q1 q2 q3 q4 q5 q6 q7 q8 qf t0 t1 t2 t3
      obtain ⟨q0, q1, q2, q3, q4, q5, q6, q7, q8, qf⟩ := rblk9 HX.out.b3
      obtain ⟨r0, r1, r2, r3, r4, r5, r6, r7, r8, rf⟩ := rblk9 HX.out.b6
      go_wp2
      refine bodyPost_ret (v := .agg #[.int .i64 kind, .int .i64 ag, .int .i64 sh, .int .i64 seq, .int .i64 ep, .slice A ds.length c, .string ⟨#[97, 61, 49]⟩, .int .i64 fr, .int .i64 tag]) (by simp [results, Tryz.results18, go_sem, r0, r1, r2, r3, r4, r5, r6, r7, r8]) rfl ?_
      refine HF.out ⟨kind, ag, sh, seq, ep, ds, ⟨#[97, 61, 49]⟩, fr, tag⟩ (.slice A ds.length c) _ HX.out _ ?_
      repeat (first | (with_reducible exact Keeps.refl _ _) | (with_reducible refine Keeps.setCell ?_ (by simp) _))
    · clear hj0 hj1
      have HX0 : Hid (OddS (K + 10) g3 w (w3.setCell ⟨g3, 6, none⟩ (.string ⟨#[98, 61, 49, 44, 97, 61, 50]⟩)) ⟨kind, ag, sh, seq, ep, ds, ⟨#[98, 61, 49, 44, 97, 61, 50]⟩, fr, tag⟩ (.slice A ds.length c)) := by
        have hk : Keeps [g3] w3 (w3.setCell ⟨g3, 6, none⟩ (.string ⟨#[98, 61, 49, 44, 97, 61, 50]⟩)) := (Keeps.refl _ _).setCell (by simp) _
        exact ⟨by simpa [eCell] using HS2.out.b3.set_ 6 (.string ⟨#[98, 61, 49, 44, 97, 61, 50]⟩), hk.blk HS2.out.b6 (by simp), HS2.out.ds.keep hk (by simp), ⟨(show (7 : Nat) ≤ _ by omega), HW.out.sers, HW.out.nums, Nat.le_trans hdl (by omega), HW.out.tag, HW.out.seq, HW.out.ep⟩, HS2.out.keeps.setCell (Nat.le_refl _) _⟩
      clear HS2 HBs
      go_upto_region 26 with (fail)
      generalize w3.setCell ⟨g3, 6, none⟩ (.string ⟨#[98, 61, 49, 44, 97, 61, 50]⟩) = wX at *
      have HX := HX0
      clear HX0 q0 q1 q2 q3 q4 q5 q6 q7 q8 qf t0 t1 t2 t3
      obtain ⟨q0, q1, q2, q3, q4, q5, q6, q7, q8, qf⟩ := rblk9 HX.out.b3
      obtain ⟨r0, r1, r2, r3, r4, r5, r6, r7, r8, rf⟩ := rblk9 HX.out.b6
      go_wp2
      refine bodyPost_ret (v := .agg #[.int .i64 kind, .int .i64 ag, .int .i64 sh, .int .i64 seq, .int .i64 ep, .slice A ds.length c, .string ⟨#[98, 61, 49, 44, 97, 61, 50]⟩, .int .i64 fr, .int .i64 tag]) (by simp [results, Tryz.results18, go_sem, r0, r1, r2, r3, r4, r5, r6, r7, r8]) rfl ?_
      refine HF.out ⟨kind, ag, sh, seq, ep, ds, ⟨#[98, 61, 49, 44, 97, 61, 50]⟩, fr, tag⟩ (.slice A ds.length c) _ HX.out _ ?_
      repeat (first | (with_reducible exact Keeps.refl _ _) | (with_reducible refine Keeps.setCell ?_ (by simp) _))
    · clear hj0 hj1
      have HX0 : Hid (OddS (K + 10) g3 w (w3.setCell ⟨g3, 6, none⟩ (.string ⟨#[120]⟩)) ⟨kind, ag, sh, seq, ep, ds, ⟨#[120]⟩, fr, tag⟩ (.slice A ds.length c)) := by
        have hk : Keeps [g3] w3 (w3.setCell ⟨g3, 6, none⟩ (.string ⟨#[120]⟩)) := (Keeps.refl _ _).setCell (by simp) _
        exact ⟨by simpa [eCell] using HS2.out.b3.set_ 6 (.string ⟨#[120]⟩), hk.blk HS2.out.b6 (by simp), HS2.out.ds.keep hk (by simp), ⟨(show (1 : Nat) ≤ _ by omega), HW.out.sers, HW.out.nums, Nat.le_trans hdl (by omega), HW.out.tag, HW.out.seq, HW.out.ep⟩, HS2.out.keeps.setCell (Nat.le_refl _) _⟩
      clear HS2 HBs
      go_upto_region 26 with (fail)
      generalize w3.setCell ⟨g3, 6, none⟩ (.string ⟨#[120]⟩) = wX at *
      have HX := HX0
      clear HX0 q0 q1 q2 q3 q4 q5 q6 q7 q8 qf t0 t1 t2 t3
      obtain ⟨q0, q1, q2, q3, q4, q5, q6, q7, q8, qf⟩ := rblk9 HX.out.b3
      obtain ⟨r0, r1, r2, r3, r4, r5, r6, r7, r8, rf⟩ := rblk9 HX.out.b6
      go_wp2
      refine bodyPost_ret (v := .agg #[.int .i64 kind, .int .i64 ag, .int .i64 sh, .int .i64 seq, .int .i64 ep, .slice A ds.length c, .string ⟨#[120]⟩, .int .i64 fr, .int .i64 tag]) (by simp [results, Tryz.results18, go_sem, r0, r1, r2, r3, r4, r5, r6, r7, r8]) rfl ?_
      refine HF.out ⟨kind, ag, sh, seq, ep, ds, ⟨#[120]⟩, fr, tag⟩ (.slice A ds.length c) _ HX.out _ ?_
      repeat (first | (with_reducible exact Keeps.refl _ _) | (with_reducible refine Keeps.setCell ?_ (by simp) _))
  · obtain ⟨q0, q1, q2, q3, q4, q5, q6, q7, q8, qf⟩ := rblk9 HS.out.b3
    have hnu0 : 0 ≤ IntKind.u64.wrap n ∧ IntKind.u64.wrap n < 18446744073709551616 := by rw [IntKind.wrap_u64]; omega
    obtain ⟨nu, hnu⟩ : ∃ nu, nu = IntKind.u64.wrap n := ⟨_, rfl⟩
    rw [← hnu] at hnu0
    have hnw := hnu.symm
    clear hnu
    obtain ⟨Ax, cx, hsl, _, hrd⟩ := HS.out.ds.reads
    obtain ⟨rfl, rfl⟩ : A = Ax ∧ c = cx := by injection hsl with h1 _ h3; exact ⟨h1, h3⟩
    have Hrd := Lib.hid (hrd.alloc (Nat.le_refl _) (.cells #[] 86))
    have hl3 := HS.out.b3.lt
    have hl6 := HS.out.b6.lt
    clear hsl hrd
    go_wp2_with (at_builtin; go_must (refine wpList_append_any _ rfl (.tmp 62) (.tmp 64) _ rfl w2.heap.size 86 i0 _ 2 24 Tryz.underlying24 Hi0.out Hz0.out Hz1.out Hz2.out rfl (by omega) (.slice (some ⟨w2.heap.size, 0, none⟩) 0 0) 0 [] rfl (World.ownsRow_made w2 #[] 0 (Nat.le_refl _) (by unfold maxLen; omega) rfl) w2.heap.size A ds.length c (dCells ds) rfl Hrd.out (dCells_one _) (by unfold maxLen; omega) (by omega) (by simp) ?_))
    intro v3 w3 ho hg hat
    have Hown3 : Hid (w3.ownsRow w2.heap.size 86 2 v3 ds.length (dCells ds)) := (show World.ownsRow _ _ _ _ _ _ _ by simpa using ho)
    have Hb3 : Hid (Below w2.heap.size w2 w3) := grown_empty hg
    have HS3 : Hid (OddS K g3 w w3 ⟨kind, ag, sh, seq, ep, ds, ser, fr, tag⟩ (.slice A ds.length c)) := ⟨HS.out.b3.below Hb3.out hl3, HS.out.b6.below Hb3.out hl6, HS.out.ds.keep (M' := []) (Keeps.of_below Hb3.out) (by simp), HS.out.wide, HS.out.keeps.trans (Hb3.out.mono (by omega))⟩
    have hz3 : w2.heap.size ≤ w3.heap.size := Hb3.out.size
    clear ho hg hat Hrd
    have Hown4 := Lib.hid (Hown3.out.alloc (.cells #[.string ⟨#[97, 61, 49]⟩, .int .u64 nu] 86))
    have Hb4 := Lib.hid (Hb3.out.alloc hz3 (.cells #[.string ⟨#[97, 61, 49]⟩, .int .u64 nu] 86))
    go_wp2_with (at_builtin; refine wpList_append_any _ rfl (.tmp 65) (.tmp 69) _ rfl w2.heap.size 86 i0 _ 2 24 Tryz.underlying24 Hi0.out Hz0.out Hz1.out Hz2.out rfl (by omega) v3 ds.length (dCells ds) rfl Hown4.out (w3.heap.size + 1) (some ⟨w3.heap.size, 0, none⟩) 1 1 (dCell ⟨⟨#[97, 61, 49]⟩, nu⟩) rfl (reads_new w3 _ _ _ _ rfl) (dCells_one [⟨⟨#[97, 61, 49]⟩, nu⟩]) (by unfold maxLen; omega) (by omega) (by simp; omega) ?_)
    intro v5 w5 ho hg hat
    have Hown5 : Hid (w5.ownsRow w2.heap.size 86 2 v5 (ds ++ [(⟨⟨#[97, 61, 49]⟩, nu⟩ : DeltaD)]).length (dCells (ds ++ [(⟨⟨#[97, 61, 49]⟩, nu⟩ : DeltaD)]))) := by
      show World.ownsRow _ _ _ _ _ _ _
      unfold dCells at ho ⊢
      rw [List.flatMap_append, List.length_append]
      simpa using ho
    have Hb5 : Hid (Below w2.heap.size w2 w5) := Hb4.out.grown hg Hb4.out.size (fun g hg => (Hown3.out.lt g hg).1)
    have HS5 : Hid (OddS K g3 w w5 ⟨kind, ag, sh, seq, ep, ds, ser, fr, tag⟩ (.slice A ds.length c)) := ⟨HS.out.b3.below Hb5.out hl3, HS.out.b6.below Hb5.out hl6, HS.out.ds.keep (M' := []) (Keeps.of_below Hb5.out) (by simp), HS.out.wide, HS.out.keeps.trans (Hb5.out.mono (by omega))⟩
    have hz5 : w2.heap.size ≤ w5.heap.size := Hb5.out.size
    obtain ⟨A5, c5, rfl, hc5⟩ := (show Ds w5 [] v5 (ds ++ [(⟨⟨#[97, 61, 49]⟩, nu⟩ : DeltaD)]) from Rd.of_own Hown5.out (by simp)).len
    have HD5 : Hid (Ds w5 [g3, g3 + 1] (.slice A5 (ds ++ [(⟨⟨#[97, 61, 49]⟩, nu⟩ : DeltaD)]).length c5) (ds ++ [(⟨⟨#[97, 61, 49]⟩, nu⟩ : DeltaD)])) := Rd.of_own Hown5.out (by intro g hg; simp at hg; omega)
    clear ho hg hat Hown3 Hb3 Hown4 Hb4 Hown5 HS3 HS
    have hlen5 : (ds ++ [(⟨⟨#[97, 61, 49]⟩, nu⟩ : DeltaD)]).length ≤ K + 10 := by rw [List.length_append]; simp; omega
    have HWn : Hid (Wide (K + 10) ⟨kind, ag, sh, seq, ep, (ds ++ [(⟨⟨#[97, 61, 49]⟩, nu⟩ : DeltaD)]), ser, fr, tag⟩) := ⟨HW.out.ser, fun d hd => by rcases List.mem_append.1 hd with hd | hd; exact HW.out.sers d hd; (obtain rfl := List.mem_singleton.1 hd; show (3 : Nat) ≤ _; omega), fun d hd => by rcases List.mem_append.1 hd with hd | hd; exact HW.out.nums d hd; (obtain rfl := List.mem_singleton.1 hd; exact hnu0), by exact hlen5, HW.out.tag, HW.out.seq, HW.out.ep⟩
    have hdn1 : (ds ++ [(⟨⟨#[97, 61, 49]⟩, nu⟩ : DeltaD)]).length = ds.length + 1 := by rw [List.length_append]; rfl
    generalize ds ++ [(⟨⟨#[97, 61, 49]⟩, nu⟩ : DeltaD)] = dn at *
    have Hdn1 := Lib.hid hdn1
    clear hdn1 hlen5
    have HX0 : Hid (OddS (K + 10) g3 w (w5.setCell ⟨g3, 5, none⟩ (.slice A5 dn.length c5)) ⟨kind, ag, sh, seq, ep, dn, ser, fr, tag⟩ (.slice A5 dn.length c5)) := by
      have hk : Keeps [g3] w5 (w5.setCell ⟨g3, 5, none⟩ (.slice A5 dn.length c5)) := (Keeps.refl _ _).setCell (by simp) _
      exact ⟨by simpa [eCell] using HS5.out.b3.set_ 5 (.slice A5 dn.length c5), hk.blk HS5.out.b6 (by simp), HD5.out.keep hk (by simp), HWn.out, HS5.out.keeps.setCell (Nat.le_refl _) _⟩
    obtain ⟨p0, p1, p2, p3, p4, p5, p6, p7, p8, pf⟩ := rblk9 HS5.out.b3
    clear HS5 HD5 q0 q1 q2 q3 q4 q5 q6 q7 q8 qf
    go_upto_region 26 with (fail)
    generalize w5.setCell ⟨g3, 5, none⟩ (.slice A5 dn.length c5) = wX at *
    have HX := HX0
    clear HX0 p0 p1 p2 p3 p4 p5 p6 p7 p8 pf
    obtain ⟨q0, q1, q2, q3, q4, q5, q6, q7, q8, qf⟩ := rblk9 HX.out.b3
    obtain ⟨r0, r1, r2, r3, r4, r5, r6, r7, r8, rf⟩ := rblk9 HX.out.b6
    go_wp2
    refine bodyPost_ret (v := .agg #[.int .i64 kind, .int .i64 ag, .int .i64 sh, .int .i64 seq, .int .i64 ep, .slice A5 dn.length c5, .string ser, .int .i64 fr, .int .i64 tag]) (by simp [results, Tryz.results18, go_sem, r0, r1, r2, r3, r4, r5, r6, r7, r8]) rfl ?_
    refine HF.out ⟨kind, ag, sh, seq, ep, dn, ser, fr, tag⟩ (.slice A5 dn.length c5) _ HX.out _ ?_
    repeat (first | (with_reducible exact Keeps.refl _ _) | (with_reducible refine Keeps.setCell ?_ (by simp) _))
  · obtain ⟨q0, q1, q2, q3, q4, q5, q6, q7, q8, qf⟩ := rblk9 HS.out.b3
    obtain ⟨Ax, cx, hsl, _, hrd⟩ := HS.out.ds.reads
    obtain ⟨rfl, rfl⟩ : A = Ax ∧ c = cx := by injection hsl with h1 _ h3; exact ⟨h1, h3⟩
    have Hrd := Lib.hid (hrd.alloc (Nat.le_refl _) (.cells #[.string ⟨#[110, 111, 32, 115, 101, 114, 105, 101, 115]⟩, .int .u64 1] 86))
    have hl3 := HS.out.b3.lt
    have hl6 := HS.out.b6.lt
    clear hsl hrd
    have HS1 : Hid (OddS K g3 w (w2.alloc (.cells #[.string ⟨#[110, 111, 32, 115, 101, 114, 105, 101, 115]⟩, .int .u64 1] 86)) ⟨kind, ag, sh, seq, ep, ds, ser, fr, tag⟩ (.slice A ds.length c)) := by
      have hk : Keeps [] w2 (w2.alloc (.cells #[.string ⟨#[110, 111, 32, 115, 101, 114, 105, 101, 115]⟩, .int .u64 1] 86)) := (Keeps.refl _ _).alloc _
      exact ⟨hk.blk HS.out.b3 (by simp), hk.blk HS.out.b6 (by simp), HS.out.ds.keep hk (by simp), HS.out.wide, HS.out.keeps.alloc (by omega) _⟩
    have Hown1 : Hid ((w2.alloc (.cells #[.string ⟨#[110, 111, 32, 115, 101, 114, 105, 101, 115]⟩, .int .u64 1] 86)).ownsRow w2.heap.size 86 2 (.slice (some ⟨w2.heap.size, 0, none⟩) 1 1) 1 (dCell ⟨⟨#[110, 111, 32, 115, 101, 114, 105, 101, 115]⟩, 1⟩)) := own_made1 (dCell ⟨⟨#[110, 111, 32, 115, 101, 114, 105, 101, 115]⟩, 1⟩) (Nat.le_refl _) rfl
    have Hb1 := Lib.hid (below_new' w2 (.cells #[.string ⟨#[110, 111, 32, 115, 101, 114, 105, 101, 115]⟩, .int .u64 1] 86))
    clear q0 q1 q2 q3 q4 q5 q6 q7 q8 qf
    obtain ⟨q0, q1, q2, q3, q4, q5, q6, q7, q8, qf⟩ := rblk9 HS1.out.b3
    go_wp2_with (at_builtin; refine wpList_append_any _ rfl (.tmp 75) (.tmp 77) _ rfl w2.heap.size 86 i0 _ 2 24 Tryz.underlying24 Hi0.out Hz0.out Hz1.out Hz2.out rfl (by omega) (.slice (some ⟨w2.heap.size, 0, none⟩) 1 1) 1 (dCell ⟨⟨#[110, 111, 32, 115, 101, 114, 105, 101, 115]⟩, 1⟩) rfl Hown1.out w2.heap.size A ds.length c (dCells ds) rfl Hrd.out (dCells_one _) (by unfold maxLen; omega) (by omega) (by simp) ?_)
    intro v5 w5 ho hg hat
    have Hown5 : Hid (w5.ownsRow w2.heap.size 86 2 v5 ((⟨⟨#[110, 111, 32, 115, 101, 114, 105, 101, 115]⟩, 1⟩ : DeltaD) :: ds).length (dCells ((⟨⟨#[110, 111, 32, 115, 101, 114, 105, 101, 115]⟩, 1⟩ : DeltaD) :: ds))) := by
      show World.ownsRow _ _ _ _ _ _ _
      rw [List.length_cons, Nat.add_comm]
      exact ho
    have Hb5 : Hid (Below w2.heap.size w2 w5) := Hb1.out.grown hg (by simp) (fun g hg => (Hown1.out.lt g hg).1)
    have HS5 : Hid (OddS K g3 w w5 ⟨kind, ag, sh, seq, ep, ds, ser, fr, tag⟩ (.slice A ds.length c)) := ⟨HS.out.b3.below Hb5.out hl3, HS.out.b6.below Hb5.out hl6, HS.out.ds.keep (M' := []) (Keeps.of_below Hb5.out) (by simp), HS.out.wide, HS.out.keeps.trans (Hb5.out.mono (by omega))⟩
    have hz5 : w2.heap.size ≤ w5.heap.size := Hb5.out.size
    obtain ⟨A5, c5, rfl, hc5⟩ := (show Ds w5 [] v5 ((⟨⟨#[110, 111, 32, 115, 101, 114, 105, 101, 115]⟩, 1⟩ : DeltaD) :: ds) from Rd.of_own Hown5.out (by simp)).len
    have HD5 : Hid (Ds w5 [g3, g3 + 1] (.slice A5 ((⟨⟨#[110, 111, 32, 115, 101, 114, 105, 101, 115]⟩, 1⟩ : DeltaD) :: ds).length c5) ((⟨⟨#[110, 111, 32, 115, 101, 114, 105, 101, 115]⟩, 1⟩ : DeltaD) :: ds)) := Rd.of_own Hown5.out (by intro g hg; simp at hg; omega)
    have hlen5 : ((⟨⟨#[110, 111, 32, 115, 101, 114, 105, 101, 115]⟩, 1⟩ : DeltaD) :: ds).length ≤ K + 10 := by rw [List.length_cons]; omega
    clear ho hg hat Hown1 Hb1 HS1 HS Hown5
    have HWn : Hid (Wide (K + 10) ⟨kind, ag, sh, seq, ep, ((⟨⟨#[110, 111, 32, 115, 101, 114, 105, 101, 115]⟩, 1⟩ : DeltaD) :: ds), ser, fr, tag⟩) := ⟨HW.out.ser, fun d hd => by rcases List.mem_cons.1 hd with rfl | hd; (show (9 : Nat) ≤ _; omega); exact HW.out.sers d hd, fun d hd => by rcases List.mem_cons.1 hd with rfl | hd; (exact ⟨by decide, by decide⟩); exact HW.out.nums d hd, hlen5, HW.out.tag, HW.out.seq, HW.out.ep⟩
    generalize ((⟨⟨#[110, 111, 32, 115, 101, 114, 105, 101, 115]⟩, 1⟩ : DeltaD) :: ds) = dn at *
    clear hlen5
    have HX0 : Hid (OddS (K + 10) g3 w (w5.setCell ⟨g3, 5, none⟩ (.slice A5 dn.length c5)) ⟨kind, ag, sh, seq, ep, dn, ser, fr, tag⟩ (.slice A5 dn.length c5)) := by
      have hk : Keeps [g3] w5 (w5.setCell ⟨g3, 5, none⟩ (.slice A5 dn.length c5)) := (Keeps.refl _ _).setCell (by simp) _
      exact ⟨by simpa [eCell] using HS5.out.b3.set_ 5 (.slice A5 dn.length c5), hk.blk HS5.out.b6 (by simp), HD5.out.keep hk (by simp), HWn.out, HS5.out.keeps.setCell (Nat.le_refl _) _⟩
    clear q0 q1 q2 q3 q4 q5 q6 q7 q8 qf
    obtain ⟨p0, p1, p2, p3, p4, p5, p6, p7, p8, pf⟩ := rblk9 HS5.out.b3
    clear HS5 HD5
    go_upto_region 26 with (fail)
    generalize w5.setCell ⟨g3, 5, none⟩ (.slice A5 dn.length c5) = wX at *
    have HX := HX0
    clear HX0 p0 p1 p2 p3 p4 p5 p6 p7 p8 pf
    obtain ⟨q0, q1, q2, q3, q4, q5, q6, q7, q8, qf⟩ := rblk9 HX.out.b3
    obtain ⟨r0, r1, r2, r3, r4, r5, r6, r7, r8, rf⟩ := rblk9 HX.out.b6
    go_wp2
    refine bodyPost_ret (v := .agg #[.int .i64 kind, .int .i64 ag, .int .i64 sh, .int .i64 seq, .int .i64 ep, .slice A5 dn.length c5, .string ser, .int .i64 fr, .int .i64 tag]) (by simp [results, Tryz.results18, go_sem, r0, r1, r2, r3, r4, r5, r6, r7, r8]) rfl ?_
    refine HF.out ⟨kind, ag, sh, seq, ep, dn, ser, fr, tag⟩ (.slice A5 dn.length c5) _ HX.out _ ?_
    repeat (first | (with_reducible exact Keeps.refl _ _) | (with_reducible refine Keeps.setCell ?_ (by simp) _))
  · obtain ⟨q0, q1, q2, q3, q4, q5, q6, q7, q8, qf⟩ := rblk9 HS.out.b3
    have HX0 : Hid (OddS (K + 10) g3 w (w2.setCell ⟨g3, 5, none⟩ (.slice none 0 0)) ⟨kind, ag, sh, seq, ep, [], ser, fr, tag⟩ (.slice none 0 0)) := by
      have hk : Keeps [g3] w2 (w2.setCell ⟨g3, 5, none⟩ (.slice none 0 0)) := (Keeps.refl _ _).setCell (by simp) _
      exact ⟨by simpa [eCell] using HS.out.b3.set_ 5 (.slice none 0 0), hk.blk HS.out.b6 (by simp), Ds.nil _ _, ⟨HW.out.ser, by simp, by simp, Nat.zero_le _, HW.out.tag, HW.out.seq, HW.out.ep⟩, HS.out.keeps.setCell (Nat.le_refl _) _⟩
    clear HS
    go_upto_region 26 with (fail)
    generalize w2.setCell ⟨g3, 5, none⟩ (.slice none 0 0) = wX at *
    have HX := HX0
    clear HX0 q0 q1 q2 q3 q4 q5 q6 q7 q8 qf
    obtain ⟨q0, q1, q2, q3, q4, q5, q6, q7, q8, qf⟩ := rblk9 HX.out.b3
    obtain ⟨r0, r1, r2, r3, r4, r5, r6, r7, r8, rf⟩ := rblk9 HX.out.b6
    go_wp2
    refine bodyPost_ret (v := .agg #[.int .i64 kind, .int .i64 ag, .int .i64 sh, .int .i64 seq, .int .i64 ep, .slice none 0 0, .string ser, .int .i64 fr, .int .i64 tag]) (by simp [results, Tryz.results18, go_sem, r0, r1, r2, r3, r4, r5, r6, r7, r8]) rfl ?_
    refine HF.out ⟨kind, ag, sh, seq, ep, [], ser, fr, tag⟩ (.slice none 0 0) _ HX.out _ ?_
    repeat (first | (with_reducible exact Keeps.refl _ _) | (with_reducible refine Keeps.setCell ?_ (by simp) _))
  · obtain ⟨q0, q1, q2, q3, q4, q5, q6, q7, q8, qf⟩ := rblk9 HS.out.b3
    have HS0 : Hid (OddS (K + 10) g3 w w2 ⟨kind, ag, sh, seq, ep, ds, ser, fr, tag⟩ (.slice A ds.length c)) := ⟨HS.out.b3, HS.out.b6, HS.out.ds, HS.out.wide.more (by omega), HS.out.keeps⟩
    clear HS
    go_wp2_with fail
    clear q0 q1 q2 q3 q4 q5 q6 q7 q8 qf
    go_loopw [] (fun wr => ∃ (dl : List DeltaD) (Al : Option Addr) (cl : Nat), Hid (OddS (K + 10) g3 w wr ⟨kind, ag, sh, seq, ep, dl, ser, fr, tag⟩ (.slice Al dl.length cl)) ∧ g3 + 2 ≤ wr.heap.size) (fun wr => 9 - lenAt wr g3)
    case atStart => exact ⟨ds, A, c, HS0, by omega⟩
    case round =>
      obtain ⟨dl, Al, cl, HSl, hzl⟩ := hrel
      have hdl2 := HSl.out.wide.len
      simp only [] at hdl2
      obtain ⟨q0, q1, q2, q3, q4, q5, q6, q7, q8, qf⟩ := rblk9 HSl.out.b3
      have hlen0 : lenAt wr g3 = dl.length := by unfold lenAt; rw [q5]
      by_cases hlt : dl.length < 9
      · have hlti : (dl.length : Int) < 9 := by omega
        obtain ⟨Ax, cx, hsl, _, hrd⟩ := HSl.out.ds.reads
        obtain ⟨rfl, rfl⟩ : Al = Ax ∧ cl = cx := by injection hsl with h1 _ h3; exact ⟨h1, h3⟩
        have Hrd := Lib.hid (hrd.alloc (Nat.le_refl _) (.cells #[] 86))
        have hl3 := HSl.out.b3.lt
        have hl6 := HSl.out.b6.lt
        clear hsl hrd
        go_wp2_with (at_builtin; go_must (refine wpList_append_any _ rfl (.tmp 13) (.tmp 15) _ rfl wr.heap.size 86 i0 _ 2 24 Tryz.underlying24 Hi0.out Hz0.out Hz1.out Hz2.out rfl (by omega) (.slice (some ⟨wr.heap.size, 0, none⟩) 0 0) 0 [] rfl (World.ownsRow_made wr #[] 0 (Nat.le_refl _) (by unfold maxLen; omega) rfl) wr.heap.size Al dl.length cl (dCells dl) rfl Hrd.out (dCells_one _) (by unfold maxLen; omega) (by omega) (by simp) ?_))
        intro v3 w3 ho hg hat
        have Hown3 : Hid (w3.ownsRow wr.heap.size 86 2 v3 dl.length (dCells dl)) := (show World.ownsRow _ _ _ _ _ _ _ by simpa using ho)
        have Hb3 : Hid (Below wr.heap.size wr w3) := grown_empty hg
        have HS3 : Hid (OddS (K + 10) g3 w w3 ⟨kind, ag, sh, seq, ep, dl, ser, fr, tag⟩ (.slice Al dl.length cl)) := ⟨HSl.out.b3.below Hb3.out hl3, HSl.out.b6.below Hb3.out hl6, HSl.out.ds.keep (M' := []) (Keeps.of_below Hb3.out) (by simp), HSl.out.wide, HSl.out.keeps.trans (Hb3.out.mono (by omega))⟩
        have hz3 : wr.heap.size ≤ w3.heap.size := Hb3.out.size
        clear ho hg hat Hrd
        have Hown4 := Lib.hid (Hown3.out.alloc (.cells #[.string ⟨#[107, 61, 118]⟩, .int .u64 1] 86))
        have Hb4 := Lib.hid (Hb3.out.alloc hz3 (.cells #[.string ⟨#[107, 61, 118]⟩, .int .u64 1] 86))
        go_wp2_with (at_builtin; refine wpList_append_any _ rfl (.tmp 16) (.tmp 18) _ rfl wr.heap.size 86 i0 _ 2 24 Tryz.underlying24 Hi0.out Hz0.out Hz1.out Hz2.out rfl (by omega) v3 dl.length (dCells dl) rfl Hown4.out (w3.heap.size + 1) (some ⟨w3.heap.size, 0, none⟩) 1 1 (dCell ⟨⟨#[107, 61, 118]⟩, 1⟩) rfl (reads_new w3 _ _ _ _ rfl) (dCells_one [⟨⟨#[107, 61, 118]⟩, 1⟩]) (by unfold maxLen; omega) (by omega) (by simp; omega) ?_)
        intro v5 w5 ho hg hat
        have Hown5 : Hid (w5.ownsRow wr.heap.size 86 2 v5 (dl ++ [(⟨⟨#[107, 61, 118]⟩, 1⟩ : DeltaD)]).length (dCells (dl ++ [(⟨⟨#[107, 61, 118]⟩, 1⟩ : DeltaD)]))) := by
          show World.ownsRow _ _ _ _ _ _ _
          unfold dCells at ho ⊢
          rw [List.flatMap_append, List.length_append]
          simpa using ho
        have Hb5 : Hid (Below wr.heap.size wr w5) := Hb4.out.grown hg Hb4.out.size (fun g hg => (Hown3.out.lt g hg).1)
        have HS5 : Hid (OddS (K + 10) g3 w w5 ⟨kind, ag, sh, seq, ep, dl, ser, fr, tag⟩ (.slice Al dl.length cl)) := ⟨HSl.out.b3.below Hb5.out hl3, HSl.out.b6.below Hb5.out hl6, HSl.out.ds.keep (M' := []) (Keeps.of_below Hb5.out) (by simp), HSl.out.wide, HSl.out.keeps.trans (Hb5.out.mono (by omega))⟩
        have hz5 : wr.heap.size ≤ w5.heap.size := Hb5.out.size
        obtain ⟨A5, c5, rfl, hc5⟩ := (show Ds w5 [] v5 (dl ++ [(⟨⟨#[107, 61, 118]⟩, 1⟩ : DeltaD)]) from Rd.of_own Hown5.out (by simp)).len
        have HD5 : Hid (Ds w5 [g3, g3 + 1] (.slice A5 (dl ++ [(⟨⟨#[107, 61, 118]⟩, 1⟩ : DeltaD)]).length c5) (dl ++ [(⟨⟨#[107, 61, 118]⟩, 1⟩ : DeltaD)])) := Rd.of_own Hown5.out (by intro g hg; simp at hg; omega)
        clear ho hg hat Hown3 Hb3 Hown4 Hb4 Hown5 HS3 HSl
        have hlen5 : (dl ++ [(⟨⟨#[107, 61, 118]⟩, 1⟩ : DeltaD)]).length ≤ K + 10 := by rw [List.length_append]; simp; omega
        have HWn : Hid (Wide (K + 10) ⟨kind, ag, sh, seq, ep, (dl ++ [(⟨⟨#[107, 61, 118]⟩, 1⟩ : DeltaD)]), ser, fr, tag⟩) := ⟨HS5.out.wide.ser, fun d hd => by rcases List.mem_append.1 hd with hd | hd; exact HS5.out.wide.sers d hd; (obtain rfl := List.mem_singleton.1 hd; show (3 : Nat) ≤ _; omega), fun d hd => by rcases List.mem_append.1 hd with hd | hd; exact HS5.out.wide.nums d hd; (obtain rfl := List.mem_singleton.1 hd; exact ⟨by decide, by decide⟩), by exact hlen5, HS5.out.wide.tag, HS5.out.wide.seq, HS5.out.wide.ep⟩
        have hdn1 : (dl ++ [(⟨⟨#[107, 61, 118]⟩, 1⟩ : DeltaD)]).length = dl.length + 1 := by rw [List.length_append]; rfl
        generalize dl ++ [(⟨⟨#[107, 61, 118]⟩, 1⟩ : DeltaD)] = dn at *
        have Hdn1 := Lib.hid hdn1
        clear hdn1 hlen5
        have HX0 : Hid (OddS (K + 10) g3 w (w5.setCell ⟨g3, 5, none⟩ (.slice A5 dn.length c5)) ⟨kind, ag, sh, seq, ep, dn, ser, fr, tag⟩ (.slice A5 dn.length c5)) := by
          have hk : Keeps [g3] w5 (w5.setCell ⟨g3, 5, none⟩ (.slice A5 dn.length c5)) := (Keeps.refl _ _).setCell (by simp) _
          exact ⟨by simpa [eCell] using HS5.out.b3.set_ 5 (.slice A5 dn.length c5), hk.blk HS5.out.b6 (by simp), HD5.out.keep hk (by simp), HWn.out, HS5.out.keeps.setCell (Nat.le_refl _) _⟩
        clear q0 q1 q2 q3 q4 q5 q6 q7 q8 qf
        obtain ⟨p0, p1, p2, p3, p4, p5, p6, p7, p8, pf⟩ := rblk9 HS5.out.b3
        have hlenX : lenAt (w5.setCell ⟨g3, 5, none⟩ (.slice A5 dn.length c5)) g3 = dl.length + 1 := by
          have h5 := HX0.out.b3.cell 5
          unfold lenAt
          simp only [eCell, List.getElem?_toArray, List.getElem?_cons_succ, List.getElem?_cons_zero] at h5
          rw [h5]
          exact Hdn1.out
        have hzX : g3 + 2 ≤ (w5.setCell ⟨g3, 5, none⟩ (.slice A5 dn.length c5)).heap.size := by simp; omega
        clear HS5 HD5
        go_wp2
        go_roundw
        case rel => exact ⟨_, A5, c5, HX0, hzX⟩
        case measure => rw [hlenX, hlen0]; omega
      · have hlti : decide ((dl.length : Int) < 9) = false := decide_eq_false (by omega)
        go_upto_region 26 with (fail)
        have HX := HSl
        clear HSl q0 q1 q2 q3 q4 q5 q6 q7 q8 qf
        obtain ⟨q0, q1, q2, q3, q4, q5, q6, q7, q8, qf⟩ := rblk9 HX.out.b3
        obtain ⟨r0, r1, r2, r3, r4, r5, r6, r7, r8, rf⟩ := rblk9 HX.out.b6
        go_wp2
        refine bodyPost_ret (v := .agg #[.int .i64 kind, .int .i64 ag, .int .i64 sh, .int .i64 seq, .int .i64 ep, .slice Al dl.length cl, .string ser, .int .i64 fr, .int .i64 tag]) (by simp [results, Tryz.results18, go_sem, r0, r1, r2, r3, r4, r5, r6, r7, r8]) rfl ?_
        refine HF.out ⟨kind, ag, sh, seq, ep, dl, ser, fr, tag⟩ (.slice Al dl.length cl) _ HX.out _ ?_
        repeat (first | (with_reducible exact Keeps.refl _ _) | (with_reducible refine Keeps.setCell ?_ (by simp) _))
end Go.Proofs.YtinnifhnabncfaaGreatDoor.Vi
end
/- A slice of numbers that came in; a tape made of it. (Not together with Back, which has these by the same names.) -/
section
namespace Go.Proofs.YtinnifhnabncfaaGreatDoor.Vi
open Go.RowKit Base Mem Tape
/-- A slice of numbers that came in. -/
def Nums (w : World) (A : Option Addr) (c : Nat) (l : List Int) : Prop := l.length ≤ c ∧ c ≤ 9223372036854775807 ∧ (0 < l.length → ∃ g off, A = some ⟨g, off, none⟩ ∧ g < w.heap.size ∧ ∀ (j : Nat) (x : Int), l[j]? = some x → w.cell? ⟨g, off + j, none⟩ = some (.int .i64 x))
theorem tape_new {w w1 : World} {A : Option Addr} {c : Nat} {l : List Int} (h : Nums w A c l) (hb : Below w.heap.size w w1) :
    TapeAt (w1.alloc (.cells #[.slice A l.length c, .int .i64 0] 31)) w1.heap.size ⟨l, w.heap.size⟩ 0 := by
  obtain ⟨h1, h2, h3⟩ := h
  refine ⟨Nat.zero_le _, Nat.le_trans h1 h2, hb.size, A, c, Blk.new w1 _ _, h1, fun h0 => ?_⟩
  obtain ⟨g, off, e, hg, hx⟩ := h3 h0
  exact ⟨g, off, e, hg, fun j x hj => ((below_new hb _).cell (p := ⟨g, off + j, none⟩) hg).trans (hx j x hj)⟩
end Go.Proofs.YtinnifhnabncfaaGreatDoor.Vi
end
