/- Texts put together: RefG, Ref4, Ref9, Tp, PlV, Scan, RefQ, RefK, Ref7. -/
import Derived.Test.YtinnifhnabncfaaGreatDoorMN1
import Derived.Test.YtinnifhnabncfaaGreatDoorMN3
import Derived.Test.YtinnifhnabncfaaGreatDoorMN7
set_option linter.unusedVariables false
set_option linter.unusedSimpArgs false
section
namespace Go.Proofs.YtinnifhnabncfaaGreatDoor.Vi
open Go.RowKit Base Mem Go.Shelf
theorem rblk9G {w : World} {g : Nat} {t : TypeId} {c0 c1 c2 c3 c4 c5 c6 c7 c8 : Value} (h : Blk w g t #[c0, c1, c2, c3, c4, c5, c6, c7, c8]) :
  w.cell? ⟨g, 0, none⟩ = some c0 ∧ w.cell? ⟨g, 1, none⟩ = some c1 ∧ w.cell? ⟨g, 2, none⟩ = some c2 ∧ w.cell? ⟨g, 3, none⟩ = some c3 ∧ w.cell? ⟨g, 4, none⟩ = some c4 ∧ w.cell? ⟨g, 5, none⟩ = some c5 ∧ w.cell? ⟨g, 6, none⟩ = some c6 ∧ w.cell? ⟨g, 7, none⟩ = some c7 ∧ w.cell? ⟨g, 8, none⟩ = some c8 ∧ (∀ i, w.frozen? ⟨g, i, none⟩ = false) :=
 ⟨h.cell 0, h.cell 1, h.cell 2, h.cell 3, h.cell 4, h.cell 5, h.cell 6, h.cell 7, h.cell 8, h.frozen⟩
theorem bs_new (w : World) (x : UInt8) : Bs (w.alloc (.cells #[.int .u8 x.toNat] 5)) [] (.slice (some ⟨w.heap.size, 0, none⟩) 1 1) [x] :=
 ⟨_, _, rfl, Nat.le_refl _, rfl, fun _ => ⟨w.heap.size, 0, rfl, (Blk.new w 5 #[.int .u8 x.toNat]).lt, by simp, fun j u hu => by rw [Nat.zero_add, (Blk.new w 5 #[.int .u8 x.toNat]).cell]; simpa [bV] using hu⟩⟩
set_option maxRecDepth 100000 in
set_option maxHeartbeats 4000000 in
theorem rbytes_2 (e : EntryD) (dv : Value) (w : World) (hkind : e.kind = 2) (hr0 : rightE e = 0) (h : Ds w [] dv e.ds) (hs : Short e) (hw : Wf e) :
  Calls Tryz.prog 19 #[.agg (eCell (e, dv)).toArray] w fun r w' => OwnB (bytesE e) w r w' := by
 obtain ⟨⟨hf0, hf8, ht0⟩, hrest⟩ := right_facts hr0
 obtain ⟨hw1, hw2, hw3, hw4⟩ := hw
 obtain ⟨hs1, hs2, hs3⟩ := hs
 have HD := Lib.hid h
 obtain ⟨A, c, rfl, hc⟩ := h.len
 have HBE : Hid (bytesE e = headB e.kind.toNat e.fr.toNat e.tag.toNat ++ (if e.kind = 2 then Lib.uvarint e.ser.size ++ sB e.ser else Lib.uvarint e.ag.toNat ++ Lib.uvarint e.sh.toNat ++ Lib.uvarint e.seq.toNat ++ Lib.uvarint e.ep.toNat ++ Lib.uvarint e.ds.length ++ e.ds.flatMap dBytes)) := rfl
 clear hr0 h
 generalize bytesE e = be at *
 obtain ⟨kind, ag, sh, seq, ep, ds, ser, fr, tag⟩ := e
 simp only [] at hkind hf0 hf8 ht0 hrest hw1 hw2 hw3 hw4 hs1 hs2 hs3 hc HBE HD
 subst hkind
 obtain ⟨fr, rfl⟩ := Int.eq_ofNat_of_zero_le hf0
 obtain ⟨tag, rfl⟩ := Int.eq_ofNat_of_zero_le ht0
 have ht9 : tag < 18446744073709551616 := by omega
 have hfr9 : fr < 18446744073709551616 := by omega
 have hwf : IntKind.u64.wrap (fr : Int) = (fr : Int) := by rw [IntKind.wrap_u64]; omega
 have hwt : IntKind.u64.wrap (tag : Int) = (tag : Int) := by rw [IntKind.wrap_u64]; omega
 have hwk : IntKind.u8.wrap 2 = 2 := by decide
 rw [Int.toNat_natCast, Int.toNat_natCast] at HBE
 have HBE2 : Hid (be = [UInt8.ofNat 2] ++ Lib.uvarint fr ++ Lib.uvarint tag ++ Lib.uvarint ser.size ++ sB ser) := by
  show _ = _
  rw [HBE.out, if_pos rfl]
  simp only [headB, List.append_assoc]
  rfl
 clear hrest hf0 ht0
 have Hw4 := Lib.hid hw4
 clear HBE hw4 hs2
 obtain ⟨w2, hw2⟩ : ∃ w2, w2 = w.alloc (.cells #[.int .i64 2, .int .i64 ag, .int .i64 sh, .int .i64 seq, .int .i64 ep, .slice A ds.length c, .string ser, .int .i64 fr, .int .i64 tag] 26) := ⟨_, rfl⟩
 have hB : Blk w2 w.heap.size 26 #[.int .i64 2, .int .i64 ag, .int .i64 sh, .int .i64 seq, .int .i64 ep, .slice A ds.length c, .string ser, .int .i64 fr, .int .i64 tag] := by rw [hw2]; exact Blk.new w _ _
 have hbw2 : Below w.heap.size w w2 := by rw [hw2]; exact (Below.refl _ _).alloc (Nat.le_refl _) _
 have Hbw2 := Lib.hid hbw2; have Hw2 := Lib.hid hw2
 have HD2 := Lib.hid (HD.out.keep (Keeps.of_below (M := []) hbw2) (by simp))
 obtain ⟨c0, c1, c2, c3, c4, c5, c6, c7, c8, _⟩ := rblk9G hB
 have hg1 : w.heap.size < w2.heap.size := hB.lt
 clear hw2 hB hbw2
 show Calls Tryz.prog 19 #[.agg #[.int .i64 2, .int .i64 ag, .int .i64 sh, .int .i64 seq, .int .i64 ep, .slice A ds.length c, .string ser, .int .i64 fr, .int .i64 tag]] w fun r w' => OwnB be w r w'
 go_enter Tryz.func19, Tryz.ntmps19
 go_upto_region 1 with (fail)
 rw [← Hw2.out]
 have HSB : Hid (∀ W, Below w2.heap.size w2 W → W.cell? ⟨w.heap.size, 0, none⟩ = some (.int .i64 2) ∧ W.cell? ⟨w.heap.size, 1, none⟩ = some (.int .i64 ag) ∧ W.cell? ⟨w.heap.size, 2, none⟩ = some (.int .i64 sh) ∧ W.cell? ⟨w.heap.size, 3, none⟩ = some (.int .i64 seq) ∧ W.cell? ⟨w.heap.size, 4, none⟩ = some (.int .i64 ep) ∧ W.cell? ⟨w.heap.size, 5, none⟩ = some (.slice A ds.length c) ∧ W.cell? ⟨w.heap.size, 6, none⟩ = some (.string ser) ∧ W.cell? ⟨w.heap.size, 7, none⟩ = some (.int .i64 fr) ∧ W.cell? ⟨w.heap.size, 8, none⟩ = some (.int .i64 tag)) := fun W hb => ⟨(hb.cell (p := ⟨w.heap.size, 0, none⟩) hg1).trans c0, (hb.cell (p := ⟨w.heap.size, 1, none⟩) hg1).trans c1, (hb.cell (p := ⟨w.heap.size, 2, none⟩) hg1).trans c2, (hb.cell (p := ⟨w.heap.size, 3, none⟩) hg1).trans c3, (hb.cell (p := ⟨w.heap.size, 4, none⟩) hg1).trans c4, (hb.cell (p := ⟨w.heap.size, 5, none⟩) hg1).trans c5, (hb.cell (p := ⟨w.heap.size, 6, none⟩) hg1).trans c6, (hb.cell (p := ⟨w.heap.size, 7, none⟩) hg1).trans c7, (hb.cell (p := ⟨w.heap.size, 8, none⟩) hg1).trans c8⟩
 have hgl : w.heap.size ≤ w2.heap.size := Hbw2.out.size
 have hFin : Hid (∀ v W, Below w2.heap.size w2 W → W.ownsRow w2.heap.size 5 1 v be.length (be.map bV) → OwnB be w (.returned v) W) := fun v W hb ho => ⟨v, rfl, own_more ho hgl, below_then Hbw2.out hb⟩
 generalize w.heap.size = g1 at *
 clear c0 c1 c2 c3 c4 c5 c6 c7 c8
 refine wp_region_held_drew (S := (fun W => W.cell? ⟨g1, 0, none⟩ = some (.int .i64 2) ∧ W.cell? ⟨g1, 1, none⟩ = some (.int .i64 ag) ∧ W.cell? ⟨g1, 2, none⟩ = some (.int .i64 sh) ∧ W.cell? ⟨g1, 3, none⟩ = some (.int .i64 seq) ∧ W.cell? ⟨g1, 4, none⟩ = some (.int .i64 ep) ∧ W.cell? ⟨g1, 5, none⟩ = some (.slice A ds.length c) ∧ W.cell? ⟨g1, 6, none⟩ = some (.string ser) ∧ W.cell? ⟨g1, 7, none⟩ = some (.int .i64 fr) ∧ W.cell? ⟨g1, 8, none⟩ = some (.int .i64 tag))) (by kernel_rfl) (HSB.out _ (bdrewG (Below.refl _ w2))) (fun hHeld => ?_)
 refine wpAnyH_take (i := 0) (oi := _) (v := ?v0a) rfl (by kernel_rfl) (by kernel_rfl) (by kernel_rfl) (fun _ _ _ h => h) (Or.inl ⟨by rfl, ?y0a⟩) (by assumption) ?r0a
 case y0a => (intro w hSw; (obtain ⟨hS0, hS1, hS2, hS3, hS4, hS5, hS6, hS7, hS8⟩ := hSw); go_simp <;> with_reducible rfl)
 try simp only [List.getElem_toArray, List.getElem_cons_succ, List.getElem_cons_zero, Act.put, List.setIfInBounds_toArray, List.set_cons_zero, List.set_cons_succ]
 refine wpAnyH_take (i := 1) (oi := _) (v := ?v1a) rfl (by kernel_rfl) (by kernel_rfl) (by kernel_rfl) (fun _ _ _ h => h) (Or.inl ⟨by rfl, ?y1a⟩) (by assumption) ?r1a
 case y1a => (intro w hSw; (obtain ⟨hS0, hS1, hS2, hS3, hS4, hS5, hS6, hS7, hS8⟩ := hSw); go_simp <;> with_reducible rfl)
 try simp only [List.getElem_toArray, List.getElem_cons_succ, List.getElem_cons_zero, Act.put, List.setIfInBounds_toArray, List.set_cons_zero, List.set_cons_succ]
 refine wpAnyH_take (i := 2) (oi := _) (v := ?v2a) rfl (by kernel_rfl) (by kernel_rfl) (by kernel_rfl) (fun _ _ _ h => h) (Or.inl ⟨by rfl, ?y2a⟩) (by assumption) ?r2a
 case y2a => (intro w hSw; (obtain ⟨hS0, hS1, hS2, hS3, hS4, hS5, hS6, hS7, hS8⟩ := hSw); go_simp <;> with_reducible rfl)
 try simp only [List.getElem_toArray, List.getElem_cons_succ, List.getElem_cons_zero, Act.put, List.setIfInBounds_toArray, List.set_cons_zero, List.set_cons_succ]
 refine wpAnyH_take (i := 4) (oi := _) (v := ?v4a) rfl (by kernel_rfl) (by kernel_rfl) (by kernel_rfl) (fun _ _ _ h => h) (Or.inl ⟨by rfl, ?y4a⟩) (by assumption) ?r4a
 case y4a => (intro w hSw; (obtain ⟨hS0, hS1, hS2, hS3, hS4, hS5, hS6, hS7, hS8⟩ := hSw); go_simp <;> with_reducible rfl)
 try simp only [List.getElem_toArray, List.getElem_cons_succ, List.getElem_cons_zero, Act.put, List.setIfInBounds_toArray, List.set_cons_zero, List.set_cons_succ]
 refine wpAnyH_take (i := 5) (oi := _) (v := ?v5a) rfl (by kernel_rfl) (by kernel_rfl) (by kernel_rfl) (fun _ _ _ h => h) (Or.inl ⟨by rfl, ?y5a⟩) (by assumption) ?r5a
 case y5a => (intro w hSw; (obtain ⟨hS0, hS1, hS2, hS3, hS4, hS5, hS6, hS7, hS8⟩ := hSw); go_simp <;> with_reducible rfl)
 try simp only [List.getElem_toArray, List.getElem_cons_succ, List.getElem_cons_zero, Act.put, List.setIfInBounds_toArray, List.set_cons_zero, List.set_cons_succ]
 refine wpAnyH_take (i := 6) (oi := _) (v := ?v6a) rfl (by kernel_rfl) (by kernel_rfl) (by kernel_rfl) (fun _ _ _ h => h) (Or.inl ⟨by rfl, ?y6a⟩) (by assumption) ?r6a
 case y6a => (intro w hSw; (obtain ⟨hS0, hS1, hS2, hS3, hS4, hS5, hS6, hS7, hS8⟩ := hSw); go_simp <;> with_reducible rfl)
 try simp only [List.getElem_toArray, List.getElem_cons_succ, List.getElem_cons_zero, Act.put, List.setIfInBounds_toArray, List.set_cons_zero, List.set_cons_succ]
 refine wpAnyH_take (i := 8) (oi := _) (v := ?v8a) rfl (by kernel_rfl) (by kernel_rfl) (by kernel_rfl) (fun _ _ _ h => h) (Or.inl ⟨by rfl, ?y8a⟩) (by assumption) ?r8a
 case y8a => (intro w hSw; (obtain ⟨hS0, hS1, hS2, hS3, hS4, hS5, hS6, hS7, hS8⟩ := hSw); go_simp <;> with_reducible rfl)
 try simp only [List.getElem_toArray, List.getElem_cons_succ, List.getElem_cons_zero, Act.put, List.setIfInBounds_toArray, List.set_cons_zero, List.set_cons_succ]
 refine wpAnyH_take (i := 9) (oi := _) (v := ?v9a) rfl (by kernel_rfl) (by kernel_rfl) (by kernel_rfl) (fun _ _ _ h => h) (Or.inl ⟨by rfl, ?y9a⟩) (by assumption) ?r9a
 case y9a => (intro w hSw; (obtain ⟨hS0, hS1, hS2, hS3, hS4, hS5, hS6, hS7, hS8⟩ := hSw); go_simp <;> with_reducible rfl)
 try simp only [List.getElem_toArray, List.getElem_cons_succ, List.getElem_cons_zero, Act.put, List.setIfInBounds_toArray, List.set_cons_zero, List.set_cons_succ]
 refine wpAnyH_take (i := 10) (oi := _) (v := ?v10a) rfl (by kernel_rfl) (by kernel_rfl) (by kernel_rfl) (fun _ _ _ h => h) (Or.inl ⟨by rfl, ?y10a⟩) (by assumption) ?r10a
 case y10a => (intro w hSw; (obtain ⟨hS0, hS1, hS2, hS3, hS4, hS5, hS6, hS7, hS8⟩ := hSw); go_simp <;> with_reducible rfl)
 try simp only [List.getElem_toArray, List.getElem_cons_succ, List.getElem_cons_zero, Act.put, List.setIfInBounds_toArray, List.set_cons_zero, List.set_cons_succ]
 refine wpAnyH_ready (rs := [3]) (by kernel_rfl) (by simp) ?_
 refine AllReadyH.cons (o := _) rfl (fun K hK => ?_) AllReadyH.nil
 go_simp
 have HbA : Hid (Below w2.heap.size w2 (w2.drew.alloc (.cells #[.int .u8 2] 5))) := (bdrewG (Below.refl _ w2)).alloc (Nat.le_refl _) _
 have HbsA : Hid (Bs (w2.drew.alloc (.cells #[.int .u8 2] 5)) [] (.slice (some ⟨w2.heap.size, 0, none⟩) 1 1) [UInt8.ofNat 2]) := bs_new w2.drew (UInt8.ofNat 2)
 change K _ (w2.drew.alloc (.cells #[.int .u8 2] 5))
 generalize w2.drew.alloc (.cells #[.int .u8 2] 5) = wA at *
 have HlA : Hid (([UInt8.ofNat 2] : List UInt8).length ≤ 1) := Nat.le_refl _
 refine hK.out _ _ (HSB.out _ HbA.out) (fun hHeld2 => ?_)
 clear hK K hHeld
 have hHeld := hHeld2
 clear hHeld2
 try simp only [List.getElem_toArray, List.getElem_cons_succ, List.getElem_cons_zero, Act.put, List.setIfInBounds_toArray, List.set_cons_zero, List.set_cons_succ]
 refine wpAnyH_ready (rs := [7]) (by kernel_rfl) (by simp) ?_
 refine AllReadyH.cons (o := _) rfl (fun K hK => ?_) AllReadyH.nil
 go_simp
 refine (rput_any _ [UInt8.ofNat 2] fr _ HbsA.out hfr9 (by have := HlA.out; omega)).mono ?_
 rintro e w1 ⟨v2, rfl, ho9, hb9⟩
 have Hb4 := Lib.hid (bthenG HbA.out hb9)
 have Hlb6 := Lib.hid Hb4.out.size
 have Ho3 := Lib.hid (own_bs ho9)
 have Hl7 : Hid (([UInt8.ofNat 2] ++ Lib.uvarint fr).length ≤ 1 + 10) := by
  have h1 := Lib.uvarint_length64 (x := fr) hfr9
  have h2 := HlA.out
  show List.length _ ≤ _
  rw [List.length_append]
  omega
 clear hb9 ho9
 refine hK.out _ _ (HSB.out _ Hb4.out) (fun hHeld2 => ?_)
 clear hK K hHeld
 have hHeld := hHeld2
 clear hHeld2
 try simp only [List.getElem_toArray, List.getElem_cons_succ, List.getElem_cons_zero, Act.put, List.setIfInBounds_toArray, List.set_cons_zero, List.set_cons_succ]
 refine wpAnyH_ready (rs := [11]) (by kernel_rfl) (by simp) ?_
 refine AllReadyH.cons (o := _) rfl (fun K hK => ?_) AllReadyH.nil
 go_simp
 refine (rput_any v2 ([UInt8.ofNat 2] ++ Lib.uvarint fr) tag _ Ho3.out ht9 (by have := Hl7.out; omega)).mono ?_
 rintro e w8 ⟨v9, rfl, ho9, hb9⟩
 have Hb11 := Lib.hid (bthenG Hb4.out hb9)
 have Hlb13 := Lib.hid Hb11.out.size
 have Ho10 := Lib.hid (own_bs ho9)
 have Hl14 : Hid ((([UInt8.ofNat 2] ++ Lib.uvarint fr) ++ Lib.uvarint tag).length ≤ 1 + 10 + 10) := by
  have h1 := Lib.uvarint_length64 (x := tag) ht9
  have h2 := Hl7.out
  show List.length _ ≤ _
  rw [List.length_append]
  omega
 clear hb9 ho9
 refine hK.out _ _ (HSB.out _ Hb11.out) (fun hHeld2 => ?_)
 clear hK K hHeld
 have hHeld := hHeld2
 clear hHeld2
 try simp only [List.getElem_toArray, List.getElem_cons_succ, List.getElem_cons_zero, Act.put, List.setIfInBounds_toArray, List.set_cons_zero, List.set_cons_succ]
 refine wpAnyH_take (i := 12) (oi := _) (v := ?v12a) rfl (by kernel_rfl) (by kernel_rfl) (by kernel_rfl) (fun _ _ _ h => h) (Or.inl ⟨by rfl, ?y12a⟩) (by assumption) ?r12a
 case y12a => (intro w hSw; (try dsimp only at hSw); go_simp <;> with_reducible rfl)
 try simp only [List.getElem_toArray, List.getElem_cons_succ, List.getElem_cons_zero, Act.put, List.setIfInBounds_toArray, List.set_cons_zero, List.set_cons_succ]
 refine wpAnyH_done (by kernel_rfl) ?_ _
 clear hHeld
 obtain ⟨c0, c1, c2, c3, c4, c5, c6, c7, c8⟩ := HSB.out _ Hb11.out
 go_wp2_with fail
 refine (rtxt_any v9 (([UInt8.ofNat 2] ++ Lib.uvarint fr) ++ Lib.uvarint tag) ser _ Ho10.out (by have := Hl14.out; omega)).mono ?_
 rintro e w9 ⟨v9, rfl, ho9, hb9⟩
 have hC := Lib.hid (hFin.out v9 w9 (below_then Hb11.out hb9) (by rw [HBE2.out]; exact own_more ho9 (Hb11.out.size)))
 clear ho9 hb9
 go_wp2
 go_ret
 exact hC.out
set_option maxRecDepth 100000 in
set_option maxHeartbeats 4000000 in
theorem rbytes_1 (e : EntryD) (dv : Value) (w : World) (hkind : e.kind = 1) (hr0 : rightE e = 0) (h : Ds w [] dv e.ds) (hs : Short e) (hw : Wf e) :
  Calls Tryz.prog 19 #[.agg (eCell (e, dv)).toArray] w fun r w' => OwnB (bytesE e) w r w' := by
 obtain ⟨⟨hf0, hf8, ht0⟩, hrest⟩ := right_facts hr0
 obtain ⟨hw1, hw2, hw3, hw4⟩ := hw
 obtain ⟨hs1, hs2, hs3⟩ := hs
 have HD := Lib.hid h
 obtain ⟨A, c, rfl, hc⟩ := h.len
 have HBE : Hid (bytesE e = headB e.kind.toNat e.fr.toNat e.tag.toNat ++ (if e.kind = 2 then Lib.uvarint e.ser.size ++ sB e.ser else Lib.uvarint e.ag.toNat ++ Lib.uvarint e.sh.toNat ++ Lib.uvarint e.seq.toNat ++ Lib.uvarint e.ep.toNat ++ Lib.uvarint e.ds.length ++ e.ds.flatMap dBytes)) := rfl
 clear hr0 h
 generalize bytesE e = be at *
 obtain ⟨kind, ag, sh, seq, ep, ds, ser, fr, tag⟩ := e
 simp only [] at hkind hf0 hf8 ht0 hrest hw1 hw2 hw3 hw4 hs1 hs2 hs3 hc HBE HD
 subst hkind
 obtain ⟨fr, rfl⟩ := Int.eq_ofNat_of_zero_le hf0
 obtain ⟨tag, rfl⟩ := Int.eq_ofNat_of_zero_le ht0
 have ht9 : tag < 18446744073709551616 := by omega
 have hfr9 : fr < 18446744073709551616 := by omega
 have hwf : IntKind.u64.wrap (fr : Int) = (fr : Int) := by rw [IntKind.wrap_u64]; omega
 have hwt : IntKind.u64.wrap (tag : Int) = (tag : Int) := by rw [IntKind.wrap_u64]; omega
 have hwk : IntKind.u8.wrap 1 = 1 := by decide
 rw [Int.toNat_natCast, Int.toNat_natCast] at HBE
 obtain ⟨_, ha0, ha8, hs0, hs4, hq0, hp0, hd8⟩ := hrest.resolve_left (by decide)
 obtain ⟨ag, rfl⟩ := Int.eq_ofNat_of_zero_le ha0
 obtain ⟨sh, rfl⟩ := Int.eq_ofNat_of_zero_le hs0
 obtain ⟨seq, rfl⟩ := Int.eq_ofNat_of_zero_le (show 0 ≤ seq by omega)
 obtain ⟨ep, rfl⟩ := Int.eq_ofNat_of_zero_le (show 0 ≤ ep by omega)
 have ha9 : ag < 18446744073709551616 := by omega
 have hs9 : sh < 18446744073709551616 := by omega
 have hq9 : seq < 18446744073709551616 := by omega
 have hp9 : ep < 18446744073709551616 := by omega
 have hwa : IntKind.u64.wrap (ag : Int) = (ag : Int) := by rw [IntKind.wrap_u64]; omega
 have hws : IntKind.u64.wrap (sh : Int) = (sh : Int) := by rw [IntKind.wrap_u64]; omega
 have hwq : IntKind.u64.wrap (seq : Int) = (seq : Int) := by rw [IntKind.wrap_u64]; omega
 have hwp : IntKind.u64.wrap (ep : Int) = (ep : Int) := by rw [IntKind.wrap_u64]; omega
 have HBE2 : Hid (be = [UInt8.ofNat 1] ++ Lib.uvarint fr ++ Lib.uvarint tag ++ Lib.uvarint ag ++ Lib.uvarint sh ++ Lib.uvarint seq ++ Lib.uvarint ep ++ Lib.uvarint ds.length ++ ds.flatMap dBytes) := by
  show _ = _
  rw [HBE.out, if_neg (by decide)]
  simp only [headB, Int.toNat_natCast, List.append_assoc]
  rfl
 have hdl := Lib.hid (dBytes_len ds hs2 hw4)
 clear ha0 hs0 hrest hf0 ht0
 have Hw4 := Lib.hid hw4
 clear HBE hw4 hs2
 obtain ⟨w2, hw2⟩ : ∃ w2, w2 = w.alloc (.cells #[.int .i64 1, .int .i64 ag, .int .i64 sh, .int .i64 seq, .int .i64 ep, .slice A ds.length c, .string ser, .int .i64 fr, .int .i64 tag] 26) := ⟨_, rfl⟩
 have hB : Blk w2 w.heap.size 26 #[.int .i64 1, .int .i64 ag, .int .i64 sh, .int .i64 seq, .int .i64 ep, .slice A ds.length c, .string ser, .int .i64 fr, .int .i64 tag] := by rw [hw2]; exact Blk.new w _ _
 have hbw2 : Below w.heap.size w w2 := by rw [hw2]; exact (Below.refl _ _).alloc (Nat.le_refl _) _
 have Hbw2 := Lib.hid hbw2; have Hw2 := Lib.hid hw2
 have HD2 := Lib.hid (HD.out.keep (Keeps.of_below (M := []) hbw2) (by simp))
 obtain ⟨c0, c1, c2, c3, c4, c5, c6, c7, c8, _⟩ := rblk9G hB
 have hg1 : w.heap.size < w2.heap.size := hB.lt
 clear hw2 hB hbw2
 show Calls Tryz.prog 19 #[.agg #[.int .i64 1, .int .i64 ag, .int .i64 sh, .int .i64 seq, .int .i64 ep, .slice A ds.length c, .string ser, .int .i64 fr, .int .i64 tag]] w fun r w' => OwnB be w r w'
 go_enter Tryz.func19, Tryz.ntmps19
 go_upto_region 1 with (fail)
 rw [← Hw2.out]
 have HSB : Hid (∀ W, Below w2.heap.size w2 W → W.cell? ⟨w.heap.size, 0, none⟩ = some (.int .i64 1) ∧ W.cell? ⟨w.heap.size, 1, none⟩ = some (.int .i64 ag) ∧ W.cell? ⟨w.heap.size, 2, none⟩ = some (.int .i64 sh) ∧ W.cell? ⟨w.heap.size, 3, none⟩ = some (.int .i64 seq) ∧ W.cell? ⟨w.heap.size, 4, none⟩ = some (.int .i64 ep) ∧ W.cell? ⟨w.heap.size, 5, none⟩ = some (.slice A ds.length c) ∧ W.cell? ⟨w.heap.size, 6, none⟩ = some (.string ser) ∧ W.cell? ⟨w.heap.size, 7, none⟩ = some (.int .i64 fr) ∧ W.cell? ⟨w.heap.size, 8, none⟩ = some (.int .i64 tag)) := fun W hb => ⟨(hb.cell (p := ⟨w.heap.size, 0, none⟩) hg1).trans c0, (hb.cell (p := ⟨w.heap.size, 1, none⟩) hg1).trans c1, (hb.cell (p := ⟨w.heap.size, 2, none⟩) hg1).trans c2, (hb.cell (p := ⟨w.heap.size, 3, none⟩) hg1).trans c3, (hb.cell (p := ⟨w.heap.size, 4, none⟩) hg1).trans c4, (hb.cell (p := ⟨w.heap.size, 5, none⟩) hg1).trans c5, (hb.cell (p := ⟨w.heap.size, 6, none⟩) hg1).trans c6, (hb.cell (p := ⟨w.heap.size, 7, none⟩) hg1).trans c7, (hb.cell (p := ⟨w.heap.size, 8, none⟩) hg1).trans c8⟩
 have hgl : w.heap.size ≤ w2.heap.size := Hbw2.out.size
 have hFin : Hid (∀ v W, Below w2.heap.size w2 W → W.ownsRow w2.heap.size 5 1 v be.length (be.map bV) → OwnB be w (.returned v) W) := fun v W hb ho => ⟨v, rfl, own_more ho hgl, below_then Hbw2.out hb⟩
 generalize w.heap.size = g1 at *
 clear c0 c1 c2 c3 c4 c5 c6 c7 c8
 refine wp_region_held_drew (S := (fun W => W.cell? ⟨g1, 0, none⟩ = some (.int .i64 1) ∧ W.cell? ⟨g1, 1, none⟩ = some (.int .i64 ag) ∧ W.cell? ⟨g1, 2, none⟩ = some (.int .i64 sh) ∧ W.cell? ⟨g1, 3, none⟩ = some (.int .i64 seq) ∧ W.cell? ⟨g1, 4, none⟩ = some (.int .i64 ep) ∧ W.cell? ⟨g1, 5, none⟩ = some (.slice A ds.length c) ∧ W.cell? ⟨g1, 6, none⟩ = some (.string ser) ∧ W.cell? ⟨g1, 7, none⟩ = some (.int .i64 fr) ∧ W.cell? ⟨g1, 8, none⟩ = some (.int .i64 tag))) (by kernel_rfl) (HSB.out _ (bdrewG (Below.refl _ w2))) (fun hHeld => ?_)
 refine wpAnyH_take (i := 0) (oi := _) (v := ?v0a) rfl (by kernel_rfl) (by kernel_rfl) (by kernel_rfl) (fun _ _ _ h => h) (Or.inl ⟨by rfl, ?y0a⟩) (by assumption) ?r0a
 case y0a => (intro w hSw; (obtain ⟨hS0, hS1, hS2, hS3, hS4, hS5, hS6, hS7, hS8⟩ := hSw); go_simp <;> with_reducible rfl)
 try simp only [List.getElem_toArray, List.getElem_cons_succ, List.getElem_cons_zero, Act.put, List.setIfInBounds_toArray, List.set_cons_zero, List.set_cons_succ]
 refine wpAnyH_take (i := 1) (oi := _) (v := ?v1a) rfl (by kernel_rfl) (by kernel_rfl) (by kernel_rfl) (fun _ _ _ h => h) (Or.inl ⟨by rfl, ?y1a⟩) (by assumption) ?r1a
 case y1a => (intro w hSw; (obtain ⟨hS0, hS1, hS2, hS3, hS4, hS5, hS6, hS7, hS8⟩ := hSw); go_simp <;> with_reducible rfl)
 try simp only [List.getElem_toArray, List.getElem_cons_succ, List.getElem_cons_zero, Act.put, List.setIfInBounds_toArray, List.set_cons_zero, List.set_cons_succ]
 refine wpAnyH_take (i := 2) (oi := _) (v := ?v2a) rfl (by kernel_rfl) (by kernel_rfl) (by kernel_rfl) (fun _ _ _ h => h) (Or.inl ⟨by rfl, ?y2a⟩) (by assumption) ?r2a
 case y2a => (intro w hSw; (obtain ⟨hS0, hS1, hS2, hS3, hS4, hS5, hS6, hS7, hS8⟩ := hSw); go_simp <;> with_reducible rfl)
 try simp only [List.getElem_toArray, List.getElem_cons_succ, List.getElem_cons_zero, Act.put, List.setIfInBounds_toArray, List.set_cons_zero, List.set_cons_succ]
 refine wpAnyH_take (i := 4) (oi := _) (v := ?v4a) rfl (by kernel_rfl) (by kernel_rfl) (by kernel_rfl) (fun _ _ _ h => h) (Or.inl ⟨by rfl, ?y4a⟩) (by assumption) ?r4a
 case y4a => (intro w hSw; (obtain ⟨hS0, hS1, hS2, hS3, hS4, hS5, hS6, hS7, hS8⟩ := hSw); go_simp <;> with_reducible rfl)
 try simp only [List.getElem_toArray, List.getElem_cons_succ, List.getElem_cons_zero, Act.put, List.setIfInBounds_toArray, List.set_cons_zero, List.set_cons_succ]
 refine wpAnyH_take (i := 5) (oi := _) (v := ?v5a) rfl (by kernel_rfl) (by kernel_rfl) (by kernel_rfl) (fun _ _ _ h => h) (Or.inl ⟨by rfl, ?y5a⟩) (by assumption) ?r5a
 case y5a => (intro w hSw; (obtain ⟨hS0, hS1, hS2, hS3, hS4, hS5, hS6, hS7, hS8⟩ := hSw); go_simp <;> with_reducible rfl)
 try simp only [List.getElem_toArray, List.getElem_cons_succ, List.getElem_cons_zero, Act.put, List.setIfInBounds_toArray, List.set_cons_zero, List.set_cons_succ]
 refine wpAnyH_take (i := 6) (oi := _) (v := ?v6a) rfl (by kernel_rfl) (by kernel_rfl) (by kernel_rfl) (fun _ _ _ h => h) (Or.inl ⟨by rfl, ?y6a⟩) (by assumption) ?r6a
 case y6a => (intro w hSw; (obtain ⟨hS0, hS1, hS2, hS3, hS4, hS5, hS6, hS7, hS8⟩ := hSw); go_simp <;> with_reducible rfl)
 try simp only [List.getElem_toArray, List.getElem_cons_succ, List.getElem_cons_zero, Act.put, List.setIfInBounds_toArray, List.set_cons_zero, List.set_cons_succ]
 refine wpAnyH_take (i := 8) (oi := _) (v := ?v8a) rfl (by kernel_rfl) (by kernel_rfl) (by kernel_rfl) (fun _ _ _ h => h) (Or.inl ⟨by rfl, ?y8a⟩) (by assumption) ?r8a
 case y8a => (intro w hSw; (obtain ⟨hS0, hS1, hS2, hS3, hS4, hS5, hS6, hS7, hS8⟩ := hSw); go_simp <;> with_reducible rfl)
 try simp only [List.getElem_toArray, List.getElem_cons_succ, List.getElem_cons_zero, Act.put, List.setIfInBounds_toArray, List.set_cons_zero, List.set_cons_succ]
 refine wpAnyH_take (i := 9) (oi := _) (v := ?v9a) rfl (by kernel_rfl) (by kernel_rfl) (by kernel_rfl) (fun _ _ _ h => h) (Or.inl ⟨by rfl, ?y9a⟩) (by assumption) ?r9a
 case y9a => (intro w hSw; (obtain ⟨hS0, hS1, hS2, hS3, hS4, hS5, hS6, hS7, hS8⟩ := hSw); go_simp <;> with_reducible rfl)
 try simp only [List.getElem_toArray, List.getElem_cons_succ, List.getElem_cons_zero, Act.put, List.setIfInBounds_toArray, List.set_cons_zero, List.set_cons_succ]
 refine wpAnyH_take (i := 10) (oi := _) (v := ?v10a) rfl (by kernel_rfl) (by kernel_rfl) (by kernel_rfl) (fun _ _ _ h => h) (Or.inl ⟨by rfl, ?y10a⟩) (by assumption) ?r10a
 case y10a => (intro w hSw; (obtain ⟨hS0, hS1, hS2, hS3, hS4, hS5, hS6, hS7, hS8⟩ := hSw); go_simp <;> with_reducible rfl)
 try simp only [List.getElem_toArray, List.getElem_cons_succ, List.getElem_cons_zero, Act.put, List.setIfInBounds_toArray, List.set_cons_zero, List.set_cons_succ]
 refine wpAnyH_ready (rs := [3]) (by kernel_rfl) (by simp) ?_
 refine AllReadyH.cons (o := _) rfl (fun K hK => ?_) AllReadyH.nil
 go_simp
 have HbA : Hid (Below w2.heap.size w2 (w2.drew.alloc (.cells #[.int .u8 1] 5))) := (bdrewG (Below.refl _ w2)).alloc (Nat.le_refl _) _
 have HbsA : Hid (Bs (w2.drew.alloc (.cells #[.int .u8 1] 5)) [] (.slice (some ⟨w2.heap.size, 0, none⟩) 1 1) [UInt8.ofNat 1]) := bs_new w2.drew (UInt8.ofNat 1)
 change K _ (w2.drew.alloc (.cells #[.int .u8 1] 5))
 generalize w2.drew.alloc (.cells #[.int .u8 1] 5) = wA at *
 have HlA : Hid (([UInt8.ofNat 1] : List UInt8).length ≤ 1) := Nat.le_refl _
 refine hK.out _ _ (HSB.out _ HbA.out) (fun hHeld2 => ?_)
 clear hK K hHeld
 have hHeld := hHeld2
 clear hHeld2
 try simp only [List.getElem_toArray, List.getElem_cons_succ, List.getElem_cons_zero, Act.put, List.setIfInBounds_toArray, List.set_cons_zero, List.set_cons_succ]
 refine wpAnyH_ready (rs := [7]) (by kernel_rfl) (by simp) ?_
 refine AllReadyH.cons (o := _) rfl (fun K hK => ?_) AllReadyH.nil
 go_simp
 refine (rput_any _ [UInt8.ofNat 1] fr _ HbsA.out hfr9 (by have := HlA.out; omega)).mono ?_
 rintro e w1 ⟨v2, rfl, ho9, hb9⟩
 have Hb4 := Lib.hid (bthenG HbA.out hb9)
 have Hlb6 := Lib.hid Hb4.out.size
 have Ho3 := Lib.hid (own_bs ho9)
 have Hl7 : Hid (([UInt8.ofNat 1] ++ Lib.uvarint fr).length ≤ 1 + 10) := by
  have h1 := Lib.uvarint_length64 (x := fr) hfr9
  have h2 := HlA.out
  show List.length _ ≤ _
  rw [List.length_append]
  omega
 clear hb9 ho9
 refine hK.out _ _ (HSB.out _ Hb4.out) (fun hHeld2 => ?_)
 clear hK K hHeld
 have hHeld := hHeld2
 clear hHeld2
 try simp only [List.getElem_toArray, List.getElem_cons_succ, List.getElem_cons_zero, Act.put, List.setIfInBounds_toArray, List.set_cons_zero, List.set_cons_succ]
 refine wpAnyH_ready (rs := [11]) (by kernel_rfl) (by simp) ?_
 refine AllReadyH.cons (o := _) rfl (fun K hK => ?_) AllReadyH.nil
 go_simp
 refine (rput_any v2 ([UInt8.ofNat 1] ++ Lib.uvarint fr) tag _ Ho3.out ht9 (by have := Hl7.out; omega)).mono ?_
 rintro e w8 ⟨v9, rfl, ho9, hb9⟩
 have Hb11 := Lib.hid (bthenG Hb4.out hb9)
 have Hlb13 := Lib.hid Hb11.out.size
 have Ho10 := Lib.hid (own_bs ho9)
 have Hl14 : Hid ((([UInt8.ofNat 1] ++ Lib.uvarint fr) ++ Lib.uvarint tag).length ≤ 1 + 10 + 10) := by
  have h1 := Lib.uvarint_length64 (x := tag) ht9
  have h2 := Hl7.out
  show List.length _ ≤ _
  rw [List.length_append]
  omega
 clear hb9 ho9
 refine hK.out _ _ (HSB.out _ Hb11.out) (fun hHeld2 => ?_)
 clear hK K hHeld
 have hHeld := hHeld2
 clear hHeld2
 try simp only [List.getElem_toArray, List.getElem_cons_succ, List.getElem_cons_zero, Act.put, List.setIfInBounds_toArray, List.set_cons_zero, List.set_cons_succ]
 refine wpAnyH_take (i := 12) (oi := _) (v := ?v12a) rfl (by kernel_rfl) (by kernel_rfl) (by kernel_rfl) (fun _ _ _ h => h) (Or.inl ⟨by rfl, ?y12a⟩) (by assumption) ?r12a
 case y12a => (intro w hSw; (try dsimp only at hSw); go_simp <;> with_reducible rfl)
 try simp only [List.getElem_toArray, List.getElem_cons_succ, List.getElem_cons_zero, Act.put, List.setIfInBounds_toArray, List.set_cons_zero, List.set_cons_succ]
 refine wpAnyH_done (by kernel_rfl) ?_ _
 clear hHeld
 obtain ⟨c0, c1, c2, c3, c4, c5, c6, c7, c8⟩ := HSB.out _ Hb11.out
 go_upto_region 4 with (fail)
 clear c0 c1 c2 c3 c4 c5 c6 c7 c8
 refine wp_region_held_drew (S := (fun W => W.cell? ⟨g1, 0, none⟩ = some (.int .i64 1) ∧ W.cell? ⟨g1, 1, none⟩ = some (.int .i64 ag) ∧ W.cell? ⟨g1, 2, none⟩ = some (.int .i64 sh) ∧ W.cell? ⟨g1, 3, none⟩ = some (.int .i64 seq) ∧ W.cell? ⟨g1, 4, none⟩ = some (.int .i64 ep) ∧ W.cell? ⟨g1, 5, none⟩ = some (.slice A ds.length c) ∧ W.cell? ⟨g1, 6, none⟩ = some (.string ser) ∧ W.cell? ⟨g1, 7, none⟩ = some (.int .i64 fr) ∧ W.cell? ⟨g1, 8, none⟩ = some (.int .i64 tag))) (by kernel_rfl) (HSB.out _ (bdrewG Hb11.out)) (fun hHeld => ?_)
 refine wpAnyH_take (i := 0) (oi := _) (v := ?v0b) rfl (by kernel_rfl) (by kernel_rfl) (by kernel_rfl) (fun _ _ _ h => h) (Or.inl ⟨by rfl, ?y0b⟩) (by assumption) ?r0b
 case y0b => (intro w hSw; (obtain ⟨hS0, hS1, hS2, hS3, hS4, hS5, hS6, hS7, hS8⟩ := hSw); go_simp <;> with_reducible rfl)
 try simp only [List.getElem_toArray, List.getElem_cons_succ, List.getElem_cons_zero, Act.put, List.setIfInBounds_toArray, List.set_cons_zero, List.set_cons_succ]
 refine wpAnyH_take (i := 1) (oi := _) (v := ?v1b) rfl (by kernel_rfl) (by kernel_rfl) (by kernel_rfl) (fun _ _ _ h => h) (Or.inl ⟨by rfl, ?y1b⟩) (by assumption) ?r1b
 case y1b => (intro w hSw; (obtain ⟨hS0, hS1, hS2, hS3, hS4, hS5, hS6, hS7, hS8⟩ := hSw); go_simp <;> with_reducible rfl)
 try simp only [List.getElem_toArray, List.getElem_cons_succ, List.getElem_cons_zero, Act.put, List.setIfInBounds_toArray, List.set_cons_zero, List.set_cons_succ]
 refine wpAnyH_take (i := 2) (oi := _) (v := ?v2b) rfl (by kernel_rfl) (by kernel_rfl) (by kernel_rfl) (fun _ _ _ h => h) (Or.inl ⟨by rfl, ?y2b⟩) (by assumption) ?r2b
 case y2b => (intro w hSw; (obtain ⟨hS0, hS1, hS2, hS3, hS4, hS5, hS6, hS7, hS8⟩ := hSw); go_simp <;> with_reducible rfl)
 try simp only [List.getElem_toArray, List.getElem_cons_succ, List.getElem_cons_zero, Act.put, List.setIfInBounds_toArray, List.set_cons_zero, List.set_cons_succ]
 refine wpAnyH_take (i := 3) (oi := _) (v := ?v3b) rfl (by kernel_rfl) (by kernel_rfl) (by kernel_rfl) (fun _ _ _ h => h) (Or.inl ⟨by rfl, ?y3b⟩) (by assumption) ?r3b
 case y3b => (intro w hSw; (obtain ⟨hS0, hS1, hS2, hS3, hS4, hS5, hS6, hS7, hS8⟩ := hSw); go_simp <;> with_reducible rfl)
 try simp only [List.getElem_toArray, List.getElem_cons_succ, List.getElem_cons_zero, Act.put, List.setIfInBounds_toArray, List.set_cons_zero, List.set_cons_succ]
 refine wpAnyH_take (i := 4) (oi := _) (v := ?v4b) rfl (by kernel_rfl) (by kernel_rfl) (by kernel_rfl) (fun _ _ _ h => h) (Or.inl ⟨by rfl, ?y4b⟩) (by assumption) ?r4b
 case y4b => (intro w hSw; (obtain ⟨hS0, hS1, hS2, hS3, hS4, hS5, hS6, hS7, hS8⟩ := hSw); go_simp <;> with_reducible rfl)
 try simp only [List.getElem_toArray, List.getElem_cons_succ, List.getElem_cons_zero, Act.put, List.setIfInBounds_toArray, List.set_cons_zero, List.set_cons_succ]
 refine wpAnyH_take (i := 6) (oi := _) (v := ?v6b) rfl (by kernel_rfl) (by kernel_rfl) (by kernel_rfl) (fun _ _ _ h => h) (Or.inl ⟨by rfl, ?y6b⟩) (by assumption) ?r6b
 case y6b => (intro w hSw; (obtain ⟨hS0, hS1, hS2, hS3, hS4, hS5, hS6, hS7, hS8⟩ := hSw); go_simp <;> with_reducible rfl)
 try simp only [List.getElem_toArray, List.getElem_cons_succ, List.getElem_cons_zero, Act.put, List.setIfInBounds_toArray, List.set_cons_zero, List.set_cons_succ]
 refine wpAnyH_take (i := 7) (oi := _) (v := ?v7b) rfl (by kernel_rfl) (by kernel_rfl) (by kernel_rfl) (fun _ _ _ h => h) (Or.inl ⟨by rfl, ?y7b⟩) (by assumption) ?r7b
 case y7b => (intro w hSw; (obtain ⟨hS0, hS1, hS2, hS3, hS4, hS5, hS6, hS7, hS8⟩ := hSw); go_simp <;> with_reducible rfl)
 try simp only [List.getElem_toArray, List.getElem_cons_succ, List.getElem_cons_zero, Act.put, List.setIfInBounds_toArray, List.set_cons_zero, List.set_cons_succ]
 refine wpAnyH_take (i := 8) (oi := _) (v := ?v8b) rfl (by kernel_rfl) (by kernel_rfl) (by kernel_rfl) (fun _ _ _ h => h) (Or.inl ⟨by rfl, ?y8b⟩) (by assumption) ?r8b
 case y8b => (intro w hSw; (obtain ⟨hS0, hS1, hS2, hS3, hS4, hS5, hS6, hS7, hS8⟩ := hSw); go_simp <;> with_reducible rfl)
 try simp only [List.getElem_toArray, List.getElem_cons_succ, List.getElem_cons_zero, Act.put, List.setIfInBounds_toArray, List.set_cons_zero, List.set_cons_succ]
 refine wpAnyH_take (i := 9) (oi := _) (v := ?v9b) rfl (by kernel_rfl) (by kernel_rfl) (by kernel_rfl) (fun _ _ _ h => h) (Or.inl ⟨by rfl, ?y9b⟩) (by assumption) ?r9b
 case y9b => (intro w hSw; (obtain ⟨hS0, hS1, hS2, hS3, hS4, hS5, hS6, hS7, hS8⟩ := hSw); go_simp <;> with_reducible rfl)
 try simp only [List.getElem_toArray, List.getElem_cons_succ, List.getElem_cons_zero, Act.put, List.setIfInBounds_toArray, List.set_cons_zero, List.set_cons_succ]
 have Hd15 := Lib.hid (bdrewG Hb11.out)
 have Hs16 : Hid (Bs w8.drew [] v9 (([UInt8.ofNat 1] ++ Lib.uvarint fr) ++ Lib.uvarint tag)) := Ho10.out
 refine wpAnyH_ready (rs := [5]) (by kernel_rfl) (by simp) ?_
 refine AllReadyH.cons (o := _) rfl (fun K hK => ?_) AllReadyH.nil
 go_simp
 refine (rput_any v9 (([UInt8.ofNat 1] ++ Lib.uvarint fr) ++ Lib.uvarint tag) ag _ Hs16.out ha9 (by have := Hl14.out; omega)).mono ?_
 rintro e w17 ⟨v18, rfl, ho9, hb9⟩
 have Hb20 := Lib.hid (bthenG Hd15.out hb9)
 have Hlb22 := Lib.hid Hb20.out.size
 have Ho19 := Lib.hid (own_bs ho9)
 have Hl23 : Hid (((([UInt8.ofNat 1] ++ Lib.uvarint fr) ++ Lib.uvarint tag) ++ Lib.uvarint ag).length ≤ 1 + 10 + 10 + 10) := by
  have h1 := Lib.uvarint_length64 (x := ag) ha9
  have h2 := Hl14.out
  show List.length _ ≤ _
  rw [List.length_append]
  omega
 clear hb9 ho9
 refine hK.out _ _ (HSB.out _ Hb20.out) (fun hHeld2 => ?_)
 clear hK K hHeld
 have hHeld := hHeld2
 clear hHeld2
 try simp only [List.getElem_toArray, List.getElem_cons_succ, List.getElem_cons_zero, Act.put, List.setIfInBounds_toArray, List.set_cons_zero, List.set_cons_succ]
 refine wpAnyH_ready (rs := [10]) (by kernel_rfl) (by simp) ?_
 refine AllReadyH.cons (o := _) rfl (fun K hK => ?_) AllReadyH.nil
 go_simp
 refine (rput_any v18 ((([UInt8.ofNat 1] ++ Lib.uvarint fr) ++ Lib.uvarint tag) ++ Lib.uvarint ag) sh _ Ho19.out hs9 (by have := Hl23.out; omega)).mono ?_
 rintro e w24 ⟨v25, rfl, ho9, hb9⟩
 have Hb27 := Lib.hid (bthenG Hb20.out hb9)
 have Hlb29 := Lib.hid Hb27.out.size
 have Ho26 := Lib.hid (own_bs ho9)
 have Hl30 : Hid ((((([UInt8.ofNat 1] ++ Lib.uvarint fr) ++ Lib.uvarint tag) ++ Lib.uvarint ag) ++ Lib.uvarint sh).length ≤ 1 + 10 + 10 + 10 + 10) := by
  have h1 := Lib.uvarint_length64 (x := sh) hs9
  have h2 := Hl23.out
  show List.length _ ≤ _
  rw [List.length_append]
  omega
 clear hb9 ho9
 refine hK.out _ _ (HSB.out _ Hb27.out) (fun hHeld2 => ?_)
 clear hK K hHeld
 have hHeld := hHeld2
 clear hHeld2
 try simp only [List.getElem_toArray, List.getElem_cons_succ, List.getElem_cons_zero, Act.put, List.setIfInBounds_toArray, List.set_cons_zero, List.set_cons_succ]
 refine wpAnyH_take (i := 11) (oi := _) (v := ?v11b) rfl (by kernel_rfl) (by kernel_rfl) (by kernel_rfl) (fun _ _ _ h => h) (Or.inl ⟨by rfl, ?y11b⟩) (by assumption) ?r11b
 case y11b => (intro w hSw; (try dsimp only at hSw); go_simp <;> with_reducible rfl)
 try simp only [List.getElem_toArray, List.getElem_cons_succ, List.getElem_cons_zero, Act.put, List.setIfInBounds_toArray, List.set_cons_zero, List.set_cons_succ]
 refine wpAnyH_done (by kernel_rfl) ?_ _
 clear hHeld
 obtain ⟨c0, c1, c2, c3, c4, c5, c6, c7, c8⟩ := HSB.out _ Hb27.out
 go_upto_region 5 with (fail)
 clear c0 c1 c2 c3 c4 c5 c6 c7 c8
 refine wp_region_held_drew (S := (fun W => W.cell? ⟨g1, 0, none⟩ = some (.int .i64 1) ∧ W.cell? ⟨g1, 1, none⟩ = some (.int .i64 ag) ∧ W.cell? ⟨g1, 2, none⟩ = some (.int .i64 sh) ∧ W.cell? ⟨g1, 3, none⟩ = some (.int .i64 seq) ∧ W.cell? ⟨g1, 4, none⟩ = some (.int .i64 ep) ∧ W.cell? ⟨g1, 5, none⟩ = some (.slice A ds.length c) ∧ W.cell? ⟨g1, 6, none⟩ = some (.string ser) ∧ W.cell? ⟨g1, 7, none⟩ = some (.int .i64 fr) ∧ W.cell? ⟨g1, 8, none⟩ = some (.int .i64 tag))) (by kernel_rfl) (HSB.out _ (bdrewG Hb27.out)) (fun hHeld => ?_)
 refine wpAnyH_take (i := 0) (oi := _) (v := ?v0c) rfl (by kernel_rfl) (by kernel_rfl) (by kernel_rfl) (fun _ _ _ h => h) (Or.inl ⟨by rfl, ?y0c⟩) (by assumption) ?r0c
 case y0c => (intro w hSw; (obtain ⟨hS0, hS1, hS2, hS3, hS4, hS5, hS6, hS7, hS8⟩ := hSw); go_simp <;> with_reducible rfl)
 try simp only [List.getElem_toArray, List.getElem_cons_succ, List.getElem_cons_zero, Act.put, List.setIfInBounds_toArray, List.set_cons_zero, List.set_cons_succ]
 refine wpAnyH_take (i := 1) (oi := _) (v := ?v1c) rfl (by kernel_rfl) (by kernel_rfl) (by kernel_rfl) (fun _ _ _ h => h) (Or.inl ⟨by rfl, ?y1c⟩) (by assumption) ?r1c
 case y1c => (intro w hSw; (obtain ⟨hS0, hS1, hS2, hS3, hS4, hS5, hS6, hS7, hS8⟩ := hSw); go_simp <;> with_reducible rfl)
 try simp only [List.getElem_toArray, List.getElem_cons_succ, List.getElem_cons_zero, Act.put, List.setIfInBounds_toArray, List.set_cons_zero, List.set_cons_succ]
 refine wpAnyH_take (i := 2) (oi := _) (v := ?v2c) rfl (by kernel_rfl) (by kernel_rfl) (by kernel_rfl) (fun _ _ _ h => h) (Or.inl ⟨by rfl, ?y2c⟩) (by assumption) ?r2c
 case y2c => (intro w hSw; (obtain ⟨hS0, hS1, hS2, hS3, hS4, hS5, hS6, hS7, hS8⟩ := hSw); go_simp <;> with_reducible rfl)
 try simp only [List.getElem_toArray, List.getElem_cons_succ, List.getElem_cons_zero, Act.put, List.setIfInBounds_toArray, List.set_cons_zero, List.set_cons_succ]
 refine wpAnyH_take (i := 3) (oi := _) (v := ?v3c) rfl (by kernel_rfl) (by kernel_rfl) (by kernel_rfl) (fun _ _ _ h => h) (Or.inl ⟨by rfl, ?y3c⟩) (by assumption) ?r3c
 case y3c => (intro w hSw; (obtain ⟨hS0, hS1, hS2, hS3, hS4, hS5, hS6, hS7, hS8⟩ := hSw); go_simp <;> with_reducible rfl)
 try simp only [List.getElem_toArray, List.getElem_cons_succ, List.getElem_cons_zero, Act.put, List.setIfInBounds_toArray, List.set_cons_zero, List.set_cons_succ]
 refine wpAnyH_take (i := 4) (oi := _) (v := ?v4c) rfl (by kernel_rfl) (by kernel_rfl) (by kernel_rfl) (fun _ _ _ h => h) (Or.inl ⟨by rfl, ?y4c⟩) (by assumption) ?r4c
 case y4c => (intro w hSw; (obtain ⟨hS0, hS1, hS2, hS3, hS4, hS5, hS6, hS7, hS8⟩ := hSw); go_simp <;> with_reducible rfl)
 try simp only [List.getElem_toArray, List.getElem_cons_succ, List.getElem_cons_zero, Act.put, List.setIfInBounds_toArray, List.set_cons_zero, List.set_cons_succ]
 refine wpAnyH_take (i := 6) (oi := _) (v := ?v6c) rfl (by kernel_rfl) (by kernel_rfl) (by kernel_rfl) (fun _ _ _ h => h) (Or.inl ⟨by rfl, ?y6c⟩) (by assumption) ?r6c
 case y6c => (intro w hSw; (obtain ⟨hS0, hS1, hS2, hS3, hS4, hS5, hS6, hS7, hS8⟩ := hSw); go_simp <;> with_reducible rfl)
 try simp only [List.getElem_toArray, List.getElem_cons_succ, List.getElem_cons_zero, Act.put, List.setIfInBounds_toArray, List.set_cons_zero, List.set_cons_succ]
 refine wpAnyH_take (i := 7) (oi := _) (v := ?v7c) rfl (by kernel_rfl) (by kernel_rfl) (by kernel_rfl) (fun _ _ _ h => h) (Or.inl ⟨by rfl, ?y7c⟩) (by assumption) ?r7c
 case y7c => (intro w hSw; (obtain ⟨hS0, hS1, hS2, hS3, hS4, hS5, hS6, hS7, hS8⟩ := hSw); go_simp <;> with_reducible rfl)
 try simp only [List.getElem_toArray, List.getElem_cons_succ, List.getElem_cons_zero, Act.put, List.setIfInBounds_toArray, List.set_cons_zero, List.set_cons_succ]
 refine wpAnyH_take (i := 8) (oi := _) (v := ?v8c) rfl (by kernel_rfl) (by kernel_rfl) (by kernel_rfl) (fun _ _ _ h => h) (Or.inl ⟨by rfl, ?y8c⟩) (by assumption) ?r8c
 case y8c => (intro w hSw; (obtain ⟨hS0, hS1, hS2, hS3, hS4, hS5, hS6, hS7, hS8⟩ := hSw); go_simp <;> with_reducible rfl)
 try simp only [List.getElem_toArray, List.getElem_cons_succ, List.getElem_cons_zero, Act.put, List.setIfInBounds_toArray, List.set_cons_zero, List.set_cons_succ]
 have Hd31 := Lib.hid (bdrewG Hb27.out)
 have Hs32 : Hid (Bs w24.drew [] v25 (((([UInt8.ofNat 1] ++ Lib.uvarint fr) ++ Lib.uvarint tag) ++ Lib.uvarint ag) ++ Lib.uvarint sh)) := Ho26.out
 refine wpAnyH_ready (rs := [5]) (by kernel_rfl) (by simp) ?_
 refine AllReadyH.cons (o := _) rfl (fun K hK => ?_) AllReadyH.nil
 go_simp
 refine (rput_any v25 (((([UInt8.ofNat 1] ++ Lib.uvarint fr) ++ Lib.uvarint tag) ++ Lib.uvarint ag) ++ Lib.uvarint sh) seq _ Hs32.out hq9 (by have := Hl30.out; omega)).mono ?_
 rintro e w33 ⟨v34, rfl, ho9, hb9⟩
 have Hb36 := Lib.hid (bthenG Hd31.out hb9)
 have Hlb38 := Lib.hid Hb36.out.size
 have Ho35 := Lib.hid (own_bs ho9)
 have Hl39 : Hid (((((([UInt8.ofNat 1] ++ Lib.uvarint fr) ++ Lib.uvarint tag) ++ Lib.uvarint ag) ++ Lib.uvarint sh) ++ Lib.uvarint seq).length ≤ 1 + 10 + 10 + 10 + 10 + 10) := by
  have h1 := Lib.uvarint_length64 (x := seq) hq9
  have h2 := Hl30.out
  show List.length _ ≤ _
  rw [List.length_append]
  omega
 clear hb9 ho9
 refine hK.out _ _ (HSB.out _ Hb36.out) (fun hHeld2 => ?_)
 clear hK K hHeld
 have hHeld := hHeld2
 clear hHeld2
 try simp only [List.getElem_toArray, List.getElem_cons_succ, List.getElem_cons_zero, Act.put, List.setIfInBounds_toArray, List.set_cons_zero, List.set_cons_succ]
 refine wpAnyH_ready (rs := [9]) (by kernel_rfl) (by simp) ?_
 refine AllReadyH.cons (o := _) rfl (fun K hK => ?_) AllReadyH.nil
 go_simp
 refine (rput_any v34 ((((([UInt8.ofNat 1] ++ Lib.uvarint fr) ++ Lib.uvarint tag) ++ Lib.uvarint ag) ++ Lib.uvarint sh) ++ Lib.uvarint seq) ep _ Ho35.out hp9 (by have := Hl39.out; omega)).mono ?_
 rintro e w40 ⟨v41, rfl, ho9, hb9⟩
 have Hb43 := Lib.hid (bthenG Hb36.out hb9)
 have Hlb45 := Lib.hid Hb43.out.size
 have Ho42 := Lib.hid (own_bs ho9)
 have Hl46 : Hid ((((((([UInt8.ofNat 1] ++ Lib.uvarint fr) ++ Lib.uvarint tag) ++ Lib.uvarint ag) ++ Lib.uvarint sh) ++ Lib.uvarint seq) ++ Lib.uvarint ep).length ≤ 1 + 10 + 10 + 10 + 10 + 10 + 10) := by
  have h1 := Lib.uvarint_length64 (x := ep) hp9
  have h2 := Hl39.out
  show List.length _ ≤ _
  rw [List.length_append]
  omega
 clear hb9 ho9
 refine hK.out _ _ (HSB.out _ Hb43.out) (fun hHeld2 => ?_)
 clear hK K hHeld
 have hHeld := hHeld2
 clear hHeld2
 try simp only [List.getElem_toArray, List.getElem_cons_succ, List.getElem_cons_zero, Act.put, List.setIfInBounds_toArray, List.set_cons_zero, List.set_cons_succ]
 refine wpAnyH_take (i := 10) (oi := _) (v := ?v10c) rfl (by kernel_rfl) (by kernel_rfl) (by kernel_rfl) (fun _ _ _ h => h) (Or.inl ⟨by rfl, ?y10c⟩) (by assumption) ?r10c
 case y10c => (intro w hSw; (try dsimp only at hSw); go_simp <;> with_reducible rfl)
 try simp only [List.getElem_toArray, List.getElem_cons_succ, List.getElem_cons_zero, Act.put, List.setIfInBounds_toArray, List.set_cons_zero, List.set_cons_succ]
 refine wpAnyH_done (by kernel_rfl) ?_ _
 clear hHeld
 obtain ⟨c0, c1, c2, c3, c4, c5, c6, c7, c8⟩ := HSB.out _ Hb43.out
 have HD3 := Lib.hid (HD2.out.keep (Keeps.of_below (M := []) Hb43.out) (by simp))
 have hlim : Hid (((((((([UInt8.ofNat 1] ++ Lib.uvarint fr) ++ Lib.uvarint tag) ++ Lib.uvarint ag) ++ Lib.uvarint sh) ++ Lib.uvarint seq) ++ Lib.uvarint ep) ++ Lib.uvarint ds.length ++ ds.flatMap dBytes).length ≤ 140737488300000) := by
  have h1 := Lib.uvarint_length64 (x := ds.length) (by omega)
  have h2 := Hl46.out
  have h3 := hdl.out
  show List.length _ ≤ _
  rw [List.length_append, List.length_append]
  have h4 : ds.length * 4294967301 ≤ 8 * 4294967301 := Nat.mul_le_mul_right _ hd8
  omega
 go_wp2_with fail
 refine (rdeltas_any v41 (((((([UInt8.ofNat 1] ++ Lib.uvarint fr) ++ Lib.uvarint tag) ++ Lib.uvarint ag) ++ Lib.uvarint sh) ++ Lib.uvarint seq) ++ Lib.uvarint ep) _ ds _ Ho42.out HD3.out Hw4.out (by omega) hlim.out).mono ?_
 rintro e w9 ⟨v9, rfl, ho9, hb9⟩
 have hC := Lib.hid (hFin.out v9 w9 (below_then Hb43.out hb9) (by rw [HBE2.out]; exact own_more ho9 (Hb43.out.size)))
 clear ho9 hb9
 go_wp2
 go_ret
 exact hC.out
theorem rbytes_any (e : EntryD) (dv : Value) (w : World) (hr0 : rightE e = 0) (h : Ds w [] dv e.ds) (hs : Short e) (hw : Wf e) :
  Calls Tryz.prog 19 #[.agg (eCell (e, dv)).toArray] w fun r w' => OwnB (bytesE e) w r w' := by
 rcases (right_facts hr0).2 with h2 | h1
 ·exact rbytes_2 e dv w h2 hr0 h hs hw
 ·exact rbytes_1 e dv w h1.1 hr0 h hs hw
end Go.Proofs.YtinnifhnabncfaaGreatDoor.Vi
end
section
namespace Go.Proofs.YtinnifhnabncfaaGreatDoor.Vi
open Go.RowKit Base Mem
set_option maxRecDepth 100000 in
theorem rcut_any (v : Value) (l : List UInt8) (w : World) (h : Bs w [] v l) (hl : l.length ≤ 4611686018427387904) :
  Calls Tryz.prog 178 #[v] w fun e w' => e = .returned (.tuple #[.string ⟨(cutL l).1.toArray⟩, .int .i64 (cutL l).2]) ∧ Below w.heap.size w w' := by
 have hg : Hid (Calls Tryz.prog 96 #[v] w fun e w' => e = .returned (.tuple #[.int .u64 (getL l).1, .int .i64 (getL l).2]) ∧ Below w.heap.size w w') := rget_any v l w h hl
 obtain ⟨A, c, rfl, hc⟩ := h.len
 have H := Lib.hid h
 obtain ⟨hk, hn⟩ := getL_le l
 have HC := Lib.hid (show cutL l = (if (getL l).2 = 0 ∨ l.length - (getL l).2 < (getL l).1 then ([], 0) else ((l.drop (getL l).2).take (getL l).1, (getL l).2 + (getL l).1)) from rfl)
 clear h
 generalize (getL l).1 = n at *
 generalize (getL l).2 = k at *
 go_enter Tryz.func178, Tryz.ntmps178
 go_wp2_with fail
 refine hg.out.mono ?_
 rintro e w1 ⟨rfl, hb1⟩
 have Hb1 := Lib.hid hb1
 clear hb1
 by_cases hk0 : k = 0
 ·have hR : Hid (cutL l = ([], 0)) := by show _ = _; rw [HC.out, if_pos (.inl hk0)]
  subst hk0
  clear hg HC
  go_wp2
  go_ret2
  rw [hR.out]
  exact ⟨rfl, Hb1.out⟩
 ·have hkz : ((k : Int) == 0) = false := by simpa using hk0
  by_cases hgt : l.length - k < n
  ·have hR : Hid (cutL l = ([], 0)) := by show _ = _; rw [HC.out, if_pos (.inr hgt)]
   have hgi : (l.length : Int) - (k : Int) < (n : Int) := by omega
   have hgj : (0 : Int) ≤ (l.length : Int) - (k : Int) := by omega
   clear hg HC
   go_wp2
   go_ret2
   rw [hR.out]
   exact ⟨rfl, Hb1.out⟩
  ·have hR : Hid (cutL l = ((l.drop k).take n, k + n)) := by show _ = _; rw [HC.out, if_neg (by omega)]
   have hgi : decide ((l.length : Int) - (k : Int) < (n : Int)) = false := decide_eq_false (by omega)
   have hgj : (0 : Int) ≤ (l.length : Int) - (k : Int) := by omega
   have hkn : (k : Int) + (n : Int) ≤ (l.length : Int) := by omega
   clear hg HC
   have hl0 : 0 < l.length := by omega
   obtain ⟨g, off, rfl⟩ : ∃ g off, A = some ⟨g, off, none⟩ := by
    obtain ⟨A', c', he, _, _, hr⟩ := H.out
    injection he with h1 h2 h3
    subst h1
    obtain ⟨g, off, e, _⟩ := hr hl0
    exact ⟨g, off, e⟩
   by_cases hck : c = k
   ·obtain rfl : n = 0 := by omega
    have hp : Bs w1 [] (.slice (some ⟨g, off, none⟩) ([] : List UInt8).length 0) [] := ⟨_, 0, rfl, Nat.le_refl _, rfl, fun h => absurd h (by simp)⟩
    have hcv := conv_bytes hp
    rw [List.length_nil] at hcv
    rw [List.take_zero] at hR
    clear hp
    go_wp2
    go_ret2
    rw [hR.out]
    exact ⟨by simp, Hb1.out⟩
   ·have hp := (H.out.keep (M' := []) (Keeps.of_below Hb1.out) (by simp)).part k n (by omega) (c - k) (by omega) (some ⟨g, off + k, none⟩) (fun _ => rfl)
    have hlen : ((l.drop k).take n).length = n := by rw [List.length_take, List.length_drop]; omega
    have hcv := conv_bytes hp
    rw [hlen] at hcv
    clear hp hlen
    go_wp2
    go_ret2
    rw [hR.out]
    exact ⟨by simp, Hb1.out⟩
end Go.Proofs.YtinnifhnabncfaaGreatDoor.Vi
end
section
namespace Go.Proofs.YtinnifhnabncfaaGreatDoor.Vi
open Go.RowKit Base Mem Go.Shelf
def RReadP (l : List UInt8) (w : World) (e : Ending) (w' : World) : Prop := match readF l with
 | none => e = .returned (.tuple #[.slice none 0 0, .int .i64 0, .bool false]) ∧ Below w.heap.size w w'
 | some (x, n) => ∃ v, e = .returned (.tuple #[v, .int .i64 n, .bool true]) ∧ w'.ownsRow w.heap.size 5 1 v x.length (x.map bV) ∧ Below w.heap.size w w'
set_option maxRecDepth 100000 in
set_option maxHeartbeats 4000000 in
theorem rread_any (v : Value) (l : List UInt8) (w : World) (h : Bs w [] v l) (hl : l.length ≤ 4611686018427387000) :
  Calls Tryz.prog 47 #[v] w fun e w' => RReadP l w e w' := by
 have hg : Hid (Calls Tryz.prog 96 #[v] w fun e w' => e = .returned (.tuple #[.int .u64 (getL l).1, .int .i64 (getL l).2]) ∧ Below w.heap.size w w') := rget_any v l w h (by omega)
 obtain ⟨A, c, rfl, hc⟩ := h.len
 have H := Lib.hid h
 obtain ⟨hk, hn⟩ := getL_le l
 have HC := Lib.hid (show readF l = (if (getL l).2 = 0 ∨ 65536 < (getL l).1 ∨ l.length < (getL l).2 + 4 + (getL l).1 then none
  else if crcOf ((l.drop ((getL l).2 + 4)).take (getL l).1) = unL (l.drop (getL l).2) then some ((l.drop ((getL l).2 + 4)).take (getL l).1, (getL l).2 + 4 + (getL l).1) else none) from rfl)
 have hiff0 := Lib.hid (rreadF_iff l)
 obtain ⟨i0, hi0, hz0, hz1, hz2⟩ := info_parts infoU8
 have Hi0 := Lib.hid hi0; have Hz0 := Lib.hid hz0; have Hz1 := Lib.hid hz1; have Hz2 := Lib.hid hz2
 clear h hi0 hz0 hz1 hz2
 generalize (getL l).1 = n at *
 generalize (getL l).2 = k at *
 by_cases hk0 : k = 0
 ·have hR : Hid (readF l = none) := by show _ = _; rw [HC.out, if_pos (.inl hk0)]
  subst hk0
  clear HC hiff0
  go_enter Tryz.func47, Tryz.ntmps47
  go_wp2_with fail
  refine hg.out.mono ?_
  rintro e w1 ⟨rfl, hb1⟩
  have Hb1 := Lib.hid hb1
  clear hb1
  go_wp2
  go_ret3
  show RReadP l w _ _
  unfold RReadP
  rw [hR.out]
  exact ⟨rfl, Hb1.out⟩
 ·have hkz : ((k : Int) == 0) = false := by simpa using hk0
  by_cases hn6 : 65536 < n
  ·have hR : Hid (readF l = none) := by show _ = _; rw [HC.out, if_pos (.inr (.inl hn6))]
   have hni : (65536 : Int) < (n : Int) := by omega
   clear HC hiff0
   go_enter Tryz.func47, Tryz.ntmps47
   go_wp2_with fail
   refine hg.out.mono ?_
   rintro e w1 ⟨rfl, hb1⟩
   have Hb1 := Lib.hid hb1
   clear hb1
   go_wp2
   go_ret3
   show RReadP l w _ _
   unfold RReadP
   rw [hR.out]
   exact ⟨rfl, Hb1.out⟩
  ·have hni : decide ((65536 : Int) < (n : Int)) = false := decide_eq_false (by omega)
   by_cases hsh : l.length < k + 4 + n
   ·have hR : Hid (readF l = none) := by show _ = _; rw [HC.out, if_pos (.inr (.inr hsh))]
    have hli : (l.length : Int) < (k : Int) + 4 + (n : Int) := by omega
    clear HC hiff0
    go_enter Tryz.func47, Tryz.ntmps47
    go_wp2_with fail
    refine hg.out.mono ?_
    rintro e w1 ⟨rfl, hb1⟩
    have Hb1 := Lib.hid hb1
    clear hb1
    go_wp2
    go_ret3
    show RReadP l w _ _
    unfold RReadP
    rw [hR.out]
    exact ⟨rfl, Hb1.out⟩
   ·obtain ⟨en, hen⟩ : ∃ en, en = k + 4 + n := ⟨_, rfl⟩
    obtain ⟨lo, hlo⟩ : ∃ lo, lo = k + 4 := ⟨_, rfl⟩
    have hli : decide ((l.length : Int) < (k : Int) + 4 + (n : Int)) = false := decide_eq_false (by omega)
    have HR : Hid (readF l = if crcOf ((l.drop lo).take n) = unL (l.drop k) then some ((l.drop lo).take n, en) else none) := by show _ = _; rw [HC.out, if_neg (by omega), hlo, hen]
    have hiff := Lib.hid (hiff0.out (by omega))
    rw [← hlo, show lo + n = en by omega] at hiff
    obtain ⟨q, hq0⟩ : ∃ q, q = (l.drop lo).take n := ⟨_, rfl⟩
    rw [← hq0] at HR hiff
    have hql : Hid (q.length = n) := by show _ = _; rw [hq0, List.length_take, List.length_drop]; omega
    obtain ⟨g, off, rfl⟩ := H.out.some_ (by omega)
    obtain ⟨tA, htA⟩ : ∃ tA : ByteArray, tA = ⟨(frameL q).toArray⟩ := ⟨_, rfl⟩
    obtain ⟨tB, htB⟩ : ∃ tB : ByteArray, tB = ⟨(l.take en).toArray⟩ := ⟨_, rfl⟩
    have hcmp : Hid ((tA.toList == tB.toList) = decide (frameL q = l.take en)) := by
     show _ = _
     rw [htA, htB, Lib.toList_data, Lib.toList_data, Bool.eq_iff_iff, beq_iff_eq, decide_eq_true_eq]
    have hcv2 : Hid (∀ (W : World) (v7 : Value) {base : Nat}, W.ownsRow base 5 1 v7 (frameL q).length ((frameL q).map bV) → ∃ A7 c7, v7 = .slice A7 (frameL q).length c7 ∧ (convert 36 9 (.slice A7 (frameL q).length c7)).run Tryz.prog W = .ok (.string tA) W) := fun W v7 base h => by rw [htA]; exact conv_own h
    have HS7 : Hid (∀ W, Below w.heap.size w W → (convert 36 9 (.slice (some ⟨g, off, none⟩) en c)).run Tryz.prog W = .ok (.string tB) W) := fun W hb => by
     have h1 := (H.out.keep (Keeps.of_below (M := []) hb) (by simp)).headG en (by omega)
     have h2 : (l.take en).length = en := by rw [List.length_take]; omega
     have h3 := conv_bytes (l := l.take en) (A := some ⟨g, off, none⟩) (c := c) (w := W) (M := []) (by rw [h2]; exact h1)
     rw [h2] at h3
     rw [htB]
     exact h3
    have hw1 : IntKind.i64.wrap ((k : Int) + 4) = (lo : Int) := by rw [IntKind.wrap_i64]; omega
    have hw2 : (k : Int) + 4 + (n : Int) = (en : Int) := by omega
    have hlec : (lo : Int) ≤ (en : Int) := by omega
    have hle2 : (en : Int) ≤ (c : Int) := by omega
    have hsub : en - lo = n := by omega
    have hE : (lo : Int) + (n : Int) = (en : Int) := by omega
    have hD : lo ≤ en := by omega
    clear HC hiff0 htA htB
    by_cases hck : c = lo
    ·have hn0 : n = 0 := by omega
     obtain rfl : lo = c := hck.symm
     have hpart0 : Hid (∀ W, Below w.heap.size w W → Bs W [] (.slice (some ⟨g, off, none⟩) n 0) q) := fun W hb => by
      have := (H.out.keep (M' := []) (Keeps.of_below hb) (by simp)).part lo n (by omega) 0 (by omega) (some ⟨g, off, none⟩) (fun h => by omega)
      rw [← hq0, hql.out] at this
      exact this
     have hpart := hpart0
     have hfr : Hid (∀ W, Below w.heap.size w W → Calls Tryz.prog 41 #[.slice (some ⟨g, off, none⟩) n 0] W fun e w' => OwnB (frameL q) W e w') := fun W hb => rframe_any _ q W (hpart.out W hb) (by rw [hql.out]; omega)
     have hrd : Hid (∀ W, Below w.heap.size w W → Reads W W.heap.size 1 (some ⟨g, off, none⟩) n (q.map bV)) := fun W hb => by
      have h := bs_reads (A := some ⟨g, off, none⟩) (c := 0) (l := q) (by rw [hql.out]; exact hpart0.out W hb)
      rwa [hql.out] at h
     clear hpart hpart0 hen hlo hq0
     try clear hn0
     go_enter Tryz.func47, Tryz.ntmps47
     go_wp2_with fail
     refine hg.out.mono ?_
     rintro e w1 ⟨rfl, hb1⟩
     have Hb1 := Lib.hid hb1
     clear hb1 hg
     go_upto_region 5 with (fail)
     by_cases hq : frameL q = l.take en
     ·have hR : Hid (readF l = some (q, en)) := by show _ = _; rw [HR.out, if_pos (hiff.out.1 hq)]
      have hcm : (tA.toList == tB.toList) = true := by rw [hcmp.out]; exact decide_eq_true hq
      clear hq HR hcmp hiff
      refine wp_region_held_drew (S := (fun W => (convert 36 9 (.slice (some ⟨g, off, none⟩) en lo)).run Tryz.prog W = .ok (.string tB) W)) (by kernel_rfl) (HS7.out _ (bdrewG Hb1.out)) (fun hHeld => ?_)
      refine wpAnyH_take (i := 0) (oi := _) (v := ?v0a) rfl (by kernel_rfl) (by kernel_rfl) (by kernel_rfl) (fun _ _ _ h => h) (Or.inl ⟨by rfl, ?y0a⟩) (by assumption) ?r0a
      case y0a => (intro w hSw; (try dsimp only at hSw); go_simp <;> with_reducible rfl)
      try simp only [List.getElem_toArray, List.getElem_cons_succ, List.getElem_cons_zero, Act.put, List.setIfInBounds_toArray, List.set_cons_zero, List.set_cons_succ]
      refine wpAnyH_take (i := 1) (oi := _) (v := ?v1a) rfl (by kernel_rfl) (by kernel_rfl) (by kernel_rfl) (fun _ _ _ h => h) (Or.inl ⟨by rfl, ?y1a⟩) (by assumption) ?r1a
      case y1a => (intro w hSw; (try dsimp only at hSw); go_simp <;> with_reducible rfl)
      try simp only [List.getElem_toArray, List.getElem_cons_succ, List.getElem_cons_zero, Act.put, List.setIfInBounds_toArray, List.set_cons_zero, List.set_cons_succ]
      refine wpAnyH_take (i := 2) (oi := _) (v := ?v2a) rfl (by kernel_rfl) (by kernel_rfl) (by kernel_rfl) (fun _ _ _ h => h) (Or.inl ⟨by rfl, ?y2a⟩) (by assumption) ?r2a
      case y2a => (intro w hSw; (try dsimp only at hSw); go_simp <;> with_reducible rfl)
      try simp only [List.getElem_toArray, List.getElem_cons_succ, List.getElem_cons_zero, Act.put, List.setIfInBounds_toArray, List.set_cons_zero, List.set_cons_succ]
      refine wpAnyH_take (i := 3) (oi := _) (v := ?v3a) rfl (by kernel_rfl) (by kernel_rfl) (by kernel_rfl) (fun _ _ _ h => h) (Or.inl ⟨by rfl, ?y3a⟩) (by assumption) ?r3a
      case y3a => (intro w hSw; (try dsimp only at hSw); go_simp <;> with_reducible rfl)
      try simp only [List.getElem_toArray, List.getElem_cons_succ, List.getElem_cons_zero, Act.put, List.setIfInBounds_toArray, List.set_cons_zero, List.set_cons_succ]
      refine wpAnyH_take (i := 4) (oi := _) (v := ?v4a) rfl (by kernel_rfl) (by kernel_rfl) (by kernel_rfl) (fun _ _ _ h => h) (Or.inl ⟨by rfl, ?y4a⟩) (by assumption) ?r4a
      case y4a => (intro w hSw; (try dsimp only at hSw); go_simp <;> with_reducible rfl)
      try simp only [List.getElem_toArray, List.getElem_cons_succ, List.getElem_cons_zero, Act.put, List.setIfInBounds_toArray, List.set_cons_zero, List.set_cons_succ]
      refine wpAnyH_take (i := 7) (oi := _) (v := ?v7a) rfl (by kernel_rfl) (by kernel_rfl) (by kernel_rfl) (fun _ _ _ h => h) (Or.inl ⟨by rfl, ?y7a⟩) (by assumption) ?r7a
      case y7a => (intro w hSw; (try dsimp only at hSw); go_simp <;> with_reducible rfl)
      try simp only [List.getElem_toArray, List.getElem_cons_succ, List.getElem_cons_zero, Act.put, List.setIfInBounds_toArray, List.set_cons_zero, List.set_cons_succ]
      refine wpAnyH_take (i := 8) (oi := _) (v := ?v8a) rfl (by kernel_rfl) (by kernel_rfl) (by kernel_rfl) (fun _ _ _ h => h) (Or.inl ⟨by rfl, ?y8a⟩) (by assumption) ?r8a
      case y8a => (intro w hSw; (try dsimp only at hSw); go_simp <;> with_reducible rfl)
      try simp only [List.getElem_toArray, List.getElem_cons_succ, List.getElem_cons_zero, Act.put, List.setIfInBounds_toArray, List.set_cons_zero, List.set_cons_succ]
      refine wpAnyH_take (i := 9) (oi := _) (v := ?v9a) rfl (by kernel_rfl) (by kernel_rfl) (by kernel_rfl) (fun _ _ _ h => h) (Or.inl ⟨by rfl, ?y9a⟩) (by assumption) ?r9a
      case y9a => (intro w hSw; (try dsimp only at hSw); go_simp <;> with_reducible rfl)
      try simp only [List.getElem_toArray, List.getElem_cons_succ, List.getElem_cons_zero, Act.put, List.setIfInBounds_toArray, List.set_cons_zero, List.set_cons_succ]
      refine wpAnyH_take (i := 10) (oi := _) (v := ?v10a) rfl (by kernel_rfl) (by kernel_rfl) (by kernel_rfl) (fun _ _ _ h => h) (Or.inl ⟨by rfl, ?y10a⟩) (by assumption) ?r10a
      case y10a => (intro w hSw; (try dsimp only at hSw); go_simp <;> with_reducible rfl)
      try simp only [List.getElem_toArray, List.getElem_cons_succ, List.getElem_cons_zero, Act.put, List.setIfInBounds_toArray, List.set_cons_zero, List.set_cons_succ]
      refine wpAnyH_ready (rs := [5]) (by kernel_rfl) (by simp) ?_
      refine AllReadyH.cons (o := _) rfl (fun K hK => ?_) AllReadyH.nil
      go_simp
      refine (hfr.out _ (bdrewG Hb1.out)).mono ?_
      rintro e w7 ⟨v7, rfl, hown7, hb⟩
      have hb7 := Lib.hid (bthenG (bdrewG Hb1.out) hb)
      obtain ⟨A7, c7, rfl, hcv8⟩ := hcv2.out w7 v7 hown7
      clear hb hown7
      refine hK.out _ _ (HS7.out _ hb7.out) (fun hHeld2 => ?_)
      clear hK K hHeld
      have hHeld := hHeld2
      clear hHeld2
      try simp only [List.getElem_toArray, List.getElem_cons_succ, List.getElem_cons_zero, Act.put, List.setIfInBounds_toArray, List.set_cons_zero, List.set_cons_succ]
      refine wpAnyH_ready (rs := [6]) (by kernel_rfl) (by simp) ?_
      refine AllReadyH.cons (o := _) rfl (fun K hK => ?_) AllReadyH.nil
      go_simp
      refine hK.out _ _ (HS7.out _ hb7.out) (fun hHeld2 => ?_)
      clear hK K hHeld
      have hHeld := hHeld2
      clear hHeld2
      try simp only [List.getElem_toArray, List.getElem_cons_succ, List.getElem_cons_zero, Act.put, List.setIfInBounds_toArray, List.set_cons_zero, List.set_cons_succ]
      refine wpAnyH_take (i := 11) (oi := _) (v := ?v11a) rfl (by kernel_rfl) (by kernel_rfl) (by kernel_rfl) (fun _ _ _ h => h) (Or.inl ⟨by rfl, ?y11a⟩) (by assumption) ?r11a
      case y11a => (intro w hSw; (try dsimp only at hSw); go_simp <;> with_reducible rfl)
      try simp only [List.getElem_toArray, List.getElem_cons_succ, List.getElem_cons_zero, Act.put, List.setIfInBounds_toArray, List.set_cons_zero, List.set_cons_succ]
      refine wpAnyH_done (by kernel_rfl) ?_ _
      go_wp2_with (at_builtin; refine wpList_append_any _ rfl (.tmp 47) (.tmp 52) _ rfl w7.heap.size 5 i0 _ 1 1 Tryz.underlying36 Hi0.out Hz0.out Hz1.out Hz2.out rfl (by omega) (.slice (some ⟨w7.heap.size, 0, none⟩) 0 0) 0 [] rfl (World.ownsRow_made w7 #[] 0 (Nat.le_refl _) (by unfold maxLen; omega) rfl) w7.heap.size (some ⟨g, off, none⟩) n 0 (q.map bV) rfl ((hrd.out w7 hb7.out).alloc (Nat.le_refl _) _) (bV_one q) (by unfold maxLen; omega) (by omega) (by simp) ?_; intro v9 w9 hown9 hg9 hat9; have Hown9 : Hid (w9.ownsRow w7.heap.size 5 1 v9 n (q.map bV)) := (show World.ownsRow _ _ _ _ _ _ _ by simpa using hown9); have Hb9 := Lib.hid (below_then hb7.out (grown_empty hg9)); have hs7 := Lib.hid hb7.out.size; clear hown9 hg9 hat9)
      go_ret3
      show RReadP l w _ _
      unfold RReadP
      rw [hR.out]
      exact ⟨v9, rfl, by rw [hql.out]; exact own_more Hown9.out hs7.out, Hb9.out⟩
     ·have hR : Hid (readF l = none) := by show _ = _; rw [HR.out, if_neg (fun h => hq (hiff.out.2 h))]
      have hcm : (tA.toList == tB.toList) = false := by rw [hcmp.out]; exact decide_eq_false hq
      clear hq HR hcmp hiff hrd
      refine wp_region_held_drew (S := (fun W => (convert 36 9 (.slice (some ⟨g, off, none⟩) en lo)).run Tryz.prog W = .ok (.string tB) W)) (by kernel_rfl) (HS7.out _ (bdrewG Hb1.out)) (fun hHeld => ?_)
      refine wpAnyH_take (i := 0) (oi := _) (v := ?v0af) rfl (by kernel_rfl) (by kernel_rfl) (by kernel_rfl) (fun _ _ _ h => h) (Or.inl ⟨by rfl, ?y0af⟩) (by assumption) ?r0af
      case y0af => (intro w hSw; (try dsimp only at hSw); go_simp <;> with_reducible rfl)
      try simp only [List.getElem_toArray, List.getElem_cons_succ, List.getElem_cons_zero, Act.put, List.setIfInBounds_toArray, List.set_cons_zero, List.set_cons_succ]
      refine wpAnyH_take (i := 1) (oi := _) (v := ?v1af) rfl (by kernel_rfl) (by kernel_rfl) (by kernel_rfl) (fun _ _ _ h => h) (Or.inl ⟨by rfl, ?y1af⟩) (by assumption) ?r1af
      case y1af => (intro w hSw; (try dsimp only at hSw); go_simp <;> with_reducible rfl)
      try simp only [List.getElem_toArray, List.getElem_cons_succ, List.getElem_cons_zero, Act.put, List.setIfInBounds_toArray, List.set_cons_zero, List.set_cons_succ]
      refine wpAnyH_take (i := 2) (oi := _) (v := ?v2af) rfl (by kernel_rfl) (by kernel_rfl) (by kernel_rfl) (fun _ _ _ h => h) (Or.inl ⟨by rfl, ?y2af⟩) (by assumption) ?r2af
      case y2af => (intro w hSw; (try dsimp only at hSw); go_simp <;> with_reducible rfl)
      try simp only [List.getElem_toArray, List.getElem_cons_succ, List.getElem_cons_zero, Act.put, List.setIfInBounds_toArray, List.set_cons_zero, List.set_cons_succ]
      refine wpAnyH_take (i := 3) (oi := _) (v := ?v3af) rfl (by kernel_rfl) (by kernel_rfl) (by kernel_rfl) (fun _ _ _ h => h) (Or.inl ⟨by rfl, ?y3af⟩) (by assumption) ?r3af
      case y3af => (intro w hSw; (try dsimp only at hSw); go_simp <;> with_reducible rfl)
      try simp only [List.getElem_toArray, List.getElem_cons_succ, List.getElem_cons_zero, Act.put, List.setIfInBounds_toArray, List.set_cons_zero, List.set_cons_succ]
      refine wpAnyH_take (i := 4) (oi := _) (v := ?v4af) rfl (by kernel_rfl) (by kernel_rfl) (by kernel_rfl) (fun _ _ _ h => h) (Or.inl ⟨by rfl, ?y4af⟩) (by assumption) ?r4af
      case y4af => (intro w hSw; (try dsimp only at hSw); go_simp <;> with_reducible rfl)
      try simp only [List.getElem_toArray, List.getElem_cons_succ, List.getElem_cons_zero, Act.put, List.setIfInBounds_toArray, List.set_cons_zero, List.set_cons_succ]
      refine wpAnyH_take (i := 7) (oi := _) (v := ?v7af) rfl (by kernel_rfl) (by kernel_rfl) (by kernel_rfl) (fun _ _ _ h => h) (Or.inl ⟨by rfl, ?y7af⟩) (by assumption) ?r7af
      case y7af => (intro w hSw; (try dsimp only at hSw); go_simp <;> with_reducible rfl)
      try simp only [List.getElem_toArray, List.getElem_cons_succ, List.getElem_cons_zero, Act.put, List.setIfInBounds_toArray, List.set_cons_zero, List.set_cons_succ]
      refine wpAnyH_take (i := 8) (oi := _) (v := ?v8af) rfl (by kernel_rfl) (by kernel_rfl) (by kernel_rfl) (fun _ _ _ h => h) (Or.inl ⟨by rfl, ?y8af⟩) (by assumption) ?r8af
      case y8af => (intro w hSw; (try dsimp only at hSw); go_simp <;> with_reducible rfl)
      try simp only [List.getElem_toArray, List.getElem_cons_succ, List.getElem_cons_zero, Act.put, List.setIfInBounds_toArray, List.set_cons_zero, List.set_cons_succ]
      refine wpAnyH_take (i := 9) (oi := _) (v := ?v9af) rfl (by kernel_rfl) (by kernel_rfl) (by kernel_rfl) (fun _ _ _ h => h) (Or.inl ⟨by rfl, ?y9af⟩) (by assumption) ?r9af
      case y9af => (intro w hSw; (try dsimp only at hSw); go_simp <;> with_reducible rfl)
      try simp only [List.getElem_toArray, List.getElem_cons_succ, List.getElem_cons_zero, Act.put, List.setIfInBounds_toArray, List.set_cons_zero, List.set_cons_succ]
      refine wpAnyH_take (i := 10) (oi := _) (v := ?v10af) rfl (by kernel_rfl) (by kernel_rfl) (by kernel_rfl) (fun _ _ _ h => h) (Or.inl ⟨by rfl, ?y10af⟩) (by assumption) ?r10af
      case y10af => (intro w hSw; (try dsimp only at hSw); go_simp <;> with_reducible rfl)
      try simp only [List.getElem_toArray, List.getElem_cons_succ, List.getElem_cons_zero, Act.put, List.setIfInBounds_toArray, List.set_cons_zero, List.set_cons_succ]
      refine wpAnyH_ready (rs := [5]) (by kernel_rfl) (by simp) ?_
      refine AllReadyH.cons (o := _) rfl (fun K hK => ?_) AllReadyH.nil
      go_simp
      refine (hfr.out _ (bdrewG Hb1.out)).mono ?_
      rintro e w7 ⟨v7, rfl, hown7, hb⟩
      have hb7 := Lib.hid (bthenG (bdrewG Hb1.out) hb)
      obtain ⟨A7, c7, rfl, hcv8⟩ := hcv2.out w7 v7 hown7
      clear hb hown7
      refine hK.out _ _ (HS7.out _ hb7.out) (fun hHeld2 => ?_)
      clear hK K hHeld
      have hHeld := hHeld2
      clear hHeld2
      try simp only [List.getElem_toArray, List.getElem_cons_succ, List.getElem_cons_zero, Act.put, List.setIfInBounds_toArray, List.set_cons_zero, List.set_cons_succ]
      refine wpAnyH_ready (rs := [6]) (by kernel_rfl) (by simp) ?_
      refine AllReadyH.cons (o := _) rfl (fun K hK => ?_) AllReadyH.nil
      go_simp
      refine hK.out _ _ (HS7.out _ hb7.out) (fun hHeld2 => ?_)
      clear hK K hHeld
      have hHeld := hHeld2
      clear hHeld2
      try simp only [List.getElem_toArray, List.getElem_cons_succ, List.getElem_cons_zero, Act.put, List.setIfInBounds_toArray, List.set_cons_zero, List.set_cons_succ]
      refine wpAnyH_take (i := 11) (oi := _) (v := ?v11af) rfl (by kernel_rfl) (by kernel_rfl) (by kernel_rfl) (fun _ _ _ h => h) (Or.inl ⟨by rfl, ?y11af⟩) (by assumption) ?r11af
      case y11af => (intro w hSw; (try dsimp only at hSw); go_simp <;> with_reducible rfl)
      try simp only [List.getElem_toArray, List.getElem_cons_succ, List.getElem_cons_zero, Act.put, List.setIfInBounds_toArray, List.set_cons_zero, List.set_cons_succ]
      refine wpAnyH_done (by kernel_rfl) ?_ _
      go_wp2
      go_ret3
      show RReadP l w _ _
      unfold RReadP
      rw [hR.out]
      exact ⟨rfl, hb7.out⟩
    ·have hpart0 : Hid (∀ W, Below w.heap.size w W → Bs W [] (.slice (some ⟨g, off + lo, none⟩) n (c - lo)) q) := fun W hb => by
      have := (H.out.keep (M' := []) (Keeps.of_below hb) (by simp)).part lo n (by omega) (c - lo) (by omega) (some ⟨g, off + lo, none⟩) (fun _ => rfl)
      rw [← hq0, hql.out] at this
      exact this
     have hpart := hpart0
     have hfr : Hid (∀ W, Below w.heap.size w W → Calls Tryz.prog 41 #[.slice (some ⟨g, off + lo, none⟩) n (c - lo)] W fun e w' => OwnB (frameL q) W e w') := fun W hb => rframe_any _ q W (hpart.out W hb) (by rw [hql.out]; omega)
     have hrd : Hid (∀ W, Below w.heap.size w W → Reads W W.heap.size 1 (some ⟨g, off + lo, none⟩) n (q.map bV)) := fun W hb => by
      have h := bs_reads (A := some ⟨g, off + lo, none⟩) (c := (c - lo)) (l := q) (by rw [hql.out]; exact hpart0.out W hb)
      rwa [hql.out] at h
     clear hpart hpart0 hen hlo hq0
     try clear hn0
     go_enter Tryz.func47, Tryz.ntmps47
     go_wp2_with fail
     refine hg.out.mono ?_
     rintro e w1 ⟨rfl, hb1⟩
     have Hb1 := Lib.hid hb1
     clear hb1 hg
     go_upto_region 5 with (fail)
     by_cases hq : frameL q = l.take en
     ·have hR : Hid (readF l = some (q, en)) := by show _ = _; rw [HR.out, if_pos (hiff.out.1 hq)]
      have hcm : (tA.toList == tB.toList) = true := by rw [hcmp.out]; exact decide_eq_true hq
      clear hq HR hcmp hiff
      refine wp_region_held_drew (S := (fun W => (convert 36 9 (.slice (some ⟨g, off, none⟩) en c)).run Tryz.prog W = .ok (.string tB) W)) (by kernel_rfl) (HS7.out _ (bdrewG Hb1.out)) (fun hHeld => ?_)
      refine wpAnyH_take (i := 0) (oi := _) (v := ?v0b) rfl (by kernel_rfl) (by kernel_rfl) (by kernel_rfl) (fun _ _ _ h => h) (Or.inl ⟨by rfl, ?y0b⟩) (by assumption) ?r0b
      case y0b => (intro w hSw; (try dsimp only at hSw); go_simp <;> with_reducible rfl)
      try simp only [List.getElem_toArray, List.getElem_cons_succ, List.getElem_cons_zero, Act.put, List.setIfInBounds_toArray, List.set_cons_zero, List.set_cons_succ]
      refine wpAnyH_take (i := 1) (oi := _) (v := ?v1b) rfl (by kernel_rfl) (by kernel_rfl) (by kernel_rfl) (fun _ _ _ h => h) (Or.inl ⟨by rfl, ?y1b⟩) (by assumption) ?r1b
      case y1b => (intro w hSw; (try dsimp only at hSw); go_simp <;> with_reducible rfl)
      try simp only [List.getElem_toArray, List.getElem_cons_succ, List.getElem_cons_zero, Act.put, List.setIfInBounds_toArray, List.set_cons_zero, List.set_cons_succ]
      refine wpAnyH_take (i := 2) (oi := _) (v := ?v2b) rfl (by kernel_rfl) (by kernel_rfl) (by kernel_rfl) (fun _ _ _ h => h) (Or.inl ⟨by rfl, ?y2b⟩) (by assumption) ?r2b
      case y2b => (intro w hSw; (try dsimp only at hSw); go_simp <;> with_reducible rfl)
      try simp only [List.getElem_toArray, List.getElem_cons_succ, List.getElem_cons_zero, Act.put, List.setIfInBounds_toArray, List.set_cons_zero, List.set_cons_succ]
      refine wpAnyH_take (i := 3) (oi := _) (v := ?v3b) rfl (by kernel_rfl) (by kernel_rfl) (by kernel_rfl) (fun _ _ _ h => h) (Or.inl ⟨by rfl, ?y3b⟩) (by assumption) ?r3b
      case y3b => (intro w hSw; (try dsimp only at hSw); go_simp <;> with_reducible rfl)
      try simp only [List.getElem_toArray, List.getElem_cons_succ, List.getElem_cons_zero, Act.put, List.setIfInBounds_toArray, List.set_cons_zero, List.set_cons_succ]
      refine wpAnyH_take (i := 4) (oi := _) (v := ?v4b) rfl (by kernel_rfl) (by kernel_rfl) (by kernel_rfl) (fun _ _ _ h => h) (Or.inl ⟨by rfl, ?y4b⟩) (by assumption) ?r4b
      case y4b => (intro w hSw; (try dsimp only at hSw); go_simp <;> with_reducible rfl)
      try simp only [List.getElem_toArray, List.getElem_cons_succ, List.getElem_cons_zero, Act.put, List.setIfInBounds_toArray, List.set_cons_zero, List.set_cons_succ]
      refine wpAnyH_take (i := 7) (oi := _) (v := ?v7b) rfl (by kernel_rfl) (by kernel_rfl) (by kernel_rfl) (fun _ _ _ h => h) (Or.inl ⟨by rfl, ?y7b⟩) (by assumption) ?r7b
      case y7b => (intro w hSw; (try dsimp only at hSw); go_simp <;> with_reducible rfl)
      try simp only [List.getElem_toArray, List.getElem_cons_succ, List.getElem_cons_zero, Act.put, List.setIfInBounds_toArray, List.set_cons_zero, List.set_cons_succ]
      refine wpAnyH_take (i := 8) (oi := _) (v := ?v8b) rfl (by kernel_rfl) (by kernel_rfl) (by kernel_rfl) (fun _ _ _ h => h) (Or.inl ⟨by rfl, ?y8b⟩) (by assumption) ?r8b
      case y8b => (intro w hSw; (try dsimp only at hSw); go_simp <;> with_reducible rfl)
      try simp only [List.getElem_toArray, List.getElem_cons_succ, List.getElem_cons_zero, Act.put, List.setIfInBounds_toArray, List.set_cons_zero, List.set_cons_succ]
      refine wpAnyH_take (i := 9) (oi := _) (v := ?v9b) rfl (by kernel_rfl) (by kernel_rfl) (by kernel_rfl) (fun _ _ _ h => h) (Or.inl ⟨by rfl, ?y9b⟩) (by assumption) ?r9b
      case y9b => (intro w hSw; (try dsimp only at hSw); go_simp <;> with_reducible rfl)
      try simp only [List.getElem_toArray, List.getElem_cons_succ, List.getElem_cons_zero, Act.put, List.setIfInBounds_toArray, List.set_cons_zero, List.set_cons_succ]
      refine wpAnyH_take (i := 10) (oi := _) (v := ?v10b) rfl (by kernel_rfl) (by kernel_rfl) (by kernel_rfl) (fun _ _ _ h => h) (Or.inl ⟨by rfl, ?y10b⟩) (by assumption) ?r10b
      case y10b => (intro w hSw; (try dsimp only at hSw); go_simp <;> with_reducible rfl)
      try simp only [List.getElem_toArray, List.getElem_cons_succ, List.getElem_cons_zero, Act.put, List.setIfInBounds_toArray, List.set_cons_zero, List.set_cons_succ]
      refine wpAnyH_ready (rs := [5]) (by kernel_rfl) (by simp) ?_
      refine AllReadyH.cons (o := _) rfl (fun K hK => ?_) AllReadyH.nil
      go_simp
      refine (hfr.out _ (bdrewG Hb1.out)).mono ?_
      rintro e w7 ⟨v7, rfl, hown7, hb⟩
      have hb7 := Lib.hid (bthenG (bdrewG Hb1.out) hb)
      obtain ⟨A7, c7, rfl, hcv8⟩ := hcv2.out w7 v7 hown7
      clear hb hown7
      refine hK.out _ _ (HS7.out _ hb7.out) (fun hHeld2 => ?_)
      clear hK K hHeld
      have hHeld := hHeld2
      clear hHeld2
      try simp only [List.getElem_toArray, List.getElem_cons_succ, List.getElem_cons_zero, Act.put, List.setIfInBounds_toArray, List.set_cons_zero, List.set_cons_succ]
      refine wpAnyH_ready (rs := [6]) (by kernel_rfl) (by simp) ?_
      refine AllReadyH.cons (o := _) rfl (fun K hK => ?_) AllReadyH.nil
      go_simp
      refine hK.out _ _ (HS7.out _ hb7.out) (fun hHeld2 => ?_)
      clear hK K hHeld
      have hHeld := hHeld2
      clear hHeld2
      try simp only [List.getElem_toArray, List.getElem_cons_succ, List.getElem_cons_zero, Act.put, List.setIfInBounds_toArray, List.set_cons_zero, List.set_cons_succ]
      refine wpAnyH_take (i := 11) (oi := _) (v := ?v11b) rfl (by kernel_rfl) (by kernel_rfl) (by kernel_rfl) (fun _ _ _ h => h) (Or.inl ⟨by rfl, ?y11b⟩) (by assumption) ?r11b
      case y11b => (intro w hSw; (try dsimp only at hSw); go_simp <;> with_reducible rfl)
      try simp only [List.getElem_toArray, List.getElem_cons_succ, List.getElem_cons_zero, Act.put, List.setIfInBounds_toArray, List.set_cons_zero, List.set_cons_succ]
      refine wpAnyH_done (by kernel_rfl) ?_ _
      go_wp2_with (at_builtin; refine wpList_append_any _ rfl (.tmp 47) (.tmp 52) _ rfl w7.heap.size 5 i0 _ 1 1 Tryz.underlying36 Hi0.out Hz0.out Hz1.out Hz2.out rfl (by omega) (.slice (some ⟨w7.heap.size, 0, none⟩) 0 0) 0 [] rfl (World.ownsRow_made w7 #[] 0 (Nat.le_refl _) (by unfold maxLen; omega) rfl) w7.heap.size (some ⟨g, off + lo, none⟩) n (c - lo) (q.map bV) rfl ((hrd.out w7 hb7.out).alloc (Nat.le_refl _) _) (bV_one q) (by unfold maxLen; omega) (by omega) (by simp) ?_; intro v9 w9 hown9 hg9 hat9; have Hown9 : Hid (w9.ownsRow w7.heap.size 5 1 v9 n (q.map bV)) := (show World.ownsRow _ _ _ _ _ _ _ by simpa using hown9); have Hb9 := Lib.hid (below_then hb7.out (grown_empty hg9)); have hs7 := Lib.hid hb7.out.size; clear hown9 hg9 hat9)
      go_ret3
      show RReadP l w _ _
      unfold RReadP
      rw [hR.out]
      exact ⟨v9, rfl, by rw [hql.out]; exact own_more Hown9.out hs7.out, Hb9.out⟩
     ·have hR : Hid (readF l = none) := by show _ = _; rw [HR.out, if_neg (fun h => hq (hiff.out.2 h))]
      have hcm : (tA.toList == tB.toList) = false := by rw [hcmp.out]; exact decide_eq_false hq
      clear hq HR hcmp hiff hrd
      refine wp_region_held_drew (S := (fun W => (convert 36 9 (.slice (some ⟨g, off, none⟩) en c)).run Tryz.prog W = .ok (.string tB) W)) (by kernel_rfl) (HS7.out _ (bdrewG Hb1.out)) (fun hHeld => ?_)
      refine wpAnyH_take (i := 0) (oi := _) (v := ?v0bf) rfl (by kernel_rfl) (by kernel_rfl) (by kernel_rfl) (fun _ _ _ h => h) (Or.inl ⟨by rfl, ?y0bf⟩) (by assumption) ?r0bf
      case y0bf => (intro w hSw; (try dsimp only at hSw); go_simp <;> with_reducible rfl)
      try simp only [List.getElem_toArray, List.getElem_cons_succ, List.getElem_cons_zero, Act.put, List.setIfInBounds_toArray, List.set_cons_zero, List.set_cons_succ]
      refine wpAnyH_take (i := 1) (oi := _) (v := ?v1bf) rfl (by kernel_rfl) (by kernel_rfl) (by kernel_rfl) (fun _ _ _ h => h) (Or.inl ⟨by rfl, ?y1bf⟩) (by assumption) ?r1bf
      case y1bf => (intro w hSw; (try dsimp only at hSw); go_simp <;> with_reducible rfl)
      try simp only [List.getElem_toArray, List.getElem_cons_succ, List.getElem_cons_zero, Act.put, List.setIfInBounds_toArray, List.set_cons_zero, List.set_cons_succ]
      refine wpAnyH_take (i := 2) (oi := _) (v := ?v2bf) rfl (by kernel_rfl) (by kernel_rfl) (by kernel_rfl) (fun _ _ _ h => h) (Or.inl ⟨by rfl, ?y2bf⟩) (by assumption) ?r2bf
      case y2bf => (intro w hSw; (try dsimp only at hSw); go_simp <;> with_reducible rfl)
      try simp only [List.getElem_toArray, List.getElem_cons_succ, List.getElem_cons_zero, Act.put, List.setIfInBounds_toArray, List.set_cons_zero, List.set_cons_succ]
      refine wpAnyH_take (i := 3) (oi := _) (v := ?v3bf) rfl (by kernel_rfl) (by kernel_rfl) (by kernel_rfl) (fun _ _ _ h => h) (Or.inl ⟨by rfl, ?y3bf⟩) (by assumption) ?r3bf
      case y3bf => (intro w hSw; (try dsimp only at hSw); go_simp <;> with_reducible rfl)
      try simp only [List.getElem_toArray, List.getElem_cons_succ, List.getElem_cons_zero, Act.put, List.setIfInBounds_toArray, List.set_cons_zero, List.set_cons_succ]
      refine wpAnyH_take (i := 4) (oi := _) (v := ?v4bf) rfl (by kernel_rfl) (by kernel_rfl) (by kernel_rfl) (fun _ _ _ h => h) (Or.inl ⟨by rfl, ?y4bf⟩) (by assumption) ?r4bf
      case y4bf => (intro w hSw; (try dsimp only at hSw); go_simp <;> with_reducible rfl)
      try simp only [List.getElem_toArray, List.getElem_cons_succ, List.getElem_cons_zero, Act.put, List.setIfInBounds_toArray, List.set_cons_zero, List.set_cons_succ]
      refine wpAnyH_take (i := 7) (oi := _) (v := ?v7bf) rfl (by kernel_rfl) (by kernel_rfl) (by kernel_rfl) (fun _ _ _ h => h) (Or.inl ⟨by rfl, ?y7bf⟩) (by assumption) ?r7bf
      case y7bf => (intro w hSw; (try dsimp only at hSw); go_simp <;> with_reducible rfl)
      try simp only [List.getElem_toArray, List.getElem_cons_succ, List.getElem_cons_zero, Act.put, List.setIfInBounds_toArray, List.set_cons_zero, List.set_cons_succ]
      refine wpAnyH_take (i := 8) (oi := _) (v := ?v8bf) rfl (by kernel_rfl) (by kernel_rfl) (by kernel_rfl) (fun _ _ _ h => h) (Or.inl ⟨by rfl, ?y8bf⟩) (by assumption) ?r8bf
      case y8bf => (intro w hSw; (try dsimp only at hSw); go_simp <;> with_reducible rfl)
      try simp only [List.getElem_toArray, List.getElem_cons_succ, List.getElem_cons_zero, Act.put, List.setIfInBounds_toArray, List.set_cons_zero, List.set_cons_succ]
      refine wpAnyH_take (i := 9) (oi := _) (v := ?v9bf) rfl (by kernel_rfl) (by kernel_rfl) (by kernel_rfl) (fun _ _ _ h => h) (Or.inl ⟨by rfl, ?y9bf⟩) (by assumption) ?r9bf
      case y9bf => (intro w hSw; (try dsimp only at hSw); go_simp <;> with_reducible rfl)
      try simp only [List.getElem_toArray, List.getElem_cons_succ, List.getElem_cons_zero, Act.put, List.setIfInBounds_toArray, List.set_cons_zero, List.set_cons_succ]
      refine wpAnyH_take (i := 10) (oi := _) (v := ?v10bf) rfl (by kernel_rfl) (by kernel_rfl) (by kernel_rfl) (fun _ _ _ h => h) (Or.inl ⟨by rfl, ?y10bf⟩) (by assumption) ?r10bf
      case y10bf => (intro w hSw; (try dsimp only at hSw); go_simp <;> with_reducible rfl)
      try simp only [List.getElem_toArray, List.getElem_cons_succ, List.getElem_cons_zero, Act.put, List.setIfInBounds_toArray, List.set_cons_zero, List.set_cons_succ]
      refine wpAnyH_ready (rs := [5]) (by kernel_rfl) (by simp) ?_
      refine AllReadyH.cons (o := _) rfl (fun K hK => ?_) AllReadyH.nil
      go_simp
      refine (hfr.out _ (bdrewG Hb1.out)).mono ?_
      rintro e w7 ⟨v7, rfl, hown7, hb⟩
      have hb7 := Lib.hid (bthenG (bdrewG Hb1.out) hb)
      obtain ⟨A7, c7, rfl, hcv8⟩ := hcv2.out w7 v7 hown7
      clear hb hown7
      refine hK.out _ _ (HS7.out _ hb7.out) (fun hHeld2 => ?_)
      clear hK K hHeld
      have hHeld := hHeld2
      clear hHeld2
      try simp only [List.getElem_toArray, List.getElem_cons_succ, List.getElem_cons_zero, Act.put, List.setIfInBounds_toArray, List.set_cons_zero, List.set_cons_succ]
      refine wpAnyH_ready (rs := [6]) (by kernel_rfl) (by simp) ?_
      refine AllReadyH.cons (o := _) rfl (fun K hK => ?_) AllReadyH.nil
      go_simp
      refine hK.out _ _ (HS7.out _ hb7.out) (fun hHeld2 => ?_)
      clear hK K hHeld
      have hHeld := hHeld2
      clear hHeld2
      try simp only [List.getElem_toArray, List.getElem_cons_succ, List.getElem_cons_zero, Act.put, List.setIfInBounds_toArray, List.set_cons_zero, List.set_cons_succ]
      refine wpAnyH_take (i := 11) (oi := _) (v := ?v11bf) rfl (by kernel_rfl) (by kernel_rfl) (by kernel_rfl) (fun _ _ _ h => h) (Or.inl ⟨by rfl, ?y11bf⟩) (by assumption) ?r11bf
      case y11bf => (intro w hSw; (try dsimp only at hSw); go_simp <;> with_reducible rfl)
      try simp only [List.getElem_toArray, List.getElem_cons_succ, List.getElem_cons_zero, Act.put, List.setIfInBounds_toArray, List.set_cons_zero, List.set_cons_succ]
      refine wpAnyH_done (by kernel_rfl) ?_ _
      go_wp2
      go_ret3
      show RReadP l w _ _
      unfold RReadP
      rw [hR.out]
      exact ⟨rfl, hb7.out⟩
end Go.Proofs.YtinnifhnabncfaaGreatDoor.Vi
end
section
namespace Go.Proofs.YtinnifhnabncfaaGreatDoor.Vi
open Go.RowKit Base Mem Tape Go.Shelf
theorem infoInt4 : (Tryz.prog.info? 3).map (fun i => (i.zero, i.size, i.bytes)) = some (some (.int .i64 0), 1, 8) := by kernel_rfl
def Tape400E (w : World) (e : Ending) (w' : World) : Prop := ∃ (v : Value) (l : List Int), e = .returned v ∧ l.length = 400 ∧ w'.ownsRow w.heap.size 3 1 v 400 (l.map (Value.int .i64)) ∧ Below w.heap.size w w'
set_option maxRecDepth 100000 in
theorem tape6_any (k : Nat) (w : World) (hk : k ≤ 60) : Calls Tryz.prog 42 #[.int .i64 k] w fun e w' => Tape400E w e w' := by
 obtain ⟨i0, hi0, hz0, hz1, hz2⟩ := info_parts infoInt4
 have Hi0 := Lib.hid hi0; have Hz0 := Lib.hid hz0; have Hz1 := Lib.hid hz1; have Hz2 := Lib.hid hz2
 clear hi0 hz0 hz1 hz2
 go_enter Tryz.func42, Tryz.ntmps42
 go_wp2
 go_loopw [3, 4] (fun out i wr => ∃ (x : Nat) (l : List Int), i = .int .i64 x ∧ x ≤ 400 ∧ Hid (l.length = x) ∧ Hid (wr.ownsRow w.heap.size 3 1 out x (l.map (Value.int .i64))) ∧ Hid (Below w.heap.size w wr)) (fun _ i _ => 400 - (intOf i).toNat)
 case atStart => exact ⟨0, [], rfl, by omega, rfl, World.ownsRow_nil _ _ _ _, Below.refl _ _⟩
 case round =>
  obtain ⟨x, l, rfl, hx, Hl, Hown, Hb⟩ := hrel
  by_cases hx4 : x < 400
  ·have hm1 : 0 ≤ (x : Int) * x ∧ (x : Int) * x ≤ 400 * 400 := ⟨Int.mul_nonneg (by omega) (by omega), Int.mul_le_mul (by omega) (by omega) (by omega) (by omega)⟩
   have hm2 : 0 ≤ (x : Int) * k ∧ (x : Int) * k ≤ 400 * 60 := ⟨Int.mul_nonneg (by omega) (by omega), Int.mul_le_mul (by omega) (by omega) (by omega) (by omega)⟩
   have Hown2 := Lib.hid (Hown.out.alloc (.cells #[.int .i64 (((x : Int) * x * 7 + k * 29 + x * k) % 211)] 3))
   go_wp2_with (at_builtin; refine wpList_append_any _ rfl (.tmp 9) (.tmp 22) _ rfl w.heap.size 3 i0 _ 1 8 Tryz.underlying28 Hi0.out Hz0.out Hz1.out Hz2.out rfl (by omega) u3 x (l.map (Value.int .i64)) rfl Hown2.out (wr.heap.size + 1) (some ⟨wr.heap.size, 0, none⟩) 1 1 [.int .i64 (((x : Int) * x * 7 + k * 29 + x * k) % 211)] rfl (reads_new _ _ _ _ _ rfl) (by intro u hu; simp at hu; subst hu; rfl) (by unfold maxLen; omega) (by omega) (by have := Hb.out.size; simp; omega) ?_)
   intro v' w4 hown4 hg4 hat4
   have Hb4 : Hid (Below w.heap.size w w4) := (Hb.out.alloc Hb.out.size _).grown hg4 (by have := Hb.out.size; simp; omega) (fun g hg => (Hown.out.lt g hg).1)
   have Hl4 : Hid ((l ++ [((x : Int) * x * 7 + k * 29 + x * k) % 211]).length = x + 1) := by show _ = _; rw [List.length_append, Hl.out]; rfl
   have Hown4 : Hid (w4.ownsRow w.heap.size 3 1 v' (x + 1) ((l ++ [((x : Int) * x * 7 + k * 29 + x * k) % 211]).map (Value.int .i64))) := by show World.ownsRow _ _ _ _ _ _ _; rw [List.map_append]; exact hown4
   clear hown4 hg4 hat4
   go_wp2
   go_roundw
   case rel => exact ⟨x + 1, _, by go_num, by omega, Hl4, Hown4, Hb4⟩
   case measure => simp [intOf] <;> omega
  ·obtain rfl : x = 400 := by omega
   have hp : Hid (Tape400E w (.returned u3) wr) := ⟨u3, l, rfl, Hl.out, Hown.out, Hb.out⟩
   go_wp2
   go_ret
   exact hp.out
theorem nums_own {w : World} {base : Nat} {t : TypeId} {v : Value} {l : List Int} (h : w.ownsRow base t 1 v l.length (l.map (Value.int .i64))) : ∃ A c, v = .slice A l.length c ∧ Nums w A c l := by
 obtain ⟨A, c, rfl, hc, _, hx⟩ := Rd.of_own (M := []) h (by simp)
 refine ⟨A, c, rfl, hc, ?_, fun h0 => ?_⟩
 ·rcases h.2 with ⟨hv, _⟩ | ⟨g, cap, cur, hv, _, _, _, hm, _⟩
  ·injection hv with _ _ h3; omega
  ·injection hv with _ _ h3
   have : maxLen ≤ 9223372036854775807 := by unfold maxLen; omega
   omega
 ·obtain ⟨g, off, e, hg, _, hc2⟩ := hx h0
  exact ⟨g, off, e, hg, fun j x hj => hc2 j _ (by rw [List.getElem?_map, hj]; rfl)⟩
theorem u8_xor_natE (a b : Nat) (ha : a < 256) (hb : b < 256) : bits .xor .u8 (a : Int) (b : Int) = ((a ^^^ b : Nat) : Int) := by
 have h : a ^^^ b < 256 := Nat.xor_lt_two_pow (n := 8) ha hb
 show IntKind.u8.wrap ((BitVec.ofInt 8 (a : Int) ^^^ BitVec.ofInt 8 (b : Int)).toNat : Int) = _
 rw [BitVec.toNat_xor, BitVec.ofInt_natCast, BitVec.ofInt_natCast, BitVec.toNat_ofNat, BitVec.toNat_ofNat, Nat.mod_eq_of_lt (by omega), Nat.mod_eq_of_lt (by omega), IntKind.wrap_u8]
 omega
theorem u8_xor_some (cc : UInt8) (p : Nat) (hp : p < 256) : ∃ y : UInt8, bits .xor .u8 (cc.toNat : Int) (p : Int) = (y.toNat : Int) := by
 have hc := UInt8.toNat_lt cc
 have h : cc.toNat ^^^ p < 256 := Nat.xor_lt_two_pow (n := 8) (by omega) hp
 refine ⟨UInt8.ofNat (cc.toNat ^^^ p), ?_⟩
 rw [UInt8.toNat_ofNat_of_lt' h]
 exact u8_xor_natE _ _ (by omega) hp
theorem wpList_append_g {P : Program} {ops : Array Oper} {rest : List Oper} {o : Oper} {a : Act} {Q : Exit → Act → World → Prop} (w : World) (hw : Region.wanted o (yielded ops a.tmps) = true) (s x : Operand) (t : TypeId)
  (ho : o.op = .call { callee := .builtin .append, args := #[s, x], argTypes := #[t, t] })
  (base : Nat) (e : TypeId) (i : TypeInfo) (z : Value) (size bytes : Nat) (ht : P.underlying t = some (.slice e)) (hi : P.info? e = some i) (hz : i.zero = some z)
  (hsize : i.size = size) (hby : i.bytes = bytes) (hzs : z.cells.size = size) (hsz : 0 < size)
  (v : Value) (n : Nat) (xs : List Value) (hs : a.eval s = v) (hown : w.ownsRow base e size v n xs)
  (B : Nat) (A : Option Addr) (m c : Nat) (news : List Value) (hx : a.eval x = .slice A m c) (hr : Reads w B size A m news) (h1 : ∀ u ∈ news, u.oneCell' = true)
  (h63 : n + m ≤ maxLen) (hbytes : (n + m) * bytes ≤ 140737488355328) (hbase : base ≤ w.heap.size)
  (h : ∀ v' w', w'.ownsRow base e size v' (n + m) (xs ++ news) → w.grownBy w' v.ownBlock → (v'.ownBlock = v.ownBlock ∨ v'.ownBlock = some w.heap.size) → wpList P ops Q rest (a.put o.dst v') w') : wpList P ops Q (o :: rest) a w := by
 simp only [wpList]
 rw [if_pos hw]
 exact .inl (wp_append_any w s x t ho base e i z size bytes ht hi hz hsize hby hzs hsz v n xs hs hown B A m c news hx hr h1 h63 hbytes hbase h)
end Go.Proofs.YtinnifhnabncfaaGreatDoor.Vi
end
section
namespace Go.Proofs.YtinnifhnabncfaaGreatDoor.Vi
open Go.RowKit Base Mem Tape Go.Shelf
/-- A replica's word. -/
structure WordD where
 t : Nat
 h : Nat
 log : List EntryD
end Go.Proofs.YtinnifhnabncfaaGreatDoor.Vi
end
section
namespace Go.Proofs.YtinnifhnabncfaaGreatDoor.Vi
open Go.RowKit Base Mem
/-- v reads as these rows of bytes. -/
def Bss (w : World) (M : List Nat) (v : Value) (rs : List (List UInt8)) : Prop :=
 ∃ qs : List (List UInt8 × Value), qs.map (·.1) = rs ∧ Rd w M 1 v qs.length (qs.map (·.2)) ∧ ∀ q ∈ qs, Bs w M q.2 q.1
theorem Bss.keep {w w' : World} {M M' : List Nat} {v : Value} {rs : List (List UInt8)} (h : Bss w M v rs) (k : Keeps M' w w') (hM : ∀ g ∈ M', g ∈ M ∨ w.heap.size ≤ g) : Bss w' M v rs := by
 obtain ⟨ps, hl, hr, hd⟩ := h
 exact ⟨ps, hl, hr.keep k hM, fun p hp => (hd p hp).keep k hM⟩
theorem Bss.len {w : World} {M : List Nat} {v : Value} {rs : List (List UInt8)} (h : Bss w M v rs) : ∃ A c, v = .slice A rs.length c ∧ rs.length ≤ c := by
 obtain ⟨ps, rfl, ⟨A, c, rfl, hc, _⟩, _⟩ := h
 exact ⟨A, c, by simp, by simpa using hc⟩
theorem Bss.at_ {w : World} {M : List Nat} {v : Value} {rs : List (List UInt8)} (h : Bss w M v rs) {k : Nat} (hk : k < rs.length) :
  ∃ g off cap bv, v = .slice (some ⟨g, off, none⟩) rs.length cap ∧ g < w.heap.size ∧ g ∉ M ∧ w.cell? ⟨g, off + k, none⟩ = some bv ∧ Bs w M bv rs[k] := by
 obtain ⟨ps, rfl, ⟨A, c, rfl, hc, _, hr⟩, hd⟩ := h
 have hk' : k < ps.length := by simpa using hk
 obtain ⟨g, off, rfl, hg, hm, hx⟩ := hr (by omega)
 exact ⟨g, off, c, ps[k].2, by simp, hg, hm, hx k _ (by rw [List.getElem?_map, List.getElem?_eq_getElem hk']; rfl), by simpa using hd ps[k] (List.getElem_mem _)⟩
end Go.Proofs.YtinnifhnabncfaaGreatDoor.Vi
end
section
namespace Go.Proofs.YtinnifhnabncfaaGreatDoor.Vi
open Go.RowKit Base Mem
theorem rread_fr {l : List UInt8} {w : World} {e : Ending} {w' : World} (h : RReadP l w e w') : FrRead l w e w' := by
 unfold RReadP at h
 unfold FrRead
 cases hr : readF l with
 | none => rw [hr] at h; exact h
 | some p =>
  obtain ⟨x, n⟩ := p
  rw [hr] at h
  obtain ⟨v, rfl, ho, hb⟩ := h
  obtain ⟨A, c, rfl, _⟩ := Rd.of_own (M := []) ho (by simp)
  exact ⟨A, c, rfl, fun M hM => Rd.of_own ho hM, hb⟩
end Go.Proofs.YtinnifhnabncfaaGreatDoor.Vi
end
section
namespace Go.Proofs.YtinnifhnabncfaaGreatDoor.Vi
open Go.RowKit Base Mem Go.Shelf
theorem dEq_iff (x y : DeltaD) : dEq x y = true ↔ x = y := by
 have := dsEq_iff [x] [y]
 unfold dsEq at this
 simpa [Lib.allEq] using this
theorem ds_len {a b : List DeltaD} (h : a.length ≠ b.length) : dsEq a b = false := by
 rw [Bool.eq_false_iff]
 intro e
 exact h (by rw [(dsEq_iff a b).1 e])
theorem ds_diff {a b : List DeltaD} {x : Nat} (ha : x < a.length) (hb : x < b.length) (h : dEq a[x] b[x] = false) : dsEq a b = false := by
 rw [Bool.eq_false_iff]
 intro e
 have := (dsEq_iff a b).1 e
 subst this
 rw [(dEq_iff _ _).2 rfl] at h
 cases h
theorem ds_next {a b : List DeltaD} {x : Nat} (ha : x < a.length) (hb : x < b.length) (h : dEq a[x] b[x] = true) (ht : a.take x = b.take x) : a.take (x + 1) = b.take (x + 1) := by
 rw [List.take_succ_eq_append_getElem ha, List.take_succ_eq_append_getElem hb, ht, (dEq_iff _ _).1 h]
set_option maxRecDepth 100000 in
theorem rsameDs_any (va vb : Value) (a b : List DeltaD) (w : World) (ha : Ds w [] va a) (hb : Ds w [] vb b) (hl : a.length ≤ 4611686018427387904) (hl2 : b.length ≤ 4611686018427387904) :
  Calls Tryz.prog 25 #[va, vb] w fun e w' => e = .returned (.bool (dsEq a b)) ∧ Below w.heap.size w w' := by
 have Ha := Lib.hid ha; have Hb := Lib.hid hb
 obtain ⟨Aa, ca, rfl, hca⟩ := ha.len
 obtain ⟨Ab, cb, rfl, hcb⟩ := hb.len
 clear ha hb
 by_cases hn : a.length = b.length
 ·have hni : ((a.length : Int) != (b.length : Int)) = false := by simp [hn]
  have Hn := Lib.hid hn
  have Hfin : Hid (∀ x, x = a.length → a.take x = b.take x → dsEq a b = true) := fun x hx ht => by
   subst hx
   rw [List.take_length, List.take_of_length_le (by omega)] at ht
   exact (dsEq_iff a b).2 ht
  clear hn
  go_enter Tryz.func25, Tryz.ntmps25
  go_wp2_with fail
  go_loopw [13] (fun i wr => ∃ (x q : Nat), i = .int .i64 x ∧ x ≤ a.length ∧ Hid (a.take x = b.take x) ∧ wr = w.drewN q) (fun i _ => a.length - (intOf i).toNat)
  case atStart => exact ⟨0, 0, rfl, by omega, (show a.take 0 = b.take 0 by simp), rfl⟩
  case round =>
   obtain ⟨x, q, rfl, hx, Ht, rfl⟩ := hrel
   by_cases hlt : x < a.length
   ·have hltb : x < b.length := by have := Hn.out; omega
    obtain ⟨ga, oa, _, e1, _, hga, _, h1⟩ := Rd.at_ dCell 2 (fun _ => rfl) Ha.out hlt
    obtain ⟨gb, ob, _, e2, _, hgb, _, h2⟩ := Rd.at_ dCell 2 (fun _ => rfl) Hb.out hltb
    obtain rfl : Aa = some ⟨ga, oa, none⟩ := by injection e1
    obtain rfl : Ab = some ⟨gb, ob, none⟩ := by injection e2
    clear e1 e2
    have c1 : w.cell? ⟨ga, oa + x * 2 + 0, none⟩ = some (.string a[x].ser) := h1 0 _ rfl
    have c2 : w.cell? ⟨ga, oa + x * 2 + 1, none⟩ = some (.int .u64 a[x].n) := h1 1 _ rfl
    have c3 : w.cell? ⟨gb, ob + x * 2 + 0, none⟩ = some (.string b[x].ser) := h2 0 _ rfl
    have c4 : w.cell? ⟨gb, ob + x * 2 + 1, none⟩ = some (.int .u64 b[x].n) := h2 1 _ rfl
    rw [Nat.add_zero] at c1 c3
    have hx1 : (x : Int) < (a.length : Int) := by omega
    have hx2 : (x : Int) < (b.length : Int) := by omega
    have Hd := Lib.hid (ds_diff hlt hltb)
    have Hx := Lib.hid (fun h => ds_next hlt hltb h Ht.out)
    have he := fun W => dEq_at.1 a[x] b[x] W
    simp only [dCell] at he
    clear h1 h2
    generalize a[x] = da at *
    generalize b[x] = db at *
    obtain ⟨sa, na⟩ := da
    obtain ⟨sb, nb⟩ := db
    simp only [] at c1 c2 c3 c4 he
    cases hd : dEq ⟨sa, na⟩ ⟨sb, nb⟩ with
    | true =>
     rw [hd] at he
     have hnx := Lib.hid (Hx.out hd)
     clear Hd Hx hd
     go_wp2_with fail
     go_quiet (fail)
     go_wp2
     go_roundw
     case rel => exact ⟨x + 1, _, by go_num, by omega, hnx, rfl⟩
     case measure => simp [intOf] <;> omega
    | false =>
     rw [hd] at he
     have hf := Lib.hid (Hd.out hd)
     clear Hd Hx hd
     go_wp2_with fail
     go_quiet (fail)
     go_wp2
     go_ret
     rw [hf.out]
     exact ⟨rfl, (((Keeps.refl [] w).drewN _).drewN _).below⟩
   ·obtain rfl : x = a.length := by omega
    have hf := Lib.hid (Hfin.out _ rfl Ht.out)
    go_wp2
    go_ret
    rw [hf.out]
    exact ⟨rfl, ((Keeps.refl [] w).drewN _).below⟩
 ·have hni : ((a.length : Int) != (b.length : Int)) = true := by rw [bne_iff_ne]; omega
  have hf := Lib.hid (ds_len hn)
  clear hn Ha Hb
  go_enter Tryz.func25, Tryz.ntmps25
  go_wp2
  go_ret
  rw [hf.out]
  exact ⟨rfl, Below.refl _ _⟩
theorem and7 (a b c d e f g : Bool) : (a && b && c && d && e && f && g) = (a && (b && (c && (e && (f && (g && d)))))) := by
 cases a <;> cases b <;> cases c <;> cases d <;> cases e <;> cases f <;> cases g <;> rfl
theorem sameE_parts (a b : EntryD) : sameE a b = (a.kind == b.kind && (eqI a.ag a.sh a.seq b.ag b.sh b.seq && (a.ep == b.ep && (a.ser.toList == b.ser.toList && (a.fr == b.fr && (a.tag == b.tag && dsEq a.ds b.ds)))))) := and7 _ _ _ _ _ _ _
set_option maxRecDepth 100000 in
set_option maxHeartbeats 2000000 in
theorem rsame_any (va vb : Value) (a b : EntryD) (w : World) (ha : Ds w [] va a.ds) (hb : Ds w [] vb b.ds) (hl : a.ds.length ≤ 4611686018427387904) (hl2 : b.ds.length ≤ 4611686018427387904) :
  Calls Tryz.prog 24 #[.agg (eCell (a, va)).toArray, .agg (eCell (b, vb)).toArray] w fun r w' => SamePost (sameE a b) w r w' := by
 have Ha := Lib.hid ha; have Hb := Lib.hid hb
 obtain ⟨Aa, ca, rfl, hca⟩ := ha.len
 obtain ⟨Ab, cb, rfl, hcb⟩ := hb.len
 have HS := Lib.hid (sameE_parts a b)
 generalize sameE a b = sm at *
 obtain ⟨kind, ag, sh, seq, ep, ds, ser, fr, tag⟩ := a
 obtain ⟨kind', ag', sh', seq', ep', ds', ser', fr', tag'⟩ := b
 simp only [] at HS Ha Hb hl hl2 hca hcb
 simp only [eCell]
 clear ha hb
 have hb2 : Hid (∀ o o', Below w.heap.size w ((w.alloc o).alloc o')) := fun o o' => ((Below.refl _ _).alloc (Nat.le_refl _) o).alloc (by simp) o'
 show Calls Tryz.prog 24 #[.agg #[.int .i64 kind, .int .i64 ag, .int .i64 sh, .int .i64 seq, .int .i64 ep, .slice Aa ds.length ca, .string ser, .int .i64 fr, .int .i64 tag], .agg #[.int .i64 kind', .int .i64 ag', .int .i64 sh', .int .i64 seq', .int .i64 ep', .slice Ab ds'.length cb, .string ser', .int .i64 fr', .int .i64 tag']] w fun r w' => SamePost sm w r w'
 go_enter Tryz.func24, Tryz.ntmps24
 go_upto_region 1 with (fail)
 cases h1 : (kind == kind') with
 | false =>
  have hR : Hid (sm = false) := by show _ = _; rw [HS.out, h1]; rfl
  clear HS
  go_wp2
  go_ret
  exact ⟨by rw [hR.out]; rfl, hb2.out _ _⟩
 | true =>
  rw [h1, Bool.true_and] at HS
  cases h2 : (eqI ag sh seq ag' sh' seq') with
  | false =>
   have he := fun W => eqI_run ag sh seq ag' sh' seq' false h2 W
   have hR : Hid (sm = false) := by show _ = _; rw [HS.out, h2]; rfl
   clear HS
   go_wp2
   go_ret
   exact ⟨by rw [hR.out]; rfl, hb2.out _ _⟩
  | true =>
   have he := fun W => eqI_run ag sh seq ag' sh' seq' true h2 W
   rw [h2, Bool.true_and] at HS
   cases h3 : (ep == ep') with
   | false =>
    have hR : Hid (sm = false) := by show _ = _; rw [HS.out, h3]; rfl
    clear HS
    go_wp2
    go_ret
    exact ⟨by rw [hR.out]; rfl, hb2.out _ _⟩
   | true =>
    rw [h3, Bool.true_and] at HS
    cases h4 : (ser.toList == ser'.toList) with
    | false =>
     have hR : Hid (sm = false) := by show _ = _; rw [HS.out, h4]; rfl
     clear HS
     go_wp2
     go_ret
     exact ⟨by rw [hR.out]; rfl, hb2.out _ _⟩
    | true =>
     rw [h4, Bool.true_and] at HS
     cases h5 : (fr == fr') with
     | false =>
      have hR : Hid (sm = false) := by show _ = _; rw [HS.out, h5]; rfl
      clear HS
      go_wp2
      go_ret
      exact ⟨by rw [hR.out]; rfl, hb2.out _ _⟩
     | true =>
      rw [h5, Bool.true_and] at HS
      cases h6 : (tag == tag') with
      | false =>
       have hR : Hid (sm = false) := by show _ = _; rw [HS.out, h6]; rfl
       clear HS
       go_wp2
       go_ret
       exact ⟨by rw [hR.out]; rfl, hb2.out _ _⟩
      | true =>
       rw [h6, Bool.true_and] at HS
       have hR : Hid (sm = dsEq ds ds') := HS.out
       have hk : Keeps [] w ((w.alloc (.cells #[.int .i64 kind, .int .i64 ag, .int .i64 sh, .int .i64 seq, .int .i64 ep, .slice Aa ds.length ca, .string ser, .int .i64 fr, .int .i64 tag] 26)).alloc (.cells #[.int .i64 kind', .int .i64 ag', .int .i64 sh', .int .i64 seq', .int .i64 ep', .slice Ab ds'.length cb, .string ser', .int .i64 fr', .int .i64 tag'] 26)) := ((Keeps.refl _ _).alloc _).alloc _
       have hsd := Lib.hid (rsameDs_any _ _ ds ds' _ (Ha.out.keep hk (by simp)) (Hb.out.keep hk (by simp)) hl hl2)
       have Hk := Lib.hid hk
       clear hk HS
       rw [← hR.out] at hsd
       go_wp2_with fail
       refine hsd.out.mono ?_
       rintro e w1 ⟨rfl, hb⟩
       have Hk2 := Lib.hid (below_then Hk.out.below hb)
       clear hb
       go_wp2
       go_ret
       exact ⟨rfl, Hk2.out⟩
end Go.Proofs.YtinnifhnabncfaaGreatDoor.Vi
end
section
namespace Go.Proofs.YtinnifhnabncfaaGreatDoor.Vi
open Go.RowKit Base Mem
set_option maxRecDepth 100000 in
set_option maxHeartbeats 1000000 in
theorem rname_any (s : ByteArray) (w : World) (hs : s.size < 9223372036854775807) : Calls Tryz.prog 223 #[.string s] w fun e w' => e = .returned (.bool (nameOk s)) ∧ w = w' := by
  have Hn : Hid (nameOk s = (decide (1 ≤ s.size) && decide (s.size ≤ 32) && (sB s).all charOk)) := rfl
  go_enter Tryz.func223, Tryz.ntmps223
  go_wp2_with fail
  go_loopw [3] (fun i wr => ∃ x : Nat, i = .int .i64 x ∧ x ≤ s.size ∧ Hid (((sB s).take x).all charOk = true) ∧ w = wr) (fun i _ => s.size - (intOf i).toNat)
  case atStart => exact ⟨0, rfl, by omega, rfl, rfl⟩
  case round =>
    obtain ⟨x, rfl, hx, Ht, rfl⟩ := hrel
    by_cases hlt : x < s.size
    · have hx1 : (x : Int) < (s.size : Int) := by omega
      have hxb : x < (sB s).length := hlt
      have hget : (sB s)[x] = s[x] := rfl
      have Hnx : Hid (((sB s).take (x + 1)).all charOk = charOk s[x]) := by
        show _ = _
        rw [List.take_succ_eq_append_getElem hxb, List.all_append, Ht.out, hget]; simp
      have Hall : Hid (charOk s[x] = false → nameOk s = false) := fun h => by
        rw [Hn.out]
        have : (sB s).all charOk = false := by
          rw [List.all_eq_false]
          exact ⟨(sB s)[x], List.getElem_mem _, by rw [hget, h]; simp⟩
        rw [this]; simp
      have Hch : Hid (charOk s[x] = ((decide (97 ≤ s[x].toNat) && decide (s[x].toNat ≤ 122)) || (decide (48 ≤ s[x].toNat) && decide (s[x].toNat ≤ 57)) || s[x].toNat == 95)) := rfl
      clear hget
      have Hny : Hid (charOk s[x] = true → ((sB s).take (x + 1)).all charOk = true) := fun h => Hnx.out.trans h
      clear Hnx
      go_wp2
      all_goals first
        | (go_roundw
           case rel =>
             refine ⟨x + 1, by go_num, by omega, Hny.out ?_, trivial⟩
             rw [Hch.out]
             try simp only [bne_eq_false_iff_eq, bne_iff_ne, ne_eq] at *
             simp
             omega
           case measure => simp [intOf] <;> omega)
        | (go_ret
           rw [Hall.out (by
             rw [Hch.out]
             try simp only [bne_eq_false_iff_eq, bne_iff_ne, ne_eq] at *
             simp
             omega)]
           exact ⟨rfl, rfl⟩)
    · obtain rfl : x = s.size := by omega
      have hta : (sB s).take s.size = sB s := List.take_of_length_le (Nat.le_refl _)
      have hR : Hid (nameOk s = (decide (1 ≤ s.size) && decide (s.size ≤ 32))) := by
        show _ = _
        have := Ht.out
        rw [hta] at this
        rw [Hn.out, this, Bool.and_true]
      clear Hn hta
      by_cases h1 : 1 ≤ s.size
      · have h1i : (1 : Int) ≤ (s.size : Int) := by omega
        have hR2 : Hid (nameOk s = decide ((s.size : Int) ≤ 32)) := by show _ = _; rw [hR.out, Bool.eq_iff_iff]; simp [h1]; omega
        clear hR
        go_wp2
        go_ret
        rw [hR2.out]
        exact ⟨rfl, rfl⟩
      · have h1i : (s.size : Int) < 1 := by omega
        have hR2 : Hid (nameOk s = false) := by show _ = _; rw [hR.out]; simp; omega
        clear hR
        go_wp2
        go_ret
        rw [hR2.out]
        exact ⟨rfl, rfl⟩
end Go.Proofs.YtinnifhnabncfaaGreatDoor.Vi
end
