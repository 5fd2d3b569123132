/- Texts put together: RefG, RvA, Ent6, Ent7, Ent8, PlE, PlE2, RfE, EntC, Ent9, EntA, EntD, EntK, Tape. -/
import Derived.Lib.Strings
import Derived.Shelf.SlicesQ.Equal
import Derived.Test.YtinnifhnabncfaaGreatDoorVP1
import Derived.Test.YtinnifhnabncfaaGreatDoorVP2
import Derived.Test.YtinnifhnabncfaaGreatDoorVP4
set_option linter.unusedVariables false
set_option linter.unusedSimpArgs false
section
namespace Go.Proofs.YtinnifhnabncfaaGreatDoor.Vi
open Go.RowKit Base Mem Go.Shelf
theorem rblk9G {w : World} {g : Nat} {t : TypeId} {c0 c1 c2 c3 c4 c5 c6 c7 c8 : Value} (h : Blk w g t #[c0, c1, c2, c3, c4, c5, c6, c7, c8]) :
  w.cell? ⟨g, 0, none⟩ = some c0 ∧ w.cell? ⟨g, 1, none⟩ = some c1 ∧ w.cell? ⟨g, 2, none⟩ = some c2 ∧ w.cell? ⟨g, 3, none⟩ = some c3 ∧ w.cell? ⟨g, 4, none⟩ = some c4 ∧ w.cell? ⟨g, 5, none⟩ = some c5 ∧ w.cell? ⟨g, 6, none⟩ = some c6 ∧ w.cell? ⟨g, 7, none⟩ = some c7 ∧ w.cell? ⟨g, 8, none⟩ = some c8 ∧ (∀ i, w.frozen? ⟨g, i, none⟩ = false) :=
 ⟨h.cell 0, h.cell 1, h.cell 2, h.cell 3, h.cell 4, h.cell 5, h.cell 6, h.cell 7, h.cell 8, h.frozen⟩
theorem bs_new (w : World) (x : UInt8) : Bs (w.alloc (.cells #[.int .u8 x.toNat] 5)) [] (.slice (some ⟨w.heap.size, 0, none⟩) 1 1) [x] :=
 ⟨_, _, rfl, Nat.le_refl _, rfl, fun _ => ⟨w.heap.size, 0, rfl, (Blk.new w 5 #[.int .u8 x.toNat]).lt, by simp, fun j u hu => by rw [Nat.zero_add, (Blk.new w 5 #[.int .u8 x.toNat]).cell]; simpa [bV] using hu⟩⟩
set_option maxRecDepth 100000 in
set_option maxHeartbeats 4000000 in
theorem rbytes_2 (e : EntryD) (dv : Value) (w : World) (hkind : e.kind = 2) (hr0 : rightE e = 0) (h : Ds w [] dv e.ds) (hs : Short e) (hw : Wf e) :
  Calls Tryz.prog 19 #[.agg (eCell (e, dv)).toArray] w fun r w' => OwnB (bytesE e) w r w' := by
 obtain ⟨⟨hf0, hf8, ht0⟩, hrest⟩ := right_facts hr0
 obtain ⟨hw1, hw2, hw3, hw4⟩ := hw
 obtain ⟨hs1, hs2, hs3⟩ := hs
 have HD := Lib.hid h
 obtain ⟨A, c, rfl, hc⟩ := h.len
 have HBE : Hid (bytesE e = headB e.kind.toNat e.fr.toNat e.tag.toNat ++ (if e.kind = 2 then Lib.uvarint e.ser.size ++ sB e.ser else Lib.uvarint e.ag.toNat ++ Lib.uvarint e.sh.toNat ++ Lib.uvarint e.seq.toNat ++ Lib.uvarint e.ep.toNat ++ Lib.uvarint e.ds.length ++ e.ds.flatMap dBytes)) := rfl
 clear hr0 h
 generalize bytesE e = be at *
 obtain ⟨kind, ag, sh, seq, ep, ds, ser, fr, tag⟩ := e
 simp only [] at hkind hf0 hf8 ht0 hrest hw1 hw2 hw3 hw4 hs1 hs2 hs3 hc HBE HD
 subst hkind
 obtain ⟨fr, rfl⟩ := Int.eq_ofNat_of_zero_le hf0
 obtain ⟨tag, rfl⟩ := Int.eq_ofNat_of_zero_le ht0
 have ht9 : tag < 18446744073709551616 := by omega
 have hfr9 : fr < 18446744073709551616 := by omega
 have hwf : IntKind.u64.wrap (fr : Int) = (fr : Int) := by rw [IntKind.wrap_u64]; omega
 have hwt : IntKind.u64.wrap (tag : Int) = (tag : Int) := by rw [IntKind.wrap_u64]; omega
 have hwk : IntKind.u8.wrap 2 = 2 := by decide
 rw [Int.toNat_natCast, Int.toNat_natCast] at HBE
 have HBE2 : Hid (be = [UInt8.ofNat 2] ++ Lib.uvarint fr ++ Lib.uvarint tag ++ Lib.uvarint ser.size ++ sB ser) := by
  show _ = _
  rw [HBE.out, if_pos rfl]
  simp only [headB, List.append_assoc]
  rfl
 clear hrest hf0 ht0
 have Hw4 := Lib.hid hw4
 clear HBE hw4 hs2
 obtain ⟨w2, hw2⟩ : ∃ w2, w2 = w.alloc (.cells #[.int .i64 2, .int .i64 ag, .int .i64 sh, .int .i64 seq, .int .i64 ep, .slice A ds.length c, .string ser, .int .i64 fr, .int .i64 tag] 26) := ⟨_, rfl⟩
 have hB : Blk w2 w.heap.size 26 #[.int .i64 2, .int .i64 ag, .int .i64 sh, .int .i64 seq, .int .i64 ep, .slice A ds.length c, .string ser, .int .i64 fr, .int .i64 tag] := by rw [hw2]; exact Blk.new w _ _
 have hbw2 : Below w.heap.size w w2 := by rw [hw2]; exact (Below.refl _ _).alloc (Nat.le_refl _) _
 have Hbw2 := Lib.hid hbw2; have Hw2 := Lib.hid hw2
 have HD2 := Lib.hid (HD.out.keep (Keeps.of_below (M := []) hbw2) (by simp))
 obtain ⟨c0, c1, c2, c3, c4, c5, c6, c7, c8, _⟩ := rblk9G hB
 have hg1 : w.heap.size < w2.heap.size := hB.lt
 clear hw2 hB hbw2
 show Calls Tryz.prog 19 #[.agg #[.int .i64 2, .int .i64 ag, .int .i64 sh, .int .i64 seq, .int .i64 ep, .slice A ds.length c, .string ser, .int .i64 fr, .int .i64 tag]] w fun r w' => OwnB be w r w'
 go_enter Tryz.func19, Tryz.ntmps19
 go_upto_region 1 with (fail)
 rw [← Hw2.out]
 have HSB : Hid (∀ W, Below w2.heap.size w2 W → W.cell? ⟨w.heap.size, 0, none⟩ = some (.int .i64 2) ∧ W.cell? ⟨w.heap.size, 1, none⟩ = some (.int .i64 ag) ∧ W.cell? ⟨w.heap.size, 2, none⟩ = some (.int .i64 sh) ∧ W.cell? ⟨w.heap.size, 3, none⟩ = some (.int .i64 seq) ∧ W.cell? ⟨w.heap.size, 4, none⟩ = some (.int .i64 ep) ∧ W.cell? ⟨w.heap.size, 5, none⟩ = some (.slice A ds.length c) ∧ W.cell? ⟨w.heap.size, 6, none⟩ = some (.string ser) ∧ W.cell? ⟨w.heap.size, 7, none⟩ = some (.int .i64 fr) ∧ W.cell? ⟨w.heap.size, 8, none⟩ = some (.int .i64 tag)) := fun W hb => ⟨(hb.cell (p := ⟨w.heap.size, 0, none⟩) hg1).trans c0, (hb.cell (p := ⟨w.heap.size, 1, none⟩) hg1).trans c1, (hb.cell (p := ⟨w.heap.size, 2, none⟩) hg1).trans c2, (hb.cell (p := ⟨w.heap.size, 3, none⟩) hg1).trans c3, (hb.cell (p := ⟨w.heap.size, 4, none⟩) hg1).trans c4, (hb.cell (p := ⟨w.heap.size, 5, none⟩) hg1).trans c5, (hb.cell (p := ⟨w.heap.size, 6, none⟩) hg1).trans c6, (hb.cell (p := ⟨w.heap.size, 7, none⟩) hg1).trans c7, (hb.cell (p := ⟨w.heap.size, 8, none⟩) hg1).trans c8⟩
 have hgl : w.heap.size ≤ w2.heap.size := Hbw2.out.size
 have hFin : Hid (∀ v W, Below w2.heap.size w2 W → W.ownsRow w2.heap.size 5 1 v be.length (be.map bV) → OwnB be w (.returned v) W) := fun v W hb ho => ⟨v, rfl, own_more ho hgl, below_then Hbw2.out hb⟩
 generalize w.heap.size = g1 at *
 clear c0 c1 c2 c3 c4 c5 c6 c7 c8
 refine wp_region_held_drew (S := (fun W => W.cell? ⟨g1, 0, none⟩ = some (.int .i64 2) ∧ W.cell? ⟨g1, 1, none⟩ = some (.int .i64 ag) ∧ W.cell? ⟨g1, 2, none⟩ = some (.int .i64 sh) ∧ W.cell? ⟨g1, 3, none⟩ = some (.int .i64 seq) ∧ W.cell? ⟨g1, 4, none⟩ = some (.int .i64 ep) ∧ W.cell? ⟨g1, 5, none⟩ = some (.slice A ds.length c) ∧ W.cell? ⟨g1, 6, none⟩ = some (.string ser) ∧ W.cell? ⟨g1, 7, none⟩ = some (.int .i64 fr) ∧ W.cell? ⟨g1, 8, none⟩ = some (.int .i64 tag))) (by kernel_rfl) (HSB.out _ (bdrewG (Below.refl _ w2))) (fun hHeld => ?_)
 refine wpAnyH_take (i := 0) (oi := _) (v := ?v0a) rfl (by kernel_rfl) (by kernel_rfl) (by kernel_rfl) (fun _ _ _ h => h) (Or.inl ⟨by rfl, ?y0a⟩) (by assumption) ?r0a
 case y0a => (intro w hSw; (obtain ⟨hS0, hS1, hS2, hS3, hS4, hS5, hS6, hS7, hS8⟩ := hSw); go_simp <;> with_reducible rfl)
 try simp only [List.getElem_toArray, List.getElem_cons_succ, List.getElem_cons_zero, Act.put, List.setIfInBounds_toArray, List.set_cons_zero, List.set_cons_succ]
 refine wpAnyH_take (i := 1) (oi := _) (v := ?v1a) rfl (by kernel_rfl) (by kernel_rfl) (by kernel_rfl) (fun _ _ _ h => h) (Or.inl ⟨by rfl, ?y1a⟩) (by assumption) ?r1a
 case y1a => (intro w hSw; (obtain ⟨hS0, hS1, hS2, hS3, hS4, hS5, hS6, hS7, hS8⟩ := hSw); go_simp <;> with_reducible rfl)
 try simp only [List.getElem_toArray, List.getElem_cons_succ, List.getElem_cons_zero, Act.put, List.setIfInBounds_toArray, List.set_cons_zero, List.set_cons_succ]
 refine wpAnyH_take (i := 2) (oi := _) (v := ?v2a) rfl (by kernel_rfl) (by kernel_rfl) (by kernel_rfl) (fun _ _ _ h => h) (Or.inl ⟨by rfl, ?y2a⟩) (by assumption) ?r2a
 case y2a => (intro w hSw; (obtain ⟨hS0, hS1, hS2, hS3, hS4, hS5, hS6, hS7, hS8⟩ := hSw); go_simp <;> with_reducible rfl)
 try simp only [List.getElem_toArray, List.getElem_cons_succ, List.getElem_cons_zero, Act.put, List.setIfInBounds_toArray, List.set_cons_zero, List.set_cons_succ]
 refine wpAnyH_take (i := 4) (oi := _) (v := ?v4a) rfl (by kernel_rfl) (by kernel_rfl) (by kernel_rfl) (fun _ _ _ h => h) (Or.inl ⟨by rfl, ?y4a⟩) (by assumption) ?r4a
 case y4a => (intro w hSw; (obtain ⟨hS0, hS1, hS2, hS3, hS4, hS5, hS6, hS7, hS8⟩ := hSw); go_simp <;> with_reducible rfl)
 try simp only [List.getElem_toArray, List.getElem_cons_succ, List.getElem_cons_zero, Act.put, List.setIfInBounds_toArray, List.set_cons_zero, List.set_cons_succ]
 refine wpAnyH_take (i := 5) (oi := _) (v := ?v5a) rfl (by kernel_rfl) (by kernel_rfl) (by kernel_rfl) (fun _ _ _ h => h) (Or.inl ⟨by rfl, ?y5a⟩) (by assumption) ?r5a
 case y5a => (intro w hSw; (obtain ⟨hS0, hS1, hS2, hS3, hS4, hS5, hS6, hS7, hS8⟩ := hSw); go_simp <;> with_reducible rfl)
 try simp only [List.getElem_toArray, List.getElem_cons_succ, List.getElem_cons_zero, Act.put, List.setIfInBounds_toArray, List.set_cons_zero, List.set_cons_succ]
 refine wpAnyH_take (i := 6) (oi := _) (v := ?v6a) rfl (by kernel_rfl) (by kernel_rfl) (by kernel_rfl) (fun _ _ _ h => h) (Or.inl ⟨by rfl, ?y6a⟩) (by assumption) ?r6a
 case y6a => (intro w hSw; (obtain ⟨hS0, hS1, hS2, hS3, hS4, hS5, hS6, hS7, hS8⟩ := hSw); go_simp <;> with_reducible rfl)
 try simp only [List.getElem_toArray, List.getElem_cons_succ, List.getElem_cons_zero, Act.put, List.setIfInBounds_toArray, List.set_cons_zero, List.set_cons_succ]
 refine wpAnyH_take (i := 8) (oi := _) (v := ?v8a) rfl (by kernel_rfl) (by kernel_rfl) (by kernel_rfl) (fun _ _ _ h => h) (Or.inl ⟨by rfl, ?y8a⟩) (by assumption) ?r8a
 case y8a => (intro w hSw; (obtain ⟨hS0, hS1, hS2, hS3, hS4, hS5, hS6, hS7, hS8⟩ := hSw); go_simp <;> with_reducible rfl)
 try simp only [List.getElem_toArray, List.getElem_cons_succ, List.getElem_cons_zero, Act.put, List.setIfInBounds_toArray, List.set_cons_zero, List.set_cons_succ]
 refine wpAnyH_take (i := 9) (oi := _) (v := ?v9a) rfl (by kernel_rfl) (by kernel_rfl) (by kernel_rfl) (fun _ _ _ h => h) (Or.inl ⟨by rfl, ?y9a⟩) (by assumption) ?r9a
 case y9a => (intro w hSw; (obtain ⟨hS0, hS1, hS2, hS3, hS4, hS5, hS6, hS7, hS8⟩ := hSw); go_simp <;> with_reducible rfl)
 try simp only [List.getElem_toArray, List.getElem_cons_succ, List.getElem_cons_zero, Act.put, List.setIfInBounds_toArray, List.set_cons_zero, List.set_cons_succ]
 refine wpAnyH_take (i := 10) (oi := _) (v := ?v10a) rfl (by kernel_rfl) (by kernel_rfl) (by kernel_rfl) (fun _ _ _ h => h) (Or.inl ⟨by rfl, ?y10a⟩) (by assumption) ?r10a
 case y10a => (intro w hSw; (obtain ⟨hS0, hS1, hS2, hS3, hS4, hS5, hS6, hS7, hS8⟩ := hSw); go_simp <;> with_reducible rfl)
 try simp only [List.getElem_toArray, List.getElem_cons_succ, List.getElem_cons_zero, Act.put, List.setIfInBounds_toArray, List.set_cons_zero, List.set_cons_succ]
 refine wpAnyH_ready (rs := [3]) (by kernel_rfl) (by simp) ?_
 refine AllReadyH.cons (o := _) rfl (fun K hK => ?_) AllReadyH.nil
 go_simp
 have HbA : Hid (Below w2.heap.size w2 (w2.drew.alloc (.cells #[.int .u8 2] 5))) := (bdrewG (Below.refl _ w2)).alloc (Nat.le_refl _) _
 have HbsA : Hid (Bs (w2.drew.alloc (.cells #[.int .u8 2] 5)) [] (.slice (some ⟨w2.heap.size, 0, none⟩) 1 1) [UInt8.ofNat 2]) := bs_new w2.drew (UInt8.ofNat 2)
 change K _ (w2.drew.alloc (.cells #[.int .u8 2] 5))
 generalize w2.drew.alloc (.cells #[.int .u8 2] 5) = wA at *
 have HlA : Hid (([UInt8.ofNat 2] : List UInt8).length ≤ 1) := Nat.le_refl _
 refine hK.out _ _ (HSB.out _ HbA.out) (fun hHeld2 => ?_)
 clear hK K hHeld
 have hHeld := hHeld2
 clear hHeld2
 try simp only [List.getElem_toArray, List.getElem_cons_succ, List.getElem_cons_zero, Act.put, List.setIfInBounds_toArray, List.set_cons_zero, List.set_cons_succ]
 refine wpAnyH_ready (rs := [7]) (by kernel_rfl) (by simp) ?_
 refine AllReadyH.cons (o := _) rfl (fun K hK => ?_) AllReadyH.nil
 go_simp
 refine (rput_any _ [UInt8.ofNat 2] fr _ HbsA.out hfr9 (by have := HlA.out; omega)).mono ?_
 rintro e w1 ⟨v2, rfl, ho9, hb9⟩
 have Hb4 := Lib.hid (bthenG HbA.out hb9)
 have Hlb6 := Lib.hid Hb4.out.size
 have Ho3 := Lib.hid (own_bs ho9)
 have Hl7 : Hid (([UInt8.ofNat 2] ++ Lib.uvarint fr).length ≤ 1 + 10) := by
  have h1 := Lib.uvarint_length64 (x := fr) hfr9
  have h2 := HlA.out
  show List.length _ ≤ _
  rw [List.length_append]
  omega
 clear hb9 ho9
 refine hK.out _ _ (HSB.out _ Hb4.out) (fun hHeld2 => ?_)
 clear hK K hHeld
 have hHeld := hHeld2
 clear hHeld2
 try simp only [List.getElem_toArray, List.getElem_cons_succ, List.getElem_cons_zero, Act.put, List.setIfInBounds_toArray, List.set_cons_zero, List.set_cons_succ]
 refine wpAnyH_ready (rs := [11]) (by kernel_rfl) (by simp) ?_
 refine AllReadyH.cons (o := _) rfl (fun K hK => ?_) AllReadyH.nil
 go_simp
 refine (rput_any v2 ([UInt8.ofNat 2] ++ Lib.uvarint fr) tag _ Ho3.out ht9 (by have := Hl7.out; omega)).mono ?_
 rintro e w8 ⟨v9, rfl, ho9, hb9⟩
 have Hb11 := Lib.hid (bthenG Hb4.out hb9)
 have Hlb13 := Lib.hid Hb11.out.size
 have Ho10 := Lib.hid (own_bs ho9)
 have Hl14 : Hid ((([UInt8.ofNat 2] ++ Lib.uvarint fr) ++ Lib.uvarint tag).length ≤ 1 + 10 + 10) := by
  have h1 := Lib.uvarint_length64 (x := tag) ht9
  have h2 := Hl7.out
  show List.length _ ≤ _
  rw [List.length_append]
  omega
 clear hb9 ho9
 refine hK.out _ _ (HSB.out _ Hb11.out) (fun hHeld2 => ?_)
 clear hK K hHeld
 have hHeld := hHeld2
 clear hHeld2
 try simp only [List.getElem_toArray, List.getElem_cons_succ, List.getElem_cons_zero, Act.put, List.setIfInBounds_toArray, List.set_cons_zero, List.set_cons_succ]
 refine wpAnyH_take (i := 12) (oi := _) (v := ?v12a) rfl (by kernel_rfl) (by kernel_rfl) (by kernel_rfl) (fun _ _ _ h => h) (Or.inl ⟨by rfl, ?y12a⟩) (by assumption) ?r12a
 case y12a => (intro w hSw; (try dsimp only at hSw); go_simp <;> with_reducible rfl)
 try simp only [List.getElem_toArray, List.getElem_cons_succ, List.getElem_cons_zero, Act.put, List.setIfInBounds_toArray, List.set_cons_zero, List.set_cons_succ]
 refine wpAnyH_done (by kernel_rfl) ?_ _
 clear hHeld
 obtain ⟨c0, c1, c2, c3, c4, c5, c6, c7, c8⟩ := HSB.out _ Hb11.out
 go_wp2_with fail
 refine (rtxt_any v9 (([UInt8.ofNat 2] ++ Lib.uvarint fr) ++ Lib.uvarint tag) ser _ Ho10.out (by have := Hl14.out; omega)).mono ?_
 rintro e w9 ⟨v9, rfl, ho9, hb9⟩
 have hC := Lib.hid (hFin.out v9 w9 (below_then Hb11.out hb9) (by rw [HBE2.out]; exact own_more ho9 (Hb11.out.size)))
 clear ho9 hb9
 go_wp2
 go_ret
 exact hC.out
set_option maxRecDepth 100000 in
set_option maxHeartbeats 4000000 in
theorem rbytes_1 (e : EntryD) (dv : Value) (w : World) (hkind : e.kind = 1) (hr0 : rightE e = 0) (h : Ds w [] dv e.ds) (hs : Short e) (hw : Wf e) :
  Calls Tryz.prog 19 #[.agg (eCell (e, dv)).toArray] w fun r w' => OwnB (bytesE e) w r w' := by
 obtain ⟨⟨hf0, hf8, ht0⟩, hrest⟩ := right_facts hr0
 obtain ⟨hw1, hw2, hw3, hw4⟩ := hw
 obtain ⟨hs1, hs2, hs3⟩ := hs
 have HD := Lib.hid h
 obtain ⟨A, c, rfl, hc⟩ := h.len
 have HBE : Hid (bytesE e = headB e.kind.toNat e.fr.toNat e.tag.toNat ++ (if e.kind = 2 then Lib.uvarint e.ser.size ++ sB e.ser else Lib.uvarint e.ag.toNat ++ Lib.uvarint e.sh.toNat ++ Lib.uvarint e.seq.toNat ++ Lib.uvarint e.ep.toNat ++ Lib.uvarint e.ds.length ++ e.ds.flatMap dBytes)) := rfl
 clear hr0 h
 generalize bytesE e = be at *
 obtain ⟨kind, ag, sh, seq, ep, ds, ser, fr, tag⟩ := e
 simp only [] at hkind hf0 hf8 ht0 hrest hw1 hw2 hw3 hw4 hs1 hs2 hs3 hc HBE HD
 subst hkind
 obtain ⟨fr, rfl⟩ := Int.eq_ofNat_of_zero_le hf0
 obtain ⟨tag, rfl⟩ := Int.eq_ofNat_of_zero_le ht0
 have ht9 : tag < 18446744073709551616 := by omega
 have hfr9 : fr < 18446744073709551616 := by omega
 have hwf : IntKind.u64.wrap (fr : Int) = (fr : Int) := by rw [IntKind.wrap_u64]; omega
 have hwt : IntKind.u64.wrap (tag : Int) = (tag : Int) := by rw [IntKind.wrap_u64]; omega
 have hwk : IntKind.u8.wrap 1 = 1 := by decide
 rw [Int.toNat_natCast, Int.toNat_natCast] at HBE
 obtain ⟨_, ha0, ha8, hs0, hs4, hq0, hp0, hd8⟩ := hrest.resolve_left (by decide)
 obtain ⟨ag, rfl⟩ := Int.eq_ofNat_of_zero_le ha0
 obtain ⟨sh, rfl⟩ := Int.eq_ofNat_of_zero_le hs0
 obtain ⟨seq, rfl⟩ := Int.eq_ofNat_of_zero_le (show 0 ≤ seq by omega)
 obtain ⟨ep, rfl⟩ := Int.eq_ofNat_of_zero_le (show 0 ≤ ep by omega)
 have ha9 : ag < 18446744073709551616 := by omega
 have hs9 : sh < 18446744073709551616 := by omega
 have hq9 : seq < 18446744073709551616 := by omega
 have hp9 : ep < 18446744073709551616 := by omega
 have hwa : IntKind.u64.wrap (ag : Int) = (ag : Int) := by rw [IntKind.wrap_u64]; omega
 have hws : IntKind.u64.wrap (sh : Int) = (sh : Int) := by rw [IntKind.wrap_u64]; omega
 have hwq : IntKind.u64.wrap (seq : Int) = (seq : Int) := by rw [IntKind.wrap_u64]; omega
 have hwp : IntKind.u64.wrap (ep : Int) = (ep : Int) := by rw [IntKind.wrap_u64]; omega
 have HBE2 : Hid (be = [UInt8.ofNat 1] ++ Lib.uvarint fr ++ Lib.uvarint tag ++ Lib.uvarint ag ++ Lib.uvarint sh ++ Lib.uvarint seq ++ Lib.uvarint ep ++ Lib.uvarint ds.length ++ ds.flatMap dBytes) := by
  show _ = _
  rw [HBE.out, if_neg (by decide)]
  simp only [headB, Int.toNat_natCast, List.append_assoc]
  rfl
 have hdl := Lib.hid (dBytes_len ds hs2 hw4)
 clear ha0 hs0 hrest hf0 ht0
 have Hw4 := Lib.hid hw4
 clear HBE hw4 hs2
 obtain ⟨w2, hw2⟩ : ∃ w2, w2 = w.alloc (.cells #[.int .i64 1, .int .i64 ag, .int .i64 sh, .int .i64 seq, .int .i64 ep, .slice A ds.length c, .string ser, .int .i64 fr, .int .i64 tag] 26) := ⟨_, rfl⟩
 have hB : Blk w2 w.heap.size 26 #[.int .i64 1, .int .i64 ag, .int .i64 sh, .int .i64 seq, .int .i64 ep, .slice A ds.length c, .string ser, .int .i64 fr, .int .i64 tag] := by rw [hw2]; exact Blk.new w _ _
 have hbw2 : Below w.heap.size w w2 := by rw [hw2]; exact (Below.refl _ _).alloc (Nat.le_refl _) _
 have Hbw2 := Lib.hid hbw2; have Hw2 := Lib.hid hw2
 have HD2 := Lib.hid (HD.out.keep (Keeps.of_below (M := []) hbw2) (by simp))
 obtain ⟨c0, c1, c2, c3, c4, c5, c6, c7, c8, _⟩ := rblk9G hB
 have hg1 : w.heap.size < w2.heap.size := hB.lt
 clear hw2 hB hbw2
 show Calls Tryz.prog 19 #[.agg #[.int .i64 1, .int .i64 ag, .int .i64 sh, .int .i64 seq, .int .i64 ep, .slice A ds.length c, .string ser, .int .i64 fr, .int .i64 tag]] w fun r w' => OwnB be w r w'
 go_enter Tryz.func19, Tryz.ntmps19
 go_upto_region 1 with (fail)
 rw [← Hw2.out]
 have HSB : Hid (∀ W, Below w2.heap.size w2 W → W.cell? ⟨w.heap.size, 0, none⟩ = some (.int .i64 1) ∧ W.cell? ⟨w.heap.size, 1, none⟩ = some (.int .i64 ag) ∧ W.cell? ⟨w.heap.size, 2, none⟩ = some (.int .i64 sh) ∧ W.cell? ⟨w.heap.size, 3, none⟩ = some (.int .i64 seq) ∧ W.cell? ⟨w.heap.size, 4, none⟩ = some (.int .i64 ep) ∧ W.cell? ⟨w.heap.size, 5, none⟩ = some (.slice A ds.length c) ∧ W.cell? ⟨w.heap.size, 6, none⟩ = some (.string ser) ∧ W.cell? ⟨w.heap.size, 7, none⟩ = some (.int .i64 fr) ∧ W.cell? ⟨w.heap.size, 8, none⟩ = some (.int .i64 tag)) := fun W hb => ⟨(hb.cell (p := ⟨w.heap.size, 0, none⟩) hg1).trans c0, (hb.cell (p := ⟨w.heap.size, 1, none⟩) hg1).trans c1, (hb.cell (p := ⟨w.heap.size, 2, none⟩) hg1).trans c2, (hb.cell (p := ⟨w.heap.size, 3, none⟩) hg1).trans c3, (hb.cell (p := ⟨w.heap.size, 4, none⟩) hg1).trans c4, (hb.cell (p := ⟨w.heap.size, 5, none⟩) hg1).trans c5, (hb.cell (p := ⟨w.heap.size, 6, none⟩) hg1).trans c6, (hb.cell (p := ⟨w.heap.size, 7, none⟩) hg1).trans c7, (hb.cell (p := ⟨w.heap.size, 8, none⟩) hg1).trans c8⟩
 have hgl : w.heap.size ≤ w2.heap.size := Hbw2.out.size
 have hFin : Hid (∀ v W, Below w2.heap.size w2 W → W.ownsRow w2.heap.size 5 1 v be.length (be.map bV) → OwnB be w (.returned v) W) := fun v W hb ho => ⟨v, rfl, own_more ho hgl, below_then Hbw2.out hb⟩
 generalize w.heap.size = g1 at *
 clear c0 c1 c2 c3 c4 c5 c6 c7 c8
 refine wp_region_held_drew (S := (fun W => W.cell? ⟨g1, 0, none⟩ = some (.int .i64 1) ∧ W.cell? ⟨g1, 1, none⟩ = some (.int .i64 ag) ∧ W.cell? ⟨g1, 2, none⟩ = some (.int .i64 sh) ∧ W.cell? ⟨g1, 3, none⟩ = some (.int .i64 seq) ∧ W.cell? ⟨g1, 4, none⟩ = some (.int .i64 ep) ∧ W.cell? ⟨g1, 5, none⟩ = some (.slice A ds.length c) ∧ W.cell? ⟨g1, 6, none⟩ = some (.string ser) ∧ W.cell? ⟨g1, 7, none⟩ = some (.int .i64 fr) ∧ W.cell? ⟨g1, 8, none⟩ = some (.int .i64 tag))) (by kernel_rfl) (HSB.out _ (bdrewG (Below.refl _ w2))) (fun hHeld => ?_)
 refine wpAnyH_take (i := 0) (oi := _) (v := ?v0a) rfl (by kernel_rfl) (by kernel_rfl) (by kernel_rfl) (fun _ _ _ h => h) (Or.inl ⟨by rfl, ?y0a⟩) (by assumption) ?r0a
 case y0a => (intro w hSw; (obtain ⟨hS0, hS1, hS2, hS3, hS4, hS5, hS6, hS7, hS8⟩ := hSw); go_simp <;> with_reducible rfl)
 try simp only [List.getElem_toArray, List.getElem_cons_succ, List.getElem_cons_zero, Act.put, List.setIfInBounds_toArray, List.set_cons_zero, List.set_cons_succ]
 refine wpAnyH_take (i := 1) (oi := _) (v := ?v1a) rfl (by kernel_rfl) (by kernel_rfl) (by kernel_rfl) (fun _ _ _ h => h) (Or.inl ⟨by rfl, ?y1a⟩) (by assumption) ?r1a
 case y1a => (intro w hSw; (obtain ⟨hS0, hS1, hS2, hS3, hS4, hS5, hS6, hS7, hS8⟩ := hSw); go_simp <;> with_reducible rfl)
 try simp only [List.getElem_toArray, List.getElem_cons_succ, List.getElem_cons_zero, Act.put, List.setIfInBounds_toArray, List.set_cons_zero, List.set_cons_succ]
 refine wpAnyH_take (i := 2) (oi := _) (v := ?v2a) rfl (by kernel_rfl) (by kernel_rfl) (by kernel_rfl) (fun _ _ _ h => h) (Or.inl ⟨by rfl, ?y2a⟩) (by assumption) ?r2a
 case y2a => (intro w hSw; (obtain ⟨hS0, hS1, hS2, hS3, hS4, hS5, hS6, hS7, hS8⟩ := hSw); go_simp <;> with_reducible rfl)
 try simp only [List.getElem_toArray, List.getElem_cons_succ, List.getElem_cons_zero, Act.put, List.setIfInBounds_toArray, List.set_cons_zero, List.set_cons_succ]
 refine wpAnyH_take (i := 4) (oi := _) (v := ?v4a) rfl (by kernel_rfl) (by kernel_rfl) (by kernel_rfl) (fun _ _ _ h => h) (Or.inl ⟨by rfl, ?y4a⟩) (by assumption) ?r4a
 case y4a => (intro w hSw; (obtain ⟨hS0, hS1, hS2, hS3, hS4, hS5, hS6, hS7, hS8⟩ := hSw); go_simp <;> with_reducible rfl)
 try simp only [List.getElem_toArray, List.getElem_cons_succ, List.getElem_cons_zero, Act.put, List.setIfInBounds_toArray, List.set_cons_zero, List.set_cons_succ]
 refine wpAnyH_take (i := 5) (oi := _) (v := ?v5a) rfl (by kernel_rfl) (by kernel_rfl) (by kernel_rfl) (fun _ _ _ h => h) (Or.inl ⟨by rfl, ?y5a⟩) (by assumption) ?r5a
 case y5a => (intro w hSw; (obtain ⟨hS0, hS1, hS2, hS3, hS4, hS5, hS6, hS7, hS8⟩ := hSw); go_simp <;> with_reducible rfl)
 try simp only [List.getElem_toArray, List.getElem_cons_succ, List.getElem_cons_zero, Act.put, List.setIfInBounds_toArray, List.set_cons_zero, List.set_cons_succ]
 refine wpAnyH_take (i := 6) (oi := _) (v := ?v6a) rfl (by kernel_rfl) (by kernel_rfl) (by kernel_rfl) (fun _ _ _ h => h) (Or.inl ⟨by rfl, ?y6a⟩) (by assumption) ?r6a
 case y6a => (intro w hSw; (obtain ⟨hS0, hS1, hS2, hS3, hS4, hS5, hS6, hS7, hS8⟩ := hSw); go_simp <;> with_reducible rfl)
 try simp only [List.getElem_toArray, List.getElem_cons_succ, List.getElem_cons_zero, Act.put, List.setIfInBounds_toArray, List.set_cons_zero, List.set_cons_succ]
 refine wpAnyH_take (i := 8) (oi := _) (v := ?v8a) rfl (by kernel_rfl) (by kernel_rfl) (by kernel_rfl) (fun _ _ _ h => h) (Or.inl ⟨by rfl, ?y8a⟩) (by assumption) ?r8a
 case y8a => (intro w hSw; (obtain ⟨hS0, hS1, hS2, hS3, hS4, hS5, hS6, hS7, hS8⟩ := hSw); go_simp <;> with_reducible rfl)
 try simp only [List.getElem_toArray, List.getElem_cons_succ, List.getElem_cons_zero, Act.put, List.setIfInBounds_toArray, List.set_cons_zero, List.set_cons_succ]
 refine wpAnyH_take (i := 9) (oi := _) (v := ?v9a) rfl (by kernel_rfl) (by kernel_rfl) (by kernel_rfl) (fun _ _ _ h => h) (Or.inl ⟨by rfl, ?y9a⟩) (by assumption) ?r9a
 case y9a => (intro w hSw; (obtain ⟨hS0, hS1, hS2, hS3, hS4, hS5, hS6, hS7, hS8⟩ := hSw); go_simp <;> with_reducible rfl)
 try simp only [List.getElem_toArray, List.getElem_cons_succ, List.getElem_cons_zero, Act.put, List.setIfInBounds_toArray, List.set_cons_zero, List.set_cons_succ]
 refine wpAnyH_take (i := 10) (oi := _) (v := ?v10a) rfl (by kernel_rfl) (by kernel_rfl) (by kernel_rfl) (fun _ _ _ h => h) (Or.inl ⟨by rfl, ?y10a⟩) (by assumption) ?r10a
 case y10a => (intro w hSw; (obtain ⟨hS0, hS1, hS2, hS3, hS4, hS5, hS6, hS7, hS8⟩ := hSw); go_simp <;> with_reducible rfl)
 try simp only [List.getElem_toArray, List.getElem_cons_succ, List.getElem_cons_zero, Act.put, List.setIfInBounds_toArray, List.set_cons_zero, List.set_cons_succ]
 refine wpAnyH_ready (rs := [3]) (by kernel_rfl) (by simp) ?_
 refine AllReadyH.cons (o := _) rfl (fun K hK => ?_) AllReadyH.nil
 go_simp
 have HbA : Hid (Below w2.heap.size w2 (w2.drew.alloc (.cells #[.int .u8 1] 5))) := (bdrewG (Below.refl _ w2)).alloc (Nat.le_refl _) _
 have HbsA : Hid (Bs (w2.drew.alloc (.cells #[.int .u8 1] 5)) [] (.slice (some ⟨w2.heap.size, 0, none⟩) 1 1) [UInt8.ofNat 1]) := bs_new w2.drew (UInt8.ofNat 1)
 change K _ (w2.drew.alloc (.cells #[.int .u8 1] 5))
 generalize w2.drew.alloc (.cells #[.int .u8 1] 5) = wA at *
 have HlA : Hid (([UInt8.ofNat 1] : List UInt8).length ≤ 1) := Nat.le_refl _
 refine hK.out _ _ (HSB.out _ HbA.out) (fun hHeld2 => ?_)
 clear hK K hHeld
 have hHeld := hHeld2
 clear hHeld2
 try simp only [List.getElem_toArray, List.getElem_cons_succ, List.getElem_cons_zero, Act.put, List.setIfInBounds_toArray, List.set_cons_zero, List.set_cons_succ]
 refine wpAnyH_ready (rs := [7]) (by kernel_rfl) (by simp) ?_
 refine AllReadyH.cons (o := _) rfl (fun K hK => ?_) AllReadyH.nil
 go_simp
 refine (rput_any _ [UInt8.ofNat 1] fr _ HbsA.out hfr9 (by have := HlA.out; omega)).mono ?_
 rintro e w1 ⟨v2, rfl, ho9, hb9⟩
 have Hb4 := Lib.hid (bthenG HbA.out hb9)
 have Hlb6 := Lib.hid Hb4.out.size
 have Ho3 := Lib.hid (own_bs ho9)
 have Hl7 : Hid (([UInt8.ofNat 1] ++ Lib.uvarint fr).length ≤ 1 + 10) := by
  have h1 := Lib.uvarint_length64 (x := fr) hfr9
  have h2 := HlA.out
  show List.length _ ≤ _
  rw [List.length_append]
  omega
 clear hb9 ho9
 refine hK.out _ _ (HSB.out _ Hb4.out) (fun hHeld2 => ?_)
 clear hK K hHeld
 have hHeld := hHeld2
 clear hHeld2
 try simp only [List.getElem_toArray, List.getElem_cons_succ, List.getElem_cons_zero, Act.put, List.setIfInBounds_toArray, List.set_cons_zero, List.set_cons_succ]
 refine wpAnyH_ready (rs := [11]) (by kernel_rfl) (by simp) ?_
 refine AllReadyH.cons (o := _) rfl (fun K hK => ?_) AllReadyH.nil
 go_simp
 refine (rput_any v2 ([UInt8.ofNat 1] ++ Lib.uvarint fr) tag _ Ho3.out ht9 (by have := Hl7.out; omega)).mono ?_
 rintro e w8 ⟨v9, rfl, ho9, hb9⟩
 have Hb11 := Lib.hid (bthenG Hb4.out hb9)
 have Hlb13 := Lib.hid Hb11.out.size
 have Ho10 := Lib.hid (own_bs ho9)
 have Hl14 : Hid ((([UInt8.ofNat 1] ++ Lib.uvarint fr) ++ Lib.uvarint tag).length ≤ 1 + 10 + 10) := by
  have h1 := Lib.uvarint_length64 (x := tag) ht9
  have h2 := Hl7.out
  show List.length _ ≤ _
  rw [List.length_append]
  omega
 clear hb9 ho9
 refine hK.out _ _ (HSB.out _ Hb11.out) (fun hHeld2 => ?_)
 clear hK K hHeld
 have hHeld := hHeld2
 clear hHeld2
 try simp only [List.getElem_toArray, List.getElem_cons_succ, List.getElem_cons_zero, Act.put, List.setIfInBounds_toArray, List.set_cons_zero, List.set_cons_succ]
 refine wpAnyH_take (i := 12) (oi := _) (v := ?v12a) rfl (by kernel_rfl) (by kernel_rfl) (by kernel_rfl) (fun _ _ _ h => h) (Or.inl ⟨by rfl, ?y12a⟩) (by assumption) ?r12a
 case y12a => (intro w hSw; (try dsimp only at hSw); go_simp <;> with_reducible rfl)
 try simp only [List.getElem_toArray, List.getElem_cons_succ, List.getElem_cons_zero, Act.put, List.setIfInBounds_toArray, List.set_cons_zero, List.set_cons_succ]
 refine wpAnyH_done (by kernel_rfl) ?_ _
 clear hHeld
 obtain ⟨c0, c1, c2, c3, c4, c5, c6, c7, c8⟩ := HSB.out _ Hb11.out
 go_upto_region 4 with (fail)
 clear c0 c1 c2 c3 c4 c5 c6 c7 c8
 refine wp_region_held_drew (S := (fun W => W.cell? ⟨g1, 0, none⟩ = some (.int .i64 1) ∧ W.cell? ⟨g1, 1, none⟩ = some (.int .i64 ag) ∧ W.cell? ⟨g1, 2, none⟩ = some (.int .i64 sh) ∧ W.cell? ⟨g1, 3, none⟩ = some (.int .i64 seq) ∧ W.cell? ⟨g1, 4, none⟩ = some (.int .i64 ep) ∧ W.cell? ⟨g1, 5, none⟩ = some (.slice A ds.length c) ∧ W.cell? ⟨g1, 6, none⟩ = some (.string ser) ∧ W.cell? ⟨g1, 7, none⟩ = some (.int .i64 fr) ∧ W.cell? ⟨g1, 8, none⟩ = some (.int .i64 tag))) (by kernel_rfl) (HSB.out _ (bdrewG Hb11.out)) (fun hHeld => ?_)
 refine wpAnyH_take (i := 0) (oi := _) (v := ?v0b) rfl (by kernel_rfl) (by kernel_rfl) (by kernel_rfl) (fun _ _ _ h => h) (Or.inl ⟨by rfl, ?y0b⟩) (by assumption) ?r0b
 case y0b => (intro w hSw; (obtain ⟨hS0, hS1, hS2, hS3, hS4, hS5, hS6, hS7, hS8⟩ := hSw); go_simp <;> with_reducible rfl)
 try simp only [List.getElem_toArray, List.getElem_cons_succ, List.getElem_cons_zero, Act.put, List.setIfInBounds_toArray, List.set_cons_zero, List.set_cons_succ]
 refine wpAnyH_take (i := 1) (oi := _) (v := ?v1b) rfl (by kernel_rfl) (by kernel_rfl) (by kernel_rfl) (fun _ _ _ h => h) (Or.inl ⟨by rfl, ?y1b⟩) (by assumption) ?r1b
 case y1b => (intro w hSw; (obtain ⟨hS0, hS1, hS2, hS3, hS4, hS5, hS6, hS7, hS8⟩ := hSw); go_simp <;> with_reducible rfl)
 try simp only [List.getElem_toArray, List.getElem_cons_succ, List.getElem_cons_zero, Act.put, List.setIfInBounds_toArray, List.set_cons_zero, List.set_cons_succ]
 refine wpAnyH_take (i := 2) (oi := _) (v := ?v2b) rfl (by kernel_rfl) (by kernel_rfl) (by kernel_rfl) (fun _ _ _ h => h) (Or.inl ⟨by rfl, ?y2b⟩) (by assumption) ?r2b
 case y2b => (intro w hSw; (obtain ⟨hS0, hS1, hS2, hS3, hS4, hS5, hS6, hS7, hS8⟩ := hSw); go_simp <;> with_reducible rfl)
 try simp only [List.getElem_toArray, List.getElem_cons_succ, List.getElem_cons_zero, Act.put, List.setIfInBounds_toArray, List.set_cons_zero, List.set_cons_succ]
 refine wpAnyH_take (i := 3) (oi := _) (v := ?v3b) rfl (by kernel_rfl) (by kernel_rfl) (by kernel_rfl) (fun _ _ _ h => h) (Or.inl ⟨by rfl, ?y3b⟩) (by assumption) ?r3b
 case y3b => (intro w hSw; (obtain ⟨hS0, hS1, hS2, hS3, hS4, hS5, hS6, hS7, hS8⟩ := hSw); go_simp <;> with_reducible rfl)
 try simp only [List.getElem_toArray, List.getElem_cons_succ, List.getElem_cons_zero, Act.put, List.setIfInBounds_toArray, List.set_cons_zero, List.set_cons_succ]
 refine wpAnyH_take (i := 4) (oi := _) (v := ?v4b) rfl (by kernel_rfl) (by kernel_rfl) (by kernel_rfl) (fun _ _ _ h => h) (Or.inl ⟨by rfl, ?y4b⟩) (by assumption) ?r4b
 case y4b => (intro w hSw; (obtain ⟨hS0, hS1, hS2, hS3, hS4, hS5, hS6, hS7, hS8⟩ := hSw); go_simp <;> with_reducible rfl)
 try simp only [List.getElem_toArray, List.getElem_cons_succ, List.getElem_cons_zero, Act.put, List.setIfInBounds_toArray, List.set_cons_zero, List.set_cons_succ]
 refine wpAnyH_take (i := 6) (oi := _) (v := ?v6b) rfl (by kernel_rfl) (by kernel_rfl) (by kernel_rfl) (fun _ _ _ h => h) (Or.inl ⟨by rfl, ?y6b⟩) (by assumption) ?r6b
 case y6b => (intro w hSw; (obtain ⟨hS0, hS1, hS2, hS3, hS4, hS5, hS6, hS7, hS8⟩ := hSw); go_simp <;> with_reducible rfl)
 try simp only [List.getElem_toArray, List.getElem_cons_succ, List.getElem_cons_zero, Act.put, List.setIfInBounds_toArray, List.set_cons_zero, List.set_cons_succ]
 refine wpAnyH_take (i := 7) (oi := _) (v := ?v7b) rfl (by kernel_rfl) (by kernel_rfl) (by kernel_rfl) (fun _ _ _ h => h) (Or.inl ⟨by rfl, ?y7b⟩) (by assumption) ?r7b
 case y7b => (intro w hSw; (obtain ⟨hS0, hS1, hS2, hS3, hS4, hS5, hS6, hS7, hS8⟩ := hSw); go_simp <;> with_reducible rfl)
 try simp only [List.getElem_toArray, List.getElem_cons_succ, List.getElem_cons_zero, Act.put, List.setIfInBounds_toArray, List.set_cons_zero, List.set_cons_succ]
 refine wpAnyH_take (i := 8) (oi := _) (v := ?v8b) rfl (by kernel_rfl) (by kernel_rfl) (by kernel_rfl) (fun _ _ _ h => h) (Or.inl ⟨by rfl, ?y8b⟩) (by assumption) ?r8b
 case y8b => (intro w hSw; (obtain ⟨hS0, hS1, hS2, hS3, hS4, hS5, hS6, hS7, hS8⟩ := hSw); go_simp <;> with_reducible rfl)
 try simp only [List.getElem_toArray, List.getElem_cons_succ, List.getElem_cons_zero, Act.put, List.setIfInBounds_toArray, List.set_cons_zero, List.set_cons_succ]
 refine wpAnyH_take (i := 9) (oi := _) (v := ?v9b) rfl (by kernel_rfl) (by kernel_rfl) (by kernel_rfl) (fun _ _ _ h => h) (Or.inl ⟨by rfl, ?y9b⟩) (by assumption) ?r9b
 case y9b => (intro w hSw; (obtain ⟨hS0, hS1, hS2, hS3, hS4, hS5, hS6, hS7, hS8⟩ := hSw); go_simp <;> with_reducible rfl)
 try simp only [List.getElem_toArray, List.getElem_cons_succ, List.getElem_cons_zero, Act.put, List.setIfInBounds_toArray, List.set_cons_zero, List.set_cons_succ]
 have Hd15 := Lib.hid (bdrewG Hb11.out)
 have Hs16 : Hid (Bs w8.drew [] v9 (([UInt8.ofNat 1] ++ Lib.uvarint fr) ++ Lib.uvarint tag)) := Ho10.out
 refine wpAnyH_ready (rs := [5]) (by kernel_rfl) (by simp) ?_
 refine AllReadyH.cons (o := _) rfl (fun K hK => ?_) AllReadyH.nil
 go_simp
 refine (rput_any v9 (([UInt8.ofNat 1] ++ Lib.uvarint fr) ++ Lib.uvarint tag) ag _ Hs16.out ha9 (by have := Hl14.out; omega)).mono ?_
 rintro e w17 ⟨v18, rfl, ho9, hb9⟩
 have Hb20 := Lib.hid (bthenG Hd15.out hb9)
 have Hlb22 := Lib.hid Hb20.out.size
 have Ho19 := Lib.hid (own_bs ho9)
 have Hl23 : Hid (((([UInt8.ofNat 1] ++ Lib.uvarint fr) ++ Lib.uvarint tag) ++ Lib.uvarint ag).length ≤ 1 + 10 + 10 + 10) := by
  have h1 := Lib.uvarint_length64 (x := ag) ha9
  have h2 := Hl14.out
  show List.length _ ≤ _
  rw [List.length_append]
  omega
 clear hb9 ho9
 refine hK.out _ _ (HSB.out _ Hb20.out) (fun hHeld2 => ?_)
 clear hK K hHeld
 have hHeld := hHeld2
 clear hHeld2
 try simp only [List.getElem_toArray, List.getElem_cons_succ, List.getElem_cons_zero, Act.put, List.setIfInBounds_toArray, List.set_cons_zero, List.set_cons_succ]
 refine wpAnyH_ready (rs := [10]) (by kernel_rfl) (by simp) ?_
 refine AllReadyH.cons (o := _) rfl (fun K hK => ?_) AllReadyH.nil
 go_simp
 refine (rput_any v18 ((([UInt8.ofNat 1] ++ Lib.uvarint fr) ++ Lib.uvarint tag) ++ Lib.uvarint ag) sh _ Ho19.out hs9 (by have := Hl23.out; omega)).mono ?_
 rintro e w24 ⟨v25, rfl, ho9, hb9⟩
 have Hb27 := Lib.hid (bthenG Hb20.out hb9)
 have Hlb29 := Lib.hid Hb27.out.size
 have Ho26 := Lib.hid (own_bs ho9)
 have Hl30 : Hid ((((([UInt8.ofNat 1] ++ Lib.uvarint fr) ++ Lib.uvarint tag) ++ Lib.uvarint ag) ++ Lib.uvarint sh).length ≤ 1 + 10 + 10 + 10 + 10) := by
  have h1 := Lib.uvarint_length64 (x := sh) hs9
  have h2 := Hl23.out
  show List.length _ ≤ _
  rw [List.length_append]
  omega
 clear hb9 ho9
 refine hK.out _ _ (HSB.out _ Hb27.out) (fun hHeld2 => ?_)
 clear hK K hHeld
 have hHeld := hHeld2
 clear hHeld2
 try simp only [List.getElem_toArray, List.getElem_cons_succ, List.getElem_cons_zero, Act.put, List.setIfInBounds_toArray, List.set_cons_zero, List.set_cons_succ]
 refine wpAnyH_take (i := 11) (oi := _) (v := ?v11b) rfl (by kernel_rfl) (by kernel_rfl) (by kernel_rfl) (fun _ _ _ h => h) (Or.inl ⟨by rfl, ?y11b⟩) (by assumption) ?r11b
 case y11b => (intro w hSw; (try dsimp only at hSw); go_simp <;> with_reducible rfl)
 try simp only [List.getElem_toArray, List.getElem_cons_succ, List.getElem_cons_zero, Act.put, List.setIfInBounds_toArray, List.set_cons_zero, List.set_cons_succ]
 refine wpAnyH_done (by kernel_rfl) ?_ _
 clear hHeld
 obtain ⟨c0, c1, c2, c3, c4, c5, c6, c7, c8⟩ := HSB.out _ Hb27.out
 go_upto_region 5 with (fail)
 clear c0 c1 c2 c3 c4 c5 c6 c7 c8
 refine wp_region_held_drew (S := (fun W => W.cell? ⟨g1, 0, none⟩ = some (.int .i64 1) ∧ W.cell? ⟨g1, 1, none⟩ = some (.int .i64 ag) ∧ W.cell? ⟨g1, 2, none⟩ = some (.int .i64 sh) ∧ W.cell? ⟨g1, 3, none⟩ = some (.int .i64 seq) ∧ W.cell? ⟨g1, 4, none⟩ = some (.int .i64 ep) ∧ W.cell? ⟨g1, 5, none⟩ = some (.slice A ds.length c) ∧ W.cell? ⟨g1, 6, none⟩ = some (.string ser) ∧ W.cell? ⟨g1, 7, none⟩ = some (.int .i64 fr) ∧ W.cell? ⟨g1, 8, none⟩ = some (.int .i64 tag))) (by kernel_rfl) (HSB.out _ (bdrewG Hb27.out)) (fun hHeld => ?_)
 refine wpAnyH_take (i := 0) (oi := _) (v := ?v0c) rfl (by kernel_rfl) (by kernel_rfl) (by kernel_rfl) (fun _ _ _ h => h) (Or.inl ⟨by rfl, ?y0c⟩) (by assumption) ?r0c
 case y0c => (intro w hSw; (obtain ⟨hS0, hS1, hS2, hS3, hS4, hS5, hS6, hS7, hS8⟩ := hSw); go_simp <;> with_reducible rfl)
 try simp only [List.getElem_toArray, List.getElem_cons_succ, List.getElem_cons_zero, Act.put, List.setIfInBounds_toArray, List.set_cons_zero, List.set_cons_succ]
 refine wpAnyH_take (i := 1) (oi := _) (v := ?v1c) rfl (by kernel_rfl) (by kernel_rfl) (by kernel_rfl) (fun _ _ _ h => h) (Or.inl ⟨by rfl, ?y1c⟩) (by assumption) ?r1c
 case y1c => (intro w hSw; (obtain ⟨hS0, hS1, hS2, hS3, hS4, hS5, hS6, hS7, hS8⟩ := hSw); go_simp <;> with_reducible rfl)
 try simp only [List.getElem_toArray, List.getElem_cons_succ, List.getElem_cons_zero, Act.put, List.setIfInBounds_toArray, List.set_cons_zero, List.set_cons_succ]
 refine wpAnyH_take (i := 2) (oi := _) (v := ?v2c) rfl (by kernel_rfl) (by kernel_rfl) (by kernel_rfl) (fun _ _ _ h => h) (Or.inl ⟨by rfl, ?y2c⟩) (by assumption) ?r2c
 case y2c => (intro w hSw; (obtain ⟨hS0, hS1, hS2, hS3, hS4, hS5, hS6, hS7, hS8⟩ := hSw); go_simp <;> with_reducible rfl)
 try simp only [List.getElem_toArray, List.getElem_cons_succ, List.getElem_cons_zero, Act.put, List.setIfInBounds_toArray, List.set_cons_zero, List.set_cons_succ]
 refine wpAnyH_take (i := 3) (oi := _) (v := ?v3c) rfl (by kernel_rfl) (by kernel_rfl) (by kernel_rfl) (fun _ _ _ h => h) (Or.inl ⟨by rfl, ?y3c⟩) (by assumption) ?r3c
 case y3c => (intro w hSw; (obtain ⟨hS0, hS1, hS2, hS3, hS4, hS5, hS6, hS7, hS8⟩ := hSw); go_simp <;> with_reducible rfl)
 try simp only [List.getElem_toArray, List.getElem_cons_succ, List.getElem_cons_zero, Act.put, List.setIfInBounds_toArray, List.set_cons_zero, List.set_cons_succ]
 refine wpAnyH_take (i := 4) (oi := _) (v := ?v4c) rfl (by kernel_rfl) (by kernel_rfl) (by kernel_rfl) (fun _ _ _ h => h) (Or.inl ⟨by rfl, ?y4c⟩) (by assumption) ?r4c
 case y4c => (intro w hSw; (obtain ⟨hS0, hS1, hS2, hS3, hS4, hS5, hS6, hS7, hS8⟩ := hSw); go_simp <;> with_reducible rfl)
 try simp only [List.getElem_toArray, List.getElem_cons_succ, List.getElem_cons_zero, Act.put, List.setIfInBounds_toArray, List.set_cons_zero, List.set_cons_succ]
 refine wpAnyH_take (i := 6) (oi := _) (v := ?v6c) rfl (by kernel_rfl) (by kernel_rfl) (by kernel_rfl) (fun _ _ _ h => h) (Or.inl ⟨by rfl, ?y6c⟩) (by assumption) ?r6c
 case y6c => (intro w hSw; (obtain ⟨hS0, hS1, hS2, hS3, hS4, hS5, hS6, hS7, hS8⟩ := hSw); go_simp <;> with_reducible rfl)
 try simp only [List.getElem_toArray, List.getElem_cons_succ, List.getElem_cons_zero, Act.put, List.setIfInBounds_toArray, List.set_cons_zero, List.set_cons_succ]
 refine wpAnyH_take (i := 7) (oi := _) (v := ?v7c) rfl (by kernel_rfl) (by kernel_rfl) (by kernel_rfl) (fun _ _ _ h => h) (Or.inl ⟨by rfl, ?y7c⟩) (by assumption) ?r7c
 case y7c => (intro w hSw; (obtain ⟨hS0, hS1, hS2, hS3, hS4, hS5, hS6, hS7, hS8⟩ := hSw); go_simp <;> with_reducible rfl)
 try simp only [List.getElem_toArray, List.getElem_cons_succ, List.getElem_cons_zero, Act.put, List.setIfInBounds_toArray, List.set_cons_zero, List.set_cons_succ]
 refine wpAnyH_take (i := 8) (oi := _) (v := ?v8c) rfl (by kernel_rfl) (by kernel_rfl) (by kernel_rfl) (fun _ _ _ h => h) (Or.inl ⟨by rfl, ?y8c⟩) (by assumption) ?r8c
 case y8c => (intro w hSw; (obtain ⟨hS0, hS1, hS2, hS3, hS4, hS5, hS6, hS7, hS8⟩ := hSw); go_simp <;> with_reducible rfl)
 try simp only [List.getElem_toArray, List.getElem_cons_succ, List.getElem_cons_zero, Act.put, List.setIfInBounds_toArray, List.set_cons_zero, List.set_cons_succ]
 have Hd31 := Lib.hid (bdrewG Hb27.out)
 have Hs32 : Hid (Bs w24.drew [] v25 (((([UInt8.ofNat 1] ++ Lib.uvarint fr) ++ Lib.uvarint tag) ++ Lib.uvarint ag) ++ Lib.uvarint sh)) := Ho26.out
 refine wpAnyH_ready (rs := [5]) (by kernel_rfl) (by simp) ?_
 refine AllReadyH.cons (o := _) rfl (fun K hK => ?_) AllReadyH.nil
 go_simp
 refine (rput_any v25 (((([UInt8.ofNat 1] ++ Lib.uvarint fr) ++ Lib.uvarint tag) ++ Lib.uvarint ag) ++ Lib.uvarint sh) seq _ Hs32.out hq9 (by have := Hl30.out; omega)).mono ?_
 rintro e w33 ⟨v34, rfl, ho9, hb9⟩
 have Hb36 := Lib.hid (bthenG Hd31.out hb9)
 have Hlb38 := Lib.hid Hb36.out.size
 have Ho35 := Lib.hid (own_bs ho9)
 have Hl39 : Hid (((((([UInt8.ofNat 1] ++ Lib.uvarint fr) ++ Lib.uvarint tag) ++ Lib.uvarint ag) ++ Lib.uvarint sh) ++ Lib.uvarint seq).length ≤ 1 + 10 + 10 + 10 + 10 + 10) := by
  have h1 := Lib.uvarint_length64 (x := seq) hq9
  have h2 := Hl30.out
  show List.length _ ≤ _
  rw [List.length_append]
  omega
 clear hb9 ho9
 refine hK.out _ _ (HSB.out _ Hb36.out) (fun hHeld2 => ?_)
 clear hK K hHeld
 have hHeld := hHeld2
 clear hHeld2
 try simp only [List.getElem_toArray, List.getElem_cons_succ, List.getElem_cons_zero, Act.put, List.setIfInBounds_toArray, List.set_cons_zero, List.set_cons_succ]
 refine wpAnyH_ready (rs := [9]) (by kernel_rfl) (by simp) ?_
 refine AllReadyH.cons (o := _) rfl (fun K hK => ?_) AllReadyH.nil
 go_simp
 refine (rput_any v34 ((((([UInt8.ofNat 1] ++ Lib.uvarint fr) ++ Lib.uvarint tag) ++ Lib.uvarint ag) ++ Lib.uvarint sh) ++ Lib.uvarint seq) ep _ Ho35.out hp9 (by have := Hl39.out; omega)).mono ?_
 rintro e w40 ⟨v41, rfl, ho9, hb9⟩
 have Hb43 := Lib.hid (bthenG Hb36.out hb9)
 have Hlb45 := Lib.hid Hb43.out.size
 have Ho42 := Lib.hid (own_bs ho9)
 have Hl46 : Hid ((((((([UInt8.ofNat 1] ++ Lib.uvarint fr) ++ Lib.uvarint tag) ++ Lib.uvarint ag) ++ Lib.uvarint sh) ++ Lib.uvarint seq) ++ Lib.uvarint ep).length ≤ 1 + 10 + 10 + 10 + 10 + 10 + 10) := by
  have h1 := Lib.uvarint_length64 (x := ep) hp9
  have h2 := Hl39.out
  show List.length _ ≤ _
  rw [List.length_append]
  omega
 clear hb9 ho9
 refine hK.out _ _ (HSB.out _ Hb43.out) (fun hHeld2 => ?_)
 clear hK K hHeld
 have hHeld := hHeld2
 clear hHeld2
 try simp only [List.getElem_toArray, List.getElem_cons_succ, List.getElem_cons_zero, Act.put, List.setIfInBounds_toArray, List.set_cons_zero, List.set_cons_succ]
 refine wpAnyH_take (i := 10) (oi := _) (v := ?v10c) rfl (by kernel_rfl) (by kernel_rfl) (by kernel_rfl) (fun _ _ _ h => h) (Or.inl ⟨by rfl, ?y10c⟩) (by assumption) ?r10c
 case y10c => (intro w hSw; (try dsimp only at hSw); go_simp <;> with_reducible rfl)
 try simp only [List.getElem_toArray, List.getElem_cons_succ, List.getElem_cons_zero, Act.put, List.setIfInBounds_toArray, List.set_cons_zero, List.set_cons_succ]
 refine wpAnyH_done (by kernel_rfl) ?_ _
 clear hHeld
 obtain ⟨c0, c1, c2, c3, c4, c5, c6, c7, c8⟩ := HSB.out _ Hb43.out
 have HD3 := Lib.hid (HD2.out.keep (Keeps.of_below (M := []) Hb43.out) (by simp))
 have hlim : Hid (((((((([UInt8.ofNat 1] ++ Lib.uvarint fr) ++ Lib.uvarint tag) ++ Lib.uvarint ag) ++ Lib.uvarint sh) ++ Lib.uvarint seq) ++ Lib.uvarint ep) ++ Lib.uvarint ds.length ++ ds.flatMap dBytes).length ≤ 140737488300000) := by
  have h1 := Lib.uvarint_length64 (x := ds.length) (by omega)
  have h2 := Hl46.out
  have h3 := hdl.out
  show List.length _ ≤ _
  rw [List.length_append, List.length_append]
  have h4 : ds.length * 4294967301 ≤ 8 * 4294967301 := Nat.mul_le_mul_right _ hd8
  omega
 go_wp2_with fail
 refine (rdeltas_any v41 (((((([UInt8.ofNat 1] ++ Lib.uvarint fr) ++ Lib.uvarint tag) ++ Lib.uvarint ag) ++ Lib.uvarint sh) ++ Lib.uvarint seq) ++ Lib.uvarint ep) _ ds _ Ho42.out HD3.out Hw4.out (by omega) hlim.out).mono ?_
 rintro e w9 ⟨v9, rfl, ho9, hb9⟩
 have hC := Lib.hid (hFin.out v9 w9 (below_then Hb43.out hb9) (by rw [HBE2.out]; exact own_more ho9 (Hb43.out.size)))
 clear ho9 hb9
 go_wp2
 go_ret
 exact hC.out
theorem rbytes_any (e : EntryD) (dv : Value) (w : World) (hr0 : rightE e = 0) (h : Ds w [] dv e.ds) (hs : Short e) (hw : Wf e) :
  Calls Tryz.prog 19 #[.agg (eCell (e, dv)).toArray] w fun r w' => OwnB (bytesE e) w r w' := by
 rcases (right_facts hr0).2 with h2 | h1
 ·exact rbytes_2 e dv w h2 hr0 h hs hw
 ·exact rbytes_1 e dv w h1.1 hr0 h hs hw
/-- A disk of the document's lies in block d; its bytes in none of the blocks M. -/
def RDk (w : World) (M : List Nat) (d : Nat) (b : List UInt8) (k : Nat) : Prop :=
 ∃ v, Blk w d 131 #[v, .int .i64 k] ∧ Bs w (d :: M) v b ∧ d ∉ M ∧ k ≤ b.length ∧ b.length ≤ 1048576 ∧ ∀ g ∈ M, g < w.heap.size
theorem RDk.lt {w : World} {M : List Nat} {d k : Nat} {b : List UInt8} (h : RDk w M d b k) : d < w.heap.size := by obtain ⟨_, h, _⟩ := h; exact h.lt
theorem RDk.le {w : World} {M : List Nat} {d k : Nat} {b : List UInt8} (h : RDk w M d b k) : k ≤ b.length ∧ b.length ≤ 1048576 := by obtain ⟨_, _, _, _, h1, h2, _⟩ := h; exact ⟨h1, h2⟩
theorem RDk.old {w : World} {M : List Nat} {d k : Nat} {b : List UInt8} (h : RDk w M d b k) : ∀ g ∈ M, g < w.heap.size := by obtain ⟨_, _, _, _, _, _, h⟩ := h; exact h
theorem RDk.nin {w : World} {M : List Nat} {d k : Nat} {b : List UInt8} (h : RDk w M d b k) : d ∉ M := by obtain ⟨_, _, _, h, _⟩ := h; exact h
/-- Behind what changed blocks of M alone, or new ones; and for other blocks M', old ones of M or new. -/
theorem RDk.more {w w' : World} {M M' N : List Nat} {d k : Nat} {b : List UInt8} (h : RDk w M d b k) (hk : Keeps N w w') (hN : ∀ g ∈ N, g ∈ M ∨ w.heap.size ≤ g) (hM : ∀ g ∈ M', g ∈ M ∨ w.heap.size ≤ g) (hlt : ∀ g ∈ M', g < w'.heap.size) : RDk w' M' d b k := by
 have hd := h.lt
 obtain ⟨v, h1, h2, h3, h4, h5, h6⟩ := h
 refine ⟨v, hk.blk h1 (fun hm => by rcases hN d hm with h | h; exact h3 h; omega), ?_, fun hm => by rcases hM d hm with h | h; exact h3 h; omega, h4, h5, hlt⟩
 have h7 : Bs w' (d :: M) v b := h2.keep hk (fun g hg => (hN g hg).imp (fun h => List.mem_cons_of_mem _ h) id)
 have h8 : Bs w (d :: (M ++ M')) v b := h2.avoid (fun g hg => by
  rcases List.mem_cons.1 hg with rfl | hg
  ·exact .inl (by simp)
  ·rcases List.mem_append.1 hg with hg | hg
   ·exact .inl (List.mem_cons_of_mem _ hg)
   ·exact (hM g hg).imp (fun h => List.mem_cons_of_mem _ h) id)
 have h9 : Bs w' (d :: (M ++ M')) v b := h8.keep hk (fun g hg => (hN g hg).imp (fun h => by simp [h]) id)
 exact h9.avoid (fun g hg => .inl (by rcases List.mem_cons.1 hg with rfl | hg; simp; simp [hg]))
theorem RDk.keep0 {w w' : World} {M : List Nat} {d k : Nat} {b : List UInt8} (h : RDk w M d b k) (hk : Keeps [] w w') : RDk w' M d b k :=
 h.more hk (by simp) (fun g hg => .inl hg) (fun g hg => Nat.lt_of_lt_of_le (h.old g hg) hk.size)
section
variable {M : List Nat} {d k : Nat} {b : List UInt8}
theorem rdksync_any (w : World) (h : RDk w M d b k) :
  Calls Tryz.prog 185 #[.pointer (some ⟨d, 0, none⟩)] w fun e w' => e = .returned (.tuple #[]) ∧ RDk w' M d b b.length ∧ Keeps [d] w w' := by
 have hR : Hid (RDk (w.setCell ⟨d, 1, none⟩ (.int .i64 b.length)) M d b b.length ∧ Keeps [d] w (w.setCell ⟨d, 1, none⟩ (.int .i64 b.length))) := by
  obtain ⟨v, h1, h2, h3, h4, h5, h6⟩ := h
  have hk : Keeps [d] w (w.setCell ⟨d, 1, none⟩ (.int .i64 b.length)) := (Keeps.refl _ _).setCell (by simp) _
  exact ⟨⟨v, by simpa using h1.set_ 1 (.int .i64 b.length), h2.keep hk (fun g hg => by simp at hg; exact .inl (by simp [hg])), h3, Nat.le_refl _, h5, fun g hg => Nat.lt_of_lt_of_le (h6 g hg) hk.size⟩, hk⟩
 have hle := h.le
 obtain ⟨v, hb, hr, _⟩ := h
 obtain ⟨A, c, rfl, hc⟩ := hr.len
 have c0 := hb.cell 0; have c1 := hb.cell 1; have f1 := hb.frozen 1
 simp only [List.getElem?_toArray, List.getElem?_cons_succ, List.getElem?_cons_zero] at c0 c1
 clear hb hr
 go_enter Tryz.func185, Tryz.ntmps185
 go_wp2
 go_end0
 exact ⟨rfl, hR.out.1, hR.out.2⟩
set_option maxRecDepth 100000 in
theorem rdkcut_any (w : World) (h : RDk w M d b k) (n : Nat) (hn : n ≤ b.length) :
  Calls Tryz.prog 147 #[.pointer (some ⟨d, 0, none⟩), .int .i64 n] w fun e w' => e = .returned (.bool true) ∧ RDk w' M d (b.take n) n ∧ Keeps [d] w w' := by
 obtain ⟨i0, hi0, hz0, hz1, hz2⟩ := info_parts infoU8
 have Hi0 := Lib.hid hi0; have Hz0 := Lib.hid hz0; have Hz1 := Lib.hid hz1; have Hz2 := Lib.hid hz2
 clear hi0 hz0 hz1 hz2
 have hle := h.le
 have H := Lib.hid h
 obtain ⟨v, hb, hr, _⟩ := h
 obtain ⟨A, c, rfl, hc⟩ := hr.len
 have Hq : Hid (Bs w [] (.slice A n c) (b.take n)) := ((hr.avoid (M' := []) (by simp))).headG n hn
 have hql : Hid ((b.take n).length = n) := List.length_take_of_le hn
 have c0 := hb.cell 0; have c1 := hb.cell 1; have f0 := hb.frozen 0; have f1 := hb.frozen 1
 simp only [List.getElem?_toArray, List.getElem?_cons_succ, List.getElem?_cons_zero] at c0 c1
 have hdl := hb.lt
 have Hb := Lib.hid hb
 clear hb hr
 have hni : (0 : Int) ≤ (n : Int) := by omega
 have hn2 : (n : Int) ≤ (b.length : Int) := by omega
 have hn3 : (n : Int) ≤ (c : Int) := by omega
 have hn4 : decide ((n : Int) < 0) = false := decide_eq_false (by omega)
 have hn5 : decide ((b.length : Int) < (n : Int)) = false := decide_eq_false (by omega)
 have HRq : Hid (Reads w w.heap.size 1 A n ((b.take n).map bV)) := by
  have h := bs_reads (A := A) (c := c) (l := b.take n) (by rw [hql.out]; exact Hq.out)
  rwa [hql.out] at h
 go_enter Tryz.func147, Tryz.ntmps147
 go_wp2_with (at_builtin; go_must (refine wpList_append_any _ rfl (.tmp 17) (.tmp 23) _ rfl w.heap.size 5 i0 _ 1 1 Tryz.underlying36 Hi0.out Hz0.out Hz1.out Hz2.out rfl (by omega) (.slice (some ⟨w.heap.size, 0, none⟩) 0 0) 0 [] rfl (World.ownsRow_made w #[] 0 (Nat.le_refl _) (by unfold maxLen; omega) rfl) w.heap.size A n c ((b.take n).map bV) rfl (HRq.out.alloc (Nat.le_refl _) _) (bV_one _) (by unfold maxLen; omega) (by omega) (by simp) ?_))
 intro v2 w2 ho hg hat
 have hown2 : w2.ownsRow w.heap.size 5 1 v2 (b.take n).length ((b.take n).map bV) := by rw [hql.out]; simpa using ho
 have hb2 : Below w.heap.size w w2 := grown_empty hg
 clear ho hg hat
 have hB2 := Hb.out.below hb2 hdl
 have hk2 : Keeps [d] w2 ((w2.setCell ⟨d, 0, none⟩ v2).setCell ⟨d, 1, none⟩ (.int .i64 n)) := ((Keeps.refl _ _).setCell (by simp) _).setCell (by simp) _
 have hR : Hid (RDk ((w2.setCell ⟨d, 0, none⟩ v2).setCell ⟨d, 1, none⟩ (.int .i64 n)) M d (b.take n) n ∧ Keeps [d] w ((w2.setCell ⟨d, 0, none⟩ v2).setCell ⟨d, 1, none⟩ (.int .i64 n))) := by
  have ho := H.out.old
  refine ⟨⟨v2, by simpa using (hB2.set_ 0 v2).set_ 1 (.int .i64 n), (Bs.keep (M := d :: M) (Rd.of_own hown2 (fun g hg => by rcases List.mem_cons.1 hg with rfl | hg; exact hdl; exact ho g hg)) hk2 (by simp)), H.out.nin, by rw [hql.out]; exact Nat.le_refl _, by rw [hql.out]; omega, fun g hg => Nat.lt_of_lt_of_le (ho g hg) (Nat.le_trans hb2.size hk2.size)⟩, ?_⟩
  exact ((Keeps.of_below (M := []) hb2).mono (by simp)).trans hk2 (fun g hg => .inl hg)
 obtain ⟨A2, c2, rfl⟩ : ∃ A2 c2, v2 = .slice A2 n c2 := by obtain ⟨A2, c2, e, _⟩ := (own_bs hown2).len; exact ⟨A2, c2, by rw [e, hql.out]⟩
 have c0 := hB2.cell 0; have c1 := hB2.cell 1; have f0 := hB2.frozen 0; have f1 := hB2.frozen 1
 simp only [List.getElem?_toArray, List.getElem?_cons_succ, List.getElem?_cons_zero] at c0 c1
 clear hown2 hb2 hB2 hk2 HRq Hq H Hb
 go_wp2
 go_ret
 exact ⟨rfl, hR.out.1, hR.out.2⟩
def RaPost (M : List Nat) (d : Nat) (b l : List UInt8) (k : Nat) (w : World) (e : Ending) (w' : World) : Prop :=
 if b.length + l.length ≤ 1048576 then e = .returned (.int .i64 0) ∧ RDk w' M d (b ++ l) k ∧ Keeps [d] w w'
 else e = .returned (.int .i64 24) ∧ w = w'
set_option maxRecDepth 100000 in
theorem rdkappend_any (w : World) (h : RDk w M d b k) (v : Value) (l : List UInt8) (hv : Bs w [] v l) (hl : l.length ≤ 10000000) :
  Calls Tryz.prog 202 #[.pointer (some ⟨d, 0, none⟩), v] w fun e w' => RaPost M d b l k w e w' := by
 obtain ⟨i0, hi0, hz0, hz1, hz2⟩ := info_parts infoU8
 have Hi0 := Lib.hid hi0; have Hz0 := Lib.hid hz0; have Hz1 := Lib.hid hz1; have Hz2 := Lib.hid hz2
 clear hi0 hz0 hz1 hz2
 have hle := h.le
 have H := Lib.hid h
 obtain ⟨v0, hb, hr, _⟩ := h
 obtain ⟨A, c, rfl, hc⟩ := hr.len
 obtain ⟨B, cl, rfl, hcl⟩ := hv.len
 have HRq : Hid (Reads w w.heap.size 1 A b.length (b.map bV)) := bs_reads (hr.avoid (M' := []) (by simp))
 have HRl : Hid (Reads w w.heap.size 1 B l.length (l.map bV)) := bs_reads hv
 have c0 := hb.cell 0; have c1 := hb.cell 1; have f0 := hb.frozen 0; have f1 := hb.frozen 1
 simp only [List.getElem?_toArray, List.getElem?_cons_succ, List.getElem?_cons_zero] at c0 c1
 have hdl := hb.lt
 have Hb := Lib.hid hb
 have hwr : IntKind.i64.wrap (1048576 - (b.length : Int)) = 1048576 - (b.length : Int) := by rw [IntKind.wrap_i64]; omega
 clear hb hr hv
 unfold RaPost
 go_enter Tryz.func202, Tryz.ntmps202
 by_cases hfit : b.length + l.length ≤ 1048576
 ·have hf1 : ¬ (1048576 - (b.length : Int) < (l.length : Int)) := by omega
  have hf2 : decide (1048576 - (b.length : Int) < (l.length : Int)) = false := decide_eq_false hf1
  simp only [if_pos hfit]
  go_wp2_with (at_builtin; go_must (refine wpList_append_any _ rfl (.tmp 15) (.tmp 19) _ rfl w.heap.size 5 i0 _ 1 1 Tryz.underlying36 Hi0.out Hz0.out Hz1.out Hz2.out rfl (by omega) (.slice (some ⟨w.heap.size, 0, none⟩) 0 0) 0 [] rfl (World.ownsRow_made w #[] 0 (Nat.le_refl _) (by unfold maxLen; omega) rfl) w.heap.size A b.length c (b.map bV) rfl (HRq.out.alloc (Nat.le_refl _) _) (bV_one _) (by unfold maxLen; omega) (by omega) (by simp) ?_))
  intro v2 w2 ho hg hat
  have Hown2 : Hid (w2.ownsRow w.heap.size 5 1 v2 b.length (b.map bV)) := (show World.ownsRow _ _ _ _ _ _ _ by simpa using ho)
  have Hb2 : Hid (Below w.heap.size w w2) := grown_empty hg
  have hz2 : w.heap.size ≤ w2.heap.size := Hb2.out.size
  have HRl2 : Hid (Reads w2 w.heap.size 1 B l.length (l.map bV)) := HRl.out.below Hb2.out
  clear ho hg hat HRq HRl
  go_wp2_with (at_builtin; go_must (refine wpList_append_any _ rfl (.tmp 20) (.tmp 21) _ rfl w.heap.size 5 i0 _ 1 1 Tryz.underlying36 Hi0.out Hz0.out Hz1.out Hz2.out rfl (by omega) v2 b.length (b.map bV) rfl Hown2.out w.heap.size B l.length cl (l.map bV) rfl HRl2.out (bV_one _) (by unfold maxLen; omega) (by omega) (by omega) ?_))
  intro v3 w3 ho hg hat
  have hown3 : w3.ownsRow w.heap.size 5 1 v3 (b ++ l).length ((b ++ l).map bV) := by
   rw [List.length_append, List.map_append]
   exact ho
  have hb3 : Below w.heap.size w w3 := Hb2.out.grown hg hz2 (fun g hg => (Hown2.out.lt g hg).1)
  clear ho hg hat HRl2
  have hB3 := Hb.out.below hb3 hdl
  have hk3 : Keeps [d] w3 (w3.setCell ⟨d, 0, none⟩ v3) := (Keeps.refl _ _).setCell (by simp) _
  have hR : Hid (RDk (w3.setCell ⟨d, 0, none⟩ v3) M d (b ++ l) k ∧ Keeps [d] w (w3.setCell ⟨d, 0, none⟩ v3)) := by
   have ho := H.out.old
   refine ⟨⟨v3, by simpa using hB3.set_ 0 v3, (Bs.keep (M := d :: M) (Rd.of_own hown3 (fun g hg => by rcases List.mem_cons.1 hg with rfl | hg; exact hdl; exact ho g hg)) hk3 (by simp)), H.out.nin, by rw [List.length_append]; omega, by rw [List.length_append]; omega, fun g hg => Nat.lt_of_lt_of_le (ho g hg) (Nat.le_trans hb3.size hk3.size)⟩, ?_⟩
   exact ((Keeps.of_below (M := []) hb3).mono (by simp)).trans hk3 (fun g hg => .inl hg)
  obtain ⟨A3, c3, rfl⟩ : ∃ A3 c3, v3 = .slice A3 (b.length + l.length) c3 := by obtain ⟨A3, c3, e, _⟩ := (own_bs hown3).len; exact ⟨A3, c3, by rw [e, List.length_append]⟩
  have c0 := hB3.cell 0; have c1 := hB3.cell 1; have f0 := hB3.frozen 0; have f1 := hB3.frozen 1
  simp only [List.getElem?_toArray, List.getElem?_cons_succ, List.getElem?_cons_zero] at c0 c1
  clear hown3 hb3 hB3 hk3 H Hb Hown2 Hb2
  go_wp2
  go_ret
  exact ⟨rfl, hR.out.1, hR.out.2⟩
 ·have hf1 : 1048576 - (b.length : Int) < (l.length : Int) := by omega
  simp only [if_neg hfit]
  go_wp2
  go_ret
  exact ⟨rfl, rfl⟩
set_option maxRecDepth 100000 in
theorem rdkcrash_any (w : World) (h : RDk w M d b k) (keep : Int) :
  Calls Tryz.prog 89 #[.pointer (some ⟨d, 0, none⟩), .int .i64 keep] w fun e w' => e = .returned (.int .i64 ((b.length : Int) - k - crashK b k keep)) ∧ RDk w' M d (b.take (k + crashK b k keep)) (k + crashK b k keep) ∧ Keeps [d] w w' := by
 have hle := h.le
 have hK : Hid (max 0 (min keep ((b.length : Int) - k)) = (crashK b k keep : Int)) := by show _ = _; unfold crashK; omega
 have hK2 : Hid (max (min keep ((b.length : Int) - k)) 0 = (crashK b k keep : Int)) := by show _ = _; unfold crashK; omega
 have hKb : k + crashK b k keep ≤ b.length := by unfold crashK; omega
 have hct := Lib.hid (fun W (hk : Keeps [] w W) => rdkcut_any W (h.keep0 hk) (k + crashK b k keep) hKb)
 generalize crashK b k keep = m at *
 obtain ⟨v, hb, hr, _⟩ := h
 obtain ⟨A, c, rfl, hc⟩ := hr.len
 have c0 := hb.cell 0; have c1 := hb.cell 1
 simp only [List.getElem?_toArray, List.getElem?_cons_succ, List.getElem?_cons_zero] at c0 c1
 have hlt := hb.lt
 clear hb hr
 have hwm : IntKind.i64.wrap ((m : Int)) = (m : Int) := by rw [IntKind.wrap_i64]; omega
 have hwk : IntKind.i64.wrap ((k : Int) + (m : Int)) = ((k + m : Nat) : Int) := by rw [IntKind.wrap_i64]; omega
 have hww : IntKind.i64.wrap ((b.length : Int) - (k : Int)) = (b.length : Int) - (k : Int) := by rw [IntKind.wrap_i64]; omega
 go_enter Tryz.func89, Tryz.ntmps89
 go_wp2_with fail
 go_quiet (fail)
 have hm := hK.out
 have hm2 := hK2.out
 have hc2 : (w.drewN nq).cell? ⟨d, 1, none⟩ = some (.int .i64 k) := c1
 go_wp2_with fail
 have hct2 := hct.out (w.drewN nq) ((Keeps.refl _ _).drewN _)
 refine hct2.mono ?_
 rintro e w3 ⟨rfl, hD, hk⟩
 have HD := Lib.hid hD; have Hk : Hid (Keeps [d] w w3) := ((Keeps.refl [d] w).drewN nq).trans hk (by simp)
 clear hD hk hct2
 go_wp2
 go_ret
 exact ⟨rfl, HD.out, Hk.out⟩
end


/-- So many deltas from the front, and how the reader stands. -/
def getDs : Nat → List UInt8 → Bool → List DeltaD × List UInt8 × Bool
 | 0, l, b => ([], l, b)
 | k + 1, l, b =>
  let t := textS l b
  let u := numS t.2.1 t.2.2
  let r := getDs k u.2.1 u.2.2
  (⟨⟨t.1.toArray⟩, u.1⟩ :: r.1, r.2)
theorem infoDelta2 : (Tryz.prog.info? 86).map (fun i => (i.zero, i.size, i.bytes)) = some (some (.agg #[.string ByteArray.empty, .int .u64 0]), 2, 24) := by kernel_rfl
def GetPost (M : List Nat) (p n : Nat) (l : List UInt8) (b : Bool) (w : World) (e : Ending) (w' : World) : Prop := ∃ v, e = .returned v ∧ w'.ownsRow w.heap.size 86 2 v n (dCells (getDs n l b).1) ∧ RdAt w' M p (getDs n l b).2.1 (getDs n l b).2.2 ∧ Keeps [p] w w'
set_option maxRecDepth 100000 in
set_option maxHeartbeats 600000 in
theorem get_ds (M : List Nat) (p n : Nat) (l : List UInt8) (b : Bool) (w : World) (h : RdAt w M p l b) (hn : n ≤ 8) :
  Calls Tryz.prog 130 #[.pointer (some ⟨p, 0, none⟩), .int .i64 n] w fun e w' => GetPost M p n l b w e w' := by
 have hp0 := h.lt
 have H := Lib.hid h
 obtain ⟨i0, hi0, hz0, hz1, hz2⟩ := info_parts infoDelta2
 have Hi0 := Lib.hid hi0; have Hz0 := Lib.hid hz0; have Hz1 := Lib.hid hz1; have Hz2 := Lib.hid hz2
 clear h hi0 hz0 hz1 hz2
 go_enter Tryz.func130, Tryz.ntmps130
 go_wp2_with fail
 go_loopw [5, 8] (fun out i wr => ∃ (x : Nat) (acc : List DeltaD) (lx : List UInt8) (bx : Bool), i = .int .i64 x ∧ x ≤ n ∧ acc.length = x ∧ Hid ((getDs n l b) = (acc ++ (getDs (n - x) lx bx).1, (getDs (n - x) lx bx).2)) ∧ Hid (wr.ownsRow w.heap.size 86 2 out x (dCells acc)) ∧ Hid (RdAt wr (out.ownBlock.toList ++ M) p lx bx) ∧ Hid (Keeps [p] w wr)) (fun _ i _ => n - (intOf i).toNat)
 case atStart => exact ⟨0, [], l, b, rfl, by omega, rfl, (show getDs n l b = _ from rfl), World.ownsRow_nil _ _ _ _, (show RdAt w _ p l b from H.out), Keeps.refl _ _⟩
 case round =>
  obtain ⟨x, acc, lx, bx, rfl, hx, hal, Hg, Hown, HR, Hk⟩ := hrel
  by_cases hlt : x < n
  ·have hx1 : (x : Int) < (n : Int) := by omega
   have Hst : Hid (getDs (n - x) lx bx = (⟨⟨(textS lx bx).1.toArray⟩, (numS (textS lx bx).2.1 (textS lx bx).2.2).1⟩ :: (getDs (n - (x + 1)) (numS (textS lx bx).2.1 (textS lx bx).2.2).2.1 (numS (textS lx bx).2.1 (textS lx bx).2.2).2.2).1, (getDs (n - (x + 1)) (numS (textS lx bx).2.1 (textS lx bx).2.2).2.1 (numS (textS lx bx).2.1 (textS lx bx).2.2).2.2).2)) := by
    show _ = _
    rw [show n - x = (n - (x + 1)) + 1 by omega]
    rfl
   have ht := Lib.hid (rtext_any (u5.ownBlock.toList ++ M) p lx bx wr HR.out)
   generalize textS lx bx = t at *
   obtain ⟨t1, t2, t3⟩ := t
   simp only [] at ht Hst
   go_wp2_with fail
   refine ht.out.mono ?_
   rintro e w3 ⟨rfl, hA3, hk3⟩
   have hu := Lib.hid (number_any (u5.ownBlock.toList ++ M) p t2 t3 w3 hA3)
   have Hk3 := Lib.hid hk3
   generalize numS t2 t3 = u at *
   obtain ⟨u1, u2', u3'⟩ := u
   simp only [] at hu Hst
   clear hA3 hk3 ht
   go_wp2_with fail
   refine hu.out.mono ?_
   rintro e w4 ⟨rfl, hA4, hk4⟩
   have HA4 := Lib.hid hA4
   have Hk4 : Hid (Keeps [p] wr w4) := Hk3.out.trans hk4 (by simp)
   clear hA4 hk4 hu
   have hown4 := own_keep Hown.out Hk4.out (by simp; exact hp0)
   have Hown5 := Lib.hid (hown4.alloc (.cells #[.string ⟨t1.toArray⟩, .int .u64 u1] 86))
   have hlt0 := Lib.hid Hown.out.lt
   have hz4 : w.heap.size ≤ w4.heap.size := Nat.le_trans Hk.out.size Hk4.out.size
   clear hown4
   go_wp2_with (at_builtin; refine wpList_append_any _ rfl (.tmp 12) (.tmp 17) _ rfl w.heap.size 86 i0 _ 2 24 Tryz.underlying24 Hi0.out Hz0.out Hz1.out Hz2.out rfl (by omega) u5 x (dCells acc) rfl Hown5.out (w4.heap.size + 1) (some ⟨w4.heap.size, 0, none⟩) 1 1 (dCell ⟨⟨t1.toArray⟩, u1⟩) rfl (reads_new _ _ _ _ _ rfl) (by intro u hu; simp [dCell] at hu; rcases hu with rfl | rfl <;> rfl) (by unfold maxLen; omega) (by omega) (by simp; omega) ?_)
   intro v6 w6 hown6 hg6 hat6
   have hpo : p ∉ u5.ownBlock.toList := fun hm => by have := (hlt0.out p (by simpa using hm)).1; omega
   have kg : Keeps u5.ownBlock.toList (w4.alloc (.cells #[.string ⟨t1.toArray⟩, .int .u64 u1] 86)) w6 := (Keeps.refl _ _).grown hg6 (fun g hg => .inl (by simpa using hg))
   have h1 := HA4.out.keep (M' := []) ((Keeps.refl _ _).alloc (.cells #[.string ⟨t1.toArray⟩, .int .u64 u1] 86)) (by simp) (by simp)
   have h2 := h1.avoid (M' := v6.ownBlock.toList ++ (u5.ownBlock.toList ++ M)) (fun g hg => by
    rcases List.mem_append.1 hg with h | h
    ·rcases hat6 with h5 | h5
     ·exact .inl (List.mem_append_left _ (by rw [h5] at h; exact h))
     ·rw [h5] at h; simp at h; exact .inr (by simp; omega)
    ·exact .inl h)
   have H6 := Lib.hid ((h2.keep kg (fun g hg => .inl (List.mem_append_right _ (List.mem_append_left _ hg))) hpo).avoid (M' := v6.ownBlock.toList ++ M) (fun g hg => by
    rcases List.mem_append.1 hg with h | h
    ·exact .inl (List.mem_append_left _ h)
    ·exact .inl (List.mem_append_right _ (List.mem_append_right _ h))))
   have Hk6 : Hid (Keeps [p] w w6) := ((Hk.out.trans Hk4.out (by simp)).alloc _).grown hg6 (fun g hg => .inr (hlt0.out g hg).1)
   have Hown6 : Hid (w6.ownsRow w.heap.size 86 2 v6 (x + 1) (dCells (acc ++ [⟨⟨t1.toArray⟩, u1⟩]))) := by
    show World.ownsRow _ _ _ _ _ _ _
    unfold dCells at hown6 ⊢
    rw [List.flatMap_append]
    simpa using hown6
   have Hg6 : Hid (getDs n l b = ((acc ++ [⟨⟨t1.toArray⟩, u1⟩]) ++ (getDs (n - (x + 1)) u2' u3').1, (getDs (n - (x + 1)) u2' u3').2)) := by
    show _ = _
    rw [Hg.out, Hst.out]; simp
   clear hown6 hg6 hat6 kg h1 h2 hpo
   go_wp2
   go_roundw
   case rel => exact ⟨x + 1, acc ++ [⟨⟨t1.toArray⟩, u1⟩], u2', u3', by go_num, by omega, by simp; omega, Hg6, Hown6, H6, Hk6⟩
   case measure => simp [intOf] <;> omega
  ·obtain rfl : x = n := by omega
   have hg := Hg.out
   rw [Nat.sub_self] at hg
   have hp : Hid (GetPost M p x l b w (.returned u5) wr) := by
    refine ⟨u5, rfl, ?_, ?_, Hk.out⟩
    ·rw [hg]; simpa [getDs] using Hown.out
    ·rw [hg]; exact HR.out.avoid (fun g hg => .inl (List.mem_append_right _ hg))
   clear hg
   go_wp2
   go_ret
   exact hp.out
end Go.Proofs.YtinnifhnabncfaaGreatDoor.Vi
end
section
namespace Go.Proofs.YtinnifhnabncfaaGreatDoor.Vi
open Go.RowKit Base Mem
theorem right_kind {e : EntryD} (h : rightE e = 0) : kindS e = true := by
 unfold rightE at h
 cases hk : kindS e with
 | true => rfl
 | false => rw [hk] at h; cases h
theorem byteS_cons (c : UInt8) (r : List UInt8) : byteS (c :: r) false = (c, r, false) := rfl
/-- What follows a message's head. -/
def readX (k fr tag : Nat) (l : List UInt8) (b : Bool) : EntryD × List UInt8 × Bool :=
 if k = 2 then (⟨k, 0, 0, 0, 0, [], ⟨(textS l b).1.toArray⟩, fr, tag⟩, (textS l b).2)
 else
  let a := countS l b 8
  let s := countS a.2.1 a.2.2 4
  let q := intS s.2.1 s.2.2
  let p := intS q.2.1 q.2.2
  let n := countS p.2.1 p.2.2 8
  let d := getDs n.1 n.2.1 n.2.2
  (⟨k, a.1, s.1, q.1, p.1, d.1, ⟨#[]⟩, fr, tag⟩, d.2)
def readH (b : List UInt8) : EntryD × List UInt8 × Bool :=
 let k := byteS b false
 let f := countS k.2.1 k.2.2 8
 let t := intS f.2.1 f.2.2
 readX k.1.toNat f.1 t.1 t.2.1 t.2.2
def zeroD : EntryD := ⟨0, 0, 0, 0, 0, [], ⟨#[]⟩, 0, 0⟩
/-- The entry that bytes are, or why not. -/
def readE (b : List UInt8) : EntryD × Nat := if (!(readH b).2.2 && (readH b).2.1.isEmpty) = true ∧ rightE (readH b).1 = 0 then ((readH b).1, 0) else (zeroD, 12)
theorem getDs_put (ds : List DeltaD) (r : List UInt8) (hn : ∀ d ∈ ds, NOk d) (hs : ∀ d ∈ ds, d.ser.size < 4294967281) : getDs ds.length (ds.flatMap dBytes ++ r) false = (ds, r, false) := by
 induction ds with
 | nil => rfl
 | cons d ds ih =>
  obtain ⟨h0, h1⟩ := hn d (by simp)
  have h2 := hs d (by simp)
  obtain ⟨ser, n⟩ := d
  obtain ⟨n, rfl⟩ := Int.eq_ofNat_of_zero_le h0
  simp only [] at h1 h2
  have ht := textS_put (sB ser) (Lib.uvarint n ++ (ds.flatMap dBytes ++ r)) (by show ser.size < _; omega)
  have hu := numS_put n (ds.flatMap dBytes ++ r) (by omega)
  have hd : dBytes ⟨ser, n⟩ = Lib.uvarint (sB ser).length ++ sB ser ++ Lib.uvarint n := rfl
  rw [List.flatMap_cons, hd, List.length_cons, getDs]
  simp only [List.append_assoc] at ht ⊢
  rw [ht]
  simp only []
  rw [hu]
  simp only []
  rw [ih (fun d hd => hn d (by simp [hd])) (fun d hd => hs d (by simp [hd]))]
  rfl
theorem read_bytes (e : EntryD) (hr : rightE e = 0) (hw : Wf e) (hs : Short e) : readE (bytesE e) = (e, 0) := by
 obtain ⟨⟨hf0, hf8, ht0⟩, hrest⟩ := right_facts hr
 have hk := right_kind hr
 have hH : readH (bytesE e) = (e, [], false) := by
  obtain ⟨hw1, hw2, hw3, hw4⟩ := hw
  obtain ⟨hs1, hs2, hs3⟩ := hs
  clear hr
  obtain ⟨kind, ag, sh, seq, ep, ds, ser, fr, tag⟩ := e
  simp only [] at hf0 hf8 ht0 hrest hw1 hw2 hw3 hw4 hs1 hs2 hs3
  obtain ⟨fr, rfl⟩ := Int.eq_ofNat_of_zero_le hf0
  obtain ⟨tag, rfl⟩ := Int.eq_ofNat_of_zero_le ht0
  have hfr := fun r => countS_put fr r 8 (by omega) (by omega)
  have htg := fun r => intS_put tag r (by omega)
  unfold kindS at hk
  simp only [] at hk
  rcases hrest with rfl | ⟨rfl, h1, h2, h3, h4, h5, h6, h7⟩
  ·rw [if_neg (by omega), if_pos rfl] at hk
   simp [eqI] at hk
   obtain ⟨⟨⟨rfl, rfl, rfl⟩, rfl⟩, hds⟩ := hk
   obtain rfl : ds = [] := by simpa using hds
   have ht := textS_put (sB ser) [] (by show ser.size < _; omega)
   unfold readH bytesE headB
   rw [if_pos rfl]
   simp only [List.append_nil] at ht
   simp only [List.append_assoc, List.nil_append, List.cons_append, byteS_cons, Int.toNat_natCast, hfr, htg]
   unfold readX
   rw [if_pos (by decide)]
   rw [show Lib.uvarint ser.size ++ sB ser = Lib.uvarint (sB ser).length ++ sB ser from rfl, ht]
   rfl
  ·rw [if_pos rfl] at hk
   have hse : ser = ⟨#[]⟩ := by
    have h0 : ser.toList = [] := by simpa using hk
    rw [Lib.toList_data] at h0
    obtain ⟨⟨l⟩⟩ := ser
    simp only [] at h0
    rw [h0]
   subst hse
   obtain ⟨ag, rfl⟩ := Int.eq_ofNat_of_zero_le h1
   obtain ⟨sh, rfl⟩ := Int.eq_ofNat_of_zero_le h3
   obtain ⟨seq, rfl⟩ := Int.eq_ofNat_of_zero_le (show 0 ≤ seq by omega)
   obtain ⟨ep, rfl⟩ := Int.eq_ofNat_of_zero_le (show 0 ≤ ep by omega)
   have ha := fun r => countS_put ag r 8 (by omega) (by omega)
   have hsh := fun r => countS_put sh r 4 (by omega) (by omega)
   have hq := fun r => intS_put seq r (by omega)
   have hp := fun r => intS_put ep r (by omega)
   have hn := fun r => countS_put ds.length r 8 (by omega) (by omega)
   have hg := getDs_put ds [] hw4 hs2
   unfold readH bytesE headB
   rw [if_neg (by simp)]
   simp only [List.append_nil] at hg
   simp only [List.append_assoc, List.nil_append, List.cons_append, byteS_cons, Int.toNat_natCast, hfr, htg]
   unfold readX
   rw [if_neg (by decide)]
   simp only [ha, hsh, hq, hp, hn, hg]
   rfl
 unfold readE
 rw [hH, if_pos ⟨rfl, hr⟩]
theorem numS_len (l : List UInt8) (b : Bool) : (numS l b).2.1.length ≤ l.length := by
 unfold numS
 split
 ·exact Nat.le_refl _
 ·simp only [List.length_drop]; omega
theorem intS_len (l : List UInt8) (b : Bool) : (intS l b).2.1.length ≤ l.length := by
 unfold intS
 split <;> exact numS_len l b
theorem countS_len (l : List UInt8) (b : Bool) (m : Nat) : (countS l b m).2.1.length ≤ l.length := by
 unfold countS
 split <;> exact intS_len l b
theorem countS_most (l : List UInt8) (b : Bool) (m : Nat) : (countS l b m).1 ≤ m := by
 unfold countS
 split
 ·simp
 ·omega
theorem textS_len (l : List UInt8) (b : Bool) : (textS l b).2.1.length ≤ l.length ∧ (textS l b).1.length ≤ l.length := by
 unfold textS
 split
 ·simp
 ·refine ⟨by simp only [List.length_drop]; omega, ?_⟩
  unfold cutL
  split
  ·simp
  ·simp only [List.length_take, List.length_drop]; omega
theorem byteS_len (l : List UInt8) (b : Bool) : (byteS l b).2.1.length ≤ l.length := by
 unfold byteS
 split
 ·exact Nat.le_refl _
 ·cases l <;> simp
theorem getDs_short : ∀ (n : Nat) (l : List UInt8) (b : Bool), (∀ d ∈ (getDs n l b).1, d.ser.size ≤ l.length ∧ NOk d) ∧ (getDs n l b).1.length = n
 | 0, _, _ => ⟨by simp [getDs], rfl⟩
 | n + 1, l, b => by
  have h1 := textS_len l b
  have h2 := numS_len (textS l b).2.1 (textS l b).2.2
  have h4 := numS_lt (textS l b).2.1 (textS l b).2.2
  obtain ⟨h3, h5⟩ := getDs_short n (numS (textS l b).2.1 (textS l b).2.2).2.1 (numS (textS l b).2.1 (textS l b).2.2).2.2
  rw [getDs]
  refine ⟨fun d hd => ?_, by simp only [List.length_cons, h5]⟩
  rcases List.mem_cons.1 hd with rfl | hd
  ·refine ⟨h1.2, ?_⟩
   unfold NOk
   simp only []
   omega
  ·obtain ⟨h6, h7⟩ := h3 d hd
   exact ⟨by omega, h7⟩
theorem readX_two (fr tag : Nat) (l : List UInt8) (b : Bool) : readX 2 fr tag l b = (⟨(2 : Nat), 0, 0, 0, 0, [], ⟨(textS l b).1.toArray⟩, fr, tag⟩, (textS l b).2) := if_pos rfl
theorem readX_else (k fr tag : Nat) (l : List UInt8) (b : Bool) (hk : ¬ k = 2) : ∃ a s q p n d, a = countS l b 8 ∧ s = countS a.2.1 a.2.2 4 ∧ q = intS s.2.1 s.2.2 ∧ p = intS q.2.1 q.2.2 ∧ n = countS p.2.1 p.2.2 8 ∧ d = getDs n.1 n.2.1 n.2.2 ∧
  readX k fr tag l b = (⟨k, a.1, s.1, q.1, p.1, d.1, ⟨#[]⟩, fr, tag⟩, d.2) := ⟨_, _, _, _, _, _, rfl, rfl, rfl, rfl, rfl, rfl, if_neg hk⟩
theorem readX_all (k fr tag : Nat) (l : List UInt8) (b : Bool) (N : Nat) (h : l.length ≤ N) (ht : tag ≤ 9223372036854775807) : (readX k fr tag l b).1.ser.size ≤ N ∧ (∀ d ∈ (readX k fr tag l b).1.ds, d.ser.size ≤ N ∧ NOk d) ∧ (readX k fr tag l b).1.ds.length ≤ 8 ∧ Wf (readX k fr tag l b).1 := by
 by_cases hk : k = 2
 ·subst hk
  have h1 := (textS_len l b).2
  rw [readX_two]
  generalize textS l b = t at *
  refine ⟨?_, fun d hd => (by cases hd), Nat.zero_le _, ?_, ?_, ?_, fun d hd => (by cases hd)⟩
  ·show t.1.toArray.size ≤ N
   rw [List.size_toArray]; omega
  ·show (tag : Int) ≤ _; omega
  ·show (0 : Int) ≤ _; omega
  ·show (0 : Int) ≤ _; omega
 ·obtain ⟨a, s, q, p, n, d, ha, hs, hq, hp, hn, hd, e⟩ := readX_else k fr tag l b hk
  have h1 := countS_len l b 8
  have h2 := countS_len a.2.1 a.2.2 4
  have h3 := intS_len s.2.1 s.2.2
  have h4 := intS_len q.2.1 q.2.2
  have h5 := countS_len p.2.1 p.2.2 8
  have h6 := countS_most p.2.1 p.2.2 8
  have h7 := intS_lt s.2.1 s.2.2
  have h8 := intS_lt q.2.1 q.2.2
  obtain ⟨h9, h10⟩ := getDs_short n.1 n.2.1 n.2.2
  rw [← ha] at h1
  rw [← hs] at h2
  rw [← hq] at h3 h7
  rw [← hp] at h4 h8
  rw [← hn] at h5 h6
  rw [← hd] at h9 h10
  rw [e]
  refine ⟨Nat.zero_le _, fun x hx => ?_, by show d.1.length ≤ 8; omega, ?_, ?_, ?_, fun x hx => (h9 x hx).2⟩
  ·obtain ⟨h11, h12⟩ := h9 x hx
   exact ⟨by omega, h12⟩
  ·show (tag : Int) ≤ _; omega
  ·show (q.1 : Int) ≤ _; omega
  ·show (p.1 : Int) ≤ _; omega
theorem readH_eq (l : List UInt8) : ∃ k f t, k = byteS l false ∧ f = countS k.2.1 k.2.2 8 ∧ t = intS f.2.1 f.2.2 ∧ readH l = readX k.1.toNat f.1 t.1 t.2.1 t.2.2 := ⟨_, _, _, rfl, rfl, rfl, rfl⟩
theorem readH_short (l : List UInt8) (h : l.length < 4294967281) : Short (readH l).1 ∧ (readH l).1.ds.length ≤ 8 ∧ Wf (readH l).1 := by
 obtain ⟨k, f, t, hk, hf, ht, e⟩ := readH_eq l
 have h1 := byteS_len l false
 have h2 := countS_len k.2.1 k.2.2 8
 have h3 := intS_len f.2.1 f.2.2
 have h4 := intS_lt f.2.1 f.2.2
 rw [← hk] at h1
 rw [← hf] at h2
 rw [← ht] at h3 h4
 rw [e]
 obtain ⟨h5, h6, h7, h8⟩ := readX_all k.1.toNat f.1 t.1 t.2.1 t.2.2 l.length (by omega) h4
 exact ⟨⟨by omega, fun d hd => by have := (h6 d hd).1; omega, by omega⟩, h7, h8⟩
theorem num_bad (l : List UInt8) : numS l true = (0, l, true) := if_pos (.inl rfl)
theorem int_bad (l : List UInt8) : intS l true = (0, l, true) := by unfold intS; rw [num_bad]; rfl
theorem count_bad (l : List UInt8) (m : Nat) : countS l true m = (0, l, true) := by unfold countS; rw [int_bad]; simp
theorem text_bad (l : List UInt8) : textS l true = ([], l, true) := if_pos (.inl rfl)
theorem getDs_bad : ∀ (n : Nat) (l : List UInt8), (getDs n l true).2.2 = true
 | 0, _ => rfl
 | n + 1, l => by simp only [getDs]; rw [text_bad]; simp only []; rw [num_bad]; exact getDs_bad n l
theorem num_ok {l : List UInt8} {b : Bool} (h : (numS l b).2.2 = false) : b = false := by cases b; rfl; rw [num_bad] at h; cases h
theorem int_ok {l : List UInt8} {b : Bool} (h : (intS l b).2.2 = false) : b = false := by cases b; rfl; rw [int_bad] at h; cases h
theorem count_ok {l : List UInt8} {b : Bool} {m : Nat} (h : (countS l b m).2.2 = false) : b = false := by cases b; rfl; rw [count_bad] at h; cases h
theorem text_ok {l : List UInt8} {b : Bool} (h : (textS l b).2.2 = false) : b = false := by cases b; rfl; rw [text_bad] at h; cases h
theorem getDs_ok {n : Nat} {l : List UInt8} {b : Bool} (h : (getDs n l b).2.2 = false) : b = false := by cases b; rfl; rw [getDs_bad] at h; cases h
theorem count_int {l : List UInt8} {b : Bool} {m : Nat} (h : (intS l b).1 ≤ m) : countS l b m = intS l b := if_neg (by omega)
theorem count_int' {l : List UInt8} {b : Bool} {m : Nat} (h : (countS l b m).2.2 = false) : countS l b m = intS l b := by
 unfold countS at h ⊢
 split at h
 ·cases h
 ·rename_i hc; rw [if_neg hc]
theorem int_num {l : List UInt8} {b : Bool} (h : (numS l b).1 ≤ 9223372036854775807) : intS l b = numS l b := if_neg (by omega)
theorem int_num' {l : List UInt8} {b : Bool} (h : (intS l b).2.2 = false) : intS l b = numS l b := by
 unfold intS at h ⊢
 split at h
 ·cases h
 ·rename_i hc; rw [if_neg hc]
/-- So many deltas, till one is not there. -/
def rreadDs : Nat → List UInt8 → Bool → List DeltaD × List UInt8 × Bool
 | 0, l, b => ([], l, b)
 | k + 1, l, b => if b = true then ([], l, b) else
  (⟨⟨(textS l b).1.toArray⟩, (numS (textS l b).2.1 (textS l b).2.2).1⟩ :: (rreadDs k (numS (textS l b).2.1 (textS l b).2.2).2.1 (numS (textS l b).2.1 (textS l b).2.2).2.2).1, (rreadDs k (numS (textS l b).2.1 (textS l b).2.2).2.1 (numS (textS l b).2.1 (textS l b).2.2).2.2).2)
theorem rreadDs_bad (n : Nat) (l : List UInt8) : rreadDs n l true = ([], l, true) := by cases n; rfl; rw [rreadDs, if_pos rfl]
theorem rreadDs_eq : ∀ (n : Nat) (l : List UInt8) (b : Bool), (getDs n l b).2.2 = false ∨ (rreadDs n l b).2.2 = false → rreadDs n l b = getDs n l b
 | 0, _, _, _ => rfl
 | n + 1, l, b, h => by
  have hb : b = false := by
   rcases h with h | h
   ·exact getDs_ok h
   ·cases b
    ·rfl
    ·rw [rreadDs_bad] at h; cases h
  subst hb
  rw [rreadDs, if_neg (by simp)] at h ⊢
  simp only [getDs] at h ⊢
  rw [rreadDs_eq n _ _ h]
theorem rreadDs_len : ∀ (n : Nat) (l : List UInt8) (b : Bool), (rreadDs n l b).2.2 = false → (rreadDs n l b).1.length = n
 | 0, _, _, _ => rfl
 | n + 1, l, b, h => by
  cases b with
  | true => rw [rreadDs_bad] at h; cases h
  | false =>
   rw [rreadDs, if_neg (by simp)] at h ⊢
   simp only [] at h ⊢
   rw [List.length_cons, rreadDs_len n _ _ h]
def rreadX (k fr tag : Nat) (l : List UInt8) (b : Bool) : EntryD × List UInt8 × Bool :=
 if k = 2 then (⟨k, 0, 0, 0, 0, [], ⟨(textS l b).1.toArray⟩, fr, tag⟩, (textS l b).2)
 else if k = 1 then
  let a := intS l b
  let s := intS a.2.1 a.2.2
  let q := intS s.2.1 s.2.2
  let p := intS q.2.1 q.2.2
  let n := numS p.2.1 p.2.2
  let d := rreadDs n.1 n.2.1 n.2.2
  (⟨k, a.1, s.1, q.1, p.1, d.1, ⟨#[]⟩, fr, tag⟩, d.2)
 else (⟨k, 0, 0, 0, 0, [], ⟨#[]⟩, fr, tag⟩, l, b)
def rreadH (b : List UInt8) : EntryD × List UInt8 × Bool :=
 let k := byteS b false
 let f := intS k.2.1 k.2.2
 let t := intS f.2.1 f.2.2
 rreadX k.1.toNat f.1 t.1 t.2.1 t.2.2
def rreadE (b : List UInt8) : EntryD × Nat := if (!(rreadH b).2.2 && (rreadH b).2.1.isEmpty) = true ∧ rightE (rreadH b).1 = 0 then ((rreadH b).1, 0) else (zeroD, 12)
theorem rreadX_tag (k fr tag : Nat) (l : List UInt8) (b : Bool) : (rreadX k fr tag l b).1.kind = k ∧ (rreadX k fr tag l b).1.fr = fr ∧ ((rreadX k fr tag l b).2.2 = false → b = false) := by
 unfold rreadX
 split
 ·exact ⟨rfl, rfl, fun h => text_ok h⟩
 ·split
  ·refine ⟨rfl, rfl, fun h => ?_⟩
   simp only [] at h
   have h1 : (numS (intS (intS (intS (intS l b).2.1 (intS l b).2.2).2.1 (intS (intS l b).2.1 (intS l b).2.2).2.2).2.1 (intS (intS (intS l b).2.1 (intS l b).2.2).2.1 (intS (intS l b).2.1 (intS l b).2.2).2.2).2.2).2.1 (intS (intS (intS (intS l b).2.1 (intS l b).2.2).2.1 (intS (intS l b).2.1 (intS l b).2.2).2.2).2.1 (intS (intS (intS l b).2.1 (intS l b).2.2).2.1 (intS (intS l b).2.1 (intS l b).2.2).2.2).2.2).2.2).2.2 = false := by
    rw [rreadDs_eq _ _ _ (.inr h)] at h
    exact getDs_ok h
   exact int_ok (int_ok (int_ok (int_ok (num_ok h1))))
  ·exact ⟨rfl, rfl, fun h => h⟩
theorem readX_tag (k fr tag : Nat) (l : List UInt8) (b : Bool) : (readX k fr tag l b).1.kind = k ∧ (readX k fr tag l b).1.fr = fr ∧ ((readX k fr tag l b).2.2 = false → b = false) := by
 by_cases hk : k = 2
 ·subst hk
  rw [readX_two]
  exact ⟨rfl, rfl, fun h => text_ok h⟩
 ·obtain ⟨a, s, q, p, n, d, ha, hs, hq, hp, hn, hd, e⟩ := readX_else k fr tag l b hk
  rw [e]
  refine ⟨rfl, rfl, fun h => ?_⟩
  simp only [] at h
  rw [hd] at h
  have h1 := getDs_ok h
  rw [hn] at h1
  have h2 := count_ok h1
  rw [hp] at h2
  have h3 := int_ok h2
  rw [hq] at h3
  have h4 := int_ok h3
  rw [hs] at h4
  have h5 := count_ok h4
  rw [ha] at h5
  exact count_ok h5
theorem kind_12 {e : EntryD} (h : rightE e = 0) : e.kind = 1 ∨ e.kind = 2 := by
 rcases (right_facts h).2 with h | h
 ·exact .inr h
 ·exact .inl h.1
theorem rreadX_eq (k fr tag : Nat) (l : List UInt8) (b : Bool) (h : ((readX k fr tag l b).2.2 = false ∧ rightE (readX k fr tag l b).1 = 0) ∨ ((rreadX k fr tag l b).2.2 = false ∧ rightE (rreadX k fr tag l b).1 = 0)) : rreadX k fr tag l b = readX k fr tag l b := by
 have hkk : k = 1 ∨ k = 2 := by
  rcases h with ⟨_, h⟩ | ⟨_, h⟩
  ·have h1 := (readX_tag k fr tag l b).1
   rcases kind_12 h with h2 | h2 <;> rw [h1] at h2 <;> omega
  ·have h1 := (rreadX_tag k fr tag l b).1
   rcases kind_12 h with h2 | h2 <;> rw [h1] at h2 <;> omega
 rcases hkk with rfl | rfl
 ·obtain ⟨a, s, q, p, n, d, ha, hs, hq, hp, hn, hd, e⟩ := readX_else 1 fr tag l b (by omega)
  have er : rreadX 1 fr tag l b = (let a := intS l b
   let s := intS a.2.1 a.2.2
   let q := intS s.2.1 s.2.2
   let p := intS q.2.1 q.2.2
   let n := numS p.2.1 p.2.2
   let d := rreadDs n.1 n.2.1 n.2.2
   (⟨(1 : Nat), a.1, s.1, q.1, p.1, d.1, ⟨#[]⟩, fr, tag⟩, d.2)) := rfl
  simp only [] at er
  rcases h with ⟨h0, hr⟩ | ⟨h0, hr⟩
  ·rw [e] at h0
   simp only [] at h0
   rw [hd] at h0
   have b1 := getDs_ok h0
   rw [hn] at b1
   have b2 := count_ok b1
   rw [hp] at b2
   have b3 := int_ok b2
   rw [hq] at b3
   have b4 := int_ok b3
   rw [hs] at b4
   have b5 := count_ok b4
   have ea : a = intS l b := by rw [ha] at b5 ⊢; exact count_int' b5
   have es : s = intS a.2.1 a.2.2 := by rw [hs]; exact count_int' b4
   have en : n = numS p.2.1 p.2.2 := by
    have h1 : n = intS p.2.1 p.2.2 := by rw [hn]; exact count_int' b1
    rw [h1]
    refine int_num' ?_
    rw [← h1, hn]; exact b1
   rw [er, e, ← ea, ← es, ← hq, ← hp, ← en, rreadDs_eq _ _ _ (.inl h0), ← hd]
  ·rw [er] at h0 hr
   obtain ⟨⟨f0, f8, _⟩, hx⟩ := right_facts hr
   simp only [] at h0 hx
   have hx := hx.resolve_left (by simp)
   obtain ⟨_, _, x1, _, x2, _, _, x3⟩ := hx
   have hl := rreadDs_len _ _ _ h0
   have ea : a = intS l b := by rw [ha]; exact count_int (by omega)
   rw [← ea] at h0 hr x2 x3 hl er
   have es : s = intS a.2.1 a.2.2 := by rw [hs]; exact count_int (by omega)
   rw [← es, ← hq, ← hp] at h0 hr x3 hl er
   have en : n = numS p.2.1 p.2.2 := by
    have h1 : intS p.2.1 p.2.2 = numS p.2.1 p.2.2 := int_num (by omega)
    rw [hn, count_int (by rw [h1]; omega), h1]
   rw [← en] at h0 er
   rw [er, e, rreadDs_eq _ _ _ (.inr h0), ← hd]
 ·rw [readX_two]; rfl
theorem rreadE_eq (b : List UInt8) : rreadE b = readE b := by
 have key : ((readH b).2.2 = false ∧ rightE (readH b).1 = 0) ∨ ((rreadH b).2.2 = false ∧ rightE (rreadH b).1 = 0) → rreadH b = readH b := by
  intro h
  unfold readH rreadH at h ⊢
  simp only [] at h ⊢
  generalize byteS b false = k at *
  have hf : countS k.2.1 k.2.2 8 = intS k.2.1 k.2.2 := by
   rcases h with ⟨h0, hr⟩ | ⟨h0, hr⟩
   ·exact count_int' (int_ok ((readX_tag _ _ _ _ _).2.2 h0))
   ·have h1 := (right_facts hr).1.2.1
    rw [(rreadX_tag _ _ _ _ _).2.1] at h1
    exact count_int (by omega)
  rw [hf] at h ⊢
  exact rreadX_eq _ _ _ _ _ h
 unfold rreadE readE
 by_cases ho : (readH b).2.2 = false ∧ rightE (readH b).1 = 0
 ·rw [key (.inl ho)]
 ·by_cases hr : (rreadH b).2.2 = false ∧ rightE (rreadH b).1 = 0
  ·rw [key (.inr hr)]
  ·rw [if_neg, if_neg]
   ·rintro ⟨h1, h2⟩
    rw [Bool.and_eq_true] at h1
    exact ho ⟨by simpa using h1.1, h2⟩
   ·rintro ⟨h1, h2⟩
    rw [Bool.and_eq_true] at h1
    exact hr ⟨by simpa using h1.1, h2⟩
end Go.Proofs.YtinnifhnabncfaaGreatDoor.Vi
end
section
namespace Go.Proofs.YtinnifhnabncfaaGreatDoor.Vi
open Go.RowKit Base Mem Go.Shelf
def zeroA : Array Value := #[.int .i64 0, .int .i64 0, .int .i64 0, .int .i64 0, .int .i64 0, .slice none 0 0, .string ⟨#[]⟩, .int .i64 0, .int .i64 0]
/-- What stands between two calls: the reader, the result's block, the entry's block. -/
structure Re (w0 w : World) (p g0 g5 : Nat) (l : List UInt8) (bad : Bool) (c : Array Value) : Prop where
 rd : RdAt w [g5] p l bad
 keeps : Below w0.heap.size w0 w
 b0 : Blk w g0 26 zeroA
 b5 : Blk w g5 26 c
 o0 : w0.heap.size ≤ g0
 o1 : g0 < p
 o2 : p < g5
theorem Re.step {w0 w w' : World} {p g0 g5 : Nat} {l l' : List UInt8} {bad bad' : Bool} {c : Array Value} (h : Re w0 w p g0 g5 l bad c) (hr : RdAt w' [g5] p l' bad') (hk : Keeps [p] w w') : Re w0 w' p g0 g5 l' bad' c := by
 have h0 := h.o0; have h1 := h.o1; have h2 := h.o2
 exact ⟨hr, ((Keeps.of_below (M := []) h.keeps).trans hk (by intro g hg; simp at hg; right; omega)).below, hk.blk h.b0 (by simp; omega), hk.blk h.b5 (by simp; omega), h0, h1, h2⟩
theorem Re.set {w0 w : World} {p g0 g5 : Nat} {l : List UInt8} {bad : Bool} {c : Array Value} (h : Re w0 w p g0 g5 l bad c) (i : Nat) (v : Value) : Re w0 (w.setCell ⟨g5, i, none⟩ v) p g0 g5 l bad (c.setIfInBounds i v) := by
 have h0 := h.o0; have h1 := h.o1; have h2 := h.o2
 have hk : Keeps [g5] w (w.setCell ⟨g5, i, none⟩ v) := (Keeps.refl _ _).setCell (by simp) v
 exact ⟨h.rd.keep hk (by simp) (by simp; omega), ((Keeps.of_below (M := []) h.keeps).trans hk (by intro g hg; simp at hg; right; omega)).below, hk.blk h.b0 (by simp; omega), h.b5.set_ i v, h0, h1, h2⟩
theorem blk9 {w : World} {g : Nat} {t : TypeId} {c0 c1 c2 c3 c4 c5 c6 c7 c8 : Value} (h : Blk w g t #[c0, c1, c2, c3, c4, c5, c6, c7, c8]) :
  w.cell? ⟨g, 0, none⟩ = some c0 ∧ w.cell? ⟨g, 1, none⟩ = some c1 ∧ w.cell? ⟨g, 2, none⟩ = some c2 ∧ w.cell? ⟨g, 3, none⟩ = some c3 ∧ w.cell? ⟨g, 4, none⟩ = some c4 ∧ w.cell? ⟨g, 5, none⟩ = some c5 ∧ w.cell? ⟨g, 6, none⟩ = some c6 ∧ w.cell? ⟨g, 7, none⟩ = some c7 ∧ w.cell? ⟨g, 8, none⟩ = some c8 ∧ (∀ i, w.frozen? ⟨g, i, none⟩ = false) :=
 ⟨h.cell 0, h.cell 1, h.cell 2, h.cell 3, h.cell 4, h.cell 5, h.cell 6, h.cell 7, h.cell 8, h.frozen⟩
/-- What a read answers. -/
def ReadPost (r : EntryD × Nat) (w : World) (e : Ending) (w' : World) : Prop := ∃ dv, e = .returned (.tuple #[.agg (eCell (r.1, dv)).toArray, .int .i64 r.2]) ∧ (∀ M, (∀ g ∈ M, g < w.heap.size) → Ds w' M dv r.1.ds) ∧ Below w.heap.size w w'
/-- What stands where both ways have met. -/
def ReCut (w wx : World) (p g5 : Nat) (RH : EntryD × List UInt8 × Bool) : Prop := ∃ dv, Re w wx p w.heap.size g5 RH.2.1 RH.2.2 (eCell (RH.1, dv)).toArray ∧ ∀ M, (∀ g ∈ M, g ≤ w.heap.size) → Ds wx M dv RH.1.ds
set_option maxRecDepth 100000 in
set_option maxHeartbeats 1000000 in
theorem eread_any (v : Value) (l : List UInt8) (m : Int) (w : World) (h : Bs w [] v l) (hl : l.length < 4294967281) (hm : w.cell? ⟨0, 0, none⟩ = some (.int .i64 m)) :
  Calls Tryz.prog 70 #[v] w fun e w' => ReadPost (readE l) w e w' := by
 have hw0 : 0 < w.heap.size := by
  have := World.block_lt_of_cell? w _ hm
  simpa using this
 have Hm := Lib.hid hm
 have hsh := Lib.hid (readH_short l hl)
 have HE : Hid (readE l = if (!(readH l).2.2 && (readH l).2.1.isEmpty) = true ∧ rightE (readH l).1 = 0 then ((readH l).1, 0) else (zeroD, 12)) := rfl
 obtain ⟨kt, ft, tt, hk, hf, ht, hH⟩ := readH_eq l
 generalize readE l = RE at *
 generalize readH l = RH at *
 obtain ⟨A, c, rfl, hc⟩ := h.len
 have Hh := Lib.hid h
 have Hk := Lib.hid hk; have Hf := Lib.hid hf; have Ht := Lib.hid ht; have HH := Lib.hid hH
 clear h hm hk hf ht hH
 go_enter Tryz.func70, Tryz.ntmps70
 go_wp2_with fail
 refine (new_any [] _ l (w.alloc (.cells zeroA 26)) (Hh.out.keep (M' := []) ((Keeps.refl _ _).alloc _) (by simp)) (by omega)).mono ?_
 rintro e w1 ⟨rfl, hrd, hb1⟩
 have hsz : (w.alloc (.cells zeroA 26)).heap.size = w.heap.size + 1 := by simp
 rw [hsz] at hrd hb1 ⊢
 have hB0 : Blk w1 w.heap.size 26 zeroA := (Blk.new w 26 zeroA).below (B := w.heap.size + 1) hb1 (by omega)
 have hbw : Below w.heap.size w w1 := ((Below.refl _ _).alloc (Nat.le_refl _) _).trans (hb1.mono (by omega))
 obtain ⟨p, hp⟩ : ∃ p, p = w.heap.size + 1 := ⟨_, rfl⟩
 rw [← hp] at hrd hb1 ⊢
 have Hrd := Lib.hid hrd; have HB0 := Lib.hid hB0; have Hbw := Lib.hid hbw
 have hpw : w.heap.size < p := by omega
 have hpw1 : p < w1.heap.size := hrd.lt
 clear hrd hB0 hbw hb1 hsz hp
 go_wp2_with fail
 have hby := Lib.hid (byte_any [] p l false w1 Hrd.out)
 rw [← Hk.out] at hby
 obtain ⟨k1, k2, k3⟩ := kt
 simp only [] at hby Hf HH
 refine hby.out.mono ?_
 rintro e w2 ⟨rfl, hrd2, hk2⟩
 have HB2 := Lib.hid (hk2.blk HB0.out (by simp; omega))
 have Hbw2 := Lib.hid ((Keeps.of_below (M := []) Hbw.out).trans hk2 (by intro g hg; simp at hg; right; omega)).below
 have Hrd2 := Lib.hid hrd2
 have hp2 : p < w2.heap.size := hrd2.lt
 simp only [bV]
 have hk256 := UInt8.toNat_lt k1
 generalize k1.toNat = k at *
 have hwk : IntKind.i64.wrap (k : Int) = (k : Int) := by rw [IntKind.wrap_i64]; omega
 clear hrd2 hk2 hby Hbw HB0 Hrd Hk hk256
 go_wp2_with fail
 have hst : Re w (w2.alloc (.cells #[.int .i64 k, .int .i64 0, .int .i64 0, .int .i64 0, .int .i64 0, .slice none 0 0, .string ⟨#[]⟩, .int .i64 0, .int .i64 0] 26)) p w.heap.size w2.heap.size k2 k3 #[.int .i64 k, .int .i64 0, .int .i64 0, .int .i64 0, .int .i64 0, .slice none 0 0, .string ⟨#[]⟩, .int .i64 0, .int .i64 0] :=
  ⟨(Hrd2.out.avoid (M' := [w2.heap.size]) (by intro g hg; simp at hg; right; omega)).keep (M' := []) ((Keeps.refl _ _).alloc _) (by simp) (by simp), Hbw2.out.alloc (by omega) _, HB2.out.below (below_new' w2 _) (by omega), Blk.new w2 _ _, Nat.le_refl _, hpw, hp2⟩
 have H3 := Lib.hid hst
 clear hst HB2 Hbw2 Hrd2
 generalize hw3 : w2.alloc _ = w3 at *
 generalize w2.heap.size = g5 at *
 clear hw3
 have hct := Lib.hid (count_any [g5] p k2 k3 8 (by omega) w3 H3.out.rd)
 rw [← Hf.out] at hct
 obtain ⟨f1, f2, f3⟩ := ft
 simp only [] at hct Ht HH
 refine hct.out.mono ?_
 rintro e w4 ⟨rfl, hA4, hk4⟩
 have H4 := Lib.hid (H3.out.step hA4 hk4)
 clear hA4 hk4 H3 hct Hf
 go_wp2_with fail
 have hct := Lib.hid (rint_any [g5] p f2 f3 w4 H4.out.rd)
 rw [← Ht.out] at hct
 obtain ⟨t1, t2, t3⟩ := tt
 simp only [] at hct HH
 refine hct.out.mono ?_
 rintro e w5 ⟨rfl, hA5, hk5⟩
 have H5 := Lib.hid (H4.out.step hA5 hk5)
 clear hA5 hk5 H4 hct Ht
 obtain ⟨q0, q1, q2, q3, q4, q5, q6, q7, q8, qf⟩ := blk9 H5.out.b5
 have H6 : Hid (Re w ((w5.setCell ⟨g5, 7, none⟩ (.int .i64 f1)).setCell ⟨g5, 8, none⟩ (.int .i64 t1)) p w.heap.size g5 t2 t3 #[.int .i64 k, .int .i64 0, .int .i64 0, .int .i64 0, .int .i64 0, .slice none 0 0, .string ⟨#[]⟩, .int .i64 f1, .int .i64 t1]) :=
  (by simpa using (H5.out.set 7 (.int .i64 f1)).set 8 (.int .i64 t1) : Re w _ p w.heap.size g5 t2 t3 _)
 have ho2 := H5.out.o2
 clear H5
 go_upto_if 20 with (fail)
 go_cut [] (fun wx => ReCut w wx p g5 RH)
 case first =>
  generalize (w5.setCell ⟨g5, 7, none⟩ (.int .i64 f1)).setCell ⟨g5, 8, none⟩ (.int .i64 t1) = w6 at *
  clear q0 q1 q2 q3 q4 q5 q6 q7 q8 qf
  obtain ⟨q0, q1, q2, q3, q4, q5, q6, q7, q8, qf⟩ := blk9 H6.out.b5
  by_cases hk2 : k = 2
  ·subst hk2
   have HH2 : Hid (RH = (⟨(2 : Nat), 0, 0, 0, 0, [], ⟨(textS t2 t3).1.toArray⟩, f1, t1⟩, (textS t2 t3).2)) := by show _ = _; rw [HH.out, readX_two]
   clear HH
   have hct := Lib.hid (rtext_any [g5] p t2 t3 w6 H6.out.rd)
   generalize textS t2 t3 = s at *
   obtain ⟨s1, s2, s3⟩ := s
   simp only [] at hct HH2
   go_wp2_with fail
   refine hct.out.mono ?_
   rintro e w7 ⟨rfl, hA7, hk7⟩
   have H7 := Lib.hid (H6.out.step hA7 hk7)
   clear hA7 hk7 H6 hct q0 q1 q2 q3 q4 q5 q6 q7 q8 qf
   obtain ⟨q0, q1, q2, q3, q4, q5, q6, q7, q8, qf⟩ := blk9 H7.out.b5
   have hC : Hid (ReCut w (w7.setCell ⟨g5, 6, none⟩ (.string ⟨s1.toArray⟩)) p g5 RH) := by
    show ReCut _ _ _ _ _
    rw [HH2.out]
    exact ⟨.slice none 0 0, by simpa [eCell] using H7.out.set 6 (.string ⟨s1.toArray⟩), fun M _ => Ds.nil _ _⟩
   clear H7
   go_wp2_with fail
   go_meet
   exact hC.out
  ·have hkb : ((k : Int) == 2) = false := by simp; omega
   obtain ⟨a, s, u, pp, n, d, ha, hs, hq, hpp, hn, hd, e⟩ := readX_else k f1 t1 t2 t3 hk2
   have HH2 := Lib.hid (HH.out.trans e)
   have Ha := Lib.hid ha; have Hs := Lib.hid hs; have Hq := Lib.hid hq; have Hpp := Lib.hid hpp; have Hn := Lib.hid hn; have Hd := Lib.hid hd
   clear HH ha hs hq hpp hn hd e hk2
   have hct := Lib.hid (count_any [g5] p t2 t3 8 (by omega) w6 H6.out.rd)
   rw [← Ha.out] at hct
   obtain ⟨a1, a2, a3⟩ := a
   simp only [] at hct Hs HH2
   go_wp2_with fail
   refine hct.out.mono ?_
   rintro e wa ⟨rfl, hA, hk⟩
   have HA6 := Lib.hid (H6.out.step hA hk)
   clear hA hk H6 hct Ha
   have hct := Lib.hid (count_any [g5] p a2 a3 4 (by omega) wa HA6.out.rd)
   rw [← Hs.out] at hct
   obtain ⟨s1, s2, s3⟩ := s
   simp only [] at hct Hq HH2
   go_wp2_with fail
   refine hct.out.mono ?_
   rintro e wb ⟨rfl, hA, hk⟩
   have HB6 := Lib.hid (HA6.out.step hA hk)
   clear hA hk HA6 hct Hs
   clear q0 q1 q2 q3 q4 q5 q6 q7 q8 qf
   obtain ⟨q0, q1, q2, q3, q4, q5, q6, q7, q8, qf⟩ := blk9 HB6.out.b5
   have HC6 : Hid (Re w (((wb.setCell ⟨g5, 1, none⟩ (.int .i64 a1)).setCell ⟨g5, 2, none⟩ (.int .i64 s1)).setCell ⟨g5, 3, none⟩ (.int .i64 0)) p w.heap.size g5 s2 s3 #[.int .i64 k, .int .i64 a1, .int .i64 s1, .int .i64 0, .int .i64 0, .slice none 0 0, .string ⟨#[]⟩, .int .i64 f1, .int .i64 t1]) :=
    (by simpa using ((HB6.out.set 1 (.int .i64 a1)).set 2 (.int .i64 s1)).set 3 (.int .i64 0) : Re w _ p w.heap.size g5 s2 s3 _)
   clear HB6
   go_wp2_with fail
   generalize hwd : ((wb.setCell ⟨g5, 1, none⟩ (.int .i64 a1)).setCell ⟨g5, 2, none⟩ (.int .i64 s1)).setCell ⟨g5, 3, none⟩ (.int .i64 0) = wd at *
   clear hwd
   have hct := Lib.hid (rint_any [g5] p s2 s3 wd HC6.out.rd)
   rw [← Hq.out] at hct
   obtain ⟨u1, u2, u3⟩ := u
   simp only [] at hct Hpp HH2
   refine hct.out.mono ?_
   rintro e we ⟨rfl, hA, hk⟩
   have HE6 := Lib.hid (HC6.out.step hA hk)
   clear hA hk HC6 hct Hq
   have hct := Lib.hid (rint_any [g5] p u2 u3 we HE6.out.rd)
   rw [← Hpp.out] at hct
   obtain ⟨pp1, pp2, pp3⟩ := pp
   simp only [] at hct Hn HH2
   go_wp2_with fail
   refine hct.out.mono ?_
   rintro e wf ⟨rfl, hA, hk⟩
   have HF6 := Lib.hid (HE6.out.step hA hk)
   clear hA hk HE6 hct Hpp
   clear q0 q1 q2 q3 q4 q5 q6 q7 q8 qf
   obtain ⟨q0, q1, q2, q3, q4, q5, q6, q7, q8, qf⟩ := blk9 HF6.out.b5
   have HG6 : Hid (Re w ((wf.setCell ⟨g5, 3, none⟩ (.int .i64 u1)).setCell ⟨g5, 4, none⟩ (.int .i64 pp1)) p w.heap.size g5 pp2 pp3 #[.int .i64 k, .int .i64 a1, .int .i64 s1, .int .i64 u1, .int .i64 pp1, .slice none 0 0, .string ⟨#[]⟩, .int .i64 f1, .int .i64 t1]) :=
    (by simpa using (HF6.out.set 3 (.int .i64 u1)).set 4 (.int .i64 pp1) : Re w _ p w.heap.size g5 pp2 pp3 _)
   clear HF6
   go_wp2_with fail
   generalize hwg : (wf.setCell ⟨g5, 3, none⟩ (.int .i64 u1)).setCell ⟨g5, 4, none⟩ (.int .i64 pp1) = wg at *
   clear hwg
   have hn8 := countS_most pp2 pp3 8
   rw [← Hn.out] at hn8
   have hct := Lib.hid (count_any [g5] p pp2 pp3 8 (by omega) wg HG6.out.rd)
   rw [← Hn.out] at hct
   obtain ⟨n1, n2, n3⟩ := n
   simp only [] at hct hn8 Hd HH2
   refine hct.out.mono ?_
   rintro e wh ⟨rfl, hA, hk⟩
   have HH6 := Lib.hid (HG6.out.step hA hk)
   clear hA hk HG6 hct Hn
   have hct := Lib.hid (get_ds [g5] p n1 n2 n3 wh HH6.out.rd hn8)
   have Hdn := Lib.hid (getDs_short n1 n2 n3).2
   unfold GetPost at hct
   rw [← Hd.out] at hct Hdn
   obtain ⟨d1, d2, d3⟩ := d
   simp only [] at hct HH2 Hdn
   go_wp2_with fail
   refine hct.out.mono ?_
   rintro e wi ⟨dv, rfl, hown, hA, hk⟩
   have hgh : g5 < wh.heap.size := HH6.out.b5.lt
   have hgw : w.heap.size < wh.heap.size := HH6.out.b0.lt
   have HI6 := Lib.hid (HH6.out.step hA hk)
   rw [← Hdn.out] at hown
   have HD : Hid (∀ M, (∀ g ∈ M, g ≤ w.heap.size) → Ds wi (g5 :: M) dv d1) := fun M hM => Rd.of_own hown (by intro g hg; rcases List.mem_cons.1 hg with rfl | hg; exact hgh; have := hM g hg; omega)
   obtain ⟨Ad, cd, rfl, hcd⟩ := (HD.out [] (by simp)).len
   clear hA hk HH6 hct Hd hown
   clear q0 q1 q2 q3 q4 q5 q6 q7 q8 qf
   obtain ⟨q0, q1, q2, q3, q4, q5, q6, q7, q8, qf⟩ := blk9 HI6.out.b5
   have hC : Hid (ReCut w (wi.setCell ⟨g5, 5, none⟩ (.slice Ad d1.length cd)) p g5 RH) := by
    show ReCut _ _ _ _ _
    rw [HH2.out]
    exact ⟨.slice Ad d1.length cd, by simpa [eCell] using HI6.out.set 5 (.slice Ad d1.length cd), fun M hM => Rd.more ((HD.out M hM).keep (M' := [g5]) ((Keeps.refl _ _).setCell (by simp) _) (by simp))⟩
   clear HI6 HD
   go_wp2_with fail
   go_meet
   exact hC.out
 case rest =>
  obtain ⟨dv, hRe, hDs⟩ := hcut
  have HRe := Lib.hid hRe; have HDs := Lib.hid hDs
  clear hRe hDs H6 q0 q1 q2 q3 q4 q5 q6 q7 q8 qf HH
  obtain ⟨e, lx, bx⟩ := RH
  simp only [] at hsh HE HRe HDs
  obtain ⟨Ad, cd, rfl, hcd⟩ := (HDs.out [] (by simp)).len
  have hdw := Lib.hid (done_any [g5] p lx bx _ HRe.out.rd)
  obtain ⟨r0, r1, r2, r3, r4, r5, r6, r7, r8, rf⟩ := blk9 HRe.out.b0
  have ho0 := HRe.out.o0; have ho1 := HRe.out.o1
  cases hdone : (!bx && lx.isEmpty) with
  | false =>
   obtain rfl : RE = (zeroD, 12) := by rw [HE.out, hdone, if_neg (by simp)]
   rw [hdone] at hdw
   clear hdone HE
   go_wp2_with fail
   refine hdw.out.mono ?_
   rintro r w' ⟨rfl, rfl⟩
   go_wp2
   refine bodyPost_ret (v := .tuple #[.agg zeroA, .int .i64 12]) (by simp [results, Tryz.results70, go_sem, zeroA, r0, r1, r2, r3, r4, r5, r6, r7, r8]) rfl ?_
   refine ⟨.slice none 0 0, rfl, fun M _ => Ds.nil _ _, ?_⟩
   repeat (first | (with_reducible exact HRe.out.keeps) | (with_reducible refine Below.setCell ?_ (by simp) _))
  | true =>
   rw [hdone] at hdw
   have hri := Lib.hid (eright_any e _ m wc (HDs.out [] (by simp)) hsh.out.1 ((HRe.out.keeps.cell (p := ⟨0, 0, none⟩) hw0).trans Hm.out))
   have HR : Hid (RE = if rightE e = 0 then (e, 0) else (zeroD, 12)) := by show _ = _; rw [HE.out, hdone]; simp
   clear hdone HE
   generalize rightE e = rr at *
   obtain ⟨kind, ag, sh, seq, ep, ds, ser, fr, tag⟩ := e
   simp only [eCell] at hri HRe HDs HR hcd
   obtain ⟨q0, q1, q2, q3, q4, q5, q6, q7, q8, qf⟩ := blk9 HRe.out.b5
   have ho2 := HRe.out.o2
   have hg5 : g5 < wc.heap.size := HRe.out.b5.lt
   have hwc : w.heap.size < wc.heap.size := HRe.out.b0.lt
   go_wp2_with fail
   refine hdw.out.mono ?_
   rintro r w' ⟨rfl, rfl⟩
   go_wp2_with fail
   refine hri.out.mono ?_
   rintro r w9 ⟨rfl, hb9⟩
   have H9 := Lib.hid (HRe.out.keeps.trans (hb9.mono HRe.out.keeps.size))
   have HB0 := Lib.hid (HRe.out.b0.below hb9 hwc)
   have HB5 := Lib.hid (HRe.out.b5.below hb9 hg5)
   have HD9 : Hid (∀ M, (∀ g ∈ M, g ≤ w.heap.size) → Ds w9 M (.slice Ad ds.length cd) ds) := fun M hM => (HDs.out M hM).keep (Keeps.of_below (M := []) hb9) (by simp)
   clear hb9 hri hdw r0 r1 r2 r3 r4 r5 r6 r7 r8 rf q0 q1 q2 q3 q4 q5 q6 q7 q8 qf
   obtain ⟨r0, r1, r2, r3, r4, r5, r6, r7, r8, rf⟩ := blk9 HB0.out
   obtain ⟨q0, q1, q2, q3, q4, q5, q6, q7, q8, qf⟩ := blk9 HB5.out
   by_cases hrr : rr = 0
   ·obtain rfl : RE = (⟨kind, ag, sh, seq, ep, ds, ser, fr, tag⟩, 0) := by rw [HR.out, if_pos hrr]
    subst hrr
    clear HR
    go_wp2
    refine bodyPost_ret (v := .tuple #[.agg #[.int .i64 kind, .int .i64 ag, .int .i64 sh, .int .i64 seq, .int .i64 ep, .slice Ad ds.length cd, .string ser, .int .i64 fr, .int .i64 tag], .int .i64 0]) (by simp [results, Tryz.results70, go_sem, r0, r1, r2, r3, r4, r5, r6, r7, r8]) rfl ?_
    refine ⟨.slice Ad ds.length cd, rfl, fun M hM => ?_, ?_⟩
    ·have h1 := HD9.out (w.heap.size :: M) (by intro g hg; rcases List.mem_cons.1 hg with rfl | hg; exact Nat.le_refl _; exact Nat.le_of_lt (hM g hg))
     refine Rd.more (h1.keep (M' := [w.heap.size]) ?_ (by simp))
     repeat (first | (with_reducible exact Keeps.refl _ _) | (with_reducible refine Keeps.setCell ?_ (by simp) _))
    ·repeat (first | (with_reducible exact H9.out) | (with_reducible refine Below.setCell ?_ (by simp) _))
   ·obtain rfl : RE = (zeroD, 12) := by rw [HR.out, if_neg hrr]
    have hne : ((rr : Int) != 0) = true := by simpa using hrr
    clear HR hrr
    go_wp2
    refine bodyPost_ret (v := .tuple #[.agg zeroA, .int .i64 12]) (by simp [results, Tryz.results70, go_sem, zeroA, r0, r1, r2, r3, r4, r5, r6, r7, r8]) rfl ?_
    refine ⟨.slice none 0 0, rfl, fun M _ => Ds.nil _ _, ?_⟩
    repeat (first | (with_reducible exact H9.out) | (with_reducible refine Below.setCell ?_ (by simp) _))

def dEq (x y : DeltaD) : Bool := x.ser.toList == y.ser.toList && (x.n == y.n)
def dsEq (a b : List DeltaD) : Bool := Lib.allEq dEq a b
/-- Are entries the same? -/
def sameE (a b : EntryD) : Bool := a.kind == b.kind && eqI a.ag a.sh a.seq b.ag b.sh b.seq && a.ep == b.ep && dsEq a.ds b.ds && a.ser.toList == b.ser.toList && a.fr == b.fr && a.tag == b.tag
def SamePost (r : Bool) (w : World) (e : Ending) (w' : World) : Prop := e = .returned (.bool r) ∧ Below w.heap.size w w'


end Go.Proofs.YtinnifhnabncfaaGreatDoor.Vi
end
section
namespace Go.Proofs.YtinnifhnabncfaaGreatDoor.Tape
open Go.RowKit Base Mem
def withinS (n lo hi : Int) : Int := if lo ≤ n ∧ n ≤ hi then n else lo + n % (hi - lo + 1)
theorem tmod_fix (n m : Int) (hm : 0 < m) : (n.tmod m < 0 → n.tmod m + m = n % m) ∧ (¬ n.tmod m < 0 → n.tmod m = n % m) := by
 have h := Int.tmod_eq_emod (a := n) (b := m)
 have h1 := Int.emod_nonneg n (show m ≠ 0 by omega)
 have h2 := Int.emod_lt_of_pos n hm
 split at h
 ·omega
 ·rename_i hc
  have h3 : n % m ≠ 0 := fun h0 => hc (.inr (Int.dvd_of_emod_eq_zero h0))
  omega
theorem within_bd (n lo hi : Int) (h : lo ≤ hi) : lo ≤ withinS n lo hi ∧ withinS n lo hi ≤ hi := by
 unfold withinS
 have h1 := Int.emod_nonneg n (show hi - lo + 1 ≠ 0 by omega)
 have h2 := Int.emod_lt_of_pos n (show 0 < hi - lo + 1 by omega)
 split <;> omega
theorem within_any (n lo hi : Int) (w : World) (h0 : 0 ≤ lo) (h1 : lo ≤ hi) (h2 : hi ≤ 1073741824) :
  Calls Tryz.prog 22 #[.int .i64 n, .int .i64 lo, .int .i64 hi] w fun e w' => e = .returned (.int .i64 (withinS n lo hi)) ∧ w = w' := by
 by_cases hin : lo ≤ n ∧ n ≤ hi
 ·have Hw : Hid (withinS n lo hi = n) := if_pos hin
  obtain ⟨hi1, hi2⟩ := hin
  go_enter Tryz.func22, Tryz.ntmps22
  go_wp2
  go_ret
  exact ⟨ret_int Hw.out.symm, rfl⟩
 ·have Hw : Hid (withinS n lo hi = lo + n % (hi - lo + 1)) := if_neg hin
  obtain ⟨t1, t2⟩ := tmod_fix n (hi - lo + 1) (by omega)
  have h3 := Int.emod_nonneg n (show hi - lo + 1 ≠ 0 by omega)
  have h4 := Int.emod_lt_of_pos n (show 0 < hi - lo + 1 by omega)
  have hc : n < lo ∨ (lo ≤ n ∧ hi < n) := by omega
  have T1 := Lib.hid t1; have T2 := Lib.hid t2
  clear hin t1 t2
  have hb : n.tmod (hi - lo + 1) < hi - lo + 1 ∧ -(hi - lo + 1) ≤ n.tmod (hi - lo + 1) := by
   have a := T1.out; have b := T2.out
   by_cases hh : n.tmod (hi - lo + 1) < 0
   ·have := a hh; omega
   ·have := b hh; omega
  obtain ⟨hb1, hb2⟩ := hb
  generalize hg : n.tmod (hi - lo + 1) = t at *
  generalize n % (hi - lo + 1) = r at *
  by_cases ht : t < 0
  ·have Hr : Hid (t + hi - lo + 1 = r) := by have := T1.out ht; show _ = _; omega
   rcases hc with hc | ⟨hc, hc2⟩
   all_goals
    go_enter Tryz.func22, Tryz.ntmps22
    go_wp2
    go_ret
    exact ⟨ret_int (by rw [Hw.out, ← Hr.out]), rfl⟩
  ·have Hr : Hid (t = r) := T2.out ht
   rcases hc with hc | ⟨hc, hc2⟩
   all_goals
    go_enter Tryz.func22, Tryz.ntmps22
    go_wp2
    go_ret
    exact ⟨ret_int (by rw [Hw.out, ← Hr.out]), rfl⟩
/-- A tape's numbers, and below which block they lie. -/
structure TapeL where
 l : List Int
 B : Nat
/-- A tape lies in block b: its numbers, how many are read. -/
structure TapeAt (w : World) (b : Nat) (L : TapeL) (k : Nat) : Prop where
 le : k ≤ L.l.length
 max : L.l.length ≤ 9223372036854775807
 low : L.B ≤ b
 mem : ∃ A c, Blk w b 31 #[.slice A L.l.length c, .int .i64 k] ∧ L.l.length ≤ c ∧ (0 < L.l.length → ∃ g off, A = some ⟨g, off, none⟩ ∧ g < L.B ∧ ∀ (j : Nat) (x : Int), L.l[j]? = some x → w.cell? ⟨g, off + j, none⟩ = some (.int .i64 x))
section
variable {w w' : World} {M' : List Nat} {b k : Nat} {L : TapeL}
theorem TapeAt.lt (h : TapeAt w b L k) : b < w.heap.size := by obtain ⟨_, _, _, _, _, hv, _⟩ := h; exact hv.lt
theorem TapeAt.keep2 (h : TapeAt w b L k) (hk : Keeps M' w w') (hM : ∀ g ∈ M', L.B ≤ g ∧ g ≠ b) : TapeAt w' b L k := by
 obtain ⟨h1, h2, h3, A, c, hv, hc, hr⟩ := h
 refine ⟨h1, h2, h3, A, c, hk.blk hv (fun hm => (hM b hm).2 rfl), hc, fun hn => ?_⟩
 obtain ⟨g, off, e, hg, hx⟩ := hr hn
 exact ⟨g, off, e, hg, fun j x hj => (hk.cell (p := ⟨g, off + j, none⟩) (by have := hv.lt; simp; omega) (fun hm => by have := hM g hm; omega)).trans (hx j x hj)⟩
theorem TapeAt.keep (h : TapeAt w b L k) (hk : Keeps M' w w') (hM : ∀ g ∈ M', b < g) : TapeAt w' b L k :=
 h.keep2 hk (fun g hg => by have := hM g hg; have := h.low; omega)
theorem TapeAt.set_at (h : TapeAt w b L k) {j : Nat} (hj : j ≤ L.l.length) : TapeAt (w.setCell ⟨b, 1, none⟩ (.int .i64 j)) b L j := by
 obtain ⟨h1, h2, h3, A, c, hv, hc, hr⟩ := h
 refine ⟨hj, h2, h3, A, c, hv.set_ 1 (.int .i64 j), hc, fun hn => ?_⟩
 obtain ⟨g, off, e, hg, hx⟩ := hr hn
 exact ⟨g, off, e, hg, fun j' x hj' => (World.cell?_setCell_other _ _ _ _ (by intro e; injection e with e1; omega)).trans (hx j' x hj')⟩
theorem TapeAt.drewN (h : TapeAt w b L k) (n : Nat) : TapeAt (w.drewN n) b L k := h.keep (M' := []) ((Keeps.refl _ _).drewN n) (by simp)
theorem TapeAt.cells (h : TapeAt w b L k) : ∃ A c, w.cell? ⟨b, 0, none⟩ = some (.slice A L.l.length c) ∧ L.l.length ≤ c ∧ w.cell? ⟨b, 1, none⟩ = some (.int .i64 k) ∧ w.frozen? ⟨b, 1, none⟩ = false ∧ b < w.heap.size ∧
  (k < L.l.length → ∃ g off x, A = some ⟨g, off, none⟩ ∧ g < w.heap.size ∧ g ≠ b ∧ w.cell? ⟨g, off + k, none⟩ = some (.int .i64 x)) := by
 obtain ⟨h1, h2, h3, A, c, hv, hc, hr⟩ := h
 refine ⟨A, c, hv.cell 0, hc, hv.cell 1, hv.frozen 1, hv.lt, fun hk => ?_⟩
 obtain ⟨g, off, e, hg, hx⟩ := hr (by omega)
 exact ⟨g, off, L.l[k], e, by have := hv.lt; omega, by omega, hx k _ (List.getElem?_eq_getElem hk)⟩
end
theorem next_any (b : Nat) (L : TapeL) (k : Nat) (n : Int) (w : World) (h : TapeAt w b L k) :
  Calls Tryz.prog 62 #[.pointer (some ⟨b, 0, none⟩), .int .i64 n] w fun e w' => ∃ (v : Int) (k' : Nat), e = .returned (.int .i64 v) ∧ 0 ≤ v ∧ (1 ≤ n → v < n) ∧ TapeAt w' b L k' ∧ Keeps [b] w w' := by
 obtain ⟨A, c, c0, hc, c1, f1, hlt, hx⟩ := h.cells
 have hle := h.le
 have hmx := h.max
 have H := Lib.hid h
 by_cases hk : k < L.l.length
 ·by_cases hn : 1 ≤ n
  ·obtain ⟨g, off, x, rfl, hg, hne, hcell⟩ := hx hk
   have hwi := Lib.hid (fun W => within_any x 0 1073741824 W (by omega) (by omega) (by omega))
   have hwb := within_bd x 0 1073741824 (by omega)
   have hcell2 : (w.setCell ⟨b, 1, none⟩ (.int .i64 ((k : Int) + 1))).cell? ⟨g, off + k, none⟩ = some (.int .i64 x) := by
    rw [World.cell?_setCell_other _ _ _ _ (by intro e; injection e with e1; exact hne e1.symm)]; exact hcell
   have hj : ((k : Int) + 1 - 1) = k := by omega
   clear h hx hcell
   generalize withinS x 0 1073741824 = y at *
   have hr1 := Int.emod_nonneg y (show n ≠ 0 by omega)
   have hr2 := Int.emod_lt_of_pos y (show 0 < n by omega)
   have d0 : decide (L.l.length ≤ k) = false := by simp; omega
   have d1 : decide (n < 1) = false := by simp; omega
   go_enter Tryz.func62, Tryz.ntmps62
   go_wp2
   go_quiet (fail)
   go_wp2
   have hT : TapeAt ((w.drewN nq).setCell ⟨b, 1, none⟩ (.int .i64 ((k : Int) + 1))) b L (k + 1) := by
    have := (H.out.drewN nq).set_at (j := k + 1) (by omega)
    rwa [show (((k + 1 : Nat)) : Int) = (k : Int) + 1 by omega] at this
   have hK : Keeps [b] w ((w.drewN nq).setCell ⟨b, 1, none⟩ (.int .i64 ((k : Int) + 1))) := ((Keeps.refl _ _).drewN nq).setCell (by simp) _
   have e0 : ((w.drewN nq).setCell ⟨b, 1, none⟩ (.int .i64 ((k : Int) + 1))).cell? ⟨b, 0, none⟩ = some (.slice (some ⟨g, off, none⟩) L.l.length c) := by
    rw [World.cell?_setCell_other _ _ _ _ (by intro e; injection e with e1 e2; omega)]; exact c0
   have e1 : ((w.drewN nq).setCell ⟨b, 1, none⟩ (.int .i64 ((k : Int) + 1))).cell? ⟨b, 1, none⟩ = some (.int .i64 ((k : Int) + 1)) := by
    obtain ⟨_, _, _, _, _, hv, _⟩ := hT
    have := hv.cell 1
    simpa using this
   have e2 : ((w.drewN nq).setCell ⟨b, 1, none⟩ (.int .i64 ((k : Int) + 1))).cell? ⟨g, off + k, none⟩ = some (.int .i64 x) := hcell2
   clear hcell2 c0 c1 f1
   generalize ((w.drewN nq).setCell ⟨b, 1, none⟩ (.int .i64 ((k : Int) + 1))) = W at *
   have hk0 : (0 : Int) ≤ (k : Int) := by omega
   have hk1 : (k : Int) < (L.l.length : Int) := by omega
   go_quiet ((go_at_call 22; exact quiet_left (hwi.out _)))
   go_wp2
   go_ret
   exact ⟨_, _, rfl, hr1, fun _ => hr2, hT.drewN _, hK.drewN _⟩
  ·have d0 : decide (L.l.length ≤ k) = false := by simp; omega
   have d1 : decide (n < 1) = true := by simp; omega
   clear h hx
   go_enter Tryz.func62, Tryz.ntmps62
   go_wp2
   go_quiet (fail)
   go_wp2
   go_ret
   exact ⟨0, k, rfl, by omega, fun h => by omega, H.out.drewN _, (Keeps.refl _ _).drewN _⟩
 ·have d0 : decide (L.l.length ≤ k) = true := by simp; omega
  clear h hx
  go_enter Tryz.func62, Tryz.ntmps62
  go_wp2
  go_quiet (fail)
  go_wp2
  go_ret
  exact ⟨0, k, rfl, by omega, fun h => by omega, H.out.drewN _, (Keeps.refl _ _).drewN _⟩
end Go.Proofs.YtinnifhnabncfaaGreatDoor.Tape
end
