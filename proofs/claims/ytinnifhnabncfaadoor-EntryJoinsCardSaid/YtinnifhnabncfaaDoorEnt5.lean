/- Contract of entry.Bytes. -/
import Derived.Test.YtinnifhnabncfaaDoorEnt4
namespace Go.Proofs.YtinnifhnabncfaaDoor.Vi
open Go.RowKit Base Mem Go.Shelf
def headB (k fr tag : Nat) : List UInt8 := [UInt8.ofNat k] ++ Lib.uvarint fr ++ Lib.uvarint tag
def bytesE (e : EntryD) : List UInt8 := headB e.kind.toNat e.fr.toNat e.tag.toNat ++ (if e.kind = 2 then Lib.uvarint e.ser.size ++ sB e.ser else
  Lib.uvarint e.ag.toNat ++ Lib.uvarint e.sh.toNat ++ Lib.uvarint e.seq.toNat ++ Lib.uvarint e.ep.toNat ++ Lib.uvarint e.ds.length ++ e.ds.flatMap dBytes)
/-- The numbers of an entry go into their types. -/
def Wf (e : EntryD) : Prop := e.tag ≤ 9223372036854775807 ∧ e.seq ≤ 9223372036854775807 ∧ e.ep ≤ 9223372036854775807 ∧ ∀ d ∈ e.ds, NOk d
def EB0 (be : List UInt8) (w : World) (r : Ending) (w' : World) : Prop := ∃ A, r = .returned (.tuple #[.slice A be.length be.length, .int .i64 0]) ∧ (∀ M, (∀ g ∈ M, g < w.heap.size) → Bs w' M (.slice A be.length be.length) be) ∧ Below w.heap.size w w'
theorem right_facts {e : EntryD} (h : rightE e = 0) : (0 ≤ e.fr ∧ e.fr < 8 ∧ 0 ≤ e.tag) ∧ (e.kind = 2 ∨ e.kind = 1 ∧ 0 ≤ e.ag ∧ e.ag < 8 ∧ 0 ≤ e.sh ∧ e.sh < 4 ∧ 1 ≤ e.seq ∧ 1 ≤ e.ep ∧ e.ds.length ≤ 8) := by
  unfold rightE at h
  have hk : kindS e = true := by
    cases hk : kindS e with
    | true => rfl
    | false => rw [hk] at h; cases h
  rw [hk, if_neg (by simp)] at h
  have h1 : (!(withinB e.fr 8) || decide (e.tag < 0)) = false := by
    cases h1 : (!(withinB e.fr 8) || decide (e.tag < 0)) with
    | false => rfl
    | true => rw [h1] at h; cases h
  rw [h1, if_neg (by simp)] at h
  unfold withinB at h1
  simp at h1
  refine ⟨by omega, ?_⟩
  by_cases hk1 : e.kind = 1
  · rw [if_pos hk1] at h
    unfold writtenS at h
    have h2 : badId e = false := by
      cases h2 : badId e with
      | false => rfl
      | true => rw [h2] at h; cases h
    rw [h2, if_neg (by simp)] at h
    by_cases h8 : 8 < e.ds.length
    · rw [if_pos h8] at h; cases h
    · unfold badId withinB at h2
      simp at h2
      exact .inr ⟨hk1, by omega⟩
  · unfold kindS at hk
    rw [if_neg hk1] at hk
    by_cases hk2 : e.kind = 2
    · exact .inl hk2
    · rw [if_neg hk2] at hk; cases hk
set_option maxRecDepth 100000 in
set_option maxHeartbeats 1000000 in
theorem ebytes_2 (e : EntryD) (dv : Value) (m : Int) (w : World) (hkind : e.kind = 2) (hr0 : rightE e = 0) (h : Ds w [] dv e.ds) (hs : Short e) (hw : Wf e) (hm : w.cell? ⟨0, 0, none⟩ = some (.int .i64 m)) :
    Calls Tryd.prog 8 #[.agg (eCell (e, dv)).toArray] w fun r w' => EB0 (bytesE e) w r w' := by
  obtain ⟨⟨hf0, hf8, ht0⟩, hrest⟩ := right_facts hr0
  have hri := Lib.hid (fun W (hk : Keeps [] w W) (hmW : W.cell? ⟨0, 0, none⟩ = some (.int .i64 m)) => eright_any e dv m W (h.keep hk (by simp)) hs hmW)
  have hw0 : 0 < w.heap.size := by
    have := World.block_lt_of_cell? w _ hm
    simpa using this
  have HP : Hid (∀ A w', (∀ M, (∀ g ∈ M, g < w.heap.size) → Bs w' M (.slice A (bytesE e).length (bytesE e).length) (bytesE e)) → Below w.heap.size w w' → EB0 (bytesE e) w (.returned (.tuple #[.slice A (bytesE e).length (bytesE e).length, .int .i64 0])) w') := fun A w' h1 h2 => ⟨A, rfl, h1, h2⟩
  rw [hr0] at hri
  obtain ⟨hw1, hw2, hw3, hw4⟩ := hw
  obtain ⟨hs1, hs2, hs3⟩ := hs
  obtain ⟨A, c, rfl, hc⟩ := h.len
  have HBE : Hid (bytesE e = headB e.kind.toNat e.fr.toNat e.tag.toNat ++ (if e.kind = 2 then Lib.uvarint e.ser.size ++ sB e.ser else Lib.uvarint e.ag.toNat ++ Lib.uvarint e.sh.toNat ++ Lib.uvarint e.seq.toNat ++ Lib.uvarint e.ep.toNat ++ Lib.uvarint e.ds.length ++ e.ds.flatMap dBytes)) := rfl
  clear hr0
  generalize bytesE e = be at *
  obtain ⟨kind, ag, sh, seq, ep, ds, ser, fr, tag⟩ := e
  simp only [] at hkind h hf0 hf8 ht0 hrest hri HP hw1 hw2 hw3 hw4 hs1 hs2 hs3 hc HBE
  subst hkind
  obtain ⟨fr, rfl⟩ := Int.eq_ofNat_of_zero_le hf0
  obtain ⟨tag, rfl⟩ := Int.eq_ofNat_of_zero_le ht0
  have ht9 : tag < 18446744073709551616 := by omega
  have hfr9 : fr < 18446744073709551616 := by omega
  rw [Int.toNat_natCast, Int.toNat_natCast] at HBE
  have HE : Hid (be = headB 2 fr tag ++ (Lib.uvarint ser.size ++ sB ser)) := by show _ = _; rw [HBE.out, if_pos rfl]; rfl
  clear HBE hrest
  obtain ⟨w2, hw2e⟩ : ∃ w2, w2 = w.alloc (.cells #[.int .i64 2, .int .i64 ag, .int .i64 sh, .int .i64 seq, .int .i64 ep, .slice A ds.length c, .string ser, .int .i64 fr, .int .i64 tag] 27) := ⟨_, rfl⟩
  have hB : Blk w2 w.heap.size 27 #[.int .i64 2, .int .i64 ag, .int .i64 sh, .int .i64 seq, .int .i64 ep, .slice A ds.length c, .string ser, .int .i64 fr, .int .i64 tag] := by rw [hw2e]; exact Blk.new w _ _
  have hk2 : Keeps [] w w2 := by rw [hw2e]; exact (Keeps.refl _ _).alloc _
  have hm2 : w2.cell? ⟨0, 0, none⟩ = some (.int .i64 m) := (hk2.cell (p := ⟨0, 0, none⟩) hw0 (by simp)).trans hm
  have Hri := Lib.hid (show Calls Tryd.prog 16 #[.agg #[.int .i64 2, .int .i64 ag, .int .i64 sh, .int .i64 seq, .int .i64 ep, .slice A ds.length c, .string ser, .int .i64 fr, .int .i64 tag]] w2 fun r w' => r = .returned (.int .i64 0) ∧ Below w2.heap.size w2 w' from hri.out w2 hk2 hm2)
  have Hk2 := Lib.hid hk2; have Hw2 := Lib.hid hw2e; have HB := Lib.hid hB; have Hh := Lib.hid h
  have c0 := hB.cell 0; have c1 := hB.cell 1; have c2 := hB.cell 2; have c3 := hB.cell 3; have c4 := hB.cell 4; have c5 := hB.cell 5; have c6 := hB.cell 6; have c7 := hB.cell 7; have c8 := hB.cell 8
  simp only [List.getElem?_toArray, List.getElem?_cons_succ, List.getElem?_cons_zero] at c0 c1 c2 c3 c4 c5 c6 c7 c8
  clear hri hB hk2 hm2 hw2e h hm
  show Calls Tryd.prog 8 #[.agg #[.int .i64 2, .int .i64 ag, .int .i64 sh, .int .i64 seq, .int .i64 ep, .slice A ds.length c, .string ser, .int .i64 fr, .int .i64 tag]] w fun r w' => EB0 be w r w'
  go_enter Tryd.func8, Tryd.ntmps8
  go_upto_region 1 with (fail)
  rw [← Hw2.out]
  go_wp2_with fail
  refine Hri.out.mono ?_
  rintro r w3 ⟨rfl, hb3⟩
  have hw2s : w.heap.size < w2.heap.size := HB.out.lt
  have HB3 := Lib.hid (HB.out.below hb3 hw2s)
  have Hk3 : Hid (Keeps [] w w3) := Hk2.out.trans (Keeps.of_below (M := []) hb3) (by simp)
  have c0 := HB3.out.cell 0; have c1 := HB3.out.cell 1; have c2 := HB3.out.cell 2; have c3 := HB3.out.cell 3; have c4 := HB3.out.cell 4; have c5 := HB3.out.cell 5; have c6 := HB3.out.cell 6; have c7 := HB3.out.cell 7; have c8 := HB3.out.cell 8
  simp only [List.getElem?_toArray, List.getElem?_cons_succ, List.getElem?_cons_zero] at c0 c1 c2 c3 c4 c5 c6 c7 c8
  have hw3s : w.heap.size < w3.heap.size := HB3.out.lt
  clear hb3 Hri
  have ka : Keeps [] w3 (w3.alloc (.cells #[.int .u8 2] 5)).drew := ((Keeps.refl _ _).alloc _).drew
  have hBa := HB3.out
  have hb8 : Bs (w3.alloc (.cells #[.int .u8 2] 5)).drew [] (.slice (some ⟨w3.heap.size, 0, none⟩) 1 1) [UInt8.ofNat 2] := ⟨_, _, rfl, Nat.le_refl _, rfl, fun _ => ⟨w3.heap.size, 0, rfl, by simp, by simp, fun j u hu => by
    have := (Blk.new w3 5 #[.int .u8 2]).cell (0 + j)
    rw [show ((w3.alloc (.cells #[.int .u8 2] 5)).drew).cell? ⟨w3.heap.size, 0 + j, none⟩ = (w3.alloc (.cells #[.int .u8 2] 5)).cell? ⟨w3.heap.size, 0 + j, none⟩ from rfl, this, Nat.zero_add]
    cases j with
    | zero => exact hu
    | succ j => cases hu⟩⟩
  have Hp1 : Hid (Calls Tryd.prog 24 #[.slice (some ⟨w3.heap.size, 0, none⟩) 1 1, .int .u64 fr] (w3.alloc (.cells #[.int .u8 2] 5)).drew fun r w' => BsPost ([UInt8.ofNat 2] ++ Lib.uvarint fr) (w3.alloc (.cells #[.int .u8 2] 5)).drew r w') := put_any _ [UInt8.ofNat 2] fr _ hb8 hfr9 (by simp)
  have Hp2 : Hid (∀ W A2, Bs W [] (.slice A2 ([UInt8.ofNat 2] ++ Lib.uvarint fr).length ([UInt8.ofNat 2] ++ Lib.uvarint fr).length) ([UInt8.ofNat 2] ++ Lib.uvarint fr) → Calls Tryd.prog 24 #[.slice A2 ([UInt8.ofNat 2] ++ Lib.uvarint fr).length ([UInt8.ofNat 2] ++ Lib.uvarint fr).length, .int .u64 tag] W fun r w' => BsPost (headB 2 fr tag) W r w') := fun W A2 h2 => by
    have hl := Lib.uvarint_length64 hfr9
    exact put_any _ ([UInt8.ofNat 2] ++ Lib.uvarint fr) tag W h2 ht9 (by rw [List.length_append]; simp; omega)
  have hHl : (headB 2 fr tag).length ≤ 21 := by
    have h1 := Lib.uvarint_length64 hfr9
    have h2 := Lib.uvarint_length64 ht9
    unfold headB
    rw [List.length_append, List.length_append]; simp; omega
  generalize headB 2 fr tag = H at *
  generalize hL1 : [UInt8.ofNat 2] ++ Lib.uvarint fr = L1 at *
  have Hka := Lib.hid (show Below w3.heap.size w3 (w3.alloc (.cells #[.int .u8 2] 5)).drew from ka.below)
  have a0 : (w3.alloc (.cells #[.int .u8 2] 5)).cell? ⟨w.heap.size, 0, none⟩ = some (.int .i64 2) := (Hka.out.cell (p := ⟨w.heap.size, 0, none⟩) hw3s).trans c0
  have a7 : (w3.alloc (.cells #[.int .u8 2] 5)).cell? ⟨w.heap.size, 7, none⟩ = some (.int .i64 fr) := (Hka.out.cell (p := ⟨w.heap.size, 7, none⟩) hw3s).trans c7
  have a8 : (w3.alloc (.cells #[.int .u8 2] 5)).cell? ⟨w.heap.size, 8, none⟩ = some (.int .i64 tag) := (Hka.out.cell (p := ⟨w.heap.size, 8, none⟩) hw3s).trans c8
  clear hb8 ka hBa hL1
  have hfi : (fr : Int) < 8 := by omega
  have hwf : IntKind.u64.wrap (fr : Int) = (fr : Int) := by rw [IntKind.wrap_u64]; omega
  have hwt : IntKind.u64.wrap (tag : Int) = (tag : Int) := by rw [IntKind.wrap_u64]; omega
  have hwk : IntKind.u8.wrap 2 = 2 := by decide
  have hti : (tag : Int) ≤ 9223372036854775807 := by omega
  go_upto_region 4 with (fail)
  go_cut [5] (fun s wx => ∃ A6, s = .slice A6 H.length H.length ∧ Hid (∀ M, (∀ g ∈ M, g < w3.heap.size) → Bs wx M (.slice A6 H.length H.length) H) ∧ Hid (Below w3.heap.size w3 wx))
  case first =>
    go_region_held3 (fun w' => w'.cell? ⟨w.heap.size, 0, none⟩ = some (.int .i64 2) ∧ w'.cell? ⟨w.heap.size, 7, none⟩ = some (.int .i64 fr) ∧ w'.cell? ⟨w.heap.size, 8, none⟩ = some (.int .i64 tag)) (first | exact ⟨r0, r7, r8⟩ | exact ⟨q0, q7, q8⟩ | exact ⟨a0, a7, a8⟩ | exact ⟨c0, c7, c8⟩) (first
      | (go_at_call_of 24 (Value.slice (some ⟨w3.heap.size, 0, none⟩) 1 1)
         with_reducible refine Hp1.out.mono ?_
         rintro r w5 ⟨A5, rfl, hR5, hb5⟩
         have HR5 := Lib.hid (hR5 [] (by simp))
         have Hb5 := Lib.hid (below_then Hka.out hb5)
         have q0 : w5.cell? ⟨w.heap.size, 0, none⟩ = some (.int .i64 2) := (Hb5.out.cell (p := ⟨w.heap.size, 0, none⟩) hw3s).trans c0
         have q7 : w5.cell? ⟨w.heap.size, 7, none⟩ = some (.int .i64 fr) := (Hb5.out.cell (p := ⟨w.heap.size, 7, none⟩) hw3s).trans c7
         have q8 : w5.cell? ⟨w.heap.size, 8, none⟩ = some (.int .i64 tag) := (Hb5.out.cell (p := ⟨w.heap.size, 8, none⟩) hw3s).trans c8
         clear hR5 hb5)
      | (go_at_call 24
         with_reducible refine (Hp2.out _ A5 HR5.out).mono ?_
         rintro r w6 ⟨A6, rfl, hR6, hb6⟩
         have HR6 := Lib.hid (fun M (hM : ∀ g ∈ M, g < w3.heap.size) => hR6 M (fun g hg => Nat.lt_of_lt_of_le (hM g hg) Hb5.out.size))
         have Hb6 := Lib.hid (below_then Hb5.out hb6)
         have r0 : w6.cell? ⟨w.heap.size, 0, none⟩ = some (.int .i64 2) := (Hb6.out.cell (p := ⟨w.heap.size, 0, none⟩) hw3s).trans c0
         have r7 : w6.cell? ⟨w.heap.size, 7, none⟩ = some (.int .i64 fr) := (Hb6.out.cell (p := ⟨w.heap.size, 7, none⟩) hw3s).trans c7
         have r8 : w6.cell? ⟨w.heap.size, 8, none⟩ = some (.int .i64 tag) := (Hb6.out.cell (p := ⟨w.heap.size, 8, none⟩) hw3s).trans c8
         clear hR6 hb6))
    all_goals
      go_wp2_with fail
      go_meet
      exact ⟨A6, rfl, HR6.out, Hb6.out⟩
  case rest =>
    obtain ⟨A6, rfl, HR6, Hb6⟩ := hcut
    clear Hp1 Hp2 a0 a7 a8 Hka c0 c1 c2 c3 c4 c5 c6 c7 c8
    have HB6 := Lib.hid (HB3.out.below Hb6.out hw3s)
    have c0 := HB6.out.cell 0; have c1 := HB6.out.cell 1; have c2 := HB6.out.cell 2; have c3 := HB6.out.cell 3; have c4 := HB6.out.cell 4; have c5 := HB6.out.cell 5; have c6 := HB6.out.cell 6
    simp only [List.getElem?_toArray, List.getElem?_cons_succ, List.getElem?_cons_zero] at c0 c1 c2 c3 c4 c5 c6
    have HA6 := Lib.hid (below_then Hk3.out.below Hb6.out)
    have htx := Lib.hid (text_any _ H ser wc (HR6.out [] (by simp)) (by omega))
    go_wp2_with fail
    refine htx.out.mono ?_
    rintro r w7 ⟨A7, rfl, hR7, hb7⟩
    have hp : Hid (EB0 be w (.returned (.tuple #[.slice A7 (H ++ Lib.uvarint ser.size ++ sB ser).length (H ++ Lib.uvarint ser.size ++ sB ser).length, .int .i64 0])) w7) := by
      have := HP.out A7 w7
      show EB0 _ _ _ _
      rw [HE.out, ← List.append_assoc] at this ⊢
      exact this (fun M hM => hR7 M (fun g hg => Nat.lt_of_lt_of_le (hM g hg) HA6.out.size)) (below_then HA6.out hb7)
    clear hR7 hb7 htx
    generalize H ++ Lib.uvarint ser.size ++ sB ser = F at *
    go_wp2
    go_ret2
    exact hp.out
end Go.Proofs.YtinnifhnabncfaaDoor.Vi
