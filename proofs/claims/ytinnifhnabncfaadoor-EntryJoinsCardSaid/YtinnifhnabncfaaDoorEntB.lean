/- Contract of entry.Bytes at a Write. -/
import Derived.Test.YtinnifhnabncfaaDoorEnt5
namespace Go.Proofs.YtinnifhnabncfaaDoor.Vi
open Go.RowKit Base Mem Go.Shelf
/-- The five numbers of a batch. -/
def nums5 (a b c d e : Nat) : List Nat := [a, b, c, d, e]
theorem nums5_lt (a b c d e : Nat) (ha : a < 18446744073709551616) (hb : b < 18446744073709551616) (hc : c < 18446744073709551616) (hd : d < 18446744073709551616) (he : e < 18446744073709551616) : ∀ n ∈ nums5 a b c d e, n < 18446744073709551616 := by
  intro n hn
  simp [nums5] at hn
  omega
theorem nums5_len (a b c d e : Nat) (ha : a < 18446744073709551616) (hb : b < 18446744073709551616) (hc : c < 18446744073709551616) (hd : d < 18446744073709551616) (he : e < 18446744073709551616) : ((nums5 a b c d e).flatMap Lib.uvarint).length ≤ 50 := by
  have h1 := Lib.uvarint_length64 ha
  have h2 := Lib.uvarint_length64 hb
  have h3 := Lib.uvarint_length64 hc
  have h4 := Lib.uvarint_length64 hd
  have h5 := Lib.uvarint_length64 he
  simp [nums5]
  omega
theorem dBytes_len (ds : List DeltaD) (h : ∀ d ∈ ds, d.ser.size < 4294967281) (hn : ∀ d ∈ ds, NOk d) : (ds.flatMap dBytes).length ≤ ds.length * 4294967301 := by
  induction ds with
  | nil => simp
  | cons d ds ih =>
    have h1 := ih (fun x hx => h x (by simp [hx])) (fun x hx => hn x (by simp [hx]))
    have h2 := h d (by simp)
    obtain ⟨h3, h4⟩ := hn d (by simp)
    have h5 := Lib.uvarint_length64 (x := d.ser.size) (by omega)
    have h6 := Lib.uvarint_length64 (x := d.n.toNat) (by omega)
    have h7 : (dBytes d).length = (Lib.uvarint d.ser.size).length + d.ser.size + (Lib.uvarint d.n.toNat).length := by
      unfold dBytes; rw [List.length_append, List.length_append]; rfl
    rw [List.flatMap_cons, List.length_append, List.length_cons]
    omega
set_option maxRecDepth 100000 in
set_option maxHeartbeats 1000000 in
theorem ebytes_1 (e : EntryD) (dv : Value) (m : Int) (w : World) (hkind : e.kind = 1) (hr0 : rightE e = 0) (h : Ds w [] dv e.ds) (hs : Short e) (hw : Wf e) (hm : w.cell? ⟨0, 0, none⟩ = some (.int .i64 m)) :
    Calls Tryd.prog 8 #[.agg (eCell (e, dv)).toArray] w fun r w' => EB0 (bytesE e) w r w' := by
  obtain ⟨⟨hf0, hf8, ht0⟩, hrest⟩ := right_facts hr0
  have hri := Lib.hid (fun W (hk : Keeps [] w W) (hmW : W.cell? ⟨0, 0, none⟩ = some (.int .i64 m)) => eright_any e dv m W (h.keep hk (by simp)) hs hmW)
  have hw0 : 0 < w.heap.size := by
    have := World.block_lt_of_cell? w _ hm
    simpa using this
  have HP : Hid (∀ A w', (∀ M, (∀ g ∈ M, g < w.heap.size) → Bs w' M (.slice A (bytesE e).length (bytesE e).length) (bytesE e)) → Below w.heap.size w w' → EB0 (bytesE e) w (.returned (.tuple #[.slice A (bytesE e).length (bytesE e).length, .int .i64 0])) w') := fun A w' h1 h2 => ⟨A, rfl, h1, h2⟩
  rw [hr0] at hri
  obtain ⟨hw1, hw2, hw3, hw4⟩ := hw
  obtain ⟨hs1, hs2, hs3⟩ := hs
  obtain ⟨A, c, rfl, hc⟩ := h.len
  have HBE : Hid (bytesE e = headB e.kind.toNat e.fr.toNat e.tag.toNat ++ (if e.kind = 2 then Lib.uvarint e.ser.size ++ sB e.ser else Lib.uvarint e.ag.toNat ++ Lib.uvarint e.sh.toNat ++ Lib.uvarint e.seq.toNat ++ Lib.uvarint e.ep.toNat ++ Lib.uvarint e.ds.length ++ e.ds.flatMap dBytes)) := rfl
  clear hr0
  generalize bytesE e = be at *
  obtain ⟨kind, ag, sh, seq, ep, ds, ser, fr, tag⟩ := e
  simp only [] at hkind h hf0 hf8 ht0 hrest hri HP hw1 hw2 hw3 hw4 hs1 hs2 hs3 hc HBE
  subst hkind
  obtain ⟨fr, rfl⟩ := Int.eq_ofNat_of_zero_le hf0
  obtain ⟨tag, rfl⟩ := Int.eq_ofNat_of_zero_le ht0
  have ht9 : tag < 18446744073709551616 := by omega
  have hfr9 : fr < 18446744073709551616 := by omega
  rw [Int.toNat_natCast, Int.toNat_natCast] at HBE
  obtain ⟨_, ha0, ha8, hs0, hs4, hq0, hp0, hd8⟩ := hrest.resolve_left (by decide)
  obtain ⟨ag, rfl⟩ := Int.eq_ofNat_of_zero_le ha0
  obtain ⟨sh, rfl⟩ := Int.eq_ofNat_of_zero_le hs0
  obtain ⟨seq, rfl⟩ := Int.eq_ofNat_of_zero_le (show 0 ≤ seq by omega)
  obtain ⟨ep, rfl⟩ := Int.eq_ofNat_of_zero_le (show 0 ≤ ep by omega)
  have HE : Hid (be = headB 1 fr tag ++ (nums5 ag sh seq ep ds.length).flatMap Lib.uvarint ++ ds.flatMap dBytes) := by show _ = _; rw [HBE.out, if_neg (by decide)]; simp [nums5]
  clear HBE hrest
  obtain ⟨w2, hw2e⟩ : ∃ w2, w2 = w.alloc (.cells #[.int .i64 1, .int .i64 ag, .int .i64 sh, .int .i64 seq, .int .i64 ep, .slice A ds.length c, .string ser, .int .i64 fr, .int .i64 tag] 27) := ⟨_, rfl⟩
  have hB : Blk w2 w.heap.size 27 #[.int .i64 1, .int .i64 ag, .int .i64 sh, .int .i64 seq, .int .i64 ep, .slice A ds.length c, .string ser, .int .i64 fr, .int .i64 tag] := by rw [hw2e]; exact Blk.new w _ _
  have hk2 : Keeps [] w w2 := by rw [hw2e]; exact (Keeps.refl _ _).alloc _
  have hm2 : w2.cell? ⟨0, 0, none⟩ = some (.int .i64 m) := (hk2.cell (p := ⟨0, 0, none⟩) hw0 (by simp)).trans hm
  have Hri := Lib.hid (show Calls Tryd.prog 16 #[.agg #[.int .i64 1, .int .i64 ag, .int .i64 sh, .int .i64 seq, .int .i64 ep, .slice A ds.length c, .string ser, .int .i64 fr, .int .i64 tag]] w2 fun r w' => r = .returned (.int .i64 0) ∧ Below w2.heap.size w2 w' from hri.out w2 hk2 hm2)
  have Hk2 := Lib.hid hk2; have Hw2 := Lib.hid hw2e; have HB := Lib.hid hB; have Hh := Lib.hid h
  have c0 := hB.cell 0; have c1 := hB.cell 1; have c2 := hB.cell 2; have c3 := hB.cell 3; have c4 := hB.cell 4; have c5 := hB.cell 5; have c6 := hB.cell 6; have c7 := hB.cell 7; have c8 := hB.cell 8
  simp only [List.getElem?_toArray, List.getElem?_cons_succ, List.getElem?_cons_zero] at c0 c1 c2 c3 c4 c5 c6 c7 c8
  clear hri hB hk2 hm2 hw2e h hm
  show Calls Tryd.prog 8 #[.agg #[.int .i64 1, .int .i64 ag, .int .i64 sh, .int .i64 seq, .int .i64 ep, .slice A ds.length c, .string ser, .int .i64 fr, .int .i64 tag]] w fun r w' => EB0 be w r w'
  go_enter Tryd.func8, Tryd.ntmps8
  go_upto_region 1 with (fail)
  rw [← Hw2.out]
  go_wp2_with fail
  refine Hri.out.mono ?_
  rintro r w3 ⟨rfl, hb3⟩
  have hw2s : w.heap.size < w2.heap.size := HB.out.lt
  have HB3 := Lib.hid (HB.out.below hb3 hw2s)
  have Hk3 : Hid (Keeps [] w w3) := Hk2.out.trans (Keeps.of_below (M := []) hb3) (by simp)
  have c0 := HB3.out.cell 0; have c1 := HB3.out.cell 1; have c2 := HB3.out.cell 2; have c3 := HB3.out.cell 3; have c4 := HB3.out.cell 4; have c5 := HB3.out.cell 5; have c6 := HB3.out.cell 6; have c7 := HB3.out.cell 7; have c8 := HB3.out.cell 8
  simp only [List.getElem?_toArray, List.getElem?_cons_succ, List.getElem?_cons_zero] at c0 c1 c2 c3 c4 c5 c6 c7 c8
  have hw3s : w.heap.size < w3.heap.size := HB3.out.lt
  clear hb3 Hri
  have ka : Keeps [] w3 (w3.alloc (.cells #[.int .u8 1] 5)).drew := ((Keeps.refl _ _).alloc _).drew
  have hBa := HB3.out
  have hb8 : Bs (w3.alloc (.cells #[.int .u8 1] 5)).drew [] (.slice (some ⟨w3.heap.size, 0, none⟩) 1 1) [UInt8.ofNat 1] := ⟨_, _, rfl, Nat.le_refl _, rfl, fun _ => ⟨w3.heap.size, 0, rfl, by simp, by simp, fun j u hu => by
    have := (Blk.new w3 5 #[.int .u8 1]).cell (0 + j)
    rw [show ((w3.alloc (.cells #[.int .u8 1] 5)).drew).cell? ⟨w3.heap.size, 0 + j, none⟩ = (w3.alloc (.cells #[.int .u8 1] 5)).cell? ⟨w3.heap.size, 0 + j, none⟩ from rfl, this, Nat.zero_add]
    cases j with
    | zero => exact hu
    | succ j => cases hu⟩⟩
  have Hp1 : Hid (Calls Tryd.prog 24 #[.slice (some ⟨w3.heap.size, 0, none⟩) 1 1, .int .u64 fr] (w3.alloc (.cells #[.int .u8 1] 5)).drew fun r w' => BsPost ([UInt8.ofNat 1] ++ Lib.uvarint fr) (w3.alloc (.cells #[.int .u8 1] 5)).drew r w') := put_any _ [UInt8.ofNat 1] fr _ hb8 hfr9 (by simp)
  have Hp2 : Hid (∀ W A2, Bs W [] (.slice A2 ([UInt8.ofNat 1] ++ Lib.uvarint fr).length ([UInt8.ofNat 1] ++ Lib.uvarint fr).length) ([UInt8.ofNat 1] ++ Lib.uvarint fr) → Calls Tryd.prog 24 #[.slice A2 ([UInt8.ofNat 1] ++ Lib.uvarint fr).length ([UInt8.ofNat 1] ++ Lib.uvarint fr).length, .int .u64 tag] W fun r w' => BsPost (headB 1 fr tag) W r w') := fun W A2 h2 => by
    have hl := Lib.uvarint_length64 hfr9
    exact put_any _ ([UInt8.ofNat 1] ++ Lib.uvarint fr) tag W h2 ht9 (by rw [List.length_append]; simp; omega)
  have hHl : (headB 1 fr tag).length ≤ 21 := by
    have h1 := Lib.uvarint_length64 hfr9
    have h2 := Lib.uvarint_length64 ht9
    unfold headB
    rw [List.length_append, List.length_append]; simp; omega
  generalize headB 1 fr tag = H at *
  generalize hL1 : [UInt8.ofNat 1] ++ Lib.uvarint fr = L1 at *
  have Hka := Lib.hid (show Below w3.heap.size w3 (w3.alloc (.cells #[.int .u8 1] 5)).drew from ka.below)
  have a0 : (w3.alloc (.cells #[.int .u8 1] 5)).cell? ⟨w.heap.size, 0, none⟩ = some (.int .i64 1) := (Hka.out.cell (p := ⟨w.heap.size, 0, none⟩) hw3s).trans c0
  have a7 : (w3.alloc (.cells #[.int .u8 1] 5)).cell? ⟨w.heap.size, 7, none⟩ = some (.int .i64 fr) := (Hka.out.cell (p := ⟨w.heap.size, 7, none⟩) hw3s).trans c7
  have a8 : (w3.alloc (.cells #[.int .u8 1] 5)).cell? ⟨w.heap.size, 8, none⟩ = some (.int .i64 tag) := (Hka.out.cell (p := ⟨w.heap.size, 8, none⟩) hw3s).trans c8
  clear hb8 ka hBa hL1
  have hfi : (fr : Int) < 8 := by omega
  have hwf : IntKind.u64.wrap (fr : Int) = (fr : Int) := by rw [IntKind.wrap_u64]; omega
  have hwt : IntKind.u64.wrap (tag : Int) = (tag : Int) := by rw [IntKind.wrap_u64]; omega
  have hwk : IntKind.u8.wrap 1 = 1 := by decide
  have hti : (tag : Int) ≤ 9223372036854775807 := by omega
  go_upto_region 4 with (fail)
  go_cut [5] (fun s wx => ∃ A6, s = .slice A6 H.length H.length ∧ Hid (∀ M, (∀ g ∈ M, g < w3.heap.size) → Bs wx M (.slice A6 H.length H.length) H) ∧ Hid (Below w3.heap.size w3 wx))
  case first =>
    go_region_held3 (fun w' => w'.cell? ⟨w.heap.size, 0, none⟩ = some (.int .i64 1) ∧ w'.cell? ⟨w.heap.size, 7, none⟩ = some (.int .i64 fr) ∧ w'.cell? ⟨w.heap.size, 8, none⟩ = some (.int .i64 tag)) (first | exact ⟨r0, r7, r8⟩ | exact ⟨q0, q7, q8⟩ | exact ⟨a0, a7, a8⟩ | exact ⟨c0, c7, c8⟩) (first
      | (go_at_call_of 24 (Value.slice (some ⟨w3.heap.size, 0, none⟩) 1 1)
         with_reducible refine Hp1.out.mono ?_
         rintro r w5 ⟨A5, rfl, hR5, hb5⟩
         have HR5 := Lib.hid (hR5 [] (by simp))
         have Hb5 := Lib.hid (below_then Hka.out hb5)
         have q0 : w5.cell? ⟨w.heap.size, 0, none⟩ = some (.int .i64 1) := (Hb5.out.cell (p := ⟨w.heap.size, 0, none⟩) hw3s).trans c0
         have q7 : w5.cell? ⟨w.heap.size, 7, none⟩ = some (.int .i64 fr) := (Hb5.out.cell (p := ⟨w.heap.size, 7, none⟩) hw3s).trans c7
         have q8 : w5.cell? ⟨w.heap.size, 8, none⟩ = some (.int .i64 tag) := (Hb5.out.cell (p := ⟨w.heap.size, 8, none⟩) hw3s).trans c8
         clear hR5 hb5)
      | (go_at_call 24
         with_reducible refine (Hp2.out _ A5 HR5.out).mono ?_
         rintro r w6 ⟨A6, rfl, hR6, hb6⟩
         have HR6 := Lib.hid (fun M (hM : ∀ g ∈ M, g < w3.heap.size) => hR6 M (fun g hg => Nat.lt_of_lt_of_le (hM g hg) Hb5.out.size))
         have Hb6 := Lib.hid (below_then Hb5.out hb6)
         have r0 : w6.cell? ⟨w.heap.size, 0, none⟩ = some (.int .i64 1) := (Hb6.out.cell (p := ⟨w.heap.size, 0, none⟩) hw3s).trans c0
         have r7 : w6.cell? ⟨w.heap.size, 7, none⟩ = some (.int .i64 fr) := (Hb6.out.cell (p := ⟨w.heap.size, 7, none⟩) hw3s).trans c7
         have r8 : w6.cell? ⟨w.heap.size, 8, none⟩ = some (.int .i64 tag) := (Hb6.out.cell (p := ⟨w.heap.size, 8, none⟩) hw3s).trans c8
         clear hR6 hb6))
    all_goals
      go_wp2_with fail
      go_meet
      exact ⟨A6, rfl, HR6.out, Hb6.out⟩
  case rest =>
    obtain ⟨A6, rfl, HR6, Hb6⟩ := hcut
    clear Hp1 Hp2 a0 a7 a8 Hka c0 c1 c2 c3 c4 c5 c6 c7 c8
    have HB6 := Lib.hid (HB3.out.below Hb6.out hw3s)
    have c0 := HB6.out.cell 0; have c1 := HB6.out.cell 1; have c2 := HB6.out.cell 2; have c3 := HB6.out.cell 3; have c4 := HB6.out.cell 4; have c5 := HB6.out.cell 5; have c6 := HB6.out.cell 6
    simp only [List.getElem?_toArray, List.getElem?_cons_succ, List.getElem?_cons_zero] at c0 c1 c2 c3 c4 c5 c6
    have HA6 := Lib.hid (below_then Hk3.out.below Hb6.out)
    have hwa : IntKind.u64.wrap (ag : Int) = (ag : Int) := by rw [IntKind.wrap_u64]; omega
    have hwb : IntKind.u64.wrap (sh : Int) = (sh : Int) := by rw [IntKind.wrap_u64]; omega
    have hwc : IntKind.u64.wrap (seq : Int) = (seq : Int) := by rw [IntKind.wrap_u64]; omega
    have hwd : IntKind.u64.wrap (ep : Int) = (ep : Int) := by rw [IntKind.wrap_u64]; omega
    have hwe : IntKind.u64.wrap (ds.length : Int) = (ds.length : Int) := by rw [IntKind.wrap_u64]; omega
    have hN := Lib.hid (nums5_lt ag sh seq ep ds.length (by omega) (by omega) (by omega) (by omega) (by omega))
    have hNl := Lib.hid (nums5_len ag sh seq ep ds.length (by omega) (by omega) (by omega) (by omega) (by omega))
    have hDl := Lib.hid (dBytes_len ds hs2 hw4)
    have HNw := Lib.hid hw4
    have Hhl := Lib.hid hHl
    have hka : Keeps [] wc (wc.alloc (.cells #[.int .u64 ag, .int .u64 sh, .int .u64 seq, .int .u64 ep, .int .u64 ds.length] 42)) := (Keeps.refl _ _).alloc _
    have Hka := Lib.hid hka
    have HN5 := Lib.hid (Blk.new wc 42 #[.int .u64 ag, .int .u64 sh, .int .u64 seq, .int .u64 ep, .int .u64 ds.length])
    have Hcc : Hid (∀ x, (hx : x < 5) → (#[Value.int .u64 ag, .int .u64 sh, .int .u64 seq, .int .u64 ep, .int .u64 ds.length])[x]? = some (.int .u64 ((nums5 ag sh seq ep ds.length)[x]'hx))) := fun x hx => by
      rcases x with _ | _ | _ | _ | _ | x
      all_goals first | rfl | omega
    clear hka hw1 hw2 hw3 hw4 hs1 hs2 hs3
    obtain ⟨w7, hw7⟩ : ∃ w7, w7 = wc.alloc (.cells #[.int .u64 ag, .int .u64 sh, .int .u64 seq, .int .u64 ep, .int .u64 ds.length] 42) := ⟨_, rfl⟩
    have Hw7 := Lib.hid hw7
    rw [← hw7] at Hka HN5
    have hwc7 : wc.heap.size < w7.heap.size := HN5.out.lt
    clear hw7
    go_upto_block 1 with (fail)
    rw [← Hw7.out]
    have hww3 : w.heap.size < w3.heap.size := hw3s
    have hwc3 : w3.heap.size ≤ wc.heap.size := Hb6.out.size
    have HR7 : Hid (∀ M, (∀ g ∈ M, g < w.heap.size) → Bs w7 M (.slice A6 H.length H.length) H) := fun M hM => (HR6.out M (fun g hg => by have := hM g hg; omega)).keep Hka.out (by simp)
    go_loopw [5, 53] (fun b i wr => ∃ (x : Nat) (A' : Option Addr) (L : List UInt8), i = .int .i64 x ∧ x ≤ 5 ∧ b = .slice A' L.length L.length ∧ Hid (L = H ++ ((nums5 ag sh seq ep ds.length).take x).flatMap Lib.uvarint) ∧ Hid (∀ M, (∀ g ∈ M, g < w.heap.size) → Bs wr M (.slice A' L.length L.length) L) ∧ Hid (Below w7.heap.size w7 wr)) (fun _ i _ => 5 - (intOf i).toNat)
    case atStart => exact ⟨0, A6, H, rfl, by omega, rfl, (show H = H ++ ((nums5 ag sh seq ep ds.length).take 0).flatMap Lib.uvarint by simp), HR7.out, Below.refl _ _⟩
    case round =>
      obtain ⟨x, A', L, rfl, hx, rfl, HL, HB, Hbr⟩ := hrel
      clear c0 c1 c2 c3 c4 c5 c6
      have hLl : Hid (L.length ≤ 71) := by
        have h1 := Hhl.out
        have h2 := hNl.out
        have h3 := congrArg List.length HL.out
        have h4 : (((nums5 ag sh seq ep ds.length).take x).flatMap Lib.uvarint).length ≤ ((nums5 ag sh seq ep ds.length).flatMap Lib.uvarint).length := by
          conv => rhs; rw [← List.take_append_drop x (nums5 ag sh seq ep ds.length), List.flatMap_append, List.length_append]
          omega
        rw [List.length_append] at h3
        show _ ≤ _; omega
      by_cases hlt : x < 5
      · have hx1 : (x : Int) < 5 := by omega
        have hc7 : wr.cell? ⟨wc.heap.size, x, none⟩ = some (.int .u64 ((nums5 ag sh seq ep ds.length)[x]'hlt)) := by
          rw [(HN5.out.below Hbr.out hwc7).cell x]; exact Hcc.out x hlt
        have Hn := Lib.hid (hN.out _ (List.getElem_mem (l := nums5 ag sh seq ep ds.length) (n := x) hlt))
        have HL2 : Hid (L ++ Lib.uvarint ((nums5 ag sh seq ep ds.length)[x]'hlt) = H ++ ((nums5 ag sh seq ep ds.length).take (x + 1)).flatMap Lib.uvarint) := by
          show _ = _
          rw [List.take_succ_eq_append_getElem (l := nums5 ag sh seq ep ds.length) (i := x) hlt, List.flatMap_append, HL.out]
          simp
        generalize (nums5 ag sh seq ep ds.length)[x]'hlt = n at *
        have Hp := Lib.hid (put_any _ L n wr (HB.out [] (by simp)) Hn.out (by have := hLl.out; omega))
        go_wp2_with fail
        refine Hp.out.mono ?_
        rintro r w8 ⟨A8, rfl, hR8, hb8⟩
        have HR8 := Lib.hid (fun M (hM : ∀ g ∈ M, g < w.heap.size) => hR8 M (fun g hg => by have := hM g hg; have := Hbr.out.size; omega))
        have Hb8 := Lib.hid (below_then Hbr.out hb8)
        clear hR8 hb8 Hp
        generalize L ++ Lib.uvarint n = L2 at *
        go_wp2
        go_roundw
        case rel => exact ⟨x + 1, A8, L2, by go_num, by omega, rfl, HL2, HR8, Hb8⟩
        case measure => simp [intOf] <;> omega
      · obtain rfl : x = 5 := by omega
        have hL5 : Hid (L = H ++ (nums5 ag sh seq ep ds.length).flatMap Lib.uvarint) := HL.out
        have HBw := Lib.hid ((HB6.out.below Hka.out.below (by have := Hb6.out.size; omega)).below Hbr.out (by have := Hb6.out.size; omega))
        have c5 := HBw.out.cell 5
        simp only [List.getElem?_toArray, List.getElem?_cons_succ, List.getElem?_cons_zero] at c5
        have Hw : Hid (Below w.heap.size w wr) := below_then (below_then HA6.out Hka.out.below) Hbr.out
        have hds : Ds wr [] (.slice A ds.length c) ds := Hh.out.keep (Keeps.of_below (M := []) Hw.out) (by simp)
        have Hpt := Lib.hid (eput_any (List.range w.heap.size) A' L (.slice A ds.length c) ds wr (fun g hg => by have := List.mem_range.1 hg; have := Hw.out.size; omega) (HB.out (List.range w.heap.size) (fun g hg => List.mem_range.1 hg)) hds HNw.out (by omega) (by have := hLl.out; have := hDl.out; have : ds.length * 4294967301 ≤ 8 * 4294967301 := Nat.mul_le_mul_right _ (by omega); omega))
        clear hds
        go_wp2_with fail
        refine Hpt.out.mono ?_
        rintro r w9 ⟨A9, rfl, hR9, hb9⟩
        have hp : Hid (EB0 be w (.returned (.tuple #[.slice A9 (L ++ ds.flatMap dBytes).length (L ++ ds.flatMap dBytes).length, .int .i64 0])) w9) := by
          have := HP.out A9 w9
          show EB0 _ _ _ _
          rw [HE.out, ← hL5.out] at this ⊢
          exact this (fun M hM => hR9.avoid (fun g hg => .inl (List.mem_range.2 (hM g hg)))) (below_then Hw.out hb9)
        clear hR9 hb9 Hpt
        generalize L ++ ds.flatMap dBytes = F at *
        go_wp2
        go_ret2
        exact hp.out
end Go.Proofs.YtinnifhnabncfaaDoor.Vi
