/- Texts put together: EntB, PlN, PlE, PlE2, EntC, Ent9, EntD, EntK, Tape, Tape2. -/
import Derived.Lib.Strings
import Derived.Test.YtinnifhnabncfaaGreatDoorMB1
import Derived.Test.YtinnifhnabncfaaGreatDoorMB3
set_option linter.unusedVariables false
set_option linter.unusedSimpArgs false
/- Contract of entry.Bytes at a Write. -/
section
namespace Go.Proofs.YtinnifhnabncfaaGreatDoor.Vi
open Go.RowKit Base Mem Go.Shelf
/-- The five numbers of a batch. -/
def nums5 (a b c d e : Nat) : List Nat := [a, b, c, d, e]
theorem nums5_lt (a b c d e : Nat) (ha : a < 18446744073709551616) (hb : b < 18446744073709551616) (hc : c < 18446744073709551616) (hd : d < 18446744073709551616) (he : e < 18446744073709551616) : ∀ n ∈ nums5 a b c d e, n < 18446744073709551616 := by
  intro n hn
  simp [nums5] at hn
  omega
theorem nums5_len (a b c d e : Nat) (ha : a < 18446744073709551616) (hb : b < 18446744073709551616) (hc : c < 18446744073709551616) (hd : d < 18446744073709551616) (he : e < 18446744073709551616) : ((nums5 a b c d e).flatMap Lib.uvarint).length ≤ 50 := by
  have h1 := Lib.uvarint_length64 ha
  have h2 := Lib.uvarint_length64 hb
  have h3 := Lib.uvarint_length64 hc
  have h4 := Lib.uvarint_length64 hd
  have h5 := Lib.uvarint_length64 he
  simp [nums5]
  omega
theorem dBytes_len (ds : List DeltaD) (h : ∀ d ∈ ds, d.ser.size < 4294967281) (hn : ∀ d ∈ ds, NOk d) : (ds.flatMap dBytes).length ≤ ds.length * 4294967301 := by
  induction ds with
  | nil => simp
  | cons d ds ih =>
    have h1 := ih (fun x hx => h x (by simp [hx])) (fun x hx => hn x (by simp [hx]))
    have h2 := h d (by simp)
    obtain ⟨h3, h4⟩ := hn d (by simp)
    have h5 := Lib.uvarint_length64 (x := d.ser.size) (by omega)
    have h6 := Lib.uvarint_length64 (x := d.n.toNat) (by omega)
    have h7 : (dBytes d).length = (Lib.uvarint d.ser.size).length + d.ser.size + (Lib.uvarint d.n.toNat).length := by
      unfold dBytes; rw [List.length_append, List.length_append]; rfl
    rw [List.flatMap_cons, List.length_append, List.length_cons]
    omega
set_option maxRecDepth 100000 in
set_option maxHeartbeats 1000000 in
theorem ebytes_1 (e : EntryD) (dv : Value) (m : Int) (w : World) (hkind : e.kind = 1) (hr0 : rightE e = 0) (h : Ds w [] dv e.ds) (hs : Short e) (hw : Wf e) (hm : w.cell? ⟨0, 0, none⟩ = some (.int .i64 m)) :
    Calls Tryz.prog 64 #[.agg (eCell (e, dv)).toArray] w fun r w' => EB0 (bytesE e) w r w' := by
  obtain ⟨⟨hf0, hf8, ht0⟩, hrest⟩ := right_facts hr0
  have hri := Lib.hid (fun W (hk : Keeps [] w W) (hmW : W.cell? ⟨0, 0, none⟩ = some (.int .i64 m)) => eright_any e dv m W (h.keep hk (by simp)) hs hmW)
  have hw0 : 0 < w.heap.size := by
    have := World.block_lt_of_cell? w _ hm
    simpa using this
  have HP : Hid (∀ A w', (∀ M, (∀ g ∈ M, g < w.heap.size) → Bs w' M (.slice A (bytesE e).length (bytesE e).length) (bytesE e)) → Below w.heap.size w w' → EB0 (bytesE e) w (.returned (.tuple #[.slice A (bytesE e).length (bytesE e).length, .int .i64 0])) w') := fun A w' h1 h2 => ⟨A, rfl, h1, h2⟩
  rw [hr0] at hri
  obtain ⟨hw1, hw2, hw3, hw4⟩ := hw
  obtain ⟨hs1, hs2, hs3⟩ := hs
  obtain ⟨A, c, rfl, hc⟩ := h.len
  have HBE : Hid (bytesE e = headB e.kind.toNat e.fr.toNat e.tag.toNat ++ (if e.kind = 2 then Lib.uvarint e.ser.size ++ sB e.ser else Lib.uvarint e.ag.toNat ++ Lib.uvarint e.sh.toNat ++ Lib.uvarint e.seq.toNat ++ Lib.uvarint e.ep.toNat ++ Lib.uvarint e.ds.length ++ e.ds.flatMap dBytes)) := rfl
  clear hr0
  generalize bytesE e = be at *
  obtain ⟨kind, ag, sh, seq, ep, ds, ser, fr, tag⟩ := e
  simp only [] at hkind h hf0 hf8 ht0 hrest hri HP hw1 hw2 hw3 hw4 hs1 hs2 hs3 hc HBE
  subst hkind
  obtain ⟨fr, rfl⟩ := Int.eq_ofNat_of_zero_le hf0
  obtain ⟨tag, rfl⟩ := Int.eq_ofNat_of_zero_le ht0
  have ht9 : tag < 18446744073709551616 := by omega
  have hfr9 : fr < 18446744073709551616 := by omega
  rw [Int.toNat_natCast, Int.toNat_natCast] at HBE
  obtain ⟨_, ha0, ha8, hs0, hs4, hq0, hp0, hd8⟩ := hrest.resolve_left (by decide)
  obtain ⟨ag, rfl⟩ := Int.eq_ofNat_of_zero_le ha0
  obtain ⟨sh, rfl⟩ := Int.eq_ofNat_of_zero_le hs0
  obtain ⟨seq, rfl⟩ := Int.eq_ofNat_of_zero_le (show 0 ≤ seq by omega)
  obtain ⟨ep, rfl⟩ := Int.eq_ofNat_of_zero_le (show 0 ≤ ep by omega)
  have HE : Hid (be = headB 1 fr tag ++ (nums5 ag sh seq ep ds.length).flatMap Lib.uvarint ++ ds.flatMap dBytes) := by show _ = _; rw [HBE.out, if_neg (by decide)]; simp [nums5]
  clear HBE hrest
  obtain ⟨w2, hw2e⟩ : ∃ w2, w2 = w.alloc (.cells #[.int .i64 1, .int .i64 ag, .int .i64 sh, .int .i64 seq, .int .i64 ep, .slice A ds.length c, .string ser, .int .i64 fr, .int .i64 tag] 26) := ⟨_, rfl⟩
  have hB : Blk w2 w.heap.size 26 #[.int .i64 1, .int .i64 ag, .int .i64 sh, .int .i64 seq, .int .i64 ep, .slice A ds.length c, .string ser, .int .i64 fr, .int .i64 tag] := by rw [hw2e]; exact Blk.new w _ _
  have hk2 : Keeps [] w w2 := by rw [hw2e]; exact (Keeps.refl _ _).alloc _
  have hm2 : w2.cell? ⟨0, 0, none⟩ = some (.int .i64 m) := (hk2.cell (p := ⟨0, 0, none⟩) hw0 (by simp)).trans hm
  have Hri := Lib.hid (show Calls Tryz.prog 66 #[.agg #[.int .i64 1, .int .i64 ag, .int .i64 sh, .int .i64 seq, .int .i64 ep, .slice A ds.length c, .string ser, .int .i64 fr, .int .i64 tag]] w2 fun r w' => r = .returned (.int .i64 0) ∧ Below w2.heap.size w2 w' from hri.out w2 hk2 hm2)
  have Hk2 := Lib.hid hk2; have Hw2 := Lib.hid hw2e; have HB := Lib.hid hB; have Hh := Lib.hid h
  have c0 := hB.cell 0; have c1 := hB.cell 1; have c2 := hB.cell 2; have c3 := hB.cell 3; have c4 := hB.cell 4; have c5 := hB.cell 5; have c6 := hB.cell 6; have c7 := hB.cell 7; have c8 := hB.cell 8
  simp only [List.getElem?_toArray, List.getElem?_cons_succ, List.getElem?_cons_zero] at c0 c1 c2 c3 c4 c5 c6 c7 c8
  clear hri hB hk2 hm2 hw2e h hm
  show Calls Tryz.prog 64 #[.agg #[.int .i64 1, .int .i64 ag, .int .i64 sh, .int .i64 seq, .int .i64 ep, .slice A ds.length c, .string ser, .int .i64 fr, .int .i64 tag]] w fun r w' => EB0 be w r w'
  go_enter Tryz.func64, Tryz.ntmps64
  go_upto_region 1 with (fail)
  rw [← Hw2.out]
  go_wp2_with fail
  refine Hri.out.mono ?_
  rintro r w3 ⟨rfl, hb3⟩
  have hw2s : w.heap.size < w2.heap.size := HB.out.lt
  have HB3 := Lib.hid (HB.out.below hb3 hw2s)
  have Hk3 : Hid (Keeps [] w w3) := Hk2.out.trans (Keeps.of_below (M := []) hb3) (by simp)
  have c0 := HB3.out.cell 0; have c1 := HB3.out.cell 1; have c2 := HB3.out.cell 2; have c3 := HB3.out.cell 3; have c4 := HB3.out.cell 4; have c5 := HB3.out.cell 5; have c6 := HB3.out.cell 6; have c7 := HB3.out.cell 7; have c8 := HB3.out.cell 8
  simp only [List.getElem?_toArray, List.getElem?_cons_succ, List.getElem?_cons_zero] at c0 c1 c2 c3 c4 c5 c6 c7 c8
  have hw3s : w.heap.size < w3.heap.size := HB3.out.lt
  clear hb3 Hri
  have ka : Keeps [] w3 (w3.alloc (.cells #[.int .u8 1] 5)).drew := ((Keeps.refl _ _).alloc _).drew
  have hBa := HB3.out
  have hb8 : Bs (w3.alloc (.cells #[.int .u8 1] 5)).drew [] (.slice (some ⟨w3.heap.size, 0, none⟩) 1 1) [UInt8.ofNat 1] := ⟨_, _, rfl, Nat.le_refl _, rfl, fun _ => ⟨w3.heap.size, 0, rfl, by simp, by simp, fun j u hu => by
    have := (Blk.new w3 5 #[.int .u8 1]).cell (0 + j)
    rw [show ((w3.alloc (.cells #[.int .u8 1] 5)).drew).cell? ⟨w3.heap.size, 0 + j, none⟩ = (w3.alloc (.cells #[.int .u8 1] 5)).cell? ⟨w3.heap.size, 0 + j, none⟩ from rfl, this, Nat.zero_add]
    cases j with
    | zero => exact hu
    | succ j => cases hu⟩⟩
  have Hp1 : Hid (Calls Tryz.prog 118 #[.slice (some ⟨w3.heap.size, 0, none⟩) 1 1, .int .u64 fr] (w3.alloc (.cells #[.int .u8 1] 5)).drew fun r w' => BsPost ([UInt8.ofNat 1] ++ Lib.uvarint fr) (w3.alloc (.cells #[.int .u8 1] 5)).drew r w') := put_any _ [UInt8.ofNat 1] fr _ hb8 hfr9 (by simp)
  have Hp2 : Hid (∀ W A2, Bs W [] (.slice A2 ([UInt8.ofNat 1] ++ Lib.uvarint fr).length ([UInt8.ofNat 1] ++ Lib.uvarint fr).length) ([UInt8.ofNat 1] ++ Lib.uvarint fr) → Calls Tryz.prog 118 #[.slice A2 ([UInt8.ofNat 1] ++ Lib.uvarint fr).length ([UInt8.ofNat 1] ++ Lib.uvarint fr).length, .int .u64 tag] W fun r w' => BsPost (headB 1 fr tag) W r w') := fun W A2 h2 => by
    have hl := Lib.uvarint_length64 hfr9
    exact put_any _ ([UInt8.ofNat 1] ++ Lib.uvarint fr) tag W h2 ht9 (by rw [List.length_append]; simp; omega)
  have hHl : (headB 1 fr tag).length ≤ 21 := by
    have h1 := Lib.uvarint_length64 hfr9
    have h2 := Lib.uvarint_length64 ht9
    unfold headB
    rw [List.length_append, List.length_append]; simp; omega
  generalize headB 1 fr tag = H at *
  generalize hL1 : [UInt8.ofNat 1] ++ Lib.uvarint fr = L1 at *
  have Hka := Lib.hid (show Below w3.heap.size w3 (w3.alloc (.cells #[.int .u8 1] 5)).drew from ka.below)
  have a0 : (w3.alloc (.cells #[.int .u8 1] 5)).cell? ⟨w.heap.size, 0, none⟩ = some (.int .i64 1) := (Hka.out.cell (p := ⟨w.heap.size, 0, none⟩) hw3s).trans c0
  have a7 : (w3.alloc (.cells #[.int .u8 1] 5)).cell? ⟨w.heap.size, 7, none⟩ = some (.int .i64 fr) := (Hka.out.cell (p := ⟨w.heap.size, 7, none⟩) hw3s).trans c7
  have a8 : (w3.alloc (.cells #[.int .u8 1] 5)).cell? ⟨w.heap.size, 8, none⟩ = some (.int .i64 tag) := (Hka.out.cell (p := ⟨w.heap.size, 8, none⟩) hw3s).trans c8
  clear hb8 ka hBa hL1
  have hfi : (fr : Int) < 8 := by omega
  have hwf : IntKind.u64.wrap (fr : Int) = (fr : Int) := by rw [IntKind.wrap_u64]; omega
  have hwt : IntKind.u64.wrap (tag : Int) = (tag : Int) := by rw [IntKind.wrap_u64]; omega
  have hwk : IntKind.u8.wrap 1 = 1 := by decide
  have hti : (tag : Int) ≤ 9223372036854775807 := by omega
  go_upto_region 4 with (fail)
  go_cut [5] (fun s wx => ∃ A6, s = .slice A6 H.length H.length ∧ Hid (∀ M, (∀ g ∈ M, g < w3.heap.size) → Bs wx M (.slice A6 H.length H.length) H) ∧ Hid (Below w3.heap.size w3 wx))
  case first =>
    go_region_held3 (fun w' => w'.cell? ⟨w.heap.size, 0, none⟩ = some (.int .i64 1) ∧ w'.cell? ⟨w.heap.size, 7, none⟩ = some (.int .i64 fr) ∧ w'.cell? ⟨w.heap.size, 8, none⟩ = some (.int .i64 tag)) (first | exact ⟨r0, r7, r8⟩ | exact ⟨q0, q7, q8⟩ | exact ⟨a0, a7, a8⟩ | exact ⟨c0, c7, c8⟩) (first
      | (go_at_call_of 118 (Value.slice (some ⟨w3.heap.size, 0, none⟩) 1 1)
         with_reducible refine Hp1.out.mono ?_
         rintro r w5 ⟨A5, rfl, hR5, hb5⟩
         have HR5 := Lib.hid (hR5 [] (by simp))
         have Hb5 := Lib.hid (below_then Hka.out hb5)
         have q0 : w5.cell? ⟨w.heap.size, 0, none⟩ = some (.int .i64 1) := (Hb5.out.cell (p := ⟨w.heap.size, 0, none⟩) hw3s).trans c0
         have q7 : w5.cell? ⟨w.heap.size, 7, none⟩ = some (.int .i64 fr) := (Hb5.out.cell (p := ⟨w.heap.size, 7, none⟩) hw3s).trans c7
         have q8 : w5.cell? ⟨w.heap.size, 8, none⟩ = some (.int .i64 tag) := (Hb5.out.cell (p := ⟨w.heap.size, 8, none⟩) hw3s).trans c8
         clear hR5 hb5)
      | (go_at_call 118
         with_reducible refine (Hp2.out _ A5 HR5.out).mono ?_
         rintro r w6 ⟨A6, rfl, hR6, hb6⟩
         have HR6 := Lib.hid (fun M (hM : ∀ g ∈ M, g < w3.heap.size) => hR6 M (fun g hg => Nat.lt_of_lt_of_le (hM g hg) Hb5.out.size))
         have Hb6 := Lib.hid (below_then Hb5.out hb6)
         have r0 : w6.cell? ⟨w.heap.size, 0, none⟩ = some (.int .i64 1) := (Hb6.out.cell (p := ⟨w.heap.size, 0, none⟩) hw3s).trans c0
         have r7 : w6.cell? ⟨w.heap.size, 7, none⟩ = some (.int .i64 fr) := (Hb6.out.cell (p := ⟨w.heap.size, 7, none⟩) hw3s).trans c7
         have r8 : w6.cell? ⟨w.heap.size, 8, none⟩ = some (.int .i64 tag) := (Hb6.out.cell (p := ⟨w.heap.size, 8, none⟩) hw3s).trans c8
         clear hR6 hb6))
    all_goals
      go_wp2_with fail
      go_meet
      exact ⟨A6, rfl, HR6.out, Hb6.out⟩
  case rest =>
    obtain ⟨A6, rfl, HR6, Hb6⟩ := hcut
    clear Hp1 Hp2 a0 a7 a8 Hka c0 c1 c2 c3 c4 c5 c6 c7 c8
    have HB6 := Lib.hid (HB3.out.below Hb6.out hw3s)
    have c0 := HB6.out.cell 0; have c1 := HB6.out.cell 1; have c2 := HB6.out.cell 2; have c3 := HB6.out.cell 3; have c4 := HB6.out.cell 4; have c5 := HB6.out.cell 5; have c6 := HB6.out.cell 6
    simp only [List.getElem?_toArray, List.getElem?_cons_succ, List.getElem?_cons_zero] at c0 c1 c2 c3 c4 c5 c6
    have HA6 := Lib.hid (below_then Hk3.out.below Hb6.out)
    have hwa : IntKind.u64.wrap (ag : Int) = (ag : Int) := by rw [IntKind.wrap_u64]; omega
    have hwb : IntKind.u64.wrap (sh : Int) = (sh : Int) := by rw [IntKind.wrap_u64]; omega
    have hwc : IntKind.u64.wrap (seq : Int) = (seq : Int) := by rw [IntKind.wrap_u64]; omega
    have hwd : IntKind.u64.wrap (ep : Int) = (ep : Int) := by rw [IntKind.wrap_u64]; omega
    have hwe : IntKind.u64.wrap (ds.length : Int) = (ds.length : Int) := by rw [IntKind.wrap_u64]; omega
    have hN := Lib.hid (nums5_lt ag sh seq ep ds.length (by omega) (by omega) (by omega) (by omega) (by omega))
    have hNl := Lib.hid (nums5_len ag sh seq ep ds.length (by omega) (by omega) (by omega) (by omega) (by omega))
    have hDl := Lib.hid (dBytes_len ds hs2 hw4)
    have HNw := Lib.hid hw4
    have Hhl := Lib.hid hHl
    have hka : Keeps [] wc (wc.alloc (.cells #[.int .u64 ag, .int .u64 sh, .int .u64 seq, .int .u64 ep, .int .u64 ds.length] 66)) := (Keeps.refl _ _).alloc _
    have Hka := Lib.hid hka
    have HN5 := Lib.hid (Blk.new wc 66 #[.int .u64 ag, .int .u64 sh, .int .u64 seq, .int .u64 ep, .int .u64 ds.length])
    have Hcc : Hid (∀ x, (hx : x < 5) → (#[Value.int .u64 ag, .int .u64 sh, .int .u64 seq, .int .u64 ep, .int .u64 ds.length])[x]? = some (.int .u64 ((nums5 ag sh seq ep ds.length)[x]'hx))) := fun x hx => by
      rcases x with _ | _ | _ | _ | _ | x
      all_goals first | rfl | omega
    clear hka hw1 hw2 hw3 hw4 hs1 hs2 hs3
    obtain ⟨w7, hw7⟩ : ∃ w7, w7 = wc.alloc (.cells #[.int .u64 ag, .int .u64 sh, .int .u64 seq, .int .u64 ep, .int .u64 ds.length] 66) := ⟨_, rfl⟩
    have Hw7 := Lib.hid hw7
    rw [← hw7] at Hka HN5
    have hwc7 : wc.heap.size < w7.heap.size := HN5.out.lt
    clear hw7
    go_upto_block 1 with (fail)
    rw [← Hw7.out]
    have hww3 : w.heap.size < w3.heap.size := hw3s
    have hwc3 : w3.heap.size ≤ wc.heap.size := Hb6.out.size
    have HR7 : Hid (∀ M, (∀ g ∈ M, g < w.heap.size) → Bs w7 M (.slice A6 H.length H.length) H) := fun M hM => (HR6.out M (fun g hg => by have := hM g hg; omega)).keep Hka.out (by simp)
    go_loopw [5, 53] (fun b i wr => ∃ (x : Nat) (A' : Option Addr) (L : List UInt8), i = .int .i64 x ∧ x ≤ 5 ∧ b = .slice A' L.length L.length ∧ Hid (L = H ++ ((nums5 ag sh seq ep ds.length).take x).flatMap Lib.uvarint) ∧ Hid (∀ M, (∀ g ∈ M, g < w.heap.size) → Bs wr M (.slice A' L.length L.length) L) ∧ Hid (Below w7.heap.size w7 wr)) (fun _ i _ => 5 - (intOf i).toNat)
    case atStart => exact ⟨0, A6, H, rfl, by omega, rfl, (show H = H ++ ((nums5 ag sh seq ep ds.length).take 0).flatMap Lib.uvarint by simp), HR7.out, Below.refl _ _⟩
    case round =>
      obtain ⟨x, A', L, rfl, hx, rfl, HL, HB, Hbr⟩ := hrel
      clear c0 c1 c2 c3 c4 c5 c6
      have hLl : Hid (L.length ≤ 71) := by
        have h1 := Hhl.out
        have h2 := hNl.out
        have h3 := congrArg List.length HL.out
        have h4 : (((nums5 ag sh seq ep ds.length).take x).flatMap Lib.uvarint).length ≤ ((nums5 ag sh seq ep ds.length).flatMap Lib.uvarint).length := by
          conv => rhs; rw [← List.take_append_drop x (nums5 ag sh seq ep ds.length), List.flatMap_append, List.length_append]
          omega
        rw [List.length_append] at h3
        show _ ≤ _; omega
      by_cases hlt : x < 5
      · have hx1 : (x : Int) < 5 := by omega
        have hc7 : wr.cell? ⟨wc.heap.size, x, none⟩ = some (.int .u64 ((nums5 ag sh seq ep ds.length)[x]'hlt)) := by
          rw [(HN5.out.below Hbr.out hwc7).cell x]; exact Hcc.out x hlt
        have Hn := Lib.hid (hN.out _ (List.getElem_mem (l := nums5 ag sh seq ep ds.length) (n := x) hlt))
        have HL2 : Hid (L ++ Lib.uvarint ((nums5 ag sh seq ep ds.length)[x]'hlt) = H ++ ((nums5 ag sh seq ep ds.length).take (x + 1)).flatMap Lib.uvarint) := by
          show _ = _
          rw [List.take_succ_eq_append_getElem (l := nums5 ag sh seq ep ds.length) (i := x) hlt, List.flatMap_append, HL.out]
          simp
        generalize (nums5 ag sh seq ep ds.length)[x]'hlt = n at *
        have Hp := Lib.hid (put_any _ L n wr (HB.out [] (by simp)) Hn.out (by have := hLl.out; omega))
        go_wp2_with fail
        refine Hp.out.mono ?_
        rintro r w8 ⟨A8, rfl, hR8, hb8⟩
        have HR8 := Lib.hid (fun M (hM : ∀ g ∈ M, g < w.heap.size) => hR8 M (fun g hg => by have := hM g hg; have := Hbr.out.size; omega))
        have Hb8 := Lib.hid (below_then Hbr.out hb8)
        clear hR8 hb8 Hp
        generalize L ++ Lib.uvarint n = L2 at *
        go_wp2
        go_roundw
        case rel => exact ⟨x + 1, A8, L2, by go_num, by omega, rfl, HL2, HR8, Hb8⟩
        case measure => simp [intOf] <;> omega
      · obtain rfl : x = 5 := by omega
        have hL5 : Hid (L = H ++ (nums5 ag sh seq ep ds.length).flatMap Lib.uvarint) := HL.out
        have HBw := Lib.hid ((HB6.out.below Hka.out.below (by have := Hb6.out.size; omega)).below Hbr.out (by have := Hb6.out.size; omega))
        have c5 := HBw.out.cell 5
        simp only [List.getElem?_toArray, List.getElem?_cons_succ, List.getElem?_cons_zero] at c5
        have Hw : Hid (Below w.heap.size w wr) := below_then (below_then HA6.out Hka.out.below) Hbr.out
        have hds : Ds wr [] (.slice A ds.length c) ds := Hh.out.keep (Keeps.of_below (M := []) Hw.out) (by simp)
        have Hpt := Lib.hid (eput_any (List.range w.heap.size) A' L (.slice A ds.length c) ds wr (fun g hg => by have := List.mem_range.1 hg; have := Hw.out.size; omega) (HB.out (List.range w.heap.size) (fun g hg => List.mem_range.1 hg)) hds HNw.out (by omega) (by have := hLl.out; have := hDl.out; have : ds.length * 4294967301 ≤ 8 * 4294967301 := Nat.mul_le_mul_right _ (by omega); omega))
        clear hds
        go_wp2_with fail
        refine Hpt.out.mono ?_
        rintro r w9 ⟨A9, rfl, hR9, hb9⟩
        have hp : Hid (EB0 be w (.returned (.tuple #[.slice A9 (L ++ ds.flatMap dBytes).length (L ++ ds.flatMap dBytes).length, .int .i64 0])) w9) := by
          have := HP.out A9 w9
          show EB0 _ _ _ _
          rw [HE.out, ← hL5.out] at this ⊢
          exact this (fun M hM => hR9.avoid (fun g hg => .inl (List.mem_range.2 (hM g hg)))) (below_then Hw.out hb9)
        clear hR9 hb9 Hpt
        generalize L ++ ds.flatMap dBytes = F at *
        go_wp2
        go_ret2
        exact hp.out
end Go.Proofs.YtinnifhnabncfaaGreatDoor.Vi
end
/- Plain words: a number that was put is got; so are texts. -/
section
namespace Go.Proofs.YtinnifhnabncfaaGreatDoor.Vi
open Go.RowKit Base Mem
/-- A number that was put is got. -/
theorem getF_put (n i acc : Nat) (r : List UInt8) (hacc : acc < 2 ^ (7 * i)) (hb : acc + n * 2 ^ (7 * i) < 18446744073709551616) (hz : i = 0 ∨ 0 < n) :
    getF i acc (Lib.uvarint n ++ r) = (acc + n * 2 ^ (7 * i), i + (Lib.uvarint n).length) := by
  induction n using Nat.strongRecOn generalizing i acc with
  | _ n ih =>
  have hp : 0 < 2 ^ (7 * i) := Nat.two_pow_pos _
  have hi : i < 10 := by
    rcases hz with rfl | h0
    · omega
    · apply Decidable.byContradiction; intro hge
      have h1 : 2 ^ 70 ≤ 2 ^ (7 * i) := Nat.pow_le_pow_right (by omega) (by omega)
      have h2 : 1 * 2 ^ (7 * i) ≤ n * 2 ^ (7 * i) := Nat.mul_le_mul_right _ h0
      have h3 : (2 : Nat) ^ 70 = 1180591620717411303424 := rfl
      omega
  by_cases hs : n < 128
  · rw [Lib.uvarint_small hs]
    have hc : (n.toUInt8).toNat = n := by rw [Nat.toUInt8_eq, UInt8.toNat_ofNat']; omega
    have hm : n % 128 = n := Nat.mod_eq_of_lt hs
    rw [List.singleton_append, getF, hc, hm, if_neg (by omega), if_neg (by omega), if_neg (by omega), if_neg (by omega)]
    simp
  · rw [Lib.uvarint_big (by omega)]
    have hc : ((n % 128 + 128).toUInt8).toNat = n % 128 + 128 := by rw [Nat.toUInt8_eq, UInt8.toNat_ofNat']; omega
    have hm : (n % 128 + 128) % 128 = n % 128 := by omega
    have hpow : 2 ^ (7 * (i + 1)) = 128 * 2 ^ (7 * i) := by rw [show 7 * (i + 1) = 7 * i + 7 by omega, Nat.pow_add, Nat.mul_comm]
    have hsplit : n * 2 ^ (7 * i) = n % 128 * 2 ^ (7 * i) + n / 128 * (128 * 2 ^ (7 * i)) := by
      conv => lhs; rw [← Nat.mod_add_div n 128]
      rw [Nat.add_mul, Nat.mul_comm 128 (n / 128), Nat.mul_assoc]
    have hlt : n % 128 * 2 ^ (7 * i) ≤ 127 * 2 ^ (7 * i) := Nat.mul_le_mul_right _ (by omega)
    rw [List.cons_append, getF, hc, hm, if_neg (by omega), if_neg (by omega), if_pos (by omega)]
    rw [ih (n / 128) (by omega) (i + 1) (acc + n % 128 * 2 ^ (7 * i)) (by rw [hpow]; omega) (by rw [hpow]; omega) (.inr (by omega))]
    rw [hpow, List.length_cons]
    congr 1 <;> omega
theorem getL_put (n : Nat) (r : List UInt8) (hn : n < 18446744073709551616) : getL (Lib.uvarint n ++ r) = (n, (Lib.uvarint n).length) := by
  have := getF_put n 0 0 r (by decide) (by omega) (.inl rfl)
  simpa [getL] using this
/-- A number cut short is none. -/
theorem getF_cut (n i acc : Nat) (k : Nat) (hk : k < (Lib.uvarint n).length) (hacc : acc < 2 ^ (7 * i)) (hb : acc + n * 2 ^ (7 * i) < 18446744073709551616) (hz : i = 0 ∨ 0 < n) :
    getF i acc ((Lib.uvarint n).take k) = (0, 0) := by
  induction n using Nat.strongRecOn generalizing i acc k with
  | _ n ih =>
  cases k with
  | zero => rfl
  | succ k =>
  have hp : 0 < 2 ^ (7 * i) := Nat.two_pow_pos _
  by_cases hs : n < 128
  · rw [Lib.uvarint_small hs] at hk
    simp at hk
  · rw [Lib.uvarint_big (by omega)] at hk ⊢
    rw [List.length_cons] at hk
    have hi : i < 10 := by
      apply Decidable.byContradiction; intro hge
      have h1 : 2 ^ 70 ≤ 2 ^ (7 * i) := Nat.pow_le_pow_right (by omega) (by omega)
      have h2 : 1 * 2 ^ (7 * i) ≤ n * 2 ^ (7 * i) := Nat.mul_le_mul_right _ (by omega)
      have h3 : (2 : Nat) ^ 70 = 1180591620717411303424 := rfl
      omega
    have hc : ((n % 128 + 128).toUInt8).toNat = n % 128 + 128 := by rw [Nat.toUInt8_eq, UInt8.toNat_ofNat']; omega
    have hm : (n % 128 + 128) % 128 = n % 128 := by omega
    have hpow : 2 ^ (7 * (i + 1)) = 128 * 2 ^ (7 * i) := by rw [show 7 * (i + 1) = 7 * i + 7 by omega, Nat.pow_add, Nat.mul_comm]
    have hsplit : n * 2 ^ (7 * i) = n % 128 * 2 ^ (7 * i) + n / 128 * (128 * 2 ^ (7 * i)) := by
      conv => lhs; rw [← Nat.mod_add_div n 128]
      rw [Nat.add_mul, Nat.mul_comm 128 (n / 128), Nat.mul_assoc]
    have hlt : n % 128 * 2 ^ (7 * i) ≤ 127 * 2 ^ (7 * i) := Nat.mul_le_mul_right _ (by omega)
    rw [List.take_succ_cons, getF, hc, hm, if_neg (by omega), if_neg (by omega), if_pos (by omega)]
    exact ih (n / 128) (by omega) (i + 1) _ k (by omega) (by rw [hpow]; omega) (by rw [hpow]; omega) (.inr (by omega))
theorem numS_put (n : Nat) (r : List UInt8) (hn : n < 18446744073709551616) : numS (Lib.uvarint n ++ r) false = (n, r, false) := by
  have h1 := Lib.uvarint_pos n
  unfold numS
  rw [getL_put n r hn, if_neg (fun h => by rcases h with h | h; cases h; simp only [] at h; omega)]
  simp
theorem intS_put (n : Nat) (r : List UInt8) (hn : n ≤ 9223372036854775807) : intS (Lib.uvarint n ++ r) false = (n, r, false) := by
  unfold intS
  rw [numS_put n r (by omega), if_neg (by simp only []; omega)]
theorem countS_put (n : Nat) (r : List UInt8) (most : Nat) (hn : n ≤ most) (hm : most ≤ 9223372036854775807) : countS (Lib.uvarint n ++ r) false most = (n, r, false) := by
  unfold countS
  rw [intS_put n r (by omega), if_neg (by simp only []; omega)]
theorem cutL_put (s r : List UInt8) (hn : s.length < 18446744073709551616) : cutL (Lib.uvarint s.length ++ s ++ r) = (s, (Lib.uvarint s.length).length + s.length) := by
  have h1 := Lib.uvarint_pos s.length
  unfold cutL
  rw [List.append_assoc, getL_put _ _ hn, if_neg (by simp only [List.length_append]; omega)]
  simp
theorem textS_put (s r : List UInt8) (hn : s.length < 18446744073709551616) : textS (Lib.uvarint s.length ++ s ++ r) false = (s, r, false) := by
  have h1 := Lib.uvarint_pos s.length
  unfold textS
  rw [cutL_put s r hn, if_neg (fun h => by rcases h with h | h; cases h; simp only [] at h; omega)]
  simp only [Prod.mk.injEq, and_true, true_and]
  rw [← List.length_append, List.drop_left]
end Go.Proofs.YtinnifhnabncfaaGreatDoor.Vi
end
/- Plain words: an entry that is written is read as itself. -/
section
namespace Go.Proofs.YtinnifhnabncfaaGreatDoor.Vi
open Go.RowKit Base Mem
theorem right_kind {e : EntryD} (h : rightE e = 0) : kindS e = true := by
  unfold rightE at h
  cases hk : kindS e with
  | true => rfl
  | false => rw [hk] at h; cases h
theorem byteS_cons (c : UInt8) (r : List UInt8) : byteS (c :: r) false = (c, r, false) := rfl
/-- What follows a message's head. -/
def readX (k fr tag : Nat) (l : List UInt8) (b : Bool) : EntryD × List UInt8 × Bool :=
  if k = 2 then (⟨k, 0, 0, 0, 0, [], ⟨(textS l b).1.toArray⟩, fr, tag⟩, (textS l b).2)
  else
    let a := countS l b 8
    let s := countS a.2.1 a.2.2 4
    let q := intS s.2.1 s.2.2
    let p := intS q.2.1 q.2.2
    let n := countS p.2.1 p.2.2 8
    let d := getDs n.1 n.2.1 n.2.2
    (⟨k, a.1, s.1, q.1, p.1, d.1, ⟨#[]⟩, fr, tag⟩, d.2)
def readH (b : List UInt8) : EntryD × List UInt8 × Bool :=
  let k := byteS b false
  let f := countS k.2.1 k.2.2 8
  let t := intS f.2.1 f.2.2
  readX k.1.toNat f.1 t.1 t.2.1 t.2.2
def zeroD : EntryD := ⟨0, 0, 0, 0, 0, [], ⟨#[]⟩, 0, 0⟩
/-- The entry that bytes are, or why not. -/
def readE (b : List UInt8) : EntryD × Nat := if (!(readH b).2.2 && (readH b).2.1.isEmpty) = true ∧ rightE (readH b).1 = 0 then ((readH b).1, 0) else (zeroD, 12)
theorem getDs_put (ds : List DeltaD) (r : List UInt8) (hn : ∀ d ∈ ds, NOk d) (hs : ∀ d ∈ ds, d.ser.size < 4294967281) : getDs ds.length (ds.flatMap dBytes ++ r) false = (ds, r, false) := by
  induction ds with
  | nil => rfl
  | cons d ds ih =>
    obtain ⟨h0, h1⟩ := hn d (by simp)
    have h2 := hs d (by simp)
    obtain ⟨ser, n⟩ := d
    obtain ⟨n, rfl⟩ := Int.eq_ofNat_of_zero_le h0
    simp only [] at h1 h2
    have ht := textS_put (sB ser) (Lib.uvarint n ++ (ds.flatMap dBytes ++ r)) (by show ser.size < _; omega)
    have hu := numS_put n (ds.flatMap dBytes ++ r) (by omega)
    have hd : dBytes ⟨ser, n⟩ = Lib.uvarint (sB ser).length ++ sB ser ++ Lib.uvarint n := rfl
    rw [List.flatMap_cons, hd, List.length_cons, getDs]
    simp only [List.append_assoc] at ht ⊢
    rw [ht]
    simp only []
    rw [hu]
    simp only []
    rw [ih (fun d hd => hn d (by simp [hd])) (fun d hd => hs d (by simp [hd]))]
    rfl
theorem read_bytes (e : EntryD) (hr : rightE e = 0) (hw : Wf e) (hs : Short e) : readE (bytesE e) = (e, 0) := by
  obtain ⟨⟨hf0, hf8, ht0⟩, hrest⟩ := right_facts hr
  have hk := right_kind hr
  have hH : readH (bytesE e) = (e, [], false) := by
    obtain ⟨hw1, hw2, hw3, hw4⟩ := hw
    obtain ⟨hs1, hs2, hs3⟩ := hs
    clear hr
    obtain ⟨kind, ag, sh, seq, ep, ds, ser, fr, tag⟩ := e
    simp only [] at hf0 hf8 ht0 hrest hw1 hw2 hw3 hw4 hs1 hs2 hs3
    obtain ⟨fr, rfl⟩ := Int.eq_ofNat_of_zero_le hf0
    obtain ⟨tag, rfl⟩ := Int.eq_ofNat_of_zero_le ht0
    have hfr := fun r => countS_put fr r 8 (by omega) (by omega)
    have htg := fun r => intS_put tag r (by omega)
    unfold kindS at hk
    simp only [] at hk
    rcases hrest with rfl | ⟨rfl, h1, h2, h3, h4, h5, h6, h7⟩
    · rw [if_neg (by omega), if_pos rfl] at hk
      simp [eqI] at hk
      obtain ⟨⟨⟨rfl, rfl, rfl⟩, rfl⟩, hds⟩ := hk
      obtain rfl : ds = [] := by simpa using hds
      have ht := textS_put (sB ser) [] (by show ser.size < _; omega)
      unfold readH bytesE headB
      rw [if_pos rfl]
      simp only [List.append_nil] at ht
      simp only [List.append_assoc, List.nil_append, List.cons_append, byteS_cons, Int.toNat_natCast, hfr, htg]
      unfold readX
      rw [if_pos (by decide)]
      rw [show Lib.uvarint ser.size ++ sB ser = Lib.uvarint (sB ser).length ++ sB ser from rfl, ht]
      rfl
    · rw [if_pos rfl] at hk
      have hse : ser = ⟨#[]⟩ := by
        have h0 : ser.toList = [] := by simpa using hk
        rw [Lib.toList_data] at h0
        obtain ⟨⟨l⟩⟩ := ser
        simp only [] at h0
        rw [h0]
      subst hse
      obtain ⟨ag, rfl⟩ := Int.eq_ofNat_of_zero_le h1
      obtain ⟨sh, rfl⟩ := Int.eq_ofNat_of_zero_le h3
      obtain ⟨seq, rfl⟩ := Int.eq_ofNat_of_zero_le (show 0 ≤ seq by omega)
      obtain ⟨ep, rfl⟩ := Int.eq_ofNat_of_zero_le (show 0 ≤ ep by omega)
      have ha := fun r => countS_put ag r 8 (by omega) (by omega)
      have hsh := fun r => countS_put sh r 4 (by omega) (by omega)
      have hq := fun r => intS_put seq r (by omega)
      have hp := fun r => intS_put ep r (by omega)
      have hn := fun r => countS_put ds.length r 8 (by omega) (by omega)
      have hg := getDs_put ds [] hw4 hs2
      unfold readH bytesE headB
      rw [if_neg (by simp)]
      simp only [List.append_nil] at hg
      simp only [List.append_assoc, List.nil_append, List.cons_append, byteS_cons, Int.toNat_natCast, hfr, htg]
      unfold readX
      rw [if_neg (by decide)]
      simp only [ha, hsh, hq, hp, hn, hg]
      rfl
  unfold readE
  rw [hH, if_pos ⟨rfl, hr⟩]
end Go.Proofs.YtinnifhnabncfaaGreatDoor.Vi
end
/- Plain words: what is read from bytes is no longer than they are. -/
section
namespace Go.Proofs.YtinnifhnabncfaaGreatDoor.Vi
open Go.RowKit Base Mem
theorem numS_len (l : List UInt8) (b : Bool) : (numS l b).2.1.length ≤ l.length := by
  unfold numS
  split
  · exact Nat.le_refl _
  · simp only [List.length_drop]; omega
theorem intS_len (l : List UInt8) (b : Bool) : (intS l b).2.1.length ≤ l.length := by
  unfold intS
  split <;> exact numS_len l b
theorem countS_len (l : List UInt8) (b : Bool) (m : Nat) : (countS l b m).2.1.length ≤ l.length := by
  unfold countS
  split <;> exact intS_len l b
theorem countS_most (l : List UInt8) (b : Bool) (m : Nat) : (countS l b m).1 ≤ m := by
  unfold countS
  split
  · simp
  · omega
theorem textS_len (l : List UInt8) (b : Bool) : (textS l b).2.1.length ≤ l.length ∧ (textS l b).1.length ≤ l.length := by
  unfold textS
  split
  · simp
  · refine ⟨by simp only [List.length_drop]; omega, ?_⟩
    unfold cutL
    split
    · simp
    · simp only [List.length_take, List.length_drop]; omega
theorem byteS_len (l : List UInt8) (b : Bool) : (byteS l b).2.1.length ≤ l.length := by
  unfold byteS
  split
  · exact Nat.le_refl _
  · cases l <;> simp
theorem getDs_short : ∀ (n : Nat) (l : List UInt8) (b : Bool), (∀ d ∈ (getDs n l b).1, d.ser.size ≤ l.length ∧ NOk d) ∧ (getDs n l b).1.length = n
  | 0, _, _ => ⟨by simp [getDs], rfl⟩
  | n + 1, l, b => by
    have h1 := textS_len l b
    have h2 := numS_len (textS l b).2.1 (textS l b).2.2
    have h4 := numS_lt (textS l b).2.1 (textS l b).2.2
    obtain ⟨h3, h5⟩ := getDs_short n (numS (textS l b).2.1 (textS l b).2.2).2.1 (numS (textS l b).2.1 (textS l b).2.2).2.2
    rw [getDs]
    refine ⟨fun d hd => ?_, by simp only [List.length_cons, h5]⟩
    rcases List.mem_cons.1 hd with rfl | hd
    · refine ⟨h1.2, ?_⟩
      unfold NOk
      simp only []
      omega
    · obtain ⟨h6, h7⟩ := h3 d hd
      exact ⟨by omega, h7⟩
theorem readX_two (fr tag : Nat) (l : List UInt8) (b : Bool) : readX 2 fr tag l b = (⟨(2 : Nat), 0, 0, 0, 0, [], ⟨(textS l b).1.toArray⟩, fr, tag⟩, (textS l b).2) := if_pos rfl
theorem readX_else (k fr tag : Nat) (l : List UInt8) (b : Bool) (hk : ¬ k = 2) : ∃ a s q p n d, a = countS l b 8 ∧ s = countS a.2.1 a.2.2 4 ∧ q = intS s.2.1 s.2.2 ∧ p = intS q.2.1 q.2.2 ∧ n = countS p.2.1 p.2.2 8 ∧ d = getDs n.1 n.2.1 n.2.2 ∧
    readX k fr tag l b = (⟨k, a.1, s.1, q.1, p.1, d.1, ⟨#[]⟩, fr, tag⟩, d.2) := ⟨_, _, _, _, _, _, rfl, rfl, rfl, rfl, rfl, rfl, if_neg hk⟩
theorem readX_all (k fr tag : Nat) (l : List UInt8) (b : Bool) (N : Nat) (h : l.length ≤ N) (ht : tag ≤ 9223372036854775807) : (readX k fr tag l b).1.ser.size ≤ N ∧ (∀ d ∈ (readX k fr tag l b).1.ds, d.ser.size ≤ N ∧ NOk d) ∧ (readX k fr tag l b).1.ds.length ≤ 8 ∧ Wf (readX k fr tag l b).1 := by
  by_cases hk : k = 2
  · subst hk
    have h1 := (textS_len l b).2
    rw [readX_two]
    generalize textS l b = t at *
    refine ⟨?_, fun d hd => (by cases hd), Nat.zero_le _, ?_, ?_, ?_, fun d hd => (by cases hd)⟩
    · show t.1.toArray.size ≤ N
      rw [List.size_toArray]; omega
    · show (tag : Int) ≤ _; omega
    · show (0 : Int) ≤ _; omega
    · show (0 : Int) ≤ _; omega
  · obtain ⟨a, s, q, p, n, d, ha, hs, hq, hp, hn, hd, e⟩ := readX_else k fr tag l b hk
    have h1 := countS_len l b 8
    have h2 := countS_len a.2.1 a.2.2 4
    have h3 := intS_len s.2.1 s.2.2
    have h4 := intS_len q.2.1 q.2.2
    have h5 := countS_len p.2.1 p.2.2 8
    have h6 := countS_most p.2.1 p.2.2 8
    have h7 := intS_lt s.2.1 s.2.2
    have h8 := intS_lt q.2.1 q.2.2
    obtain ⟨h9, h10⟩ := getDs_short n.1 n.2.1 n.2.2
    rw [← ha] at h1
    rw [← hs] at h2
    rw [← hq] at h3 h7
    rw [← hp] at h4 h8
    rw [← hn] at h5 h6
    rw [← hd] at h9 h10
    rw [e]
    refine ⟨Nat.zero_le _, fun x hx => ?_, by show d.1.length ≤ 8; omega, ?_, ?_, ?_, fun x hx => (h9 x hx).2⟩
    · obtain ⟨h11, h12⟩ := h9 x hx
      exact ⟨by omega, h12⟩
    · show (tag : Int) ≤ _; omega
    · show (q.1 : Int) ≤ _; omega
    · show (p.1 : Int) ≤ _; omega
theorem readH_eq (l : List UInt8) : ∃ k f t, k = byteS l false ∧ f = countS k.2.1 k.2.2 8 ∧ t = intS f.2.1 f.2.2 ∧ readH l = readX k.1.toNat f.1 t.1 t.2.1 t.2.2 := ⟨_, _, _, rfl, rfl, rfl, rfl⟩
theorem readH_short (l : List UInt8) (h : l.length < 4294967281) : Short (readH l).1 ∧ (readH l).1.ds.length ≤ 8 ∧ Wf (readH l).1 := by
  obtain ⟨k, f, t, hk, hf, ht, e⟩ := readH_eq l
  have h1 := byteS_len l false
  have h2 := countS_len k.2.1 k.2.2 8
  have h3 := intS_len f.2.1 f.2.2
  have h4 := intS_lt f.2.1 f.2.2
  rw [← hk] at h1
  rw [← hf] at h2
  rw [← ht] at h3 h4
  rw [e]
  obtain ⟨h5, h6, h7, h8⟩ := readX_all k.1.toNat f.1 t.1 t.2.1 t.2.2 l.length (by omega) h4
  exact ⟨⟨by omega, fun d hd => by have := (h6 d hd).1; omega, by omega⟩, h7, h8⟩
end Go.Proofs.YtinnifhnabncfaaGreatDoor.Vi
end
/- Contract of entry.Read. -/
section
namespace Go.Proofs.YtinnifhnabncfaaGreatDoor.Vi
open Go.RowKit Base Mem Go.Shelf
def zeroA : Array Value := #[.int .i64 0, .int .i64 0, .int .i64 0, .int .i64 0, .int .i64 0, .slice none 0 0, .string ⟨#[]⟩, .int .i64 0, .int .i64 0]
/-- What stands between two calls: the reader, the result's block, the entry's block. -/
structure Re (w0 w : World) (p g0 g5 : Nat) (l : List UInt8) (bad : Bool) (c : Array Value) : Prop where
  rd : RdAt w [g5] p l bad
  keeps : Below w0.heap.size w0 w
  b0 : Blk w g0 26 zeroA
  b5 : Blk w g5 26 c
  o0 : w0.heap.size ≤ g0
  o1 : g0 < p
  o2 : p < g5
theorem Re.step {w0 w w' : World} {p g0 g5 : Nat} {l l' : List UInt8} {bad bad' : Bool} {c : Array Value} (h : Re w0 w p g0 g5 l bad c) (hr : RdAt w' [g5] p l' bad') (hk : Keeps [p] w w') : Re w0 w' p g0 g5 l' bad' c := by
  have h0 := h.o0; have h1 := h.o1; have h2 := h.o2
  exact ⟨hr, ((Keeps.of_below (M := []) h.keeps).trans hk (by intro g hg; simp at hg; right; omega)).below, hk.blk h.b0 (by simp; omega), hk.blk h.b5 (by simp; omega), h0, h1, h2⟩
theorem Re.set {w0 w : World} {p g0 g5 : Nat} {l : List UInt8} {bad : Bool} {c : Array Value} (h : Re w0 w p g0 g5 l bad c) (i : Nat) (v : Value) : Re w0 (w.setCell ⟨g5, i, none⟩ v) p g0 g5 l bad (c.setIfInBounds i v) := by
  have h0 := h.o0; have h1 := h.o1; have h2 := h.o2
  have hk : Keeps [g5] w (w.setCell ⟨g5, i, none⟩ v) := (Keeps.refl _ _).setCell (by simp) v
  exact ⟨h.rd.keep hk (by simp) (by simp; omega), ((Keeps.of_below (M := []) h.keeps).trans hk (by intro g hg; simp at hg; right; omega)).below, hk.blk h.b0 (by simp; omega), h.b5.set_ i v, h0, h1, h2⟩
theorem blk9 {w : World} {g : Nat} {t : TypeId} {c0 c1 c2 c3 c4 c5 c6 c7 c8 : Value} (h : Blk w g t #[c0, c1, c2, c3, c4, c5, c6, c7, c8]) :
    w.cell? ⟨g, 0, none⟩ = some c0 ∧ w.cell? ⟨g, 1, none⟩ = some c1 ∧ w.cell? ⟨g, 2, none⟩ = some c2 ∧ w.cell? ⟨g, 3, none⟩ = some c3 ∧ w.cell? ⟨g, 4, none⟩ = some c4 ∧ w.cell? ⟨g, 5, none⟩ = some c5 ∧ w.cell? ⟨g, 6, none⟩ = some c6 ∧ w.cell? ⟨g, 7, none⟩ = some c7 ∧ w.cell? ⟨g, 8, none⟩ = some c8 ∧ (∀ i, w.frozen? ⟨g, i, none⟩ = false) :=
  ⟨h.cell 0, h.cell 1, h.cell 2, h.cell 3, h.cell 4, h.cell 5, h.cell 6, h.cell 7, h.cell 8, h.frozen⟩
/-- What a read answers. -/
def ReadPost (r : EntryD × Nat) (w : World) (e : Ending) (w' : World) : Prop := ∃ dv, e = .returned (.tuple #[.agg (eCell (r.1, dv)).toArray, .int .i64 r.2]) ∧ (∀ M, (∀ g ∈ M, g < w.heap.size) → Ds w' M dv r.1.ds) ∧ Below w.heap.size w w'
/-- What stands where both ways have met. -/
def ReCut (w wx : World) (p g5 : Nat) (RH : EntryD × List UInt8 × Bool) : Prop := ∃ dv, Re w wx p w.heap.size g5 RH.2.1 RH.2.2 (eCell (RH.1, dv)).toArray ∧ ∀ M, (∀ g ∈ M, g ≤ w.heap.size) → Ds wx M dv RH.1.ds
set_option maxRecDepth 100000 in
set_option maxHeartbeats 1000000 in
theorem eread_any (v : Value) (l : List UInt8) (m : Int) (w : World) (h : Bs w [] v l) (hl : l.length < 4294967281) (hm : w.cell? ⟨0, 0, none⟩ = some (.int .i64 m)) :
    Calls Tryz.prog 70 #[v] w fun e w' => ReadPost (readE l) w e w' := by
  have hw0 : 0 < w.heap.size := by
    have := World.block_lt_of_cell? w _ hm
    simpa using this
  have Hm := Lib.hid hm
  have hsh := Lib.hid (readH_short l hl)
  have HE : Hid (readE l = if (!(readH l).2.2 && (readH l).2.1.isEmpty) = true ∧ rightE (readH l).1 = 0 then ((readH l).1, 0) else (zeroD, 12)) := rfl
  obtain ⟨kt, ft, tt, hk, hf, ht, hH⟩ := readH_eq l
  generalize readE l = RE at *
  generalize readH l = RH at *
  obtain ⟨A, c, rfl, hc⟩ := h.len
  have Hh := Lib.hid h
  have Hk := Lib.hid hk; have Hf := Lib.hid hf; have Ht := Lib.hid ht; have HH := Lib.hid hH
  clear h hm hk hf ht hH
  go_enter Tryz.func70, Tryz.ntmps70
  go_wp2_with fail
  refine (new_any [] _ l (w.alloc (.cells zeroA 26)) (Hh.out.keep (M' := []) ((Keeps.refl _ _).alloc _) (by simp)) (by omega)).mono ?_
  rintro e w1 ⟨rfl, hrd, hb1⟩
  have hsz : (w.alloc (.cells zeroA 26)).heap.size = w.heap.size + 1 := by simp
  rw [hsz] at hrd hb1 ⊢
  have hB0 : Blk w1 w.heap.size 26 zeroA := (Blk.new w 26 zeroA).below (B := w.heap.size + 1) hb1 (by omega)
  have hbw : Below w.heap.size w w1 := ((Below.refl _ _).alloc (Nat.le_refl _) _).trans (hb1.mono (by omega))
  obtain ⟨p, hp⟩ : ∃ p, p = w.heap.size + 1 := ⟨_, rfl⟩
  rw [← hp] at hrd hb1 ⊢
  have Hrd := Lib.hid hrd; have HB0 := Lib.hid hB0; have Hbw := Lib.hid hbw
  have hpw : w.heap.size < p := by omega
  have hpw1 : p < w1.heap.size := hrd.lt
  clear hrd hB0 hbw hb1 hsz hp
  go_wp2_with fail
  have hby := Lib.hid (byte_any [] p l false w1 Hrd.out)
  rw [← Hk.out] at hby
  obtain ⟨k1, k2, k3⟩ := kt
  simp only [] at hby Hf HH
  refine hby.out.mono ?_
  rintro e w2 ⟨rfl, hrd2, hk2⟩
  have HB2 := Lib.hid (hk2.blk HB0.out (by simp; omega))
  have Hbw2 := Lib.hid ((Keeps.of_below (M := []) Hbw.out).trans hk2 (by intro g hg; simp at hg; right; omega)).below
  have Hrd2 := Lib.hid hrd2
  have hp2 : p < w2.heap.size := hrd2.lt
  simp only [bV]
  have hk256 := UInt8.toNat_lt k1
  generalize k1.toNat = k at *
  have hwk : IntKind.i64.wrap (k : Int) = (k : Int) := by rw [IntKind.wrap_i64]; omega
  clear hrd2 hk2 hby Hbw HB0 Hrd Hk hk256
  go_wp2_with fail
  have hst : Re w (w2.alloc (.cells #[.int .i64 k, .int .i64 0, .int .i64 0, .int .i64 0, .int .i64 0, .slice none 0 0, .string ⟨#[]⟩, .int .i64 0, .int .i64 0] 26)) p w.heap.size w2.heap.size k2 k3 #[.int .i64 k, .int .i64 0, .int .i64 0, .int .i64 0, .int .i64 0, .slice none 0 0, .string ⟨#[]⟩, .int .i64 0, .int .i64 0] :=
    ⟨(Hrd2.out.avoid (M' := [w2.heap.size]) (by intro g hg; simp at hg; right; omega)).keep (M' := []) ((Keeps.refl _ _).alloc _) (by simp) (by simp), Hbw2.out.alloc (by omega) _, HB2.out.below (below_new' w2 _) (by omega), Blk.new w2 _ _, Nat.le_refl _, hpw, hp2⟩
  have H3 := Lib.hid hst
  clear hst HB2 Hbw2 Hrd2
  generalize hw3 : w2.alloc _ = w3 at *
  generalize w2.heap.size = g5 at *
  clear hw3
  have hct := Lib.hid (count_any [g5] p k2 k3 8 (by omega) w3 H3.out.rd)
  rw [← Hf.out] at hct
  obtain ⟨f1, f2, f3⟩ := ft
  simp only [] at hct Ht HH
  refine hct.out.mono ?_
  rintro e w4 ⟨rfl, hA4, hk4⟩
  have H4 := Lib.hid (H3.out.step hA4 hk4)
  clear hA4 hk4 H3 hct Hf
  go_wp2_with fail
  have hct := Lib.hid (rint_any [g5] p f2 f3 w4 H4.out.rd)
  rw [← Ht.out] at hct
  obtain ⟨t1, t2, t3⟩ := tt
  simp only [] at hct HH
  refine hct.out.mono ?_
  rintro e w5 ⟨rfl, hA5, hk5⟩
  have H5 := Lib.hid (H4.out.step hA5 hk5)
  clear hA5 hk5 H4 hct Ht
  obtain ⟨q0, q1, q2, q3, q4, q5, q6, q7, q8, qf⟩ := blk9 H5.out.b5
  have H6 : Hid (Re w ((w5.setCell ⟨g5, 7, none⟩ (.int .i64 f1)).setCell ⟨g5, 8, none⟩ (.int .i64 t1)) p w.heap.size g5 t2 t3 #[.int .i64 k, .int .i64 0, .int .i64 0, .int .i64 0, .int .i64 0, .slice none 0 0, .string ⟨#[]⟩, .int .i64 f1, .int .i64 t1]) :=
    (by simpa using (H5.out.set 7 (.int .i64 f1)).set 8 (.int .i64 t1) : Re w _ p w.heap.size g5 t2 t3 _)
  have ho2 := H5.out.o2
  clear H5
  go_upto_if 20 with (fail)
  go_cut [] (fun wx => ReCut w wx p g5 RH)
  case first =>
    generalize (w5.setCell ⟨g5, 7, none⟩ (.int .i64 f1)).setCell ⟨g5, 8, none⟩ (.int .i64 t1) = w6 at *
    clear q0 q1 q2 q3 q4 q5 q6 q7 q8 qf
    obtain ⟨q0, q1, q2, q3, q4, q5, q6, q7, q8, qf⟩ := blk9 H6.out.b5
    by_cases hk2 : k = 2
    · subst hk2
      have HH2 : Hid (RH = (⟨(2 : Nat), 0, 0, 0, 0, [], ⟨(textS t2 t3).1.toArray⟩, f1, t1⟩, (textS t2 t3).2)) := by show _ = _; rw [HH.out, readX_two]
      clear HH
      have hct := Lib.hid (rtext_any [g5] p t2 t3 w6 H6.out.rd)
      generalize textS t2 t3 = s at *
      obtain ⟨s1, s2, s3⟩ := s
      simp only [] at hct HH2
      go_wp2_with fail
      refine hct.out.mono ?_
      rintro e w7 ⟨rfl, hA7, hk7⟩
      have H7 := Lib.hid (H6.out.step hA7 hk7)
      clear hA7 hk7 H6 hct q0 q1 q2 q3 q4 q5 q6 q7 q8 qf
      obtain ⟨q0, q1, q2, q3, q4, q5, q6, q7, q8, qf⟩ := blk9 H7.out.b5
      have hC : Hid (ReCut w (w7.setCell ⟨g5, 6, none⟩ (.string ⟨s1.toArray⟩)) p g5 RH) := by
        show ReCut _ _ _ _ _
        rw [HH2.out]
        exact ⟨.slice none 0 0, by simpa [eCell] using H7.out.set 6 (.string ⟨s1.toArray⟩), fun M _ => Ds.nil _ _⟩
      clear H7
      go_wp2_with fail
      go_meet
      exact hC.out
    · have hkb : ((k : Int) == 2) = false := by simp; omega
      obtain ⟨a, s, u, pp, n, d, ha, hs, hq, hpp, hn, hd, e⟩ := readX_else k f1 t1 t2 t3 hk2
      have HH2 := Lib.hid (HH.out.trans e)
      have Ha := Lib.hid ha; have Hs := Lib.hid hs; have Hq := Lib.hid hq; have Hpp := Lib.hid hpp; have Hn := Lib.hid hn; have Hd := Lib.hid hd
      clear HH ha hs hq hpp hn hd e hk2
      have hct := Lib.hid (count_any [g5] p t2 t3 8 (by omega) w6 H6.out.rd)
      rw [← Ha.out] at hct
      obtain ⟨a1, a2, a3⟩ := a
      simp only [] at hct Hs HH2
      go_wp2_with fail
      refine hct.out.mono ?_
      rintro e wa ⟨rfl, hA, hk⟩
      have HA6 := Lib.hid (H6.out.step hA hk)
      clear hA hk H6 hct Ha
      have hct := Lib.hid (count_any [g5] p a2 a3 4 (by omega) wa HA6.out.rd)
      rw [← Hs.out] at hct
      obtain ⟨s1, s2, s3⟩ := s
      simp only [] at hct Hq HH2
      go_wp2_with fail
      refine hct.out.mono ?_
      rintro e wb ⟨rfl, hA, hk⟩
      have HB6 := Lib.hid (HA6.out.step hA hk)
      clear hA hk HA6 hct Hs
      clear q0 q1 q2 q3 q4 q5 q6 q7 q8 qf
      obtain ⟨q0, q1, q2, q3, q4, q5, q6, q7, q8, qf⟩ := blk9 HB6.out.b5
      have HC6 : Hid (Re w (((wb.setCell ⟨g5, 1, none⟩ (.int .i64 a1)).setCell ⟨g5, 2, none⟩ (.int .i64 s1)).setCell ⟨g5, 3, none⟩ (.int .i64 0)) p w.heap.size g5 s2 s3 #[.int .i64 k, .int .i64 a1, .int .i64 s1, .int .i64 0, .int .i64 0, .slice none 0 0, .string ⟨#[]⟩, .int .i64 f1, .int .i64 t1]) :=
        (by simpa using ((HB6.out.set 1 (.int .i64 a1)).set 2 (.int .i64 s1)).set 3 (.int .i64 0) : Re w _ p w.heap.size g5 s2 s3 _)
      clear HB6
      go_wp2_with fail
      generalize hwd : ((wb.setCell ⟨g5, 1, none⟩ (.int .i64 a1)).setCell ⟨g5, 2, none⟩ (.int .i64 s1)).setCell ⟨g5, 3, none⟩ (.int .i64 0) = wd at *
      clear hwd
      have hct := Lib.hid (rint_any [g5] p s2 s3 wd HC6.out.rd)
      rw [← Hq.out] at hct
      obtain ⟨u1, u2, u3⟩ := u
      simp only [] at hct Hpp HH2
      refine hct.out.mono ?_
      rintro e we ⟨rfl, hA, hk⟩
      have HE6 := Lib.hid (HC6.out.step hA hk)
      clear hA hk HC6 hct Hq
      have hct := Lib.hid (rint_any [g5] p u2 u3 we HE6.out.rd)
      rw [← Hpp.out] at hct
      obtain ⟨pp1, pp2, pp3⟩ := pp
      simp only [] at hct Hn HH2
      go_wp2_with fail
      refine hct.out.mono ?_
      rintro e wf ⟨rfl, hA, hk⟩
      have HF6 := Lib.hid (HE6.out.step hA hk)
      clear hA hk HE6 hct Hpp
      clear q0 q1 q2 q3 q4 q5 q6 q7 q8 qf
      obtain ⟨q0, q1, q2, q3, q4, q5, q6, q7, q8, qf⟩ := blk9 HF6.out.b5
      have HG6 : Hid (Re w ((wf.setCell ⟨g5, 3, none⟩ (.int .i64 u1)).setCell ⟨g5, 4, none⟩ (.int .i64 pp1)) p w.heap.size g5 pp2 pp3 #[.int .i64 k, .int .i64 a1, .int .i64 s1, .int .i64 u1, .int .i64 pp1, .slice none 0 0, .string ⟨#[]⟩, .int .i64 f1, .int .i64 t1]) :=
        (by simpa using (HF6.out.set 3 (.int .i64 u1)).set 4 (.int .i64 pp1) : Re w _ p w.heap.size g5 pp2 pp3 _)
      clear HF6
      go_wp2_with fail
      generalize hwg : (wf.setCell ⟨g5, 3, none⟩ (.int .i64 u1)).setCell ⟨g5, 4, none⟩ (.int .i64 pp1) = wg at *
      clear hwg
      have hn8 := countS_most pp2 pp3 8
      rw [← Hn.out] at hn8
      have hct := Lib.hid (count_any [g5] p pp2 pp3 8 (by omega) wg HG6.out.rd)
      rw [← Hn.out] at hct
      obtain ⟨n1, n2, n3⟩ := n
      simp only [] at hct hn8 Hd HH2
      refine hct.out.mono ?_
      rintro e wh ⟨rfl, hA, hk⟩
      have HH6 := Lib.hid (HG6.out.step hA hk)
      clear hA hk HG6 hct Hn
      have hct := Lib.hid (get_ds [g5] p n1 n2 n3 wh HH6.out.rd hn8)
      have Hdn := Lib.hid (getDs_short n1 n2 n3).2
      unfold GetPost at hct
      rw [← Hd.out] at hct Hdn
      obtain ⟨d1, d2, d3⟩ := d
      simp only [] at hct HH2 Hdn
      go_wp2_with fail
      refine hct.out.mono ?_
      rintro e wi ⟨dv, rfl, hown, hA, hk⟩
      have hgh : g5 < wh.heap.size := HH6.out.b5.lt
      have hgw : w.heap.size < wh.heap.size := HH6.out.b0.lt
      have HI6 := Lib.hid (HH6.out.step hA hk)
      rw [← Hdn.out] at hown
      have HD : Hid (∀ M, (∀ g ∈ M, g ≤ w.heap.size) → Ds wi (g5 :: M) dv d1) := fun M hM => Rd.of_own hown (by intro g hg; rcases List.mem_cons.1 hg with rfl | hg; exact hgh; have := hM g hg; omega)
      obtain ⟨Ad, cd, rfl, hcd⟩ := (HD.out [] (by simp)).len
      clear hA hk HH6 hct Hd hown
      clear q0 q1 q2 q3 q4 q5 q6 q7 q8 qf
      obtain ⟨q0, q1, q2, q3, q4, q5, q6, q7, q8, qf⟩ := blk9 HI6.out.b5
      have hC : Hid (ReCut w (wi.setCell ⟨g5, 5, none⟩ (.slice Ad d1.length cd)) p g5 RH) := by
        show ReCut _ _ _ _ _
        rw [HH2.out]
        exact ⟨.slice Ad d1.length cd, by simpa [eCell] using HI6.out.set 5 (.slice Ad d1.length cd), fun M hM => Rd.more ((HD.out M hM).keep (M' := [g5]) ((Keeps.refl _ _).setCell (by simp) _) (by simp))⟩
      clear HI6 HD
      go_wp2_with fail
      go_meet
      exact hC.out
  case rest =>
    obtain ⟨dv, hRe, hDs⟩ := hcut
    have HRe := Lib.hid hRe; have HDs := Lib.hid hDs
    clear hRe hDs H6 q0 q1 q2 q3 q4 q5 q6 q7 q8 qf HH
    obtain ⟨e, lx, bx⟩ := RH
    simp only [] at hsh HE HRe HDs
    obtain ⟨Ad, cd, rfl, hcd⟩ := (HDs.out [] (by simp)).len
    have hdw := Lib.hid (done_any [g5] p lx bx _ HRe.out.rd)
    obtain ⟨r0, r1, r2, r3, r4, r5, r6, r7, r8, rf⟩ := blk9 HRe.out.b0
    have ho0 := HRe.out.o0; have ho1 := HRe.out.o1
    cases hdone : (!bx && lx.isEmpty) with
    | false =>
      obtain rfl : RE = (zeroD, 12) := by rw [HE.out, hdone, if_neg (by simp)]
      rw [hdone] at hdw
      clear hdone HE
      go_wp2_with fail
      refine hdw.out.mono ?_
      rintro r w' ⟨rfl, rfl⟩
      go_wp2
      refine bodyPost_ret (v := .tuple #[.agg zeroA, .int .i64 12]) (by simp [results, Tryz.results70, go_sem, zeroA, r0, r1, r2, r3, r4, r5, r6, r7, r8]) rfl ?_
      refine ⟨.slice none 0 0, rfl, fun M _ => Ds.nil _ _, ?_⟩
      repeat (first | (with_reducible exact HRe.out.keeps) | (with_reducible refine Below.setCell ?_ (by simp) _))
    | true =>
      rw [hdone] at hdw
      have hri := Lib.hid (eright_any e _ m wc (HDs.out [] (by simp)) hsh.out.1 ((HRe.out.keeps.cell (p := ⟨0, 0, none⟩) hw0).trans Hm.out))
      have HR : Hid (RE = if rightE e = 0 then (e, 0) else (zeroD, 12)) := by show _ = _; rw [HE.out, hdone]; simp
      clear hdone HE
      generalize rightE e = rr at *
      obtain ⟨kind, ag, sh, seq, ep, ds, ser, fr, tag⟩ := e
      simp only [eCell] at hri HRe HDs HR hcd
      obtain ⟨q0, q1, q2, q3, q4, q5, q6, q7, q8, qf⟩ := blk9 HRe.out.b5
      have ho2 := HRe.out.o2
      have hg5 : g5 < wc.heap.size := HRe.out.b5.lt
      have hwc : w.heap.size < wc.heap.size := HRe.out.b0.lt
      go_wp2_with fail
      refine hdw.out.mono ?_
      rintro r w' ⟨rfl, rfl⟩
      go_wp2_with fail
      refine hri.out.mono ?_
      rintro r w9 ⟨rfl, hb9⟩
      have H9 := Lib.hid (HRe.out.keeps.trans (hb9.mono HRe.out.keeps.size))
      have HB0 := Lib.hid (HRe.out.b0.below hb9 hwc)
      have HB5 := Lib.hid (HRe.out.b5.below hb9 hg5)
      have HD9 : Hid (∀ M, (∀ g ∈ M, g ≤ w.heap.size) → Ds w9 M (.slice Ad ds.length cd) ds) := fun M hM => (HDs.out M hM).keep (Keeps.of_below (M := []) hb9) (by simp)
      clear hb9 hri hdw r0 r1 r2 r3 r4 r5 r6 r7 r8 rf q0 q1 q2 q3 q4 q5 q6 q7 q8 qf
      obtain ⟨r0, r1, r2, r3, r4, r5, r6, r7, r8, rf⟩ := blk9 HB0.out
      obtain ⟨q0, q1, q2, q3, q4, q5, q6, q7, q8, qf⟩ := blk9 HB5.out
      by_cases hrr : rr = 0
      · obtain rfl : RE = (⟨kind, ag, sh, seq, ep, ds, ser, fr, tag⟩, 0) := by rw [HR.out, if_pos hrr]
        subst hrr
        clear HR
        go_wp2
        refine bodyPost_ret (v := .tuple #[.agg #[.int .i64 kind, .int .i64 ag, .int .i64 sh, .int .i64 seq, .int .i64 ep, .slice Ad ds.length cd, .string ser, .int .i64 fr, .int .i64 tag], .int .i64 0]) (by simp [results, Tryz.results70, go_sem, r0, r1, r2, r3, r4, r5, r6, r7, r8]) rfl ?_
        refine ⟨.slice Ad ds.length cd, rfl, fun M hM => ?_, ?_⟩
        · have h1 := HD9.out (w.heap.size :: M) (by intro g hg; rcases List.mem_cons.1 hg with rfl | hg; exact Nat.le_refl _; exact Nat.le_of_lt (hM g hg))
          refine Rd.more (h1.keep (M' := [w.heap.size]) ?_ (by simp))
          repeat (first | (with_reducible exact Keeps.refl _ _) | (with_reducible refine Keeps.setCell ?_ (by simp) _))
        · repeat (first | (with_reducible exact H9.out) | (with_reducible refine Below.setCell ?_ (by simp) _))
      · obtain rfl : RE = (zeroD, 12) := by rw [HR.out, if_neg hrr]
        have hne : ((rr : Int) != 0) = true := by simpa using hrr
        clear HR hrr
        go_wp2
        refine bodyPost_ret (v := .tuple #[.agg zeroA, .int .i64 12]) (by simp [results, Tryz.results70, go_sem, zeroA, r0, r1, r2, r3, r4, r5, r6, r7, r8]) rfl ?_
        refine ⟨.slice none 0 0, rfl, fun M _ => Ds.nil _ _, ?_⟩
        repeat (first | (with_reducible exact H9.out) | (with_reducible refine Below.setCell ?_ (by simp) _))
end Go.Proofs.YtinnifhnabncfaaGreatDoor.Vi
end
/- slices.IndexFunc at no deltas. -/
section
namespace Go.Proofs.YtinnifhnabncfaaGreatDoor.Vi
open Go.RowKit Base Mem Go.Shelf
theorem indexf_nil (A : Option Addr) (c g : Nat) (lb : Array Value) (w : World) :
    Calls Tryz.prog 73 #[.slice A 0 c, .func (.func g) #[] lb] w fun e w' => e = .returned (.int .i64 (-1)) ∧ Below w.heap.size w w' := by
  go_enter Tryz.func73, Tryz.ntmps73
  go_wp2_with fail
  go_slots
  go_loopw [8] (fun i wr => i = .int .i64 0 ∧ Hid (Below w.heap.size w wr)) (fun i _ => 0)
  case atStart => exact ⟨rfl, Below.refl _ _⟩
  case round =>
    obtain ⟨rfl, Hb⟩ := hrel
    go_wp2
    go_ret
    exact ⟨rfl, Hb.out⟩
end Go.Proofs.YtinnifhnabncfaaGreatDoor.Vi
end
/- Contract of entry.Deltas. -/
section
namespace Go.Proofs.YtinnifhnabncfaaGreatDoor.Vi
open Go.RowKit Base Mem Go.Shelf
def ixD (acc : List DeltaD) (s : ByteArray) : Int := Lib.idxBy (fun _ (y : DeltaD) => y.ser.toList == s.toList) acc default
def addD (acc : List DeltaD) (d : DeltaD) : List DeltaD :=
  if ixD acc d.ser < 0 then acc ++ [d] else acc.set (ixD acc d.ser).toNat ⟨acc[(ixD acc d.ser).toNat]!.ser, (addS acc[(ixD acc d.ser).toNat]!.n.toNat d.n.toNat : Nat)⟩
def joinD (l : List DeltaD) : List DeltaD := l.foldl addD []
theorem idx_cases {α : Type} [Inhabited α] (eq : α → α → Bool) (x : α) : ∀ (zs : List α) (i : Nat), (Lib.idxByFrom eq x zs i = -1 ∧ ∀ y ∈ zs, eq x y = false) ∨ ∃ k, k < zs.length ∧ Lib.idxByFrom eq x zs i = ((i + k : Nat) : Int) ∧ eq x zs[k]! = true
  | [], _ => .inl ⟨rfl, by simp⟩
  | y :: r, i => by
    unfold Lib.idxByFrom
    cases hy : eq x y with
    | true => exact .inr ⟨0, by simp, by simp, by simpa using hy⟩
    | false =>
      rw [if_neg (by simp)]
      rcases idx_cases eq x r (i + 1) with ⟨h1, h2⟩ | ⟨k, h1, h2, h3⟩
      · exact .inl ⟨h1, fun z hz => by rcases List.mem_cons.1 hz with rfl | hz; exact hy; exact h2 z hz⟩
      · exact .inr ⟨k + 1, by simpa using h1, by rw [h2]; congr 1; omega, by simpa using h3⟩
theorem ixD_cases (acc : List DeltaD) (s : ByteArray) : (ixD acc s = -1 ∧ ∀ y ∈ acc, (y.ser.toList == s.toList) = false) ∨ ∃ k, ∃ h : k < acc.length, ixD acc s = k ∧ (acc[k].ser.toList == s.toList) = true := by
  rcases idx_cases (fun _ (y : DeltaD) => y.ser.toList == s.toList) default acc 0 with h | ⟨k, h1, h2, h3⟩
  · exact .inl h
  · exact .inr ⟨k, h1, by unfold ixD Lib.idxBy; rw [h2]; simp, by rwa [getElem!_pos acc k h1] at h3⟩
theorem ix_any (v : Value) (l : List DeltaD) (B : Nat) (s : ByteArray) (w : World) (h : Ds w [] v l) (hl : l.length ≤ 4611686018427387904) (hB : B < w.heap.size) (hc : w.cell? ⟨B, 0, none⟩ = some (.string s)) :
    Calls Tryz.prog 73 #[v, .func (.func 74) #[] #[.pointer (some ⟨B, 0, none⟩)]] w fun r w' => r = .returned (.int .i64 (ixD l s)) ∧ Below w.heap.size w w' := by
  by_cases h0 : 0 < l.length
  · exact index_any v l B s w h h0 hl hB hc
  · obtain rfl : l = [] := List.length_eq_zero_iff.1 (by omega)
    obtain ⟨A, c, rfl, hc2⟩ := h.len
    exact indexf_nil A c _ _ w
theorem own_set {w : World} {base : Nat} {e : TypeId} {size n : Nat} {g cap : Nat} {xs : List Value} (h : w.ownsRow base e size (.slice (some ⟨g, 0, none⟩) n cap) n xs) (i : Nat) (u : Value) (hi : i < n * size) :
    (w.setCell ⟨g, i, none⟩ u).ownsRow base e size (.slice (some ⟨g, 0, none⟩) n cap) n (xs.set i u) := by
  obtain ⟨hl, h⟩ := h
  have _ := hi
  rcases h with ⟨h, _⟩ | ⟨g', cap', cur, hv, hb, hg, hnc, hcm, hs, ht⟩
  · cases h
  · injection hv with h1 h2 h3
    injection h1 with h1
    injection h1 with h1 _ _
    subst h1 h3
    refine ⟨by rw [List.length_set, hl], .inr ⟨g, cap, cur.setIfInBounds i u, rfl, hb, Base.Blk.set_ hg i u, hnc, hcm, by simpa using hs, ?_⟩⟩
    rw [Array.toList_setIfInBounds, List.take_set, ht]
theorem dCells_set (acc : List DeltaD) (k : Nat) (hk : k < acc.length) (m : Int) : (dCells acc).set (k * 2 + 1) (.int .u64 m) = dCells (acc.set k ⟨acc[k].ser, m⟩) := by
  induction acc generalizing k with
  | nil => simp at hk
  | cons d acc ih =>
    cases k with
    | zero => rfl
    | succ k =>
      have h := ih k (by simpa using hk)
      unfold dCells at h ⊢
      rw [List.flatMap_cons, List.set_cons_succ, List.flatMap_cons, List.set_append_right _ _ (by simp [dCell]; omega)]
      rw [show (k + 1) * 2 + 1 - (dCell d).length = k * 2 + 1 by simp [dCell]; omega, h]
      rfl
theorem addS_lt (a b : Nat) : addS a b < 18446744073709551616 := by
  unfold addS
  split <;> omega
def JoinPost (l : List DeltaD) (w : World) (e : Ending) (w' : World) : Prop := ∃ A, e = .returned (.slice A (joinD l).length (joinD l).length) ∧ (∀ M, (∀ g ∈ M, g < w.heap.size) → Ds w' M (.slice A (joinD l).length (joinD l).length) (joinD l)) ∧ Below w.heap.size w w'
theorem addD_len (acc : List DeltaD) (d : DeltaD) : (addD acc d).length ≤ acc.length + 1 := by
  unfold addD
  split <;> simp
theorem take_fold_len (l : List DeltaD) : ∀ (acc : List DeltaD), (l.foldl addD acc).length ≤ acc.length + l.length := by
  induction l with
  | nil => intro acc; simp
  | cons d l ih =>
    intro acc
    have h1 := ih (addD acc d)
    have h2 := addD_len acc d
    rw [List.foldl_cons, List.length_cons]
    omega
set_option maxRecDepth 100000 in
set_option maxHeartbeats 1000000 in
theorem deltas_join (v : Value) (l : List DeltaD) (w : World) (h : Ds w [] v l) (hn : ∀ d ∈ l, NOk d) (hl : l.length ≤ 1099511627776) :
    Calls Tryz.prog 26 #[v] w fun e w' => JoinPost l w e w' := by
  obtain ⟨i0, hi0, hz0, hz1, hz2⟩ := info_parts infoDelta2
  have Hi0 := Lib.hid hi0; have Hz0 := Lib.hid hz0; have Hz1 := Lib.hid hz1; have Hz2 := Lib.hid hz2
  obtain ⟨A, c, rfl, hc⟩ := h.len
  have Hh := Lib.hid h; have Hn := Lib.hid hn
  clear h hn hi0 hz0 hz1 hz2
  go_enter Tryz.func26, Tryz.ntmps26
  go_wp2_with fail
  go_loopw [3, 9] (fun out i wr => ∃ (x : Nat) (acc : List DeltaD), i = .int .i64 x ∧ x ≤ l.length ∧ Hid (∀ d ∈ acc, NOk d) ∧ Hid (acc = (l.take x).foldl addD []) ∧ Hid (wr.ownsRow w.heap.size 86 2 out acc.length (dCells acc)) ∧ Hid (Below w.heap.size w wr)) (fun _ i _ => l.length - (intOf i).toNat)
  case atStart => exact ⟨0, [], rfl, by omega, (show ∀ d ∈ ([] : List DeltaD), NOk d by simp), rfl, World.ownsRow_nil _ _ _ _, Below.refl _ _⟩
  case round =>
    obtain ⟨x, acc, rfl, hx, Hok, Hacc, Hown, Hbr⟩ := hrel
    have hal : acc.length ≤ x := by
      have := take_fold_len (l.take x) []
      rw [← Hacc.out, List.length_take] at this
      simp at this
      omega
    by_cases hlt : x < l.length
    · have hx1 : (x : Int) < (l.length : Int) := by omega
      obtain ⟨g, off, _, e1, _, hg, _, hcell⟩ := Rd.at_ dCell 2 (fun _ => rfl) (Hh.out.keep (Keeps.of_below (M := []) Hbr.out) (by simp)) hlt
      obtain rfl : A = some ⟨g, off, none⟩ := by injection e1
      clear e1
      have p0 := hcell 0 _ rfl
      have p1 := hcell 1 _ rfl
      rw [Nat.add_zero] at p0
      obtain ⟨hn0, hn1⟩ := Hn.out l[x] (List.getElem_mem _)
      have htk : Hid (addD acc l[x] = (l.take (x + 1)).foldl addD []) := by
        show _ = _
        rw [List.take_succ_eq_append_getElem hlt, List.foldl_append, ← Hacc.out]; rfl
      clear hcell
      generalize l[x] = d at *
      obtain ⟨ser, nn⟩ := d
      simp only [] at p0 p1 hn0 hn1
      obtain ⟨n, rfl⟩ := Int.eq_ofNat_of_zero_le hn0
      obtain ⟨Ao, co, rfl, hco⟩ := (show Ds wr [] u3 acc from Rd.of_own Hown.out (by simp)).len
      go_wp2_with fail
      have hka : Below wr.heap.size wr (wr.alloc (.cells #[.string ser, .int .u64 n] 86)) := below_new' _ _
      have hBl := Blk.new wr 86 #[.string ser, .int .u64 n]
      have Hix := Lib.hid (ix_any (.slice Ao acc.length co) acc wr.heap.size ser _ ((show Ds wr [] (.slice Ao acc.length co) acc from Rd.of_own Hown.out (by simp)).keep (Keeps.of_below (M := []) hka) (by simp)) (by omega) hBl.lt (hBl.cell 0))
      have HBl := Lib.hid hBl; have Hka := Lib.hid hka
      clear hBl hka
      refine Hix.out.mono ?_
      rintro e w3 ⟨rfl, hb3⟩
      have hbs := HBl.out.lt
      have HB3 := Lib.hid (HBl.out.below hb3 hbs)
      have Hb3 := Lib.hid (below_then Hka.out hb3)
      have Hb3w := Lib.hid (Hbr.out.trans (Hb3.out.mono Hbr.out.size))
      have HA : Hid (addD acc ⟨ser, (n : Int)⟩ = if ixD acc ser < 0 then acc ++ [⟨ser, (n : Int)⟩] else acc.set (ixD acc ser).toNat ⟨acc[(ixD acc ser).toNat]!.ser, (addS acc[(ixD acc ser).toNat]!.n.toNat n : Nat)⟩) := rfl
      have d0 := HB3.out.cell 0; have d1 := HB3.out.cell 1
      simp only [List.getElem?_toArray, List.getElem?_cons_succ, List.getElem?_cons_zero] at d0 d1
      have hbg : w.heap.size ≤ wr.heap.size := Hbr.out.size
      have hw3 : wr.heap.size < w3.heap.size := HB3.out.lt
      clear hb3 Hix p0 p1
      rcases ixD_cases acc ser with ⟨hix, _⟩ | ⟨k, hk, hix, _⟩
      · have HR : Hid (addD acc ⟨ser, (n : Int)⟩ = acc ++ [⟨ser, (n : Int)⟩]) := by show _ = _; rw [HA.out, hix]; rfl
        rw [hix]
        clear hix HA
        have Hown3 := Lib.hid ((own_below Hown.out Hb3.out).alloc (.cells #[.string ser, .int .u64 n] 86))
        go_wp2_with (at_builtin; refine wpList_append_any _ rfl (.tmp 18) (.tmp 20) _ rfl w.heap.size 86 i0 _ 2 24 Tryz.underlying24 Hi0.out Hz0.out Hz1.out Hz2.out rfl (by omega) (.slice Ao acc.length co) acc.length (dCells acc) rfl Hown3.out (w3.heap.size + 1) (some ⟨w3.heap.size, 0, none⟩) 1 1 (dCell ⟨ser, (n : Int)⟩) rfl (reads_new _ _ _ _ _ rfl) (by intro u hu; simp [dCell] at hu; rcases hu with rfl | rfl <;> rfl) (by unfold maxLen; omega) (by omega) (by simp; omega) ?_)
        intro v6 w6 hown6 hg6 hat6
        have Hown6 : Hid (w6.ownsRow w.heap.size 86 2 v6 (addD acc ⟨ser, (n : Int)⟩).length (dCells (addD acc ⟨ser, (n : Int)⟩))) := by
          show World.ownsRow _ _ _ _ _ _ _
          rw [HR.out]
          unfold dCells at hown6 ⊢
          rw [List.flatMap_append]
          simpa using hown6
        have Hb6 : Hid (Below w.heap.size w w6) := (Hb3w.out.alloc Hb3w.out.size _).grown hg6 (by have := Hb3w.out.size; simp; omega) (fun g hg => (Hown.out.lt g hg).1)
        have Hok6 : Hid (∀ d ∈ addD acc ⟨ser, (n : Int)⟩, NOk d) := by
          show ∀ _, _
          rw [HR.out]
          intro d hd
          rcases List.mem_append.1 hd with hd | hd
          · exact Hok.out d hd
          · simp at hd; subst hd; exact ⟨hn0, hn1⟩
        clear hown6 hg6 hat6
        go_wp2
        go_roundw
        case rel => exact ⟨x + 1, addD acc ⟨ser, (n : Int)⟩, by go_num, by omega, Hok6, htk, Hown6, Hb6⟩
        case measure => simp [intOf] <;> omega
      · have hak : Hid (acc[(ixD acc ser).toNat]! = acc[k]) := by show _ = _; rw [hix, Int.toNat_natCast, getElem!_pos acc k hk]
        obtain ⟨hq0, hq1⟩ := Hok.out acc[k] (List.getElem_mem _)
        have HR : Hid (addD acc ⟨ser, (n : Int)⟩ = acc.set k ⟨acc[k].ser, (addS acc[k].n.toNat n : Nat)⟩) := by show _ = _; rw [HA.out, hak.out, hix, if_neg (by omega), Int.toNat_natCast]
        have hset := Lib.hid (dCells_set acc k hk (addS acc[k].n.toNat n : Nat))
        rw [hix]
        obtain ⟨g2, cap, hv, hge, hgl⟩ := Hown.out.form (by omega)
        injection hv with hv1 _ hv3
        subst hv1 hv3
        have hown3 := own_below Hown.out Hb3.out
        obtain ⟨g', off', _, e1, _, _, _, hcell⟩ := Rd.at_ dCell 2 (fun _ => rfl) (show Ds w3 [] _ acc from Rd.of_own hown3 (by simp)) hk
        injection e1 with e1 _ e9
        injection e1 with e1
        injection e1 with e1 e2 _
        subst e1 e2
        clear e9
        have c1 : w3.cell? ⟨g2, k * 2 + 1, none⟩ = some (.int .u64 acc[k].n) := by have := hcell 1 _ rfl; rwa [Nat.zero_add] at this
        have Hown3 := Lib.hid (own_set hown3 (k * 2 + 1) (.int .u64 (addS acc[k].n.toNat n : Nat)) (by omega))
        have Hok6 : Hid (∀ d ∈ addD acc ⟨ser, (n : Int)⟩, NOk d) := by
          show ∀ _, _
          rw [HR.out]
          intro d hd
          have := addS_lt acc[k].n.toNat n
          rcases List.mem_or_eq_of_mem_set hd with hd | rfl
          · exact Hok.out d hd
          · exact ⟨by simp only []; omega, by simp only []; omega⟩
        have Hown6 : Hid ((w3.setCell ⟨g2, k * 2 + 1, none⟩ (.int .u64 (addS acc[k].n.toNat n : Nat))).ownsRow w.heap.size 86 2 (.slice (some ⟨g2, 0, none⟩) acc.length co) (addD acc ⟨ser, (n : Int)⟩).length (dCells (addD acc ⟨ser, (n : Int)⟩))) := by
          show World.ownsRow _ _ _ _ _ _ _
          rw [HR.out, List.length_set, ← hset.out]
          exact Hown3.out
        have Hb6 : Hid (Below w.heap.size w (w3.setCell ⟨g2, k * 2 + 1, none⟩ (.int .u64 (addS acc[k].n.toNat n : Nat)))) := Hb3w.out.setCell hge _
        clear hown3 hcell Hown3 hak hset HR HA hix
        obtain ⟨nk, hnk⟩ := Int.eq_ofNat_of_zero_le hq0
        rw [show acc[k].n.toNat = nk by rw [hnk]; rfl] at Hown6 Hb6
        rw [hnk] at c1 hq0 hq1
        clear hnk
        have hki : (0 : Int) ≤ (k : Int) := by omega
        have hki2 : (k : Int) < (acc.length : Int) := by omega
        have hfz : w3.frozen? ⟨g2, k * 2 + 1, none⟩ = false := by
          have := (own_below Hown.out Hb3.out).2
          rcases this with ⟨h, _⟩ | ⟨g', cap', cur, hv, _, hg, _⟩
          · cases h
          · injection hv with h1 _ _
            injection h1 with h1
            injection h1 with h1 _ _
            subst h1
            exact Base.Blk.frozen hg _
        have hadd := Lib.hid (fun W => add_any nk n W (by omega) (by omega))
        generalize addS nk n = sm at *
        generalize addD acc ⟨ser, (n : Int)⟩ = acc2 at *
        clear hq0 hq1 hn0 hn1 hge hgl
        go_wp2_with fail
        go_region_with ((go_at_call 75; refine (hadd.out _).mono ?_; rintro e w' ⟨rfl, rfl⟩))
        all_goals
          go_wp2
          go_roundw
          case rel => exact ⟨x + 1, acc2, by go_num, by omega, Hok6, htk, Hown6.out, (show Below _ _ _ from ⟨Hb6.out.os, Hb6.out.tape, Hb6.out.output, Hb6.out.size, Hb6.out.block⟩)⟩
          case measure => simp [intOf] <;> omega
    · obtain rfl : x = l.length := by omega
      have hfin : Hid (joinD l = acc) := by show _ = _; rw [Hacc.out, List.take_length]; rfl
      obtain ⟨Ao, co, rfl, hco⟩ := (show Ds wr [] u3 acc from Rd.of_own Hown.out (by simp)).len
      have hp : Hid (JoinPost l w (.returned (.slice Ao acc.length acc.length)) wr) := by
        show JoinPost _ _ _ _
        unfold JoinPost
        rw [hfin.out]
        exact ⟨Ao, rfl, fun M hM => Rd.clip (Rd.of_own Hown.out hM), Hbr.out⟩
      go_wp2_with fail
      refine (clipDelta Ao acc.length co _ hco).mono ?_
      rintro e w' ⟨rfl, rfl⟩
      go_wp2
      go_ret
      exact hp.out
end Go.Proofs.YtinnifhnabncfaaGreatDoor.Vi
end
/- Contract of hopperlaw4.known: true. -/
section
namespace Go.Proofs.YtinnifhnabncfaaGreatDoor.Vi
open Go.RowKit Base Mem Go.Shelf
def kx : EntryD := ⟨2, 0, 0, 0, 0, [], ⟨#[97, 61, 49]⟩, 2, 3⟩
theorem k_nil : readE [] = (zeroD, 12) := by
  unfold readE
  rw [show (readH []).2.2 = true by decide +kernel]
  rfl
theorem k_right : rightE kx = 0 := by decide +kernel
theorem k_zero : rightE zeroD = 12 := by decide +kernel
theorem k_same : sameE kx kx = true := by decide +kernel
def kl : List DeltaD := [⟨⟨#[97]⟩, 1⟩, ⟨⟨#[98]⟩, 2⟩, ⟨⟨#[97]⟩, 3⟩]
theorem k_join : joinD kl = [⟨⟨#[97]⟩, 4⟩, ⟨⟨#[98]⟩, 2⟩] := by kernel_rfl
theorem kx_short : Short kx := ⟨by decide, by simp [kx], by simp [kx]⟩
theorem kx_wf : Wf kx := ⟨by decide, by decide, by decide, by simp [kx]⟩
theorem k_back : readE (bytesE kx) = (kx, 0) := read_bytes kx k_right kx_wf kx_short
theorem k_len : (bytesE kx).length ≤ 1000 := by
  have h : (bytesE kx).length = ([UInt8.ofNat 2] ++ Lib.uvarint 2 ++ Lib.uvarint 3 ++ (Lib.uvarint 3 ++ [97, 61, 49])).length := rfl
  rw [h, Lib.uvarint_small (by omega), Lib.uvarint_small (by omega)]
  simp
set_option maxRecDepth 100000 in
set_option maxHeartbeats 1000000 in
theorem known_any (m : Int) (w : World) (hm : w.cell? ⟨0, 0, none⟩ = some (.int .i64 m)) :
    Calls Tryz.prog 21 #[] w fun e w' => SamePost true w e w' := by
  have hw0 : 0 < w.heap.size := by
    have := World.block_lt_of_cell? w _ hm
    simpa using this
  have Hm := Lib.hid hm
  clear hm
  have hkeepm : Hid (∀ W, Below w.heap.size w W → W.cell? ⟨0, 0, none⟩ = some (.int .i64 m)) := fun W hb => (hb.cell (p := ⟨0, 0, none⟩) hw0).trans Hm.out
  go_enter Tryz.func21, Tryz.ntmps21
  go_wp2_with fail
  have h1 := eread_any (.slice none 0 0) [] m w (Bs.nil _ _) (by decide) Hm.out
  rw [k_nil] at h1
  refine h1.mono ?_
  rintro e w1 ⟨dv, rfl, hD, hb1⟩
  obtain ⟨Ad, cd, rfl, _⟩ := (hD [] (by simp)).len
  have Hb1 := Lib.hid hb1
  clear hb1 hD h1
  simp only [eCell, zeroD]
  have hb2 : Below w.heap.size w ((w1.alloc (.cells #[.int .i64 0, .int .i64 0, .int .i64 0, .int .i64 0, .int .i64 0, .slice Ad 0 cd, .string ⟨#[]⟩, .int .i64 0, .int .i64 0] 26)).alloc (.cells #[.int .i64 2, .int .i64 0, .int .i64 0, .int .i64 0, .int .i64 0, .slice none 0 0, .string ⟨#[97, 61, 49]⟩, .int .i64 2, .int .i64 3] 26)) := (Hb1.out.alloc Hb1.out.size _).alloc (by have := Hb1.out.size; simp; omega) _
  have hB3 := Blk.new (w1.alloc (.cells #[.int .i64 0, .int .i64 0, .int .i64 0, .int .i64 0, .int .i64 0, .slice Ad 0 cd, .string ⟨#[]⟩, .int .i64 0, .int .i64 0] 26)) 26 #[.int .i64 2, .int .i64 0, .int .i64 0, .int .i64 0, .int .i64 0, .slice none 0 0, .string ⟨#[97, 61, 49]⟩, .int .i64 2, .int .i64 3]
  have hs1 : (w1.alloc (.cells #[.int .i64 0, .int .i64 0, .int .i64 0, .int .i64 0, .int .i64 0, .slice Ad 0 cd, .string ⟨#[]⟩, .int .i64 0, .int .i64 0] 26)).heap.size = w1.heap.size + 1 := by simp
  rw [hs1] at hB3
  have Hb2 := Lib.hid hb2; have HB3 := Lib.hid hB3
  clear hb2 hB3 hs1
  go_wp2_with fail
  generalize (w1.alloc _).alloc _ = w2 at *
  have hg3 : w1.heap.size + 1 < w2.heap.size := HB3.out.lt
  generalize w1.heap.size + 1 = g3 at *
  have h2 := Lib.hid (ebytes_2 kx (.slice none 0 0) m w2 rfl k_right (Ds.nil _ _) kx_short kx_wf (hkeepm.out _ Hb2.out))
  refine h2.out.mono ?_
  rintro e w3 ⟨A3, rfl, hS3, hb3⟩
  have HS3 := Lib.hid (hS3 [] (by simp)); have Hb3 := Lib.hid (below_then Hb2.out hb3); have HB3b := Lib.hid (HB3.out.below hb3 hg3)
  have hg3b : g3 < w3.heap.size := HB3b.out.lt
  have hkl := k_len
  clear hS3 hb3 h2 hg3 HB3 Hb2 Hb1
  have h3 := eread_any (.slice A3 (bytesE kx).length (bytesE kx).length) (bytesE kx) m w3 HS3.out (by omega) (hkeepm.out _ Hb3.out)
  rw [k_back] at h3
  have H3 := Lib.hid h3
  clear h3 hkl
  generalize (bytesE kx).length = bl at *
  go_wp2_with fail
  refine H3.out.mono ?_
  rintro e w4 ⟨dv4, rfl, hD4, hb4⟩
  obtain ⟨A4, c4, rfl, hc4⟩ := (hD4 [] (by simp)).len
  have Hb4 := Lib.hid (below_then Hb3.out hb4); have HB4 := Lib.hid (HB3b.out.below hb4 hg3b)
  have hg4 : g3 < w4.heap.size := HB4.out.lt
  clear hD4 hb4 H3 HS3 HB3b hg3b Hb3 hc4
  simp only [eCell, kx]
  have hB6 : Blk ((w4.alloc (.cells #[.int .i64 2, .int .i64 0, .int .i64 0, .int .i64 0, .int .i64 0, .slice A4 0 c4, .string ⟨#[97, 61, 49]⟩, .int .i64 2, .int .i64 3] 26)).alloc (.cells #[.string ⟨#[97]⟩, .int .u64 1, .string ⟨#[98]⟩, .int .u64 2, .string ⟨#[97]⟩, .int .u64 3] 86)) w4.heap.size 26 #[.int .i64 2, .int .i64 0, .int .i64 0, .int .i64 0, .int .i64 0, .slice A4 0 c4, .string ⟨#[97, 61, 49]⟩, .int .i64 2, .int .i64 3] := (Blk.new w4 _ _).below (below_new' _ _) (by simp)
  have hB3 : Blk ((w4.alloc (.cells #[.int .i64 2, .int .i64 0, .int .i64 0, .int .i64 0, .int .i64 0, .slice A4 0 c4, .string ⟨#[97, 61, 49]⟩, .int .i64 2, .int .i64 3] 26)).alloc (.cells #[.string ⟨#[97]⟩, .int .u64 1, .string ⟨#[98]⟩, .int .u64 2, .string ⟨#[97]⟩, .int .u64 3] 86)) g3 26 _ := (HB4.out.below (below_new' _ _) hg4).below (below_new' _ _) (by simp; omega)
  have hb5 : Below w.heap.size w ((w4.alloc (.cells #[.int .i64 2, .int .i64 0, .int .i64 0, .int .i64 0, .int .i64 0, .slice A4 0 c4, .string ⟨#[97, 61, 49]⟩, .int .i64 2, .int .i64 3] 26)).alloc (.cells #[.string ⟨#[97]⟩, .int .u64 1, .string ⟨#[98]⟩, .int .u64 2, .string ⟨#[97]⟩, .int .u64 3] 86)) := (Hb4.out.alloc Hb4.out.size _).alloc (by have := Hb4.out.size; simp; omega) _
  have hBd := Blk.new (w4.alloc (.cells #[.int .i64 2, .int .i64 0, .int .i64 0, .int .i64 0, .int .i64 0, .slice A4 0 c4, .string ⟨#[97, 61, 49]⟩, .int .i64 2, .int .i64 3] 26)) 86 #[.string ⟨#[97]⟩, .int .u64 1, .string ⟨#[98]⟩, .int .u64 2, .string ⟨#[97]⟩, .int .u64 3]
  have hs4 : (w4.alloc (.cells #[.int .i64 2, .int .i64 0, .int .i64 0, .int .i64 0, .int .i64 0, .slice A4 0 c4, .string ⟨#[97, 61, 49]⟩, .int .i64 2, .int .i64 3] 26)).heap.size = w4.heap.size + 1 := by simp
  rw [hs4] at hBd
  have HB6 := Lib.hid hB6; have HB3 := Lib.hid hB3; have Hb5 := Lib.hid hb5; have HBd := Lib.hid hBd
  clear hB6 hB3 hb5 hBd hs4 HB4 Hb4
  go_wp2_with fail
  generalize (w4.alloc _).alloc _ = w5 at *
  have hds : Ds w5 [] (.slice (some ⟨w4.heap.size + 1, 0, none⟩) 3 3) kl := RowsK.rd_of_blk dCell 2 (fun _ => rfl) (l := kl) (rest := []) (by simpa [kl, dCell] using HBd.out) (by simp)
  have h5 := Lib.hid (deltas_join _ kl w5 hds (by intro d hd; simp [kl] at hd; rcases hd with rfl | rfl | rfl <;> exact ⟨by simp only []; omega, by simp only []; omega⟩) (by decide))
  refine h5.out.mono ?_
  rintro e w6 ⟨A6, rfl, hD6, hb6⟩
  rw [k_join] at hD6 ⊢
  have hg3 : g3 < w5.heap.size := HB3.out.lt
  have hg6 : w4.heap.size < w5.heap.size := HB6.out.lt
  have HB3c := Lib.hid (HB3.out.below hb6 hg3); have HB6c := Lib.hid (HB6.out.below hb6 hg6); have Hb6 := Lib.hid (below_then Hb5.out hb6)
  obtain ⟨g, off, _, e1, _, _, _, hc0⟩ := Rd.at_ dCell 2 (fun _ => rfl) (hD6 [] (by simp)) (k := 0) (by simp)
  obtain ⟨g', off', _, e2, _, _, _, hc1⟩ := Rd.at_ dCell 2 (fun _ => rfl) (hD6 [] (by simp)) (k := 1) (by simp)
  injection e1 with e1 _ e9
  subst e1
  injection e2 with e2 _ e8
  injection e2 with e2
  injection e2 with e2 e3 _
  subst e2 e3
  have c0 : w6.cell? ⟨g, off + 1, none⟩ = some (.int .u64 4) := by have := hc0 1 _ rfl; simpa using this
  have c1 : w6.cell? ⟨g, off + 3, none⟩ = some (.int .u64 2) := by have := hc1 1 _ rfl; simpa [Nat.add_assoc] using this
  clear e9 e8 hc0 hc1 hD6 hb6 h5 hds HB3 HB6 HBd Hb5
  generalize w4.heap.size = g6 at *
  obtain ⟨q0, q1, q2, q3, q4, q5, q6, q7, q8, qf⟩ := blk9 HB3c.out
  obtain ⟨r0, r1, r2, r3, r4, r5, r6, r7, r8, rf⟩ := blk9 HB6c.out
  have hsm := Lib.hid (same_any kx kx (.slice none 0 0) (.slice A4 0 c4) w6 (Ds.nil _ _) ⟨A4, c4, rfl, Nat.zero_le _, rfl, fun h => absurd h (by simp [kx])⟩ (by simp [kx]) (by simp [kx]))
  rw [k_same] at hsm
  have hri := Lib.hid (fun W (hb : Below w.heap.size w W) => eright_any zeroD (.slice none 0 0) m W (Ds.nil _ _) ⟨by decide, by simp [zeroD], by simp [zeroD]⟩ (hkeepm.out _ hb))
  rw [k_zero] at hri
  simp only [eCell, kx] at hsm
  simp only [eCell, zeroD] at hri
  go_wp2_with fail
  refine hsm.out.mono ?_
  rintro e w7 ⟨rfl, hb7⟩
  have Hb7 := Lib.hid (below_then Hb6.out hb7)
  have hgl : g < w6.heap.size := World.block_lt_of_cell? w6 _ c0
  have d0 : w7.cell? ⟨g, off + 1, none⟩ = some (.int .u64 4) := (hb7.cell (p := ⟨g, off + 1, none⟩) hgl).trans c0
  have d1 : w7.cell? ⟨g, off + 3, none⟩ = some (.int .u64 2) := (hb7.cell (p := ⟨g, off + 3, none⟩) hgl).trans c1
  have hri7 := Lib.hid (hri.out w7 Hb7.out)
  clear c0 c1 hb7 hsm hri q0 q1 q2 q3 q4 q5 q6 q7 q8 qf r0 r1 r2 r3 r4 r5 r6 r7 r8 rf
  go_wp2_with fail
  refine hri7.out.mono ?_
  rintro e w8 ⟨rfl, hb8⟩
  have Hb8 := Lib.hid (below_then Hb7.out hb8)
  have hgl7 : g < w7.heap.size := World.block_lt_of_cell? w7 _ d0
  have f0 : w8.cell? ⟨g, off + 1, none⟩ = some (.int .u64 4) := (hb8.cell (p := ⟨g, off + 1, none⟩) hgl7).trans d0
  have f1 : w8.cell? ⟨g, off + 3, none⟩ = some (.int .u64 2) := (hb8.cell (p := ⟨g, off + 3, none⟩) hgl7).trans d1
  clear d0 d1 hb8 hri7
  go_wp2
  go_ret
  exact ⟨rfl, Hb8.out⟩
end Go.Proofs.YtinnifhnabncfaaGreatDoor.Vi
end
/- Contracts of hopperbook.Within and (*hopperkeep.Tape).Next. -/
section
namespace Go.Proofs.YtinnifhnabncfaaGreatDoor.Tape
open Go.RowKit Base Mem
def withinS (n lo hi : Int) : Int := if lo ≤ n ∧ n ≤ hi then n else lo + n % (hi - lo + 1)
theorem tmod_fix (n m : Int) (hm : 0 < m) : (n.tmod m < 0 → n.tmod m + m = n % m) ∧ (¬ n.tmod m < 0 → n.tmod m = n % m) := by
  have h := Int.tmod_eq_emod (a := n) (b := m)
  have h1 := Int.emod_nonneg n (show m ≠ 0 by omega)
  have h2 := Int.emod_lt_of_pos n hm
  split at h
  · omega
  · rename_i hc
    have h3 : n % m ≠ 0 := fun h0 => hc (.inr (Int.dvd_of_emod_eq_zero h0))
    omega
theorem within_bd (n lo hi : Int) (h : lo ≤ hi) : lo ≤ withinS n lo hi ∧ withinS n lo hi ≤ hi := by
  unfold withinS
  have h1 := Int.emod_nonneg n (show hi - lo + 1 ≠ 0 by omega)
  have h2 := Int.emod_lt_of_pos n (show 0 < hi - lo + 1 by omega)
  split <;> omega
theorem within_any (n lo hi : Int) (w : World) (h0 : 0 ≤ lo) (h1 : lo ≤ hi) (h2 : hi ≤ 1073741824) :
    Calls Tryz.prog 22 #[.int .i64 n, .int .i64 lo, .int .i64 hi] w fun e w' => e = .returned (.int .i64 (withinS n lo hi)) ∧ w = w' := by
  by_cases hin : lo ≤ n ∧ n ≤ hi
  · have Hw : Hid (withinS n lo hi = n) := if_pos hin
    obtain ⟨hi1, hi2⟩ := hin
    go_enter Tryz.func22, Tryz.ntmps22
    go_wp2
    go_ret
    exact ⟨ret_int Hw.out.symm, rfl⟩
  · have Hw : Hid (withinS n lo hi = lo + n % (hi - lo + 1)) := if_neg hin
    obtain ⟨t1, t2⟩ := tmod_fix n (hi - lo + 1) (by omega)
    have h3 := Int.emod_nonneg n (show hi - lo + 1 ≠ 0 by omega)
    have h4 := Int.emod_lt_of_pos n (show 0 < hi - lo + 1 by omega)
    have hc : n < lo ∨ (lo ≤ n ∧ hi < n) := by omega
    have T1 := Lib.hid t1; have T2 := Lib.hid t2
    clear hin t1 t2
    have hb : n.tmod (hi - lo + 1) < hi - lo + 1 ∧ -(hi - lo + 1) ≤ n.tmod (hi - lo + 1) := by
      have a := T1.out; have b := T2.out
      by_cases hh : n.tmod (hi - lo + 1) < 0
      · have := a hh; omega
      · have := b hh; omega
    obtain ⟨hb1, hb2⟩ := hb
    generalize hg : n.tmod (hi - lo + 1) = t at *
    generalize n % (hi - lo + 1) = r at *
    by_cases ht : t < 0
    · have Hr : Hid (t + hi - lo + 1 = r) := by have := T1.out ht; show _ = _; omega
      rcases hc with hc | ⟨hc, hc2⟩
      all_goals
        go_enter Tryz.func22, Tryz.ntmps22
        go_wp2
        go_ret
        exact ⟨ret_int (by rw [Hw.out, ← Hr.out]), rfl⟩
    · have Hr : Hid (t = r) := T2.out ht
      rcases hc with hc | ⟨hc, hc2⟩
      all_goals
        go_enter Tryz.func22, Tryz.ntmps22
        go_wp2
        go_ret
        exact ⟨ret_int (by rw [Hw.out, ← Hr.out]), rfl⟩
/-- A tape's numbers, and below which block they lie. -/
structure TapeL where
  l : List Int
  B : Nat
/-- A tape lies in block b: its numbers, how many are read. -/
structure TapeAt (w : World) (b : Nat) (L : TapeL) (k : Nat) : Prop where
  le : k ≤ L.l.length
  max : L.l.length ≤ 9223372036854775807
  low : L.B ≤ b
  mem : ∃ A c, Blk w b 31 #[.slice A L.l.length c, .int .i64 k] ∧ L.l.length ≤ c ∧ (0 < L.l.length → ∃ g off, A = some ⟨g, off, none⟩ ∧ g < L.B ∧ ∀ (j : Nat) (x : Int), L.l[j]? = some x → w.cell? ⟨g, off + j, none⟩ = some (.int .i64 x))
section
variable {w w' : World} {M' : List Nat} {b k : Nat} {L : TapeL}
theorem TapeAt.lt (h : TapeAt w b L k) : b < w.heap.size := by obtain ⟨_, _, _, _, _, hv, _⟩ := h; exact hv.lt
theorem TapeAt.keep2 (h : TapeAt w b L k) (hk : Keeps M' w w') (hM : ∀ g ∈ M', L.B ≤ g ∧ g ≠ b) : TapeAt w' b L k := by
  obtain ⟨h1, h2, h3, A, c, hv, hc, hr⟩ := h
  refine ⟨h1, h2, h3, A, c, hk.blk hv (fun hm => (hM b hm).2 rfl), hc, fun hn => ?_⟩
  obtain ⟨g, off, e, hg, hx⟩ := hr hn
  exact ⟨g, off, e, hg, fun j x hj => (hk.cell (p := ⟨g, off + j, none⟩) (by have := hv.lt; simp; omega) (fun hm => by have := hM g hm; omega)).trans (hx j x hj)⟩
theorem TapeAt.keep (h : TapeAt w b L k) (hk : Keeps M' w w') (hM : ∀ g ∈ M', b < g) : TapeAt w' b L k :=
  h.keep2 hk (fun g hg => by have := hM g hg; have := h.low; omega)
theorem TapeAt.set_at (h : TapeAt w b L k) {j : Nat} (hj : j ≤ L.l.length) : TapeAt (w.setCell ⟨b, 1, none⟩ (.int .i64 j)) b L j := by
  obtain ⟨h1, h2, h3, A, c, hv, hc, hr⟩ := h
  refine ⟨hj, h2, h3, A, c, hv.set_ 1 (.int .i64 j), hc, fun hn => ?_⟩
  obtain ⟨g, off, e, hg, hx⟩ := hr hn
  exact ⟨g, off, e, hg, fun j' x hj' => (World.cell?_setCell_other _ _ _ _ (by intro e; injection e with e1; omega)).trans (hx j' x hj')⟩
theorem TapeAt.drewN (h : TapeAt w b L k) (n : Nat) : TapeAt (w.drewN n) b L k := h.keep (M' := []) ((Keeps.refl _ _).drewN n) (by simp)
theorem TapeAt.cells (h : TapeAt w b L k) : ∃ A c, w.cell? ⟨b, 0, none⟩ = some (.slice A L.l.length c) ∧ L.l.length ≤ c ∧ w.cell? ⟨b, 1, none⟩ = some (.int .i64 k) ∧ w.frozen? ⟨b, 1, none⟩ = false ∧ b < w.heap.size ∧
    (k < L.l.length → ∃ g off x, A = some ⟨g, off, none⟩ ∧ g < w.heap.size ∧ g ≠ b ∧ w.cell? ⟨g, off + k, none⟩ = some (.int .i64 x)) := by
  obtain ⟨h1, h2, h3, A, c, hv, hc, hr⟩ := h
  refine ⟨A, c, hv.cell 0, hc, hv.cell 1, hv.frozen 1, hv.lt, fun hk => ?_⟩
  obtain ⟨g, off, e, hg, hx⟩ := hr (by omega)
  exact ⟨g, off, L.l[k], e, by have := hv.lt; omega, by omega, hx k _ (List.getElem?_eq_getElem hk)⟩
end
theorem next_any (b : Nat) (L : TapeL) (k : Nat) (n : Int) (w : World) (h : TapeAt w b L k) :
    Calls Tryz.prog 62 #[.pointer (some ⟨b, 0, none⟩), .int .i64 n] w fun e w' => ∃ (v : Int) (k' : Nat), e = .returned (.int .i64 v) ∧ 0 ≤ v ∧ (1 ≤ n → v < n) ∧ TapeAt w' b L k' ∧ Keeps [b] w w' := by
  obtain ⟨A, c, c0, hc, c1, f1, hlt, hx⟩ := h.cells
  have hle := h.le
  have hmx := h.max
  have H := Lib.hid h
  by_cases hk : k < L.l.length
  · by_cases hn : 1 ≤ n
    · obtain ⟨g, off, x, rfl, hg, hne, hcell⟩ := hx hk
      have hwi := Lib.hid (fun W => within_any x 0 1073741824 W (by omega) (by omega) (by omega))
      have hwb := within_bd x 0 1073741824 (by omega)
      have hcell2 : (w.setCell ⟨b, 1, none⟩ (.int .i64 ((k : Int) + 1))).cell? ⟨g, off + k, none⟩ = some (.int .i64 x) := by
        rw [World.cell?_setCell_other _ _ _ _ (by intro e; injection e with e1; exact hne e1.symm)]; exact hcell
      have hj : ((k : Int) + 1 - 1) = k := by omega
      clear h hx hcell
      generalize withinS x 0 1073741824 = y at *
      have hr1 := Int.emod_nonneg y (show n ≠ 0 by omega)
      have hr2 := Int.emod_lt_of_pos y (show 0 < n by omega)
      have d0 : decide (L.l.length ≤ k) = false := by simp; omega
      have d1 : decide (n < 1) = false := by simp; omega
      go_enter Tryz.func62, Tryz.ntmps62
      go_wp2
      go_quiet (fail)
      go_wp2
      have hT : TapeAt ((w.drewN nq).setCell ⟨b, 1, none⟩ (.int .i64 ((k : Int) + 1))) b L (k + 1) := by
        have := (H.out.drewN nq).set_at (j := k + 1) (by omega)
        rwa [show (((k + 1 : Nat)) : Int) = (k : Int) + 1 by omega] at this
      have hK : Keeps [b] w ((w.drewN nq).setCell ⟨b, 1, none⟩ (.int .i64 ((k : Int) + 1))) := ((Keeps.refl _ _).drewN nq).setCell (by simp) _
      have e0 : ((w.drewN nq).setCell ⟨b, 1, none⟩ (.int .i64 ((k : Int) + 1))).cell? ⟨b, 0, none⟩ = some (.slice (some ⟨g, off, none⟩) L.l.length c) := by
        rw [World.cell?_setCell_other _ _ _ _ (by intro e; injection e with e1 e2; omega)]; exact c0
      have e1 : ((w.drewN nq).setCell ⟨b, 1, none⟩ (.int .i64 ((k : Int) + 1))).cell? ⟨b, 1, none⟩ = some (.int .i64 ((k : Int) + 1)) := by
        obtain ⟨_, _, _, _, _, hv, _⟩ := hT
        have := hv.cell 1
        simpa using this
      have e2 : ((w.drewN nq).setCell ⟨b, 1, none⟩ (.int .i64 ((k : Int) + 1))).cell? ⟨g, off + k, none⟩ = some (.int .i64 x) := hcell2
      clear hcell2 c0 c1 f1
      generalize ((w.drewN nq).setCell ⟨b, 1, none⟩ (.int .i64 ((k : Int) + 1))) = W at *
      have hk0 : (0 : Int) ≤ (k : Int) := by omega
      have hk1 : (k : Int) < (L.l.length : Int) := by omega
      go_quiet ((go_at_call 22; exact quiet_left (hwi.out _)))
      go_wp2
      go_ret
      exact ⟨_, _, rfl, hr1, fun _ => hr2, hT.drewN _, hK.drewN _⟩
    · have d0 : decide (L.l.length ≤ k) = false := by simp; omega
      have d1 : decide (n < 1) = true := by simp; omega
      clear h hx
      go_enter Tryz.func62, Tryz.ntmps62
      go_wp2
      go_quiet (fail)
      go_wp2
      go_ret
      exact ⟨0, k, rfl, by omega, fun h => by omega, H.out.drewN _, (Keeps.refl _ _).drewN _⟩
  · have d0 : decide (L.l.length ≤ k) = true := by simp; omega
    clear h hx
    go_enter Tryz.func62, Tryz.ntmps62
    go_wp2
    go_quiet (fail)
    go_wp2
    go_ret
    exact ⟨0, k, rfl, by omega, fun h => by omega, H.out.drewN _, (Keeps.refl _ _).drewN _⟩
end Go.Proofs.YtinnifhnabncfaaGreatDoor.Tape
end
/- Contracts of the tape's Series, N, Deltas. -/
section
namespace Go.Proofs.YtinnifhnabncfaaGreatDoor.Tape
open Go.RowKit Base Mem
def nameL : List (List UInt8) := [[97, 61, 49], [97, 61, 50], [97, 61, 49, 44, 98, 61, 120], [106, 111, 98, 61, 97, 112, 105, 44, 122, 111, 110, 101, 61, 101, 117], [106, 111, 98, 61, 119, 101, 98], [107, 61, 118], [110, 61, 48], [97, 61, 51, 44, 99, 61, 57]]
/-- A series that there is. -/
def NameOk (s : ByteArray) : Prop := ∃ l ∈ nameL, s = ⟨l.toArray⟩
def DeltaOk (d : DeltaD) : Prop := NameOk d.ser ∧ 1 ≤ d.n ∧ d.n ≤ 18446744073709551615
theorem names_any (w : World) : Calls Tryz.prog 107 #[] w fun e w' => e = .returned (.slice (some ⟨w.heap.size, 0, none⟩) 8 8) ∧ Blk w' w.heap.size 9 (nameL.map fun l => Value.string ⟨l.toArray⟩).toArray ∧ Below w.heap.size w w' := by
  go_enter Tryz.func107, Tryz.ntmps107
  go_wp2
  go_ret
  exact ⟨rfl, Blk.new w _ _, below_new' _ _⟩
theorem name_at {w : World} {g j : Nat} (h : Blk w g 9 (nameL.map fun l => Value.string ⟨l.toArray⟩).toArray) (hj : j < 8) : ∃ s, w.cell? ⟨g, j, none⟩ = some (.string s) ∧ NameOk s := by
  have hl : j < nameL.length := hj
  refine ⟨⟨nameL[j].toArray⟩, ?_, nameL[j], List.getElem_mem hl, rfl⟩
  rw [h.cell, List.getElem?_toArray, List.getElem?_map, List.getElem?_eq_getElem hl]
  rfl
theorem series_any (b : Nat) (L : TapeL) (k : Nat) (w : World) (h : TapeAt w b L k) :
    Calls Tryz.prog 55 #[.pointer (some ⟨b, 0, none⟩)] w fun e w' => ∃ (s : ByteArray) (k' : Nat), e = .returned (.string s) ∧ NameOk s ∧ TapeAt w' b L k' ∧ Keeps [b] w w' := by
  have H := Lib.hid h
  obtain ⟨_, _, _, _, _, _, hlt, _⟩ := h.cells
  clear h
  go_enter Tryz.func55, Tryz.ntmps55
  go_wp2_with fail
  refine (names_any w).mono ?_
  rintro e w1 ⟨rfl, hb1, hbel⟩
  have hT := H.out.keep (Keeps.of_below (M := []) hbel) (by simp)
  have Hb1 := Lib.hid hb1; have Hbel := Lib.hid hbel; have HT := Lib.hid hT
  clear hb1 hbel hT
  go_wp2_with fail
  refine (next_any b L k 8 w1 HT.out).mono ?_
  rintro e w2 ⟨v, k', rfl, hv0, hv8, hT2, hK2⟩
  obtain ⟨j, rfl⟩ := Int.eq_ofNat_of_zero_le hv0
  have hj8 : (j : Int) < 8 := hv8 (by omega)
  obtain ⟨s, hs, hok⟩ := name_at (hK2.blk Hb1.out (by simp; omega)) (show j < 8 by omega)
  have HT2 := Lib.hid hT2; have HK := Lib.hid ((Keeps.of_below (M := [b]) Hbel.out).trans hK2 (by simp))
  have Hok := Lib.hid hok
  clear hv8 hT2 hK2 hok
  go_wp2
  go_ret
  exact ⟨s, k', rfl, Hok.out, HT2.out, HK.out⟩
theorem n_any (b : Nat) (L : TapeL) (k : Nat) (w : World) (h : TapeAt w b L k) :
    Calls Tryz.prog 117 #[.pointer (some ⟨b, 0, none⟩)] w fun e w' => ∃ (n : Int) (k' : Nat), e = .returned (.int .u64 n) ∧ (1 ≤ n ∧ n ≤ 18446744073709551615) ∧ TapeAt w' b L k' ∧ Keeps [b] w w' := by
  have H := Lib.hid h
  clear h
  go_enter Tryz.func117, Tryz.ntmps117
  go_wp2_with fail
  refine (next_any b L k 12 w H.out).mono ?_
  rintro e w1 ⟨v, k', rfl, hv0, hv8, hT, hK⟩
  have hv12 := hv8 (by omega)
  have HT := Lib.hid hT; have HK := Lib.hid hK
  clear hv8 hT hK
  by_cases c0 : v = 0
  · subst c0
    go_wp2
    go_ret
    exact ⟨_, _, rfl, ⟨by omega, by omega⟩, HT.out, HK.out⟩
  · by_cases c1 : v = 1
    · subst c1
      go_wp2
      go_ret
      exact ⟨_, _, rfl, ⟨by omega, by omega⟩, HT.out, HK.out⟩
    · by_cases c2 : v = 2
      · subst c2
        go_wp2_with fail
        refine (next_any b L k' 1073741824 w1 HT.out).mono ?_
        rintro e w2 ⟨x, k2, rfl, hx0, hx1, hT2, hK2⟩
        have hx2 := hx1 (by omega)
        have HT2 := Lib.hid hT2; have HK2 := Lib.hid (HK.out.trans hK2 (by simp))
        clear hx1 hT2 hK2
        go_wp2
        go_ret
        exact ⟨_, _, rfl, ⟨by omega, by omega⟩, HT2.out, HK2.out⟩
      · have d0 : (v == 0) = false := by simpa using c0
        have d1 : (v == 1) = false := by simpa using c1
        have d2 : (v == 2) = false := by simpa using c2
        clear c0 c1 c2
        go_wp2_with fail
        refine (next_any b L k' 50 w1 HT.out).mono ?_
        rintro e w2 ⟨x, k2, rfl, hx0, hx1, hT2, hK2⟩
        have hx2 := hx1 (by omega)
        have HT2 := Lib.hid hT2; have HK2 := Lib.hid (HK.out.trans hK2 (by simp))
        clear hx1 hT2 hK2
        go_wp2
        go_ret
        exact ⟨_, _, rfl, ⟨by omega, by omega⟩, HT2.out, HK2.out⟩
theorem infoDelta' : (Tryz.prog.info? 86).map (fun i => (i.zero, i.size, i.bytes)) = some (some (.agg #[.string ByteArray.empty, .int .u64 0]), 2, 24) := by kernel_rfl
def DeltasPost (b : Nat) (L : TapeL) (most : Int) (w : World) (e : Ending) (w' : World) : Prop := ∃ (v : Value) (ds : List DeltaD) (k' : Nat), e = .returned v ∧ (∀ d ∈ ds, DeltaOk d) ∧ 1 ≤ ds.length ∧ (ds.length : Int) ≤ most ∧
      w'.ownsRow w.heap.size 86 2 v ds.length (dCells ds) ∧ TapeAt w' b L k' ∧ Keeps [b] w w'
set_option maxRecDepth 100000 in
theorem deltas_any (b : Nat) (L : TapeL) (k : Nat) (most : Int) (w : World) (h : TapeAt w b L k) (h1 : 1 ≤ most) (h2 : most ≤ 1000) :
    Calls Tryz.prog 63 #[.pointer (some ⟨b, 0, none⟩), .int .i64 most] w fun e w' => DeltasPost b L most w e w' := by
  obtain ⟨_, _, _, _, _, _, hbw, _⟩ := h.cells
  have H := Lib.hid h
  obtain ⟨i0, hi0, hz0, hz1, hz2⟩ := info_parts infoDelta'
  have Hi0 := Lib.hid hi0; have Hz0 := Lib.hid hz0; have Hz1 := Lib.hid hz1; have Hz2 := Lib.hid hz2
  clear h hi0 hz0 hz1 hz2
  go_enter Tryz.func63, Tryz.ntmps63
  go_wp2_with fail
  refine (next_any b L k most w H.out).mono ?_
  rintro e w1 ⟨v, k1, rfl, hv0, hv8, hT, hK⟩
  have hv9 := hv8 h1
  have HT := Lib.hid hT; have HK := Lib.hid hK
  clear hv8 hT hK
  go_wp2
  go_loopw [5, 6] (fun out nn wr => ∃ (ds : List DeltaD) (r : Int) (k' : Nat), nn = .int .i64 r ∧ 0 ≤ r ∧ r + ds.length = 1 + v ∧ Hid (∀ d ∈ ds, DeltaOk d) ∧ Hid (wr.ownsRow w.heap.size 86 2 out ds.length (dCells ds)) ∧ Hid (TapeAt wr b L k') ∧ Hid (Keeps [b] w wr))
    (fun _ nn _ => (intOf nn).toNat)
  case atStart => exact ⟨[], 1 + v, k1, rfl, by omega, by simp, (show ∀ _, _ from by simp), World.ownsRow_nil _ _ _ _, HT.out, HK.out⟩
  case round =>
    obtain ⟨ds, r, k', rfl, hr0, hrl, Hok, Hown, HTr, HKr⟩ := hrel
    have Hrl := Lib.hid hrl
    have hr1 : r ≤ 1 + v := by omega
    clear hrl
    by_cases hr : 0 < r
    · go_wp2_with fail
      refine (series_any b L k' wr HTr.out).mono ?_
      rintro e w2 ⟨s, k2, rfl, hs, hT2, hK2⟩
      have Hs := Lib.hid hs; have HT2 := Lib.hid hT2; have HK2 := Lib.hid hK2
      clear hs hT2 hK2
      go_wp2_with fail
      refine (n_any b L k2 w2 HT2.out).mono ?_
      rintro e w3 ⟨n, k3, rfl, hn, hT3, hK3⟩
      have Hn := Lib.hid hn; have HT3 := Lib.hid hT3
      have hK4 := HK2.out.trans hK3 (by simp)
      have HK4 := Lib.hid hK4
      have hown3 : w3.ownsRow w.heap.size 86 2 u5 ds.length (dCells ds) := own_keep Hown.out hK4 (by simp; omega)
      have Hown3 := Lib.hid (hown3.alloc (.cells #[.string s, .int .u64 n] 86))
      have hds : ds.length ≤ 1000 := by have := Hrl.out; omega
      clear hn hT3 hK3 hK4 hown3
      go_wp2_with (at_builtin; refine wpList_append_any _ rfl (.tmp 15) (.tmp 21) _ rfl w.heap.size 86 i0 _ 2 24 Tryz.underlying24 Hi0.out Hz0.out Hz1.out Hz2.out rfl (by omega) u5 ds.length (dCells ds) rfl Hown3.out (w3.heap.size + 1) (some ⟨w3.heap.size, 0, none⟩) 1 1 (dCell ⟨s, n⟩) rfl (reads_new _ _ _ _ _ rfl) (by intro u hu; simp [dCell] at hu; rcases hu with rfl | rfl <;> rfl) (by unfold maxLen; omega) (by omega) (by have := HKr.out.size; have := HK4.out.size; simp; omega) ?_)
      intro v' w4 hown4 hg4 hat4
      have hlt0 := Hown.out.lt
      have hK5 : Keeps [b] w w4 := ((HKr.out.trans HK4.out (by simp)).alloc _).grown hg4 (fun g hg => .inr (hlt0 g hg).1)
      have hT5 : TapeAt w4 b L k3 := HT3.out.keep (M' := u5.ownBlock.toList) (((Keeps.refl _ _).alloc _).grown hg4 (fun g hg => .inl (by simpa using hg))) (by intro g hg; have := hlt0 g (by simpa using hg); omega)
      have hok4 : ∀ d ∈ ds ++ [(⟨s, n⟩ : DeltaD)], DeltaOk d := fun d hd => by
        rcases List.mem_append.1 hd with hd | hd
        · exact Hok.out d hd
        · simp at hd; subst hd; exact ⟨Hs.out, Hn.out⟩
      have Hok4 := Lib.hid hok4
      clear hok4
      have Hown4 : Hid (w4.ownsRow w.heap.size 86 2 v' (ds ++ [(⟨s, n⟩ : DeltaD)]).length (dCells (ds ++ [(⟨s, n⟩ : DeltaD)]))) := by
        show World.ownsRow _ _ _ _ _ _ _
        rw [List.length_append]
        unfold dCells at hown4 ⊢
        rw [List.flatMap_append]
        simpa using hown4
      have HT5 := Lib.hid hT5; have HK5 := Lib.hid hK5
      clear hown4 hg4 hat4 hlt0 hK5 hT5
      go_wp2
      go_roundw
      case rel => exact ⟨ds ++ [(⟨s, n⟩ : DeltaD)], r - 1, k3, rfl, by omega, by have := Hrl.out; simp; omega, Hok4, Hown4, HT5, HK5⟩
      case measure => simp [intOf]; omega
    · have hr0 : r = 0 := by omega
      subst hr0
      have hpost : DeltasPost b L most w (.returned u5) wr := ⟨u5, ds, k', rfl, Hok.out, by have := Hrl.out; omega, by have := Hrl.out; omega, Hown.out, HTr.out, HKr.out⟩
      go_wp2
      go_ret
      exact hpost
end Go.Proofs.YtinnifhnabncfaaGreatDoor.Tape
end
