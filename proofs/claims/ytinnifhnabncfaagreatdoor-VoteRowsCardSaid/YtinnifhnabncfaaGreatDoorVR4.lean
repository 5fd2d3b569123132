/- Texts put together: Ent2, Ent3, Ent4, Ent5, EntB, Ent6, Ent7, Ent8, PlE, PlE2, EntC, Ent9. -/
import Derived.Shelf.SlicesQ.IndexFunc
import Derived.Deep.DeepCutAuto
import Derived.Lib.Strings
import Derived.Test.YtinnifhnabncfaaGreatDoorVR1
import Derived.Test.YtinnifhnabncfaaGreatDoorVR3
/- Contract of entry.written. -/
section
namespace Go.Proofs.YtinnifhnabncfaaGreatDoor.Vi
open Go.RowKit Base Mem Go.Shelf
instance : Inhabited DeltaD := ⟨⟨⟨#[]⟩, 0⟩⟩
def badId (e : EntryD) : Bool := !(withinB e.ag 8) || !(withinB e.sh 4) || decide (e.seq < 1) || decide (e.ep < 1)
def writtenS (e : EntryD) : Nat := if badId e = true then 1 else if 8 < e.ds.length then 3 else if (e.ds.length == 0 || e.ds.any fun d => d.n == 0) = true then 1 else if (e.ds.all fun d => serOk d.ser) = true then 0 else 12
theorem zero_any (d : DeltaD) (w : World) : Calls Tryz.prog 172 #[.agg #[.string d.ser, .int .u64 d.n]] w fun r w' => r = .returned (.bool (d.n == 0)) ∧ Below w.heap.size w w' := by
  have hb : Hid (∀ o, Below w.heap.size w (w.alloc o)) := fun o => (Below.refl _ _).alloc (Nat.le_refl _) o
  go_enter Tryz.func172, Tryz.ntmps172
  go_wp2
  go_ret
  exact ⟨rfl, hb.out _⟩
theorem ds_cells {w : World} {M : List Nat} {v : Value} {l : List DeltaD} (h : Ds w M v l) (h0 : 0 < l.length) : ∃ g off c, v = .slice (some ⟨g, off, none⟩) l.length c ∧ g < w.heap.size ∧ ∀ j, j < l.length → ∀ i u, (dCell l[j]!)[i]? = some u → w.cell? ⟨g, off + j * 2 + i, none⟩ = some u := by
  obtain ⟨g, off, c, e, _, hg, _, _⟩ := Rd.at_ dCell 2 (fun _ => rfl) h h0
  refine ⟨g, off, c, e, hg, fun j hj i u hu => ?_⟩
  obtain ⟨g2, off2, c2, e2, _, _, _, hx⟩ := Rd.at_ dCell 2 (fun _ => rfl) h hj
  rw [e] at e2
  injection e2 with e2 _ _
  injection e2 with e2
  injection e2 with e3 e4 _
  subst e3 e4
  exact hx i u (by rw [← getElem!_pos l j hj]; exact hu)
theorem anyzero_any (v : Value) (l : List DeltaD) (w : World) (h : Ds w [] v l) (h0 : 0 < l.length) (hl : l.length ≤ 8) :
    Calls Tryz.prog 171 #[v, .func (.func 172) #[] #[]] w fun r w' => r = .returned (.bool (l.any fun d => d.n == 0)) ∧ Below w.heap.size w w' := by
  obtain ⟨g, off, c, rfl, hg, hc⟩ := ds_cells h h0
  have heg : ∀ args w, (callFunc 172 args).run Tryz.prog w = .ok (.enter 172 args) w := enters_of Tryz.func172 (by kernel_rfl) rfl
  have hp : PredBelow Tryz.prog 172 #[] (fun x => .agg (dCell x).toArray) (fun d => d.n == 0) w := fun W x hb => by
    refine Calls.mono (zero_any x W) ?_
    rintro r w' ⟨rfl, hb2⟩
    exact ⟨rfl, hb.trans (hb2.mono hb.size)⟩
  have := AnyQ.slices_ContainsFunc Tryz.containsFuncDelta 2 Tryz.isAgg86 Tryz.sizeOf86 dCell (fun _ => rfl) (fun d => d.n == 0) 172 #[] heg g off l.length c l w hp (Nat.le_refl _) (by omega) hg hc
  rw [List.take_length] at this
  exact this
set_option maxRecDepth 100000 in
set_option maxHeartbeats 1000000 in
theorem written_any (e : EntryD) (dv : Value) (m : Int) (w : World) (h : Ds w [] dv e.ds) (hs : ∀ d ∈ e.ds, d.ser.size < 4294967281) (hl : e.ds.length ≤ 4611686018427387904) (hm : w.cell? ⟨0, 0, none⟩ = some (.int .i64 m)) :
    Calls Tryz.prog 125 #[.agg (eCell (e, dv)).toArray] w fun r w' => NumPost (writtenS e) w r w' := by
  have HW : Hid (writtenS e = if badId e = true then 1 else if 8 < e.ds.length then 3 else if (e.ds.length == 0 || e.ds.any fun d => d.n == 0) = true then 1 else if (e.ds.all fun d => serOk d.ser) = true then 0 else 12) := rfl
  have hw0 : 0 < w.heap.size := by
    have := World.block_lt_of_cell? w _ hm
    simpa using this
  obtain ⟨kind, ag, sh, seq, ep, ds, ser, fr, tag⟩ := e
  simp only [] at h hs hl HW
  have HB : Hid (badId ⟨kind, ag, sh, seq, ep, ds, ser, fr, tag⟩ = (!(withinB ag 8) || !(withinB sh 4) || decide (seq < 1) || decide (ep < 1))) := rfl
  generalize writtenS ⟨kind, ag, sh, seq, ep, ds, ser, fr, tag⟩ = wr0 at *
  generalize badId ⟨kind, ag, sh, seq, ep, ds, ser, fr, tag⟩ = bad at *
  have hwi := Lib.hid (fun a b W => within2_any a b W)
  obtain ⟨A, c, rfl, hc⟩ := h.len
  obtain ⟨w2, hw2⟩ : ∃ w2, w2 = w.alloc (.cells #[.int .i64 kind, .int .i64 ag, .int .i64 sh, .int .i64 seq, .int .i64 ep, .slice A ds.length c, .string ser, .int .i64 fr, .int .i64 tag] 26) := ⟨_, rfl⟩
  have hB : Blk w2 w.heap.size 26 #[.int .i64 kind, .int .i64 ag, .int .i64 sh, .int .i64 seq, .int .i64 ep, .slice A ds.length c, .string ser, .int .i64 fr, .int .i64 tag] := by rw [hw2]; exact Blk.new w _ _
  have hk2 : Keeps [] w w2 := by rw [hw2]; exact (Keeps.refl _ _).alloc _
  have c1 := hB.cell 1; have c2 := hB.cell 2; have c3 := hB.cell 3; have c4 := hB.cell 4; have c5 := hB.cell 5
  simp only [List.getElem?_toArray, List.getElem?_cons_succ, List.getElem?_cons_zero] at c1 c2 c3 c4 c5
  have Hm := Lib.hid hm; have Hs := Lib.hid hs; have Hk2 := Lib.hid hk2; have Hw2 := Lib.hid hw2; have HD := Lib.hid (h.keep hk2 (by simp))
  clear hm hs hk2 hw2 h hB
  show Calls Tryz.prog 125 #[.agg #[.int .i64 kind, .int .i64 ag, .int .i64 sh, .int .i64 seq, .int .i64 ep, .slice A ds.length c, .string ser, .int .i64 fr, .int .i64 tag]] w fun r w' => NumPost wr0 w r w'
  go_enter Tryz.func125, Tryz.ntmps125
  go_upto_region 1 with (fail)
  rw [← Hw2.out]
  go_cut [7] (fun s wx => s = .bool bad ∧ wx = w2)
  case first =>
    cases h1 : withinB ag 8 with
    | false =>
      have hb : Hid (bad = true) := by show _ = _; rw [HB.out, h1]; simp
      clear HB HW
      go_wp2_with (go_at_call 124; refine (hwi.out _ _ _).mono ?_; rintro r w' ⟨rfl, rfl⟩; rw [h1])
      go_meet
      exact ⟨by rw [hb.out], rfl⟩
    | true =>
      cases h2 : withinB sh 4 with
      | false =>
        have hb : Hid (bad = true) := by show _ = _; rw [HB.out, h1, h2]; simp
        clear HB HW
        go_wp2_with (go_at_call 124; refine (hwi.out _ _ _).mono ?_; rintro r w' ⟨rfl, rfl⟩; first | rw [h1] | rw [h2])
        go_meet
        exact ⟨by rw [hb.out], rfl⟩
      | true =>
        by_cases h3 : seq < 1
        · have hb : Hid (bad = true) := by show _ = _; rw [HB.out, h1, h2, decide_eq_true h3]; simp
          clear HB HW
          go_wp2_with (go_at_call 124; refine (hwi.out _ _ _).mono ?_; rintro r w' ⟨rfl, rfl⟩; first | rw [h1] | rw [h2])
          go_meet
          exact ⟨by rw [hb.out], rfl⟩
        · have h3' : decide (seq < 1) = false := decide_eq_false h3
          have hb : Hid (bad = decide (ep < 1)) := by show _ = _; rw [HB.out, h1, h2, h3']; simp
          clear HB HW
          by_cases h4 : ep < 1
          · go_wp2_with (go_at_call 124; refine (hwi.out _ _ _).mono ?_; rintro r w' ⟨rfl, rfl⟩; first | rw [h1] | rw [h2])
            go_meet
            exact ⟨by rw [hb.out, decide_eq_true h4], rfl⟩
          · have h4' : decide (ep < 1) = false := decide_eq_false h4
            go_wp2_with (go_at_call 124; refine (hwi.out _ _ _).mono ?_; rintro r w' ⟨rfl, rfl⟩; first | rw [h1] | rw [h2])
            go_meet
            exact ⟨by rw [hb.out, h4'], rfl⟩
  case rest =>
    obtain ⟨rfl, rfl⟩ := hcut
    have hbel : Hid (Below w.heap.size w wc) := Hk2.out.below
    have hwc : w.heap.size ≤ wc.heap.size := Hk2.out.size
    clear HB hwi
    cases bad with
    | true =>
      have hR : Hid (wr0 = 1) := by show _ = _; rw [HW.out, if_pos rfl]
      clear HW
      go_wp2
      go_ret
      exact ⟨by rw [hR.out]; rfl, hbel.out⟩
    | false =>
      by_cases h8 : 8 < ds.length
      · have hR : Hid (wr0 = 3) := by show _ = _; rw [HW.out, if_neg (by simp), if_pos h8]
        have h8i : (8 : Int) < (ds.length : Int) := by omega
        clear HW
        go_wp2
        go_ret
        exact ⟨by rw [hR.out]; rfl, hbel.out⟩
      · have h8i : decide ((8 : Int) < (ds.length : Int)) = false := decide_eq_false (by omega)
        by_cases hn : ds.length = 0
        · have hR : Hid (wr0 = 1) := by show _ = _; rw [HW.out, if_neg (by simp), if_neg h8, hn]; rfl
          have hni : ((ds.length : Int) == 0) = true := by rw [beq_iff_eq]; omega
          clear HW
          go_wp2
          go_ret
          exact ⟨by rw [hR.out]; rfl, hbel.out⟩
        · have hni : ((ds.length : Int) == 0) = false := by rw [beq_eq_false_iff_ne]; omega
          have HW2 : Hid (wr0 = if (ds.any fun d => d.n == 0) = true then 1 else if (ds.all fun d => serOk d.ser) = true then 0 else 12) := by
            show _ = _
            rw [HW.out, if_neg (by simp), if_neg h8, show (ds.length == 0) = false by rw [beq_eq_false_iff_ne]; omega, Bool.false_or]
          have haz := Lib.hid (anyzero_any _ ds wc HD.out (by omega) (by omega))
          clear HW
          generalize (ds.any fun d => d.n == 0) = az at *
          go_wp2_with fail
          refine haz.out.mono ?_
          rintro r w3 ⟨rfl, hb3⟩
          have Hb3 := Lib.hid (below_then hbel.out hb3)
          have HD3 := Lib.hid (HD.out.keep (Keeps.of_below (M := []) hb3) (by simp))
          have hm3 : w3.cell? ⟨0, 0, none⟩ = some (.int .i64 m) := (Hb3.out.cell (p := ⟨0, 0, none⟩) hw0).trans Hm.out
          have Hm3 := Lib.hid hm3
          have d5 : w3.cell? ⟨w.heap.size, 5, none⟩ = some (.slice A ds.length c) := (hb3.cell (p := ⟨w.heap.size, 5, none⟩) (World.block_lt_of_cell? wc _ c5)).trans c5
          clear haz hb3 hm3
          cases az with
          | true =>
            have hR : Hid (wr0 = 1) := by show _ = _; rw [HW2.out, if_pos rfl]
            clear HW2
            go_wp2
            go_ret
            exact ⟨by rw [hR.out]; rfl, Hb3.out⟩
          | false =>
            have HW3 : Hid (wr0 = if (ds.all fun d => serOk d.ser) = true then 0 else 12) := by show _ = _; rw [HW2.out, if_neg (by simp)]
            have hw30 : 0 < w3.heap.size := by have := Hb3.out.size; omega
            clear HW2
            go_wp2_with fail
            go_loopw [49] (fun i wr => ∃ x : Nat, i = .int .i64 x ∧ x ≤ ds.length ∧ Hid (((ds.take x).all fun d => serOk d.ser) = true) ∧ Hid (Below w3.heap.size w3 wr)) (fun i _ => ds.length - (intOf i).toNat)
            case atStart => exact ⟨0, rfl, by omega, rfl, Below.refl _ _⟩
            case round =>
              obtain ⟨x, rfl, hx, Hall, Hbr⟩ := hrel
              by_cases hlt : x < ds.length
              · have hx1 : (x : Int) < (ds.length : Int) := by omega
                obtain ⟨g, off, _, e1, _, hg, _, hcell⟩ := Rd.at_ dCell 2 (fun _ => rfl) (HD3.out.keep (Keeps.of_below (M := []) Hbr.out) (by simp)) hlt
                obtain rfl : A = some ⟨g, off, none⟩ := by injection e1
                clear e1
                have p0 := hcell 0 _ rfl
                have p1 := hcell 1 _ rfl
                rw [Nat.add_zero] at p0
                have hsx := Hs.out ds[x] (List.getElem_mem _)
                have Hnx : Hid (((ds.take (x + 1)).all fun d => serOk d.ser) = serOk ds[x].ser) := by
                  show _ = _
                  rw [List.take_succ_eq_append_getElem hlt, List.all_append, Hall.out]; simp
                have Hbad : Hid (serOk ds[x].ser = false → wr0 = 12) := fun h => by
                  rw [HW3.out, if_neg]
                  intro hall
                  rw [List.all_eq_true] at hall
                  have := hall ds[x] (List.getElem_mem _)
                  rw [h] at this; cases this
                have hcell2 : (wr.alloc (.cells #[.string ds[x].ser, .int .u64 ds[x].n] 86)).cell? ⟨0, 0, none⟩ = some (.int .i64 m) := by
                  rw [World.cell?_alloc_lt _ _ _ (by have := Hbr.out.size; simp; omega)]
                  exact (Hbr.out.cell (p := ⟨0, 0, none⟩) hw30).trans Hm3.out
                have hpa := Lib.hid (parse_any ds[x].ser m _ hsx hcell2)
                have Hbra : Hid (Below w3.heap.size w3 (wr.alloc (.cells #[.string ds[x].ser, .int .u64 ds[x].n] 86))) := Hbr.out.alloc Hbr.out.size _
                clear hcell hcell2 hsx
                generalize ds[x] = d at *
                obtain ⟨dser, dn⟩ := d
                simp only [] at *
                cases hok : serOk dser with
                | true =>
                  have ho : Hid (((ds.take (x + 1)).all fun d => serOk d.ser) = true) := by show _ = _; rw [Hnx.out, hok]
                  have hpa2 := Lib.hid (show Calls Tryz.prog 126 #[.string dser] (wr.alloc (.cells #[.string dser, .int .u64 dn] 86)) fun e w' => ∃ v, e = .returned (.tuple #[v, .int .i64 0]) ∧ Below (wr.alloc (.cells #[.string dser, .int .u64 dn] 86)).heap.size (wr.alloc (.cells #[.string dser, .int .u64 dn] 86)) w' by
                    have := hpa.out; unfold ParsePost at this; rwa [hok, if_pos rfl] at this)
                  clear hpa Hbad Hnx hok
                  go_wp2_with fail
                  refine hpa2.out.mono ?_
                  rintro r w4 ⟨v4, rfl, hb4⟩
                  have Hb4 := Lib.hid (below_then Hbra.out hb4)
                  clear hb4
                  go_wp2
                  go_roundw
                  case rel => exact ⟨x + 1, by go_num, by omega, ho.out, Hb4.out⟩
                  case measure => simp [intOf] <;> omega
                | false =>
                  have hR := Lib.hid (Hbad.out hok)
                  have hpa2 := Lib.hid (show Calls Tryz.prog 126 #[.string dser] (wr.alloc (.cells #[.string dser, .int .u64 dn] 86)) fun e w' => ∃ v, e = .returned (.tuple #[v, .int .i64 12]) ∧ Below (wr.alloc (.cells #[.string dser, .int .u64 dn] 86)).heap.size (wr.alloc (.cells #[.string dser, .int .u64 dn] 86)) w' by
                    have := hpa.out; unfold ParsePost at this; rwa [hok, if_neg (by simp)] at this)
                  clear hpa Hbad Hnx hok
                  go_wp2_with fail
                  refine hpa2.out.mono ?_
                  rintro r w4 ⟨v4, rfl, hb4⟩
                  have Hb4 := Lib.hid (below_then Hb3.out (below_then Hbra.out hb4))
                  clear hb4
                  go_wp2
                  go_ret
                  exact ⟨by rw [hR.out]; rfl, Hb4.out⟩
              · obtain rfl : x = ds.length := by omega
                have hR : Hid (wr0 = 0) := by
                  show _ = _
                  have := Hall.out
                  rw [List.take_length] at this
                  rw [HW3.out, if_pos this]
                go_wp2
                go_ret
                exact ⟨by rw [hR.out]; rfl, below_then Hb3.out Hbr.out⟩
end Go.Proofs.YtinnifhnabncfaaGreatDoor.Vi
end
/- Contract of entry.Right. -/
section
namespace Go.Proofs.YtinnifhnabncfaaGreatDoor.Vi
open Go.RowKit Base Mem Go.Shelf
def rightE (e : EntryD) : Nat := if kindS e = false then 12 else if (!(withinB e.fr 8) || decide (e.tag < 0)) = true then 1 else if e.kind = 1 then writtenS e else if serOk e.ser = true then 0 else 12
/-- No text of an entry is longer than the library's search takes. -/
def Short (e : EntryD) : Prop := e.ser.size < 4294967281 ∧ (∀ d ∈ e.ds, d.ser.size < 4294967281) ∧ e.ds.length ≤ 4611686018427387904
set_option maxRecDepth 100000 in
set_option maxHeartbeats 1000000 in
theorem eright_any (e : EntryD) (dv : Value) (m : Int) (w : World) (h : Ds w [] dv e.ds) (hs : Short e) (hm : w.cell? ⟨0, 0, none⟩ = some (.int .i64 m)) :
    Calls Tryz.prog 66 #[.agg (eCell (e, dv)).toArray] w fun r w' => NumPost (rightE e) w r w' := by
  have HR : Hid (rightE e = if kindS e = false then 12 else if (!(withinB e.fr 8) || decide (e.tag < 0)) = true then 1 else if e.kind = 1 then writtenS e else if serOk e.ser = true then 0 else 12) := rfl
  have hw0 : 0 < w.heap.size := by
    have := World.block_lt_of_cell? w _ hm
    simpa using this
  obtain ⟨hs1, hs2, hs3⟩ := hs
  have hkd := Lib.hid (fun A c W => kind_any e A c W)
  have hwr := Lib.hid (fun W (hk : Keeps [] w W) (hmW : W.cell? ⟨0, 0, none⟩ = some (.int .i64 m)) => written_any e dv m W (h.keep hk (by simp)) hs2 hs3 hmW)
  have hpa := Lib.hid (fun W (hmW : W.cell? ⟨0, 0, none⟩ = some (.int .i64 m)) => parse_any e.ser m W hs1 hmW)
  obtain ⟨A, c, rfl, hc⟩ := h.len
  generalize rightE e = rr at *
  generalize kindS e = ks at *
  generalize writtenS e = ws at *
  obtain ⟨kind, ag, sh, seq, ep, ds, ser, fr, tag⟩ := e
  simp only [] at h hs1 hs2 hs3 hkd hwr hpa HR hc
  have hwi := Lib.hid (fun a b W => within2_any a b W)
  obtain ⟨w2, hw2⟩ : ∃ w2, w2 = w.alloc (.cells #[.int .i64 kind, .int .i64 ag, .int .i64 sh, .int .i64 seq, .int .i64 ep, .slice A ds.length c, .string ser, .int .i64 fr, .int .i64 tag] 26) := ⟨_, rfl⟩
  have hB : Blk w2 w.heap.size 26 #[.int .i64 kind, .int .i64 ag, .int .i64 sh, .int .i64 seq, .int .i64 ep, .slice A ds.length c, .string ser, .int .i64 fr, .int .i64 tag] := by rw [hw2]; exact Blk.new w _ _
  have hk2 : Keeps [] w w2 := by rw [hw2]; exact (Keeps.refl _ _).alloc _
  have Hm := Lib.hid hm; have Hk2 := Lib.hid hk2; have Hw2 := Lib.hid hw2; have HB := Lib.hid hB
  clear hm hk2 hw2 h hs1 hs2 hs3
  have hkd2 : Hid (∀ W, Calls Tryz.prog 123 #[.agg #[.int .i64 kind, .int .i64 ag, .int .i64 sh, .int .i64 seq, .int .i64 ep, .slice A ds.length c, .string ser, .int .i64 fr, .int .i64 tag]] W fun r w' => r = .returned (.bool ks) ∧ Below W.heap.size W w') := fun W => hkd.out A c W
  have hwr2 : Hid (∀ W, Keeps [] w W → W.cell? ⟨0, 0, none⟩ = some (.int .i64 m) → Calls Tryz.prog 125 #[.agg #[.int .i64 kind, .int .i64 ag, .int .i64 sh, .int .i64 seq, .int .i64 ep, .slice A ds.length c, .string ser, .int .i64 fr, .int .i64 tag]] W fun r w' => r = .returned (.int .i64 ws) ∧ Below W.heap.size W w') := fun W hk hmW => hwr.out W hk hmW
  clear hkd hwr
  have c0 := hB.cell 0; have c1 := hB.cell 1; have c2 := hB.cell 2; have c3 := hB.cell 3; have c4 := hB.cell 4; have c5 := hB.cell 5; have c6 := hB.cell 6; have c7 := hB.cell 7; have c8 := hB.cell 8
  simp only [List.getElem?_toArray, List.getElem?_cons_succ, List.getElem?_cons_zero] at c0 c1 c2 c3 c4 c5 c6 c7 c8
  clear hB
  show Calls Tryz.prog 66 #[.agg #[.int .i64 kind, .int .i64 ag, .int .i64 sh, .int .i64 seq, .int .i64 ep, .slice A ds.length c, .string ser, .int .i64 fr, .int .i64 tag]] w fun r w' => NumPost rr w r w'
  go_enter Tryz.func66, Tryz.ntmps66
  go_upto_region 1 with (fail)
  rw [← Hw2.out]
  go_wp2_with fail
  refine (hkd2.out _).mono ?_
  rintro r w3 ⟨rfl, hb3⟩
  have hw2s : w.heap.size < w2.heap.size := HB.out.lt
  have HB3 := Lib.hid (HB.out.below hb3 hw2s)
  have Hk3 : Hid (Keeps [] w w3) := Hk2.out.trans (Keeps.of_below (M := []) hb3) (by simp)
  have c0 := HB3.out.cell 0; have c1 := HB3.out.cell 1; have c2 := HB3.out.cell 2; have c3 := HB3.out.cell 3; have c4 := HB3.out.cell 4; have c5 := HB3.out.cell 5; have c6 := HB3.out.cell 6; have c7 := HB3.out.cell 7; have c8 := HB3.out.cell 8
  simp only [List.getElem?_toArray, List.getElem?_cons_succ, List.getElem?_cons_zero] at c0 c1 c2 c3 c4 c5 c6 c7 c8
  have hm3 : Hid (w3.cell? ⟨0, 0, none⟩ = some (.int .i64 m)) := (Hk3.out.cell (p := ⟨0, 0, none⟩) hw0 (by simp)).trans Hm.out
  clear hb3 hkd2
  cases ks with
  | false =>
    have hR : Hid (rr = 12) := by show _ = _; rw [HR.out, if_pos rfl]
    clear HR
    go_wp2
    go_ret
    exact ⟨by rw [hR.out]; rfl, Hk3.out.below⟩
  | true =>
    have HR2 : Hid (rr = if (!(withinB fr 8) || decide (tag < 0)) = true then 1 else if kind = 1 then ws else if serOk ser = true then 0 else 12) := by show _ = _; rw [HR.out, if_neg (by simp)]
    clear HR
    cases h1 : withinB fr 8 with
    | false =>
      have hR : Hid (rr = 1) := by show _ = _; rw [HR2.out, h1]; rfl
      clear HR2
      go_wp2_with (go_at_call 124; refine (hwi.out _ _ _).mono ?_; rintro r w' ⟨rfl, rfl⟩; rw [h1])
      go_ret
      exact ⟨by rw [hR.out]; rfl, Hk3.out.below⟩
    | true =>
      by_cases h2 : tag < 0
      · have hR : Hid (rr = 1) := by show _ = _; rw [HR2.out, h1, decide_eq_true h2]; rfl
        clear HR2
        go_wp2_with (go_at_call 124; refine (hwi.out _ _ _).mono ?_; rintro r w' ⟨rfl, rfl⟩; rw [h1])
        go_ret
        exact ⟨by rw [hR.out]; rfl, Hk3.out.below⟩
      · have h2' : decide (tag < 0) = false := decide_eq_false h2
        have HR3 : Hid (rr = if kind = 1 then ws else if serOk ser = true then 0 else 12) := by show _ = _; rw [HR2.out, h1, h2', if_neg (by simp)]
        clear HR2
        by_cases h3 : kind = 1
        · have hR : Hid (rr = ws) := by show _ = _; rw [HR3.out, if_pos h3]
          have h3' : (kind == 1) = true := by simpa using h3
          have hw := Lib.hid (hwr2.out w3 Hk3.out hm3.out)
          clear HR3 h3 hwr2
          go_wp2_with (go_at_call 124; refine (hwi.out _ _ _).mono ?_; rintro r w' ⟨rfl, rfl⟩; rw [h1])
          refine hw.out.mono ?_
          rintro r w4 ⟨rfl, hb4⟩
          have hb5 := Lib.hid (below_then Hk3.out.below hb4)
          clear hb4
          go_wp2
          go_ret
          exact ⟨by rw [hR.out]; rfl, hb5.out⟩
        · have h3' : (kind == 1) = false := by simpa using h3
          have hR : Hid (rr = if serOk ser = true then 0 else 12) := by show _ = _; rw [HR3.out, if_neg h3]
          have hp := Lib.hid (hpa.out w3 hm3.out)
          clear HR3 h3 hwr2 hpa
          go_wp2_with (go_at_call 124; refine (hwi.out _ _ _).mono ?_; rintro r w' ⟨rfl, rfl⟩; rw [h1])
          refine hp.out.mono ?_
          rintro r w4 ⟨v4, rfl, hb4⟩
          have hb5 := Lib.hid (below_then Hk3.out.below hb4)
          clear hb4 hp
          cases hok : serOk ser with
          | true =>
            have hR2 : Hid (rr = 0) := by show _ = _; rw [hR.out, hok]; rfl
            simp only [if_true]
            clear hR
            go_wp2
            go_ret
            exact ⟨by rw [hR2.out]; rfl, hb5.out⟩
          | false =>
            have hR2 : Hid (rr = 12) := by show _ = _; rw [hR.out, hok]; rfl
            clear hR
            go_wp2
            go_ret
            exact ⟨by rw [hR2.out]; rfl, hb5.out⟩
end Go.Proofs.YtinnifhnabncfaaGreatDoor.Vi
end
/- Contract of entry.Put. -/
section
namespace Go.Proofs.YtinnifhnabncfaaGreatDoor.Vi
open Go.RowKit Base Mem Go.Shelf
def dBytes (d : DeltaD) : List UInt8 := Lib.uvarint d.ser.size ++ sB d.ser ++ Lib.uvarint d.n.toNat
def NOk (d : DeltaD) : Prop := 0 ≤ d.n ∧ d.n < 18446744073709551616
def EPutPost (M : List Nat) (l : List UInt8) (w : World) (e : Ending) (w' : World) : Prop := ∃ A, e = .returned (.slice A l.length l.length) ∧ Bs w' M (.slice A l.length l.length) l ∧ Below w.heap.size w w'
set_option maxRecDepth 100000 in
set_option maxHeartbeats 1000000 in
theorem eput_any (M : List Nat) (A : Option Addr) (l : List UInt8) (dv : Value) (ds : List DeltaD) (w : World) (hM : ∀ g ∈ M, g < w.heap.size) (hb : Bs w M (.slice A l.length l.length) l) (h : Ds w [] dv ds) (hn : ∀ d ∈ ds, NOk d)
    (hl : ds.length ≤ 4611686018427387904) (hsz : l.length + (ds.flatMap dBytes).length ≤ 140737488355000) :
    Calls Tryz.prog 120 #[.slice A l.length l.length, dv] w fun e w' => EPutPost M (l ++ ds.flatMap dBytes) w e w' := by
  obtain ⟨Ad, cd, rfl, hcd⟩ := h.len
  have Hh := Lib.hid h; have Hb := Lib.hid hb; have Hn := Lib.hid hn; have HM := Lib.hid hM; have Hsz := Lib.hid hsz
  clear h hb hn hM hsz
  go_enter Tryz.func120, Tryz.ntmps120
  go_wp2_with fail
  go_loopw [0, 9] (fun b i wr => ∃ (x : Nat) (A' : Option Addr) (L : List UInt8), i = .int .i64 x ∧ x ≤ ds.length ∧ b = .slice A' L.length L.length ∧ Hid (L = l ++ (ds.take x).flatMap dBytes) ∧ Hid (Bs wr M (.slice A' L.length L.length) L) ∧ Hid (Below w.heap.size w wr)) (fun _ i _ => ds.length - (intOf i).toNat)
  case atStart => exact ⟨0, A, l, rfl, by omega, rfl, (show l = l ++ (ds.take 0).flatMap dBytes by simp), Hb.out, Below.refl _ _⟩
  case round =>
    obtain ⟨x, A', L, rfl, hx, rfl, HL, HB, Hbr⟩ := hrel
    by_cases hlt : x < ds.length
    · have hx1 : (x : Int) < (ds.length : Int) := by omega
      obtain ⟨g, off, _, e1, _, hg, _, hcell⟩ := Rd.at_ dCell 2 (fun _ => rfl) (Hh.out.keep (Keeps.of_below (M := []) Hbr.out) (by simp)) hlt
      obtain rfl : Ad = some ⟨g, off, none⟩ := by injection e1
      clear e1
      have p0 := hcell 0 _ rfl
      have p1 := hcell 1 _ rfl
      rw [Nat.add_zero] at p0
      obtain ⟨hn0, hn1⟩ := Hn.out ds[x] (List.getElem_mem _)
      have htk : ds.take (x + 1) = ds.take x ++ [ds[x]] := List.take_succ_eq_append_getElem hlt
      have HL2 : Hid (L ++ dBytes ds[x] = l ++ (ds.take (x + 1)).flatMap dBytes) := by show _ = _; rw [htk, List.flatMap_append, HL.out]; simp
      have hlen : L.length + (dBytes ds[x]).length ≤ 140737488355000 := by
        have h1 := congrArg List.length HL2.out
        rw [List.length_append, List.length_append] at h1
        have h2 : ((ds.take (x + 1)).flatMap dBytes).length ≤ (ds.flatMap dBytes).length := by
          conv => rhs; rw [← List.take_append_drop (x + 1) ds, List.flatMap_append, List.length_append]
          omega
        have := Hsz.out
        omega
      have hsizes : (dBytes ds[x]).length = (Lib.uvarint ds[x].ser.size).length + ds[x].ser.size + (Lib.uvarint ds[x].n.toNat).length := by
        unfold dBytes; rw [List.length_append, List.length_append]; rfl
      have hdb : dBytes ds[x] = Lib.uvarint ds[x].ser.size ++ sB ds[x].ser ++ Lib.uvarint ds[x].n.toNat := rfl
      clear hcell htk
      generalize hdd : ds[x] = d at *
      obtain ⟨dser, dn⟩ := d
      simp only [] at p0 p1 hn0 hn1 hsizes hdb
      obtain ⟨n, rfl⟩ := Int.eq_ofNat_of_zero_le hn0
      rw [Int.toNat_natCast] at hsizes hdb
      have hbl := Blk.new wr 86 #[.string dser, .int .u64 n]
      have d0 := hbl.cell 0; have d1 := hbl.cell 1
      simp only [List.getElem?_toArray, List.getElem?_cons_succ, List.getElem?_cons_zero] at d0 d1
      have ka : Keeps [] wr (wr.alloc (.cells #[.string dser, .int .u64 n] 86)) := (Keeps.refl _ _).alloc _
      have hbn : wr.heap.size < (wr.alloc (.cells #[.string dser, .int .u64 n] 86)).heap.size := by simp
      have Htx : Hid (Calls Tryz.prog 119 #[.slice A' L.length L.length, .string dser] (wr.alloc (.cells #[.string dser, .int .u64 n] 86)).drew fun e w' => BsPost (L ++ Lib.uvarint dser.size ++ sB dser) (wr.alloc (.cells #[.string dser, .int .u64 n] 86)).drew e w') :=
        text_any _ L dser _ ((HB.out.avoid (M' := []) (by simp)).keep ka.drew (by simp)) (by omega)
      have Hpt : Hid (∀ W A2, Bs W [] (.slice A2 (L ++ Lib.uvarint dser.size ++ sB dser).length (L ++ Lib.uvarint dser.size ++ sB dser).length) (L ++ Lib.uvarint dser.size ++ sB dser) → Calls Tryz.prog 118 #[.slice A2 (L ++ Lib.uvarint dser.size ++ sB dser).length (L ++ Lib.uvarint dser.size ++ sB dser).length, .int .u64 n] W fun e w' => BsPost (L ++ dBytes ⟨dser, n⟩) W e w') := fun W A2 h2 => by
        have := put_any _ (L ++ Lib.uvarint dser.size ++ sB dser) n W h2 (by omega) (by rw [List.length_append, List.length_append]; have : (sB dser).length = dser.size := rfl; omega)
        rw [hdb]
        simpa only [List.append_assoc] using this
      generalize hL2 : L ++ Lib.uvarint dser.size ++ sB dser = L2 at *
      generalize hL3 : L ++ dBytes ⟨dser, n⟩ = L3 at *
      have HMr : Hid (∀ g ∈ M, g < wr.heap.size) := fun g hg => Nat.lt_of_lt_of_le (HM.out g hg) Hbr.out.size
      have Hka := Lib.hid (show Below wr.heap.size wr (wr.alloc (.cells #[.string dser, .int .u64 n] 86)).drew from ka.drew.below)
      clear hlen hsizes hdb hL2 hL3 hbl ka hdd
      go_wp2_with fail
      go_region_held3 (fun w' => w'.cell? ⟨wr.heap.size, 0, none⟩ = some (.string dser) ∧ w'.cell? ⟨wr.heap.size, 1, none⟩ = some (.int .u64 n)) (first | exact ⟨r0, r1⟩ | exact ⟨q0, q1⟩ | exact ⟨d0, d1⟩) (first
        | (go_at_call 119
           refine Htx.out.mono ?_
           rintro e w5 ⟨A5, rfl, hR5, hb5⟩
           have HR5 := Lib.hid (hR5 [] (by simp))
           have Hb5 := Lib.hid (below_then Hka.out hb5)
           have q0 : w5.cell? ⟨wr.heap.size, 0, none⟩ = some (.string dser) := (hb5.cell (p := ⟨wr.heap.size, 0, none⟩) hbn).trans d0
           have q1 : w5.cell? ⟨wr.heap.size, 1, none⟩ = some (.int .u64 n) := (hb5.cell (p := ⟨wr.heap.size, 1, none⟩) hbn).trans d1
           have Hbn5 := Lib.hid (show wr.heap.size < w5.heap.size from Nat.lt_of_lt_of_le hbn hb5.size)
           clear hR5 hb5)
        | (go_at_call 118
           refine (Hpt.out _ A5 HR5.out).mono ?_
           rintro e w6 ⟨A6, rfl, hR6, hb6⟩
           have HR6 := Lib.hid (hR6 M (fun g hg => Nat.lt_of_lt_of_le (HMr.out g hg) Hb5.out.size))
           have Hb6 := Lib.hid (below_then Hb5.out hb6)
           have r0 : w6.cell? ⟨wr.heap.size, 0, none⟩ = some (.string dser) := (hb6.cell (p := ⟨wr.heap.size, 0, none⟩) Hbn5.out).trans q0
           have r1 : w6.cell? ⟨wr.heap.size, 1, none⟩ = some (.int .u64 n) := (hb6.cell (p := ⟨wr.heap.size, 1, none⟩) Hbn5.out).trans q1
           clear hR6 hb6))
      all_goals
        go_wp2
        go_roundw
        case rel => exact ⟨x + 1, A6, L3, by go_num, by omega, rfl, HL2, HR6.out, below_then Hbr.out Hb6.out⟩
        case measure => simp [intOf] <;> omega
    · obtain rfl : x = ds.length := by omega
      have hfin : Hid (L = l ++ ds.flatMap dBytes) := by show _ = _; rw [HL.out, List.take_length]
      have hp : Hid (EPutPost M (l ++ ds.flatMap dBytes) w (.returned (.slice A' L.length L.length)) wr) := by
        show EPutPost _ _ _ _ _
        rw [← hfin.out]
        exact ⟨A', rfl, HB.out, Hbr.out⟩
      go_wp2
      go_ret
      exact hp.out
end Go.Proofs.YtinnifhnabncfaaGreatDoor.Vi
end
/- Contract of entry.Bytes. -/
section
namespace Go.Proofs.YtinnifhnabncfaaGreatDoor.Vi
open Go.RowKit Base Mem Go.Shelf
def headB (k fr tag : Nat) : List UInt8 := [UInt8.ofNat k] ++ Lib.uvarint fr ++ Lib.uvarint tag
def bytesE (e : EntryD) : List UInt8 := headB e.kind.toNat e.fr.toNat e.tag.toNat ++ (if e.kind = 2 then Lib.uvarint e.ser.size ++ sB e.ser else
  Lib.uvarint e.ag.toNat ++ Lib.uvarint e.sh.toNat ++ Lib.uvarint e.seq.toNat ++ Lib.uvarint e.ep.toNat ++ Lib.uvarint e.ds.length ++ e.ds.flatMap dBytes)
/-- The numbers of an entry go into their types. -/
def Wf (e : EntryD) : Prop := e.tag ≤ 9223372036854775807 ∧ e.seq ≤ 9223372036854775807 ∧ e.ep ≤ 9223372036854775807 ∧ ∀ d ∈ e.ds, NOk d
def EB0 (be : List UInt8) (w : World) (r : Ending) (w' : World) : Prop := ∃ A, r = .returned (.tuple #[.slice A be.length be.length, .int .i64 0]) ∧ (∀ M, (∀ g ∈ M, g < w.heap.size) → Bs w' M (.slice A be.length be.length) be) ∧ Below w.heap.size w w'
theorem right_facts {e : EntryD} (h : rightE e = 0) : (0 ≤ e.fr ∧ e.fr < 8 ∧ 0 ≤ e.tag) ∧ (e.kind = 2 ∨ e.kind = 1 ∧ 0 ≤ e.ag ∧ e.ag < 8 ∧ 0 ≤ e.sh ∧ e.sh < 4 ∧ 1 ≤ e.seq ∧ 1 ≤ e.ep ∧ e.ds.length ≤ 8) := by
  unfold rightE at h
  have hk : kindS e = true := by
    cases hk : kindS e with
    | true => rfl
    | false => rw [hk] at h; cases h
  rw [hk, if_neg (by simp)] at h
  have h1 : (!(withinB e.fr 8) || decide (e.tag < 0)) = false := by
    cases h1 : (!(withinB e.fr 8) || decide (e.tag < 0)) with
    | false => rfl
    | true => rw [h1] at h; cases h
  rw [h1, if_neg (by simp)] at h
  unfold withinB at h1
  simp at h1
  refine ⟨by omega, ?_⟩
  by_cases hk1 : e.kind = 1
  · rw [if_pos hk1] at h
    unfold writtenS at h
    have h2 : badId e = false := by
      cases h2 : badId e with
      | false => rfl
      | true => rw [h2] at h; cases h
    rw [h2, if_neg (by simp)] at h
    by_cases h8 : 8 < e.ds.length
    · rw [if_pos h8] at h; cases h
    · unfold badId withinB at h2
      simp at h2
      exact .inr ⟨hk1, by omega⟩
  · unfold kindS at hk
    rw [if_neg hk1] at hk
    by_cases hk2 : e.kind = 2
    · exact .inl hk2
    · rw [if_neg hk2] at hk; cases hk
set_option maxRecDepth 100000 in
set_option maxHeartbeats 1000000 in
theorem ebytes_2 (e : EntryD) (dv : Value) (m : Int) (w : World) (hkind : e.kind = 2) (hr0 : rightE e = 0) (h : Ds w [] dv e.ds) (hs : Short e) (hw : Wf e) (hm : w.cell? ⟨0, 0, none⟩ = some (.int .i64 m)) :
    Calls Tryz.prog 64 #[.agg (eCell (e, dv)).toArray] w fun r w' => EB0 (bytesE e) w r w' := by
  obtain ⟨⟨hf0, hf8, ht0⟩, hrest⟩ := right_facts hr0
  have hri := Lib.hid (fun W (hk : Keeps [] w W) (hmW : W.cell? ⟨0, 0, none⟩ = some (.int .i64 m)) => eright_any e dv m W (h.keep hk (by simp)) hs hmW)
  have hw0 : 0 < w.heap.size := by
    have := World.block_lt_of_cell? w _ hm
    simpa using this
  have HP : Hid (∀ A w', (∀ M, (∀ g ∈ M, g < w.heap.size) → Bs w' M (.slice A (bytesE e).length (bytesE e).length) (bytesE e)) → Below w.heap.size w w' → EB0 (bytesE e) w (.returned (.tuple #[.slice A (bytesE e).length (bytesE e).length, .int .i64 0])) w') := fun A w' h1 h2 => ⟨A, rfl, h1, h2⟩
  rw [hr0] at hri
  obtain ⟨hw1, hw2, hw3, hw4⟩ := hw
  obtain ⟨hs1, hs2, hs3⟩ := hs
  obtain ⟨A, c, rfl, hc⟩ := h.len
  have HBE : Hid (bytesE e = headB e.kind.toNat e.fr.toNat e.tag.toNat ++ (if e.kind = 2 then Lib.uvarint e.ser.size ++ sB e.ser else Lib.uvarint e.ag.toNat ++ Lib.uvarint e.sh.toNat ++ Lib.uvarint e.seq.toNat ++ Lib.uvarint e.ep.toNat ++ Lib.uvarint e.ds.length ++ e.ds.flatMap dBytes)) := rfl
  clear hr0
  generalize bytesE e = be at *
  obtain ⟨kind, ag, sh, seq, ep, ds, ser, fr, tag⟩ := e
  simp only [] at hkind h hf0 hf8 ht0 hrest hri HP hw1 hw2 hw3 hw4 hs1 hs2 hs3 hc HBE
  subst hkind
  obtain ⟨fr, rfl⟩ := Int.eq_ofNat_of_zero_le hf0
  obtain ⟨tag, rfl⟩ := Int.eq_ofNat_of_zero_le ht0
  have ht9 : tag < 18446744073709551616 := by omega
  have hfr9 : fr < 18446744073709551616 := by omega
  rw [Int.toNat_natCast, Int.toNat_natCast] at HBE
  have HE : Hid (be = headB 2 fr tag ++ (Lib.uvarint ser.size ++ sB ser)) := by show _ = _; rw [HBE.out, if_pos rfl]; rfl
  clear HBE hrest
  obtain ⟨w2, hw2e⟩ : ∃ w2, w2 = w.alloc (.cells #[.int .i64 2, .int .i64 ag, .int .i64 sh, .int .i64 seq, .int .i64 ep, .slice A ds.length c, .string ser, .int .i64 fr, .int .i64 tag] 26) := ⟨_, rfl⟩
  have hB : Blk w2 w.heap.size 26 #[.int .i64 2, .int .i64 ag, .int .i64 sh, .int .i64 seq, .int .i64 ep, .slice A ds.length c, .string ser, .int .i64 fr, .int .i64 tag] := by rw [hw2e]; exact Blk.new w _ _
  have hk2 : Keeps [] w w2 := by rw [hw2e]; exact (Keeps.refl _ _).alloc _
  have hm2 : w2.cell? ⟨0, 0, none⟩ = some (.int .i64 m) := (hk2.cell (p := ⟨0, 0, none⟩) hw0 (by simp)).trans hm
  have Hri := Lib.hid (show Calls Tryz.prog 66 #[.agg #[.int .i64 2, .int .i64 ag, .int .i64 sh, .int .i64 seq, .int .i64 ep, .slice A ds.length c, .string ser, .int .i64 fr, .int .i64 tag]] w2 fun r w' => r = .returned (.int .i64 0) ∧ Below w2.heap.size w2 w' from hri.out w2 hk2 hm2)
  have Hk2 := Lib.hid hk2; have Hw2 := Lib.hid hw2e; have HB := Lib.hid hB; have Hh := Lib.hid h
  have c0 := hB.cell 0; have c1 := hB.cell 1; have c2 := hB.cell 2; have c3 := hB.cell 3; have c4 := hB.cell 4; have c5 := hB.cell 5; have c6 := hB.cell 6; have c7 := hB.cell 7; have c8 := hB.cell 8
  simp only [List.getElem?_toArray, List.getElem?_cons_succ, List.getElem?_cons_zero] at c0 c1 c2 c3 c4 c5 c6 c7 c8
  clear hri hB hk2 hm2 hw2e h hm
  show Calls Tryz.prog 64 #[.agg #[.int .i64 2, .int .i64 ag, .int .i64 sh, .int .i64 seq, .int .i64 ep, .slice A ds.length c, .string ser, .int .i64 fr, .int .i64 tag]] w fun r w' => EB0 be w r w'
  go_enter Tryz.func64, Tryz.ntmps64
  go_upto_region 1 with (fail)
  rw [← Hw2.out]
  go_wp2_with fail
  refine Hri.out.mono ?_
  rintro r w3 ⟨rfl, hb3⟩
  have hw2s : w.heap.size < w2.heap.size := HB.out.lt
  have HB3 := Lib.hid (HB.out.below hb3 hw2s)
  have Hk3 : Hid (Keeps [] w w3) := Hk2.out.trans (Keeps.of_below (M := []) hb3) (by simp)
  have c0 := HB3.out.cell 0; have c1 := HB3.out.cell 1; have c2 := HB3.out.cell 2; have c3 := HB3.out.cell 3; have c4 := HB3.out.cell 4; have c5 := HB3.out.cell 5; have c6 := HB3.out.cell 6; have c7 := HB3.out.cell 7; have c8 := HB3.out.cell 8
  simp only [List.getElem?_toArray, List.getElem?_cons_succ, List.getElem?_cons_zero] at c0 c1 c2 c3 c4 c5 c6 c7 c8
  have hw3s : w.heap.size < w3.heap.size := HB3.out.lt
  clear hb3 Hri
  have ka : Keeps [] w3 (w3.alloc (.cells #[.int .u8 2] 5)).drew := ((Keeps.refl _ _).alloc _).drew
  have hBa := HB3.out
  have hb8 : Bs (w3.alloc (.cells #[.int .u8 2] 5)).drew [] (.slice (some ⟨w3.heap.size, 0, none⟩) 1 1) [UInt8.ofNat 2] := ⟨_, _, rfl, Nat.le_refl _, rfl, fun _ => ⟨w3.heap.size, 0, rfl, by simp, by simp, fun j u hu => by
    have := (Blk.new w3 5 #[.int .u8 2]).cell (0 + j)
    rw [show ((w3.alloc (.cells #[.int .u8 2] 5)).drew).cell? ⟨w3.heap.size, 0 + j, none⟩ = (w3.alloc (.cells #[.int .u8 2] 5)).cell? ⟨w3.heap.size, 0 + j, none⟩ from rfl, this, Nat.zero_add]
    cases j with
    | zero => exact hu
    | succ j => cases hu⟩⟩
  have Hp1 : Hid (Calls Tryz.prog 118 #[.slice (some ⟨w3.heap.size, 0, none⟩) 1 1, .int .u64 fr] (w3.alloc (.cells #[.int .u8 2] 5)).drew fun r w' => BsPost ([UInt8.ofNat 2] ++ Lib.uvarint fr) (w3.alloc (.cells #[.int .u8 2] 5)).drew r w') := put_any _ [UInt8.ofNat 2] fr _ hb8 hfr9 (by simp)
  have Hp2 : Hid (∀ W A2, Bs W [] (.slice A2 ([UInt8.ofNat 2] ++ Lib.uvarint fr).length ([UInt8.ofNat 2] ++ Lib.uvarint fr).length) ([UInt8.ofNat 2] ++ Lib.uvarint fr) → Calls Tryz.prog 118 #[.slice A2 ([UInt8.ofNat 2] ++ Lib.uvarint fr).length ([UInt8.ofNat 2] ++ Lib.uvarint fr).length, .int .u64 tag] W fun r w' => BsPost (headB 2 fr tag) W r w') := fun W A2 h2 => by
    have hl := Lib.uvarint_length64 hfr9
    exact put_any _ ([UInt8.ofNat 2] ++ Lib.uvarint fr) tag W h2 ht9 (by rw [List.length_append]; simp; omega)
  have hHl : (headB 2 fr tag).length ≤ 21 := by
    have h1 := Lib.uvarint_length64 hfr9
    have h2 := Lib.uvarint_length64 ht9
    unfold headB
    rw [List.length_append, List.length_append]; simp; omega
  generalize headB 2 fr tag = H at *
  generalize hL1 : [UInt8.ofNat 2] ++ Lib.uvarint fr = L1 at *
  have Hka := Lib.hid (show Below w3.heap.size w3 (w3.alloc (.cells #[.int .u8 2] 5)).drew from ka.below)
  have a0 : (w3.alloc (.cells #[.int .u8 2] 5)).cell? ⟨w.heap.size, 0, none⟩ = some (.int .i64 2) := (Hka.out.cell (p := ⟨w.heap.size, 0, none⟩) hw3s).trans c0
  have a7 : (w3.alloc (.cells #[.int .u8 2] 5)).cell? ⟨w.heap.size, 7, none⟩ = some (.int .i64 fr) := (Hka.out.cell (p := ⟨w.heap.size, 7, none⟩) hw3s).trans c7
  have a8 : (w3.alloc (.cells #[.int .u8 2] 5)).cell? ⟨w.heap.size, 8, none⟩ = some (.int .i64 tag) := (Hka.out.cell (p := ⟨w.heap.size, 8, none⟩) hw3s).trans c8
  clear hb8 ka hBa hL1
  have hfi : (fr : Int) < 8 := by omega
  have hwf : IntKind.u64.wrap (fr : Int) = (fr : Int) := by rw [IntKind.wrap_u64]; omega
  have hwt : IntKind.u64.wrap (tag : Int) = (tag : Int) := by rw [IntKind.wrap_u64]; omega
  have hwk : IntKind.u8.wrap 2 = 2 := by decide
  have hti : (tag : Int) ≤ 9223372036854775807 := by omega
  go_upto_region 4 with (fail)
  go_cut [5] (fun s wx => ∃ A6, s = .slice A6 H.length H.length ∧ Hid (∀ M, (∀ g ∈ M, g < w3.heap.size) → Bs wx M (.slice A6 H.length H.length) H) ∧ Hid (Below w3.heap.size w3 wx))
  case first =>
    go_region_held3 (fun w' => w'.cell? ⟨w.heap.size, 0, none⟩ = some (.int .i64 2) ∧ w'.cell? ⟨w.heap.size, 7, none⟩ = some (.int .i64 fr) ∧ w'.cell? ⟨w.heap.size, 8, none⟩ = some (.int .i64 tag)) (first | exact ⟨r0, r7, r8⟩ | exact ⟨q0, q7, q8⟩ | exact ⟨a0, a7, a8⟩ | exact ⟨c0, c7, c8⟩) (first
      | (go_at_call_of 118 (Value.slice (some ⟨w3.heap.size, 0, none⟩) 1 1)
         with_reducible refine Hp1.out.mono ?_
         rintro r w5 ⟨A5, rfl, hR5, hb5⟩
         have HR5 := Lib.hid (hR5 [] (by simp))
         have Hb5 := Lib.hid (below_then Hka.out hb5)
         have q0 : w5.cell? ⟨w.heap.size, 0, none⟩ = some (.int .i64 2) := (Hb5.out.cell (p := ⟨w.heap.size, 0, none⟩) hw3s).trans c0
         have q7 : w5.cell? ⟨w.heap.size, 7, none⟩ = some (.int .i64 fr) := (Hb5.out.cell (p := ⟨w.heap.size, 7, none⟩) hw3s).trans c7
         have q8 : w5.cell? ⟨w.heap.size, 8, none⟩ = some (.int .i64 tag) := (Hb5.out.cell (p := ⟨w.heap.size, 8, none⟩) hw3s).trans c8
         clear hR5 hb5)
      | (go_at_call 118
         with_reducible refine (Hp2.out _ A5 HR5.out).mono ?_
         rintro r w6 ⟨A6, rfl, hR6, hb6⟩
         have HR6 := Lib.hid (fun M (hM : ∀ g ∈ M, g < w3.heap.size) => hR6 M (fun g hg => Nat.lt_of_lt_of_le (hM g hg) Hb5.out.size))
         have Hb6 := Lib.hid (below_then Hb5.out hb6)
         have r0 : w6.cell? ⟨w.heap.size, 0, none⟩ = some (.int .i64 2) := (Hb6.out.cell (p := ⟨w.heap.size, 0, none⟩) hw3s).trans c0
         have r7 : w6.cell? ⟨w.heap.size, 7, none⟩ = some (.int .i64 fr) := (Hb6.out.cell (p := ⟨w.heap.size, 7, none⟩) hw3s).trans c7
         have r8 : w6.cell? ⟨w.heap.size, 8, none⟩ = some (.int .i64 tag) := (Hb6.out.cell (p := ⟨w.heap.size, 8, none⟩) hw3s).trans c8
         clear hR6 hb6))
    all_goals
      go_wp2_with fail
      go_meet
      exact ⟨A6, rfl, HR6.out, Hb6.out⟩
  case rest =>
    obtain ⟨A6, rfl, HR6, Hb6⟩ := hcut
    clear Hp1 Hp2 a0 a7 a8 Hka c0 c1 c2 c3 c4 c5 c6 c7 c8
    have HB6 := Lib.hid (HB3.out.below Hb6.out hw3s)
    have c0 := HB6.out.cell 0; have c1 := HB6.out.cell 1; have c2 := HB6.out.cell 2; have c3 := HB6.out.cell 3; have c4 := HB6.out.cell 4; have c5 := HB6.out.cell 5; have c6 := HB6.out.cell 6
    simp only [List.getElem?_toArray, List.getElem?_cons_succ, List.getElem?_cons_zero] at c0 c1 c2 c3 c4 c5 c6
    have HA6 := Lib.hid (below_then Hk3.out.below Hb6.out)
    have htx := Lib.hid (text_any _ H ser wc (HR6.out [] (by simp)) (by omega))
    go_wp2_with fail
    refine htx.out.mono ?_
    rintro r w7 ⟨A7, rfl, hR7, hb7⟩
    have hp : Hid (EB0 be w (.returned (.tuple #[.slice A7 (H ++ Lib.uvarint ser.size ++ sB ser).length (H ++ Lib.uvarint ser.size ++ sB ser).length, .int .i64 0])) w7) := by
      have := HP.out A7 w7
      show EB0 _ _ _ _
      rw [HE.out, ← List.append_assoc] at this ⊢
      exact this (fun M hM => hR7 M (fun g hg => Nat.lt_of_lt_of_le (hM g hg) HA6.out.size)) (below_then HA6.out hb7)
    clear hR7 hb7 htx
    generalize H ++ Lib.uvarint ser.size ++ sB ser = F at *
    go_wp2
    go_ret2
    exact hp.out
end Go.Proofs.YtinnifhnabncfaaGreatDoor.Vi
end
/- Contract of entry.Bytes at a Write. -/
section
namespace Go.Proofs.YtinnifhnabncfaaGreatDoor.Vi
open Go.RowKit Base Mem Go.Shelf
/-- The five numbers of a batch. -/
def nums5 (a b c d e : Nat) : List Nat := [a, b, c, d, e]
theorem nums5_lt (a b c d e : Nat) (ha : a < 18446744073709551616) (hb : b < 18446744073709551616) (hc : c < 18446744073709551616) (hd : d < 18446744073709551616) (he : e < 18446744073709551616) : ∀ n ∈ nums5 a b c d e, n < 18446744073709551616 := by
  intro n hn
  simp [nums5] at hn
  omega
theorem nums5_len (a b c d e : Nat) (ha : a < 18446744073709551616) (hb : b < 18446744073709551616) (hc : c < 18446744073709551616) (hd : d < 18446744073709551616) (he : e < 18446744073709551616) : ((nums5 a b c d e).flatMap Lib.uvarint).length ≤ 50 := by
  have h1 := Lib.uvarint_length64 ha
  have h2 := Lib.uvarint_length64 hb
  have h3 := Lib.uvarint_length64 hc
  have h4 := Lib.uvarint_length64 hd
  have h5 := Lib.uvarint_length64 he
  simp [nums5]
  omega
theorem dBytes_len (ds : List DeltaD) (h : ∀ d ∈ ds, d.ser.size < 4294967281) (hn : ∀ d ∈ ds, NOk d) : (ds.flatMap dBytes).length ≤ ds.length * 4294967301 := by
  induction ds with
  | nil => simp
  | cons d ds ih =>
    have h1 := ih (fun x hx => h x (by simp [hx])) (fun x hx => hn x (by simp [hx]))
    have h2 := h d (by simp)
    obtain ⟨h3, h4⟩ := hn d (by simp)
    have h5 := Lib.uvarint_length64 (x := d.ser.size) (by omega)
    have h6 := Lib.uvarint_length64 (x := d.n.toNat) (by omega)
    have h7 : (dBytes d).length = (Lib.uvarint d.ser.size).length + d.ser.size + (Lib.uvarint d.n.toNat).length := by
      unfold dBytes; rw [List.length_append, List.length_append]; rfl
    rw [List.flatMap_cons, List.length_append, List.length_cons]
    omega
set_option maxRecDepth 100000 in
set_option maxHeartbeats 1000000 in
theorem ebytes_1 (e : EntryD) (dv : Value) (m : Int) (w : World) (hkind : e.kind = 1) (hr0 : rightE e = 0) (h : Ds w [] dv e.ds) (hs : Short e) (hw : Wf e) (hm : w.cell? ⟨0, 0, none⟩ = some (.int .i64 m)) :
    Calls Tryz.prog 64 #[.agg (eCell (e, dv)).toArray] w fun r w' => EB0 (bytesE e) w r w' := by
  obtain ⟨⟨hf0, hf8, ht0⟩, hrest⟩ := right_facts hr0
  have hri := Lib.hid (fun W (hk : Keeps [] w W) (hmW : W.cell? ⟨0, 0, none⟩ = some (.int .i64 m)) => eright_any e dv m W (h.keep hk (by simp)) hs hmW)
  have hw0 : 0 < w.heap.size := by
    have := World.block_lt_of_cell? w _ hm
    simpa using this
  have HP : Hid (∀ A w', (∀ M, (∀ g ∈ M, g < w.heap.size) → Bs w' M (.slice A (bytesE e).length (bytesE e).length) (bytesE e)) → Below w.heap.size w w' → EB0 (bytesE e) w (.returned (.tuple #[.slice A (bytesE e).length (bytesE e).length, .int .i64 0])) w') := fun A w' h1 h2 => ⟨A, rfl, h1, h2⟩
  rw [hr0] at hri
  obtain ⟨hw1, hw2, hw3, hw4⟩ := hw
  obtain ⟨hs1, hs2, hs3⟩ := hs
  obtain ⟨A, c, rfl, hc⟩ := h.len
  have HBE : Hid (bytesE e = headB e.kind.toNat e.fr.toNat e.tag.toNat ++ (if e.kind = 2 then Lib.uvarint e.ser.size ++ sB e.ser else Lib.uvarint e.ag.toNat ++ Lib.uvarint e.sh.toNat ++ Lib.uvarint e.seq.toNat ++ Lib.uvarint e.ep.toNat ++ Lib.uvarint e.ds.length ++ e.ds.flatMap dBytes)) := rfl
  clear hr0
  generalize bytesE e = be at *
  obtain ⟨kind, ag, sh, seq, ep, ds, ser, fr, tag⟩ := e
  simp only [] at hkind h hf0 hf8 ht0 hrest hri HP hw1 hw2 hw3 hw4 hs1 hs2 hs3 hc HBE
  subst hkind
  obtain ⟨fr, rfl⟩ := Int.eq_ofNat_of_zero_le hf0
  obtain ⟨tag, rfl⟩ := Int.eq_ofNat_of_zero_le ht0
  have ht9 : tag < 18446744073709551616 := by omega
  have hfr9 : fr < 18446744073709551616 := by omega
  rw [Int.toNat_natCast, Int.toNat_natCast] at HBE
  obtain ⟨_, ha0, ha8, hs0, hs4, hq0, hp0, hd8⟩ := hrest.resolve_left (by decide)
  obtain ⟨ag, rfl⟩ := Int.eq_ofNat_of_zero_le ha0
  obtain ⟨sh, rfl⟩ := Int.eq_ofNat_of_zero_le hs0
  obtain ⟨seq, rfl⟩ := Int.eq_ofNat_of_zero_le (show 0 ≤ seq by omega)
  obtain ⟨ep, rfl⟩ := Int.eq_ofNat_of_zero_le (show 0 ≤ ep by omega)
  have HE : Hid (be = headB 1 fr tag ++ (nums5 ag sh seq ep ds.length).flatMap Lib.uvarint ++ ds.flatMap dBytes) := by show _ = _; rw [HBE.out, if_neg (by decide)]; simp [nums5]
  clear HBE hrest
  obtain ⟨w2, hw2e⟩ : ∃ w2, w2 = w.alloc (.cells #[.int .i64 1, .int .i64 ag, .int .i64 sh, .int .i64 seq, .int .i64 ep, .slice A ds.length c, .string ser, .int .i64 fr, .int .i64 tag] 26) := ⟨_, rfl⟩
  have hB : Blk w2 w.heap.size 26 #[.int .i64 1, .int .i64 ag, .int .i64 sh, .int .i64 seq, .int .i64 ep, .slice A ds.length c, .string ser, .int .i64 fr, .int .i64 tag] := by rw [hw2e]; exact Blk.new w _ _
  have hk2 : Keeps [] w w2 := by rw [hw2e]; exact (Keeps.refl _ _).alloc _
  have hm2 : w2.cell? ⟨0, 0, none⟩ = some (.int .i64 m) := (hk2.cell (p := ⟨0, 0, none⟩) hw0 (by simp)).trans hm
  have Hri := Lib.hid (show Calls Tryz.prog 66 #[.agg #[.int .i64 1, .int .i64 ag, .int .i64 sh, .int .i64 seq, .int .i64 ep, .slice A ds.length c, .string ser, .int .i64 fr, .int .i64 tag]] w2 fun r w' => r = .returned (.int .i64 0) ∧ Below w2.heap.size w2 w' from hri.out w2 hk2 hm2)
  have Hk2 := Lib.hid hk2; have Hw2 := Lib.hid hw2e; have HB := Lib.hid hB; have Hh := Lib.hid h
  have c0 := hB.cell 0; have c1 := hB.cell 1; have c2 := hB.cell 2; have c3 := hB.cell 3; have c4 := hB.cell 4; have c5 := hB.cell 5; have c6 := hB.cell 6; have c7 := hB.cell 7; have c8 := hB.cell 8
  simp only [List.getElem?_toArray, List.getElem?_cons_succ, List.getElem?_cons_zero] at c0 c1 c2 c3 c4 c5 c6 c7 c8
  clear hri hB hk2 hm2 hw2e h hm
  show Calls Tryz.prog 64 #[.agg #[.int .i64 1, .int .i64 ag, .int .i64 sh, .int .i64 seq, .int .i64 ep, .slice A ds.length c, .string ser, .int .i64 fr, .int .i64 tag]] w fun r w' => EB0 be w r w'
  go_enter Tryz.func64, Tryz.ntmps64
  go_upto_region 1 with (fail)
  rw [← Hw2.out]
  go_wp2_with fail
  refine Hri.out.mono ?_
  rintro r w3 ⟨rfl, hb3⟩
  have hw2s : w.heap.size < w2.heap.size := HB.out.lt
  have HB3 := Lib.hid (HB.out.below hb3 hw2s)
  have Hk3 : Hid (Keeps [] w w3) := Hk2.out.trans (Keeps.of_below (M := []) hb3) (by simp)
  have c0 := HB3.out.cell 0; have c1 := HB3.out.cell 1; have c2 := HB3.out.cell 2; have c3 := HB3.out.cell 3; have c4 := HB3.out.cell 4; have c5 := HB3.out.cell 5; have c6 := HB3.out.cell 6; have c7 := HB3.out.cell 7; have c8 := HB3.out.cell 8
  simp only [List.getElem?_toArray, List.getElem?_cons_succ, List.getElem?_cons_zero] at c0 c1 c2 c3 c4 c5 c6 c7 c8
  have hw3s : w.heap.size < w3.heap.size := HB3.out.lt
  clear hb3 Hri
  have ka : Keeps [] w3 (w3.alloc (.cells #[.int .u8 1] 5)).drew := ((Keeps.refl _ _).alloc _).drew
  have hBa := HB3.out
  have hb8 : Bs (w3.alloc (.cells #[.int .u8 1] 5)).drew [] (.slice (some ⟨w3.heap.size, 0, none⟩) 1 1) [UInt8.ofNat 1] := ⟨_, _, rfl, Nat.le_refl _, rfl, fun _ => ⟨w3.heap.size, 0, rfl, by simp, by simp, fun j u hu => by
    have := (Blk.new w3 5 #[.int .u8 1]).cell (0 + j)
    rw [show ((w3.alloc (.cells #[.int .u8 1] 5)).drew).cell? ⟨w3.heap.size, 0 + j, none⟩ = (w3.alloc (.cells #[.int .u8 1] 5)).cell? ⟨w3.heap.size, 0 + j, none⟩ from rfl, this, Nat.zero_add]
    cases j with
    | zero => exact hu
    | succ j => cases hu⟩⟩
  have Hp1 : Hid (Calls Tryz.prog 118 #[.slice (some ⟨w3.heap.size, 0, none⟩) 1 1, .int .u64 fr] (w3.alloc (.cells #[.int .u8 1] 5)).drew fun r w' => BsPost ([UInt8.ofNat 1] ++ Lib.uvarint fr) (w3.alloc (.cells #[.int .u8 1] 5)).drew r w') := put_any _ [UInt8.ofNat 1] fr _ hb8 hfr9 (by simp)
  have Hp2 : Hid (∀ W A2, Bs W [] (.slice A2 ([UInt8.ofNat 1] ++ Lib.uvarint fr).length ([UInt8.ofNat 1] ++ Lib.uvarint fr).length) ([UInt8.ofNat 1] ++ Lib.uvarint fr) → Calls Tryz.prog 118 #[.slice A2 ([UInt8.ofNat 1] ++ Lib.uvarint fr).length ([UInt8.ofNat 1] ++ Lib.uvarint fr).length, .int .u64 tag] W fun r w' => BsPost (headB 1 fr tag) W r w') := fun W A2 h2 => by
    have hl := Lib.uvarint_length64 hfr9
    exact put_any _ ([UInt8.ofNat 1] ++ Lib.uvarint fr) tag W h2 ht9 (by rw [List.length_append]; simp; omega)
  have hHl : (headB 1 fr tag).length ≤ 21 := by
    have h1 := Lib.uvarint_length64 hfr9
    have h2 := Lib.uvarint_length64 ht9
    unfold headB
    rw [List.length_append, List.length_append]; simp; omega
  generalize headB 1 fr tag = H at *
  generalize hL1 : [UInt8.ofNat 1] ++ Lib.uvarint fr = L1 at *
  have Hka := Lib.hid (show Below w3.heap.size w3 (w3.alloc (.cells #[.int .u8 1] 5)).drew from ka.below)
  have a0 : (w3.alloc (.cells #[.int .u8 1] 5)).cell? ⟨w.heap.size, 0, none⟩ = some (.int .i64 1) := (Hka.out.cell (p := ⟨w.heap.size, 0, none⟩) hw3s).trans c0
  have a7 : (w3.alloc (.cells #[.int .u8 1] 5)).cell? ⟨w.heap.size, 7, none⟩ = some (.int .i64 fr) := (Hka.out.cell (p := ⟨w.heap.size, 7, none⟩) hw3s).trans c7
  have a8 : (w3.alloc (.cells #[.int .u8 1] 5)).cell? ⟨w.heap.size, 8, none⟩ = some (.int .i64 tag) := (Hka.out.cell (p := ⟨w.heap.size, 8, none⟩) hw3s).trans c8
  clear hb8 ka hBa hL1
  have hfi : (fr : Int) < 8 := by omega
  have hwf : IntKind.u64.wrap (fr : Int) = (fr : Int) := by rw [IntKind.wrap_u64]; omega
  have hwt : IntKind.u64.wrap (tag : Int) = (tag : Int) := by rw [IntKind.wrap_u64]; omega
  have hwk : IntKind.u8.wrap 1 = 1 := by decide
  have hti : (tag : Int) ≤ 9223372036854775807 := by omega
  go_upto_region 4 with (fail)
  go_cut [5] (fun s wx => ∃ A6, s = .slice A6 H.length H.length ∧ Hid (∀ M, (∀ g ∈ M, g < w3.heap.size) → Bs wx M (.slice A6 H.length H.length) H) ∧ Hid (Below w3.heap.size w3 wx))
  case first =>
    go_region_held3 (fun w' => w'.cell? ⟨w.heap.size, 0, none⟩ = some (.int .i64 1) ∧ w'.cell? ⟨w.heap.size, 7, none⟩ = some (.int .i64 fr) ∧ w'.cell? ⟨w.heap.size, 8, none⟩ = some (.int .i64 tag)) (first | exact ⟨r0, r7, r8⟩ | exact ⟨q0, q7, q8⟩ | exact ⟨a0, a7, a8⟩ | exact ⟨c0, c7, c8⟩) (first
      | (go_at_call_of 118 (Value.slice (some ⟨w3.heap.size, 0, none⟩) 1 1)
         with_reducible refine Hp1.out.mono ?_
         rintro r w5 ⟨A5, rfl, hR5, hb5⟩
         have HR5 := Lib.hid (hR5 [] (by simp))
         have Hb5 := Lib.hid (below_then Hka.out hb5)
         have q0 : w5.cell? ⟨w.heap.size, 0, none⟩ = some (.int .i64 1) := (Hb5.out.cell (p := ⟨w.heap.size, 0, none⟩) hw3s).trans c0
         have q7 : w5.cell? ⟨w.heap.size, 7, none⟩ = some (.int .i64 fr) := (Hb5.out.cell (p := ⟨w.heap.size, 7, none⟩) hw3s).trans c7
         have q8 : w5.cell? ⟨w.heap.size, 8, none⟩ = some (.int .i64 tag) := (Hb5.out.cell (p := ⟨w.heap.size, 8, none⟩) hw3s).trans c8
         clear hR5 hb5)
      | (go_at_call 118
         with_reducible refine (Hp2.out _ A5 HR5.out).mono ?_
         rintro r w6 ⟨A6, rfl, hR6, hb6⟩
         have HR6 := Lib.hid (fun M (hM : ∀ g ∈ M, g < w3.heap.size) => hR6 M (fun g hg => Nat.lt_of_lt_of_le (hM g hg) Hb5.out.size))
         have Hb6 := Lib.hid (below_then Hb5.out hb6)
         have r0 : w6.cell? ⟨w.heap.size, 0, none⟩ = some (.int .i64 1) := (Hb6.out.cell (p := ⟨w.heap.size, 0, none⟩) hw3s).trans c0
         have r7 : w6.cell? ⟨w.heap.size, 7, none⟩ = some (.int .i64 fr) := (Hb6.out.cell (p := ⟨w.heap.size, 7, none⟩) hw3s).trans c7
         have r8 : w6.cell? ⟨w.heap.size, 8, none⟩ = some (.int .i64 tag) := (Hb6.out.cell (p := ⟨w.heap.size, 8, none⟩) hw3s).trans c8
         clear hR6 hb6))
    all_goals
      go_wp2_with fail
      go_meet
      exact ⟨A6, rfl, HR6.out, Hb6.out⟩
  case rest =>
    obtain ⟨A6, rfl, HR6, Hb6⟩ := hcut
    clear Hp1 Hp2 a0 a7 a8 Hka c0 c1 c2 c3 c4 c5 c6 c7 c8
    have HB6 := Lib.hid (HB3.out.below Hb6.out hw3s)
    have c0 := HB6.out.cell 0; have c1 := HB6.out.cell 1; have c2 := HB6.out.cell 2; have c3 := HB6.out.cell 3; have c4 := HB6.out.cell 4; have c5 := HB6.out.cell 5; have c6 := HB6.out.cell 6
    simp only [List.getElem?_toArray, List.getElem?_cons_succ, List.getElem?_cons_zero] at c0 c1 c2 c3 c4 c5 c6
    have HA6 := Lib.hid (below_then Hk3.out.below Hb6.out)
    have hwa : IntKind.u64.wrap (ag : Int) = (ag : Int) := by rw [IntKind.wrap_u64]; omega
    have hwb : IntKind.u64.wrap (sh : Int) = (sh : Int) := by rw [IntKind.wrap_u64]; omega
    have hwc : IntKind.u64.wrap (seq : Int) = (seq : Int) := by rw [IntKind.wrap_u64]; omega
    have hwd : IntKind.u64.wrap (ep : Int) = (ep : Int) := by rw [IntKind.wrap_u64]; omega
    have hwe : IntKind.u64.wrap (ds.length : Int) = (ds.length : Int) := by rw [IntKind.wrap_u64]; omega
    have hN := Lib.hid (nums5_lt ag sh seq ep ds.length (by omega) (by omega) (by omega) (by omega) (by omega))
    have hNl := Lib.hid (nums5_len ag sh seq ep ds.length (by omega) (by omega) (by omega) (by omega) (by omega))
    have hDl := Lib.hid (dBytes_len ds hs2 hw4)
    have HNw := Lib.hid hw4
    have Hhl := Lib.hid hHl
    have hka : Keeps [] wc (wc.alloc (.cells #[.int .u64 ag, .int .u64 sh, .int .u64 seq, .int .u64 ep, .int .u64 ds.length] 66)) := (Keeps.refl _ _).alloc _
    have Hka := Lib.hid hka
    have HN5 := Lib.hid (Blk.new wc 66 #[.int .u64 ag, .int .u64 sh, .int .u64 seq, .int .u64 ep, .int .u64 ds.length])
    have Hcc : Hid (∀ x, (hx : x < 5) → (#[Value.int .u64 ag, .int .u64 sh, .int .u64 seq, .int .u64 ep, .int .u64 ds.length])[x]? = some (.int .u64 ((nums5 ag sh seq ep ds.length)[x]'hx))) := fun x hx => by
      rcases x with _ | _ | _ | _ | _ | x
      all_goals first | rfl | omega
    clear hka hw1 hw2 hw3 hw4 hs1 hs2 hs3
    obtain ⟨w7, hw7⟩ : ∃ w7, w7 = wc.alloc (.cells #[.int .u64 ag, .int .u64 sh, .int .u64 seq, .int .u64 ep, .int .u64 ds.length] 66) := ⟨_, rfl⟩
    have Hw7 := Lib.hid hw7
    rw [← hw7] at Hka HN5
    have hwc7 : wc.heap.size < w7.heap.size := HN5.out.lt
    clear hw7
    go_upto_block 1 with (fail)
    rw [← Hw7.out]
    have hww3 : w.heap.size < w3.heap.size := hw3s
    have hwc3 : w3.heap.size ≤ wc.heap.size := Hb6.out.size
    have HR7 : Hid (∀ M, (∀ g ∈ M, g < w.heap.size) → Bs w7 M (.slice A6 H.length H.length) H) := fun M hM => (HR6.out M (fun g hg => by have := hM g hg; omega)).keep Hka.out (by simp)
    go_loopw [5, 53] (fun b i wr => ∃ (x : Nat) (A' : Option Addr) (L : List UInt8), i = .int .i64 x ∧ x ≤ 5 ∧ b = .slice A' L.length L.length ∧ Hid (L = H ++ ((nums5 ag sh seq ep ds.length).take x).flatMap Lib.uvarint) ∧ Hid (∀ M, (∀ g ∈ M, g < w.heap.size) → Bs wr M (.slice A' L.length L.length) L) ∧ Hid (Below w7.heap.size w7 wr)) (fun _ i _ => 5 - (intOf i).toNat)
    case atStart => exact ⟨0, A6, H, rfl, by omega, rfl, (show H = H ++ ((nums5 ag sh seq ep ds.length).take 0).flatMap Lib.uvarint by simp), HR7.out, Below.refl _ _⟩
    case round =>
      obtain ⟨x, A', L, rfl, hx, rfl, HL, HB, Hbr⟩ := hrel
      clear c0 c1 c2 c3 c4 c5 c6
      have hLl : Hid (L.length ≤ 71) := by
        have h1 := Hhl.out
        have h2 := hNl.out
        have h3 := congrArg List.length HL.out
        have h4 : (((nums5 ag sh seq ep ds.length).take x).flatMap Lib.uvarint).length ≤ ((nums5 ag sh seq ep ds.length).flatMap Lib.uvarint).length := by
          conv => rhs; rw [← List.take_append_drop x (nums5 ag sh seq ep ds.length), List.flatMap_append, List.length_append]
          omega
        rw [List.length_append] at h3
        show _ ≤ _; omega
      by_cases hlt : x < 5
      · have hx1 : (x : Int) < 5 := by omega
        have hc7 : wr.cell? ⟨wc.heap.size, x, none⟩ = some (.int .u64 ((nums5 ag sh seq ep ds.length)[x]'hlt)) := by
          rw [(HN5.out.below Hbr.out hwc7).cell x]; exact Hcc.out x hlt
        have Hn := Lib.hid (hN.out _ (List.getElem_mem (l := nums5 ag sh seq ep ds.length) (n := x) hlt))
        have HL2 : Hid (L ++ Lib.uvarint ((nums5 ag sh seq ep ds.length)[x]'hlt) = H ++ ((nums5 ag sh seq ep ds.length).take (x + 1)).flatMap Lib.uvarint) := by
          show _ = _
          rw [List.take_succ_eq_append_getElem (l := nums5 ag sh seq ep ds.length) (i := x) hlt, List.flatMap_append, HL.out]
          simp
        generalize (nums5 ag sh seq ep ds.length)[x]'hlt = n at *
        have Hp := Lib.hid (put_any _ L n wr (HB.out [] (by simp)) Hn.out (by have := hLl.out; omega))
        go_wp2_with fail
        refine Hp.out.mono ?_
        rintro r w8 ⟨A8, rfl, hR8, hb8⟩
        have HR8 := Lib.hid (fun M (hM : ∀ g ∈ M, g < w.heap.size) => hR8 M (fun g hg => by have := hM g hg; have := Hbr.out.size; omega))
        have Hb8 := Lib.hid (below_then Hbr.out hb8)
        clear hR8 hb8 Hp
        generalize L ++ Lib.uvarint n = L2 at *
        go_wp2
        go_roundw
        case rel => exact ⟨x + 1, A8, L2, by go_num, by omega, rfl, HL2, HR8, Hb8⟩
        case measure => simp [intOf] <;> omega
      · obtain rfl : x = 5 := by omega
        have hL5 : Hid (L = H ++ (nums5 ag sh seq ep ds.length).flatMap Lib.uvarint) := HL.out
        have HBw := Lib.hid ((HB6.out.below Hka.out.below (by have := Hb6.out.size; omega)).below Hbr.out (by have := Hb6.out.size; omega))
        have c5 := HBw.out.cell 5
        simp only [List.getElem?_toArray, List.getElem?_cons_succ, List.getElem?_cons_zero] at c5
        have Hw : Hid (Below w.heap.size w wr) := below_then (below_then HA6.out Hka.out.below) Hbr.out
        have hds : Ds wr [] (.slice A ds.length c) ds := Hh.out.keep (Keeps.of_below (M := []) Hw.out) (by simp)
        have Hpt := Lib.hid (eput_any (List.range w.heap.size) A' L (.slice A ds.length c) ds wr (fun g hg => by have := List.mem_range.1 hg; have := Hw.out.size; omega) (HB.out (List.range w.heap.size) (fun g hg => List.mem_range.1 hg)) hds HNw.out (by omega) (by have := hLl.out; have := hDl.out; have : ds.length * 4294967301 ≤ 8 * 4294967301 := Nat.mul_le_mul_right _ (by omega); omega))
        clear hds
        go_wp2_with fail
        refine Hpt.out.mono ?_
        rintro r w9 ⟨A9, rfl, hR9, hb9⟩
        have hp : Hid (EB0 be w (.returned (.tuple #[.slice A9 (L ++ ds.flatMap dBytes).length (L ++ ds.flatMap dBytes).length, .int .i64 0])) w9) := by
          have := HP.out A9 w9
          show EB0 _ _ _ _
          rw [HE.out, ← hL5.out] at this ⊢
          exact this (fun M hM => hR9.avoid (fun g hg => .inl (List.mem_range.2 (hM g hg)))) (below_then Hw.out hb9)
        clear hR9 hb9 Hpt
        generalize L ++ ds.flatMap dBytes = F at *
        go_wp2
        go_ret2
        exact hp.out
end Go.Proofs.YtinnifhnabncfaaGreatDoor.Vi
end
/- Contracts of entry.Bytes where an entry may not be, of entry.Add. -/
section
namespace Go.Proofs.YtinnifhnabncfaaGreatDoor.Vi
open Go.RowKit Base Mem Go.Shelf
set_option maxRecDepth 100000 in
theorem ebytes_no (e : EntryD) (dv : Value) (m : Int) (w : World) (hr : rightE e ≠ 0) (h : Ds w [] dv e.ds) (hs : Short e) (hm : w.cell? ⟨0, 0, none⟩ = some (.int .i64 m)) :
    Calls Tryz.prog 64 #[.agg (eCell (e, dv)).toArray] w fun r w' => r = .returned (.tuple #[.slice none 0 0, .int .i64 (rightE e)]) ∧ Below w.heap.size w w' := by
  have hri := Lib.hid (fun W (hk : Keeps [] w W) (hmW : W.cell? ⟨0, 0, none⟩ = some (.int .i64 m)) => eright_any e dv m W (h.keep hk (by simp)) hs hmW)
  have hw0 : 0 < w.heap.size := by
    have := World.block_lt_of_cell? w _ hm
    simpa using this
  obtain ⟨A, c, rfl, hc⟩ := h.len
  have hne : ((rightE e : Int) != 0) = true := by simpa using hr
  clear hr
  generalize rightE e = rr at *
  obtain ⟨kind, ag, sh, seq, ep, ds, ser, fr, tag⟩ := e
  simp only [] at h hri hc
  obtain ⟨w2, hw2e⟩ : ∃ w2, w2 = w.alloc (.cells #[.int .i64 kind, .int .i64 ag, .int .i64 sh, .int .i64 seq, .int .i64 ep, .slice A ds.length c, .string ser, .int .i64 fr, .int .i64 tag] 26) := ⟨_, rfl⟩
  have hB : Blk w2 w.heap.size 26 #[.int .i64 kind, .int .i64 ag, .int .i64 sh, .int .i64 seq, .int .i64 ep, .slice A ds.length c, .string ser, .int .i64 fr, .int .i64 tag] := by rw [hw2e]; exact Blk.new w _ _
  have hk2 : Keeps [] w w2 := by rw [hw2e]; exact (Keeps.refl _ _).alloc _
  have hm2 : w2.cell? ⟨0, 0, none⟩ = some (.int .i64 m) := (hk2.cell (p := ⟨0, 0, none⟩) hw0 (by simp)).trans hm
  have Hri := Lib.hid (show Calls Tryz.prog 66 #[.agg #[.int .i64 kind, .int .i64 ag, .int .i64 sh, .int .i64 seq, .int .i64 ep, .slice A ds.length c, .string ser, .int .i64 fr, .int .i64 tag]] w2 fun r w' => r = .returned (.int .i64 rr) ∧ Below w2.heap.size w2 w' from hri.out w2 hk2 hm2)
  have Hk2 := Lib.hid hk2; have Hw2 := Lib.hid hw2e
  have c0 := hB.cell 0; have c1 := hB.cell 1; have c2 := hB.cell 2; have c3 := hB.cell 3; have c4 := hB.cell 4; have c5 := hB.cell 5; have c6 := hB.cell 6; have c7 := hB.cell 7; have c8 := hB.cell 8
  simp only [List.getElem?_toArray, List.getElem?_cons_succ, List.getElem?_cons_zero] at c0 c1 c2 c3 c4 c5 c6 c7 c8
  clear hri hB hk2 hm2 hw2e h hm
  show Calls Tryz.prog 64 #[.agg #[.int .i64 kind, .int .i64 ag, .int .i64 sh, .int .i64 seq, .int .i64 ep, .slice A ds.length c, .string ser, .int .i64 fr, .int .i64 tag]] w fun r w' => r = .returned (.tuple #[.slice none 0 0, .int .i64 rr]) ∧ Below w.heap.size w w'
  go_enter Tryz.func64, Tryz.ntmps64
  go_upto_region 1 with (fail)
  rw [← Hw2.out]
  go_wp2_with fail
  refine Hri.out.mono ?_
  rintro r w3 ⟨rfl, hb3⟩
  have Hb := Lib.hid (below_then Hk2.out.below hb3)
  clear hb3 Hri c0 c1 c2 c3 c4 c5 c6 c7 c8
  go_wp2
  go_ret2
  exact ⟨rfl, Hb.out⟩
def addS (a b : Nat) : Nat := if 18446744073709551615 < a + b then 18446744073709551615 else a + b
theorem add_any (a b : Nat) (w : World) (ha : a < 18446744073709551616) (hb : b < 18446744073709551616) :
    Calls Tryz.prog 75 #[.int .u64 a, .int .u64 b] w fun e w' => e = .returned (.int .u64 (addS a b)) ∧ w = w' := by
  by_cases h : 18446744073709551615 < a + b
  · have hR : Hid (addS a b = 18446744073709551615) := by show _ = _; unfold addS; rw [if_pos h]
    rw [hR.out]
    have hw : IntKind.u64.wrap (18446744073709551615 - (b : Int)) = 18446744073709551615 - (b : Int) := by rw [IntKind.wrap_u64]; omega
    have hi : (18446744073709551615 : Int) - (b : Int) < (a : Int) := by omega
    go_enter Tryz.func75, Tryz.ntmps75
    go_wp2
    go_ret
    exact ⟨rfl, rfl⟩
  · have hR : Hid (addS a b = a + b) := by show _ = _; unfold addS; rw [if_neg h]
    rw [hR.out]
    have hw : IntKind.u64.wrap (18446744073709551615 - (b : Int)) = 18446744073709551615 - (b : Int) := by rw [IntKind.wrap_u64]; omega
    have hi : decide ((18446744073709551615 : Int) - (b : Int) < (a : Int)) = false := decide_eq_false (by omega)
    have hw2 : IntKind.u64.wrap ((a : Int) + (b : Int)) = (a : Int) + (b : Int) := by rw [IntKind.wrap_u64]; omega
    go_enter Tryz.func75, Tryz.ntmps75
    go_wp2
    go_ret
    exact ⟨ret_int (by simp), rfl⟩
end Go.Proofs.YtinnifhnabncfaaGreatDoor.Vi
end
/- Contract of the look for a series among deltas (entry.Deltas$1, slices.IndexFunc). -/
section
namespace Go.Proofs.YtinnifhnabncfaaGreatDoor.Vi
open Go.RowKit Base Mem Go.Shelf
theorem sameSer_any (x : DeltaD) (B : Nat) (s : ByteArray) (w : World) (hB : B < w.heap.size) (hc : w.cell? ⟨B, 0, none⟩ = some (.string s)) :
    Calls Tryz.prog 74 #[.agg #[.string x.ser, .int .u64 x.n], .pointer (some ⟨B, 0, none⟩)] w fun e w' => e = .returned (.bool (x.ser.toList == s.toList)) ∧ Below w.heap.size w w' := by
  have hb : Hid (∀ o, Below w.heap.size w (w.alloc o)) := fun o => (Below.refl _ _).alloc (Nat.le_refl _) o
  have hca : (w.alloc (.cells #[.string x.ser, .int .u64 x.n] 86)).cell? ⟨B, 0, none⟩ = some (.string s) := ((hb.out _).cell (p := ⟨B, 0, none⟩) hB).trans hc
  go_enter Tryz.func74, Tryz.ntmps74
  go_wp2
  go_ret
  exact ⟨rfl, hb.out _⟩
theorem index_any (v : Value) (l : List DeltaD) (B : Nat) (s : ByteArray) (w : World) (h : Ds w [] v l) (h0 : 0 < l.length) (hl : l.length ≤ 4611686018427387904) (hB : B < w.heap.size) (hc : w.cell? ⟨B, 0, none⟩ = some (.string s)) :
    Calls Tryz.prog 73 #[v, .func (.func 74) #[] #[.pointer (some ⟨B, 0, none⟩)]] w fun r w' => r = .returned (.int .i64 (Lib.idxBy (fun _ (y : DeltaD) => y.ser.toList == s.toList) l default)) ∧ Below w.heap.size w w' := by
  obtain ⟨g, off, c, rfl, hg, hx⟩ := ds_cells h h0
  have heg : ∀ args w, (callFunc 74 args).run Tryz.prog w = .ok (.enter 74 args) w := enters_of Tryz.func74 (by kernel_rfl) rfl
  have hp : PredBelow Tryz.prog 74 #[.pointer (some ⟨B, 0, none⟩)] (fun x => .agg (dCell x).toArray) (fun d => d.ser.toList == s.toList) w := fun W x hb => by
    refine Calls.mono (sameSer_any x B s W (Nat.lt_of_lt_of_le hB hb.size) ((hb.cell (p := ⟨B, 0, none⟩) hB).trans hc)) ?_
    rintro r w' ⟨rfl, hb2⟩
    exact ⟨rfl, hb.trans (hb2.mono hb.size)⟩
  have := AnyQ.slices_IndexFunc Tryz.indexFuncDelta 2 Tryz.isAgg86 Tryz.sizeOf86 dCell (fun _ => rfl) (fun d => d.ser.toList == s.toList) 74 #[.pointer (some ⟨B, 0, none⟩)] heg g off l.length c l w hp (Nat.le_refl _) (by omega) hg hx
  rw [List.take_length] at this
  exact this
end Go.Proofs.YtinnifhnabncfaaGreatDoor.Vi
end
/- Contract of entry.Get. -/
section
namespace Go.Proofs.YtinnifhnabncfaaGreatDoor.Vi
open Go.RowKit Base Mem Go.Shelf
/-- So many deltas from the front, and how the reader stands. -/
def getDs : Nat → List UInt8 → Bool → List DeltaD × List UInt8 × Bool
  | 0, l, b => ([], l, b)
  | k + 1, l, b =>
    let t := textS l b
    let u := numS t.2.1 t.2.2
    let r := getDs k u.2.1 u.2.2
    (⟨⟨t.1.toArray⟩, u.1⟩ :: r.1, r.2)
theorem infoDelta2 : (Tryz.prog.info? 86).map (fun i => (i.zero, i.size, i.bytes)) = some (some (.agg #[.string ByteArray.empty, .int .u64 0]), 2, 24) := by kernel_rfl
def GetPost (M : List Nat) (p n : Nat) (l : List UInt8) (b : Bool) (w : World) (e : Ending) (w' : World) : Prop := ∃ v, e = .returned v ∧ w'.ownsRow w.heap.size 86 2 v n (dCells (getDs n l b).1) ∧ RdAt w' M p (getDs n l b).2.1 (getDs n l b).2.2 ∧ Keeps [p] w w'
set_option maxRecDepth 100000 in
set_option maxHeartbeats 600000 in
theorem get_ds (M : List Nat) (p n : Nat) (l : List UInt8) (b : Bool) (w : World) (h : RdAt w M p l b) (hn : n ≤ 8) :
    Calls Tryz.prog 130 #[.pointer (some ⟨p, 0, none⟩), .int .i64 n] w fun e w' => GetPost M p n l b w e w' := by
  have hp0 := h.lt
  have H := Lib.hid h
  obtain ⟨i0, hi0, hz0, hz1, hz2⟩ := info_parts infoDelta2
  have Hi0 := Lib.hid hi0; have Hz0 := Lib.hid hz0; have Hz1 := Lib.hid hz1; have Hz2 := Lib.hid hz2
  clear h hi0 hz0 hz1 hz2
  go_enter Tryz.func130, Tryz.ntmps130
  go_wp2_with fail
  go_loopw [5, 8] (fun out i wr => ∃ (x : Nat) (acc : List DeltaD) (lx : List UInt8) (bx : Bool), i = .int .i64 x ∧ x ≤ n ∧ acc.length = x ∧ Hid ((getDs n l b) = (acc ++ (getDs (n - x) lx bx).1, (getDs (n - x) lx bx).2)) ∧ Hid (wr.ownsRow w.heap.size 86 2 out x (dCells acc)) ∧ Hid (RdAt wr (out.ownBlock.toList ++ M) p lx bx) ∧ Hid (Keeps [p] w wr)) (fun _ i _ => n - (intOf i).toNat)
  case atStart => exact ⟨0, [], l, b, rfl, by omega, rfl, (show getDs n l b = _ from rfl), World.ownsRow_nil _ _ _ _, (show RdAt w _ p l b from H.out), Keeps.refl _ _⟩
  case round =>
    obtain ⟨x, acc, lx, bx, rfl, hx, hal, Hg, Hown, HR, Hk⟩ := hrel
    by_cases hlt : x < n
    · have hx1 : (x : Int) < (n : Int) := by omega
      have Hst : Hid (getDs (n - x) lx bx = (⟨⟨(textS lx bx).1.toArray⟩, (numS (textS lx bx).2.1 (textS lx bx).2.2).1⟩ :: (getDs (n - (x + 1)) (numS (textS lx bx).2.1 (textS lx bx).2.2).2.1 (numS (textS lx bx).2.1 (textS lx bx).2.2).2.2).1, (getDs (n - (x + 1)) (numS (textS lx bx).2.1 (textS lx bx).2.2).2.1 (numS (textS lx bx).2.1 (textS lx bx).2.2).2.2).2)) := by
        show _ = _
        rw [show n - x = (n - (x + 1)) + 1 by omega]
        rfl
      have ht := Lib.hid (rtext_any (u5.ownBlock.toList ++ M) p lx bx wr HR.out)
      generalize textS lx bx = t at *
      obtain ⟨t1, t2, t3⟩ := t
      simp only [] at ht Hst
      go_wp2_with fail
      refine ht.out.mono ?_
      rintro e w3 ⟨rfl, hA3, hk3⟩
      have hu := Lib.hid (number_any (u5.ownBlock.toList ++ M) p t2 t3 w3 hA3)
      have Hk3 := Lib.hid hk3
      generalize numS t2 t3 = u at *
      obtain ⟨u1, u2', u3'⟩ := u
      simp only [] at hu Hst
      clear hA3 hk3 ht
      go_wp2_with fail
      refine hu.out.mono ?_
      rintro e w4 ⟨rfl, hA4, hk4⟩
      have HA4 := Lib.hid hA4
      have Hk4 : Hid (Keeps [p] wr w4) := Hk3.out.trans hk4 (by simp)
      clear hA4 hk4 hu
      have hown4 := own_keep Hown.out Hk4.out (by simp; exact hp0)
      have Hown5 := Lib.hid (hown4.alloc (.cells #[.string ⟨t1.toArray⟩, .int .u64 u1] 86))
      have hlt0 := Lib.hid Hown.out.lt
      have hz4 : w.heap.size ≤ w4.heap.size := Nat.le_trans Hk.out.size Hk4.out.size
      clear hown4
      go_wp2_with (at_builtin; refine wpList_append_any _ rfl (.tmp 12) (.tmp 17) _ rfl w.heap.size 86 i0 _ 2 24 Tryz.underlying24 Hi0.out Hz0.out Hz1.out Hz2.out rfl (by omega) u5 x (dCells acc) rfl Hown5.out (w4.heap.size + 1) (some ⟨w4.heap.size, 0, none⟩) 1 1 (dCell ⟨⟨t1.toArray⟩, u1⟩) rfl (reads_new _ _ _ _ _ rfl) (by intro u hu; simp [dCell] at hu; rcases hu with rfl | rfl <;> rfl) (by unfold maxLen; omega) (by omega) (by simp; omega) ?_)
      intro v6 w6 hown6 hg6 hat6
      have hpo : p ∉ u5.ownBlock.toList := fun hm => by have := (hlt0.out p (by simpa using hm)).1; omega
      have kg : Keeps u5.ownBlock.toList (w4.alloc (.cells #[.string ⟨t1.toArray⟩, .int .u64 u1] 86)) w6 := (Keeps.refl _ _).grown hg6 (fun g hg => .inl (by simpa using hg))
      have h1 := HA4.out.keep (M' := []) ((Keeps.refl _ _).alloc (.cells #[.string ⟨t1.toArray⟩, .int .u64 u1] 86)) (by simp) (by simp)
      have h2 := h1.avoid (M' := v6.ownBlock.toList ++ (u5.ownBlock.toList ++ M)) (fun g hg => by
        rcases List.mem_append.1 hg with h | h
        · rcases hat6 with h5 | h5
          · exact .inl (List.mem_append_left _ (by rw [h5] at h; exact h))
          · rw [h5] at h; simp at h; exact .inr (by simp; omega)
        · exact .inl h)
      have H6 := Lib.hid ((h2.keep kg (fun g hg => .inl (List.mem_append_right _ (List.mem_append_left _ hg))) hpo).avoid (M' := v6.ownBlock.toList ++ M) (fun g hg => by
        rcases List.mem_append.1 hg with h | h
        · exact .inl (List.mem_append_left _ h)
        · exact .inl (List.mem_append_right _ (List.mem_append_right _ h))))
      have Hk6 : Hid (Keeps [p] w w6) := ((Hk.out.trans Hk4.out (by simp)).alloc _).grown hg6 (fun g hg => .inr (hlt0.out g hg).1)
      have Hown6 : Hid (w6.ownsRow w.heap.size 86 2 v6 (x + 1) (dCells (acc ++ [⟨⟨t1.toArray⟩, u1⟩]))) := by
        show World.ownsRow _ _ _ _ _ _ _
        unfold dCells at hown6 ⊢
        rw [List.flatMap_append]
        simpa using hown6
      have Hg6 : Hid (getDs n l b = ((acc ++ [⟨⟨t1.toArray⟩, u1⟩]) ++ (getDs (n - (x + 1)) u2' u3').1, (getDs (n - (x + 1)) u2' u3').2)) := by
        show _ = _
        rw [Hg.out, Hst.out]; simp
      clear hown6 hg6 hat6 kg h1 h2 hpo
      go_wp2
      go_roundw
      case rel => exact ⟨x + 1, acc ++ [⟨⟨t1.toArray⟩, u1⟩], u2', u3', by go_num, by omega, by simp; omega, Hg6, Hown6, H6, Hk6⟩
      case measure => simp [intOf] <;> omega
    · obtain rfl : x = n := by omega
      have hg := Hg.out
      rw [Nat.sub_self] at hg
      have hp : Hid (GetPost M p x l b w (.returned u5) wr) := by
        refine ⟨u5, rfl, ?_, ?_, Hk.out⟩
        · rw [hg]; simpa [getDs] using Hown.out
        · rw [hg]; exact HR.out.avoid (fun g hg => .inl (List.mem_append_right _ hg))
      clear hg
      go_wp2
      go_ret
      exact hp.out
end Go.Proofs.YtinnifhnabncfaaGreatDoor.Vi
end
/- Plain words: an entry that is written is read as itself. -/
section
namespace Go.Proofs.YtinnifhnabncfaaGreatDoor.Vi
open Go.RowKit Base Mem
theorem right_kind {e : EntryD} (h : rightE e = 0) : kindS e = true := by
  unfold rightE at h
  cases hk : kindS e with
  | true => rfl
  | false => rw [hk] at h; cases h
theorem byteS_cons (c : UInt8) (r : List UInt8) : byteS (c :: r) false = (c, r, false) := rfl
/-- What follows a message's head. -/
def readX (k fr tag : Nat) (l : List UInt8) (b : Bool) : EntryD × List UInt8 × Bool :=
  if k = 2 then (⟨k, 0, 0, 0, 0, [], ⟨(textS l b).1.toArray⟩, fr, tag⟩, (textS l b).2)
  else
    let a := countS l b 8
    let s := countS a.2.1 a.2.2 4
    let q := intS s.2.1 s.2.2
    let p := intS q.2.1 q.2.2
    let n := countS p.2.1 p.2.2 8
    let d := getDs n.1 n.2.1 n.2.2
    (⟨k, a.1, s.1, q.1, p.1, d.1, ⟨#[]⟩, fr, tag⟩, d.2)
def readH (b : List UInt8) : EntryD × List UInt8 × Bool :=
  let k := byteS b false
  let f := countS k.2.1 k.2.2 8
  let t := intS f.2.1 f.2.2
  readX k.1.toNat f.1 t.1 t.2.1 t.2.2
def zeroD : EntryD := ⟨0, 0, 0, 0, 0, [], ⟨#[]⟩, 0, 0⟩
/-- The entry that bytes are, or why not. -/
def readE (b : List UInt8) : EntryD × Nat := if (!(readH b).2.2 && (readH b).2.1.isEmpty) = true ∧ rightE (readH b).1 = 0 then ((readH b).1, 0) else (zeroD, 12)
theorem getDs_put (ds : List DeltaD) (r : List UInt8) (hn : ∀ d ∈ ds, NOk d) (hs : ∀ d ∈ ds, d.ser.size < 4294967281) : getDs ds.length (ds.flatMap dBytes ++ r) false = (ds, r, false) := by
  induction ds with
  | nil => rfl
  | cons d ds ih =>
    obtain ⟨h0, h1⟩ := hn d (by simp)
    have h2 := hs d (by simp)
    obtain ⟨ser, n⟩ := d
    obtain ⟨n, rfl⟩ := Int.eq_ofNat_of_zero_le h0
    simp only [] at h1 h2
    have ht := textS_put (sB ser) (Lib.uvarint n ++ (ds.flatMap dBytes ++ r)) (by show ser.size < _; omega)
    have hu := numS_put n (ds.flatMap dBytes ++ r) (by omega)
    have hd : dBytes ⟨ser, n⟩ = Lib.uvarint (sB ser).length ++ sB ser ++ Lib.uvarint n := rfl
    rw [List.flatMap_cons, hd, List.length_cons, getDs]
    simp only [List.append_assoc] at ht ⊢
    rw [ht]
    simp only []
    rw [hu]
    simp only []
    rw [ih (fun d hd => hn d (by simp [hd])) (fun d hd => hs d (by simp [hd]))]
    rfl
theorem read_bytes (e : EntryD) (hr : rightE e = 0) (hw : Wf e) (hs : Short e) : readE (bytesE e) = (e, 0) := by
  obtain ⟨⟨hf0, hf8, ht0⟩, hrest⟩ := right_facts hr
  have hk := right_kind hr
  have hH : readH (bytesE e) = (e, [], false) := by
    obtain ⟨hw1, hw2, hw3, hw4⟩ := hw
    obtain ⟨hs1, hs2, hs3⟩ := hs
    clear hr
    obtain ⟨kind, ag, sh, seq, ep, ds, ser, fr, tag⟩ := e
    simp only [] at hf0 hf8 ht0 hrest hw1 hw2 hw3 hw4 hs1 hs2 hs3
    obtain ⟨fr, rfl⟩ := Int.eq_ofNat_of_zero_le hf0
    obtain ⟨tag, rfl⟩ := Int.eq_ofNat_of_zero_le ht0
    have hfr := fun r => countS_put fr r 8 (by omega) (by omega)
    have htg := fun r => intS_put tag r (by omega)
    unfold kindS at hk
    simp only [] at hk
    rcases hrest with rfl | ⟨rfl, h1, h2, h3, h4, h5, h6, h7⟩
    · rw [if_neg (by omega), if_pos rfl] at hk
      simp [eqI] at hk
      obtain ⟨⟨⟨rfl, rfl, rfl⟩, rfl⟩, hds⟩ := hk
      obtain rfl : ds = [] := by simpa using hds
      have ht := textS_put (sB ser) [] (by show ser.size < _; omega)
      unfold readH bytesE headB
      rw [if_pos rfl]
      simp only [List.append_nil] at ht
      simp only [List.append_assoc, List.nil_append, List.cons_append, byteS_cons, Int.toNat_natCast, hfr, htg]
      unfold readX
      rw [if_pos (by decide)]
      rw [show Lib.uvarint ser.size ++ sB ser = Lib.uvarint (sB ser).length ++ sB ser from rfl, ht]
      rfl
    · rw [if_pos rfl] at hk
      have hse : ser = ⟨#[]⟩ := by
        have h0 : ser.toList = [] := by simpa using hk
        rw [Lib.toList_data] at h0
        obtain ⟨⟨l⟩⟩ := ser
        simp only [] at h0
        rw [h0]
      subst hse
      obtain ⟨ag, rfl⟩ := Int.eq_ofNat_of_zero_le h1
      obtain ⟨sh, rfl⟩ := Int.eq_ofNat_of_zero_le h3
      obtain ⟨seq, rfl⟩ := Int.eq_ofNat_of_zero_le (show 0 ≤ seq by omega)
      obtain ⟨ep, rfl⟩ := Int.eq_ofNat_of_zero_le (show 0 ≤ ep by omega)
      have ha := fun r => countS_put ag r 8 (by omega) (by omega)
      have hsh := fun r => countS_put sh r 4 (by omega) (by omega)
      have hq := fun r => intS_put seq r (by omega)
      have hp := fun r => intS_put ep r (by omega)
      have hn := fun r => countS_put ds.length r 8 (by omega) (by omega)
      have hg := getDs_put ds [] hw4 hs2
      unfold readH bytesE headB
      rw [if_neg (by simp)]
      simp only [List.append_nil] at hg
      simp only [List.append_assoc, List.nil_append, List.cons_append, byteS_cons, Int.toNat_natCast, hfr, htg]
      unfold readX
      rw [if_neg (by decide)]
      simp only [ha, hsh, hq, hp, hn, hg]
      rfl
  unfold readE
  rw [hH, if_pos ⟨rfl, hr⟩]
end Go.Proofs.YtinnifhnabncfaaGreatDoor.Vi
end
/- Plain words: what is read from bytes is no longer than they are. -/
section
namespace Go.Proofs.YtinnifhnabncfaaGreatDoor.Vi
open Go.RowKit Base Mem
theorem numS_len (l : List UInt8) (b : Bool) : (numS l b).2.1.length ≤ l.length := by
  unfold numS
  split
  · exact Nat.le_refl _
  · simp only [List.length_drop]; omega
theorem intS_len (l : List UInt8) (b : Bool) : (intS l b).2.1.length ≤ l.length := by
  unfold intS
  split <;> exact numS_len l b
theorem countS_len (l : List UInt8) (b : Bool) (m : Nat) : (countS l b m).2.1.length ≤ l.length := by
  unfold countS
  split <;> exact intS_len l b
theorem countS_most (l : List UInt8) (b : Bool) (m : Nat) : (countS l b m).1 ≤ m := by
  unfold countS
  split
  · simp
  · omega
theorem textS_len (l : List UInt8) (b : Bool) : (textS l b).2.1.length ≤ l.length ∧ (textS l b).1.length ≤ l.length := by
  unfold textS
  split
  · simp
  · refine ⟨by simp only [List.length_drop]; omega, ?_⟩
    unfold cutL
    split
    · simp
    · simp only [List.length_take, List.length_drop]; omega
theorem byteS_len (l : List UInt8) (b : Bool) : (byteS l b).2.1.length ≤ l.length := by
  unfold byteS
  split
  · exact Nat.le_refl _
  · cases l <;> simp
theorem getDs_short : ∀ (n : Nat) (l : List UInt8) (b : Bool), (∀ d ∈ (getDs n l b).1, d.ser.size ≤ l.length ∧ NOk d) ∧ (getDs n l b).1.length = n
  | 0, _, _ => ⟨by simp [getDs], rfl⟩
  | n + 1, l, b => by
    have h1 := textS_len l b
    have h2 := numS_len (textS l b).2.1 (textS l b).2.2
    have h4 := numS_lt (textS l b).2.1 (textS l b).2.2
    obtain ⟨h3, h5⟩ := getDs_short n (numS (textS l b).2.1 (textS l b).2.2).2.1 (numS (textS l b).2.1 (textS l b).2.2).2.2
    rw [getDs]
    refine ⟨fun d hd => ?_, by simp only [List.length_cons, h5]⟩
    rcases List.mem_cons.1 hd with rfl | hd
    · refine ⟨h1.2, ?_⟩
      unfold NOk
      simp only []
      omega
    · obtain ⟨h6, h7⟩ := h3 d hd
      exact ⟨by omega, h7⟩
theorem readX_two (fr tag : Nat) (l : List UInt8) (b : Bool) : readX 2 fr tag l b = (⟨(2 : Nat), 0, 0, 0, 0, [], ⟨(textS l b).1.toArray⟩, fr, tag⟩, (textS l b).2) := if_pos rfl
theorem readX_else (k fr tag : Nat) (l : List UInt8) (b : Bool) (hk : ¬ k = 2) : ∃ a s q p n d, a = countS l b 8 ∧ s = countS a.2.1 a.2.2 4 ∧ q = intS s.2.1 s.2.2 ∧ p = intS q.2.1 q.2.2 ∧ n = countS p.2.1 p.2.2 8 ∧ d = getDs n.1 n.2.1 n.2.2 ∧
    readX k fr tag l b = (⟨k, a.1, s.1, q.1, p.1, d.1, ⟨#[]⟩, fr, tag⟩, d.2) := ⟨_, _, _, _, _, _, rfl, rfl, rfl, rfl, rfl, rfl, if_neg hk⟩
theorem readX_all (k fr tag : Nat) (l : List UInt8) (b : Bool) (N : Nat) (h : l.length ≤ N) (ht : tag ≤ 9223372036854775807) : (readX k fr tag l b).1.ser.size ≤ N ∧ (∀ d ∈ (readX k fr tag l b).1.ds, d.ser.size ≤ N ∧ NOk d) ∧ (readX k fr tag l b).1.ds.length ≤ 8 ∧ Wf (readX k fr tag l b).1 := by
  by_cases hk : k = 2
  · subst hk
    have h1 := (textS_len l b).2
    rw [readX_two]
    generalize textS l b = t at *
    refine ⟨?_, fun d hd => (by cases hd), Nat.zero_le _, ?_, ?_, ?_, fun d hd => (by cases hd)⟩
    · show t.1.toArray.size ≤ N
      rw [List.size_toArray]; omega
    · show (tag : Int) ≤ _; omega
    · show (0 : Int) ≤ _; omega
    · show (0 : Int) ≤ _; omega
  · obtain ⟨a, s, q, p, n, d, ha, hs, hq, hp, hn, hd, e⟩ := readX_else k fr tag l b hk
    have h1 := countS_len l b 8
    have h2 := countS_len a.2.1 a.2.2 4
    have h3 := intS_len s.2.1 s.2.2
    have h4 := intS_len q.2.1 q.2.2
    have h5 := countS_len p.2.1 p.2.2 8
    have h6 := countS_most p.2.1 p.2.2 8
    have h7 := intS_lt s.2.1 s.2.2
    have h8 := intS_lt q.2.1 q.2.2
    obtain ⟨h9, h10⟩ := getDs_short n.1 n.2.1 n.2.2
    rw [← ha] at h1
    rw [← hs] at h2
    rw [← hq] at h3 h7
    rw [← hp] at h4 h8
    rw [← hn] at h5 h6
    rw [← hd] at h9 h10
    rw [e]
    refine ⟨Nat.zero_le _, fun x hx => ?_, by show d.1.length ≤ 8; omega, ?_, ?_, ?_, fun x hx => (h9 x hx).2⟩
    · obtain ⟨h11, h12⟩ := h9 x hx
      exact ⟨by omega, h12⟩
    · show (tag : Int) ≤ _; omega
    · show (q.1 : Int) ≤ _; omega
    · show (p.1 : Int) ≤ _; omega
theorem readH_eq (l : List UInt8) : ∃ k f t, k = byteS l false ∧ f = countS k.2.1 k.2.2 8 ∧ t = intS f.2.1 f.2.2 ∧ readH l = readX k.1.toNat f.1 t.1 t.2.1 t.2.2 := ⟨_, _, _, rfl, rfl, rfl, rfl⟩
theorem readH_short (l : List UInt8) (h : l.length < 4294967281) : Short (readH l).1 ∧ (readH l).1.ds.length ≤ 8 ∧ Wf (readH l).1 := by
  obtain ⟨k, f, t, hk, hf, ht, e⟩ := readH_eq l
  have h1 := byteS_len l false
  have h2 := countS_len k.2.1 k.2.2 8
  have h3 := intS_len f.2.1 f.2.2
  have h4 := intS_lt f.2.1 f.2.2
  rw [← hk] at h1
  rw [← hf] at h2
  rw [← ht] at h3 h4
  rw [e]
  obtain ⟨h5, h6, h7, h8⟩ := readX_all k.1.toNat f.1 t.1 t.2.1 t.2.2 l.length (by omega) h4
  exact ⟨⟨by omega, fun d hd => by have := (h6 d hd).1; omega, by omega⟩, h7, h8⟩
end Go.Proofs.YtinnifhnabncfaaGreatDoor.Vi
end
/- Contract of entry.Read. -/
section
namespace Go.Proofs.YtinnifhnabncfaaGreatDoor.Vi
open Go.RowKit Base Mem Go.Shelf
def zeroA : Array Value := #[.int .i64 0, .int .i64 0, .int .i64 0, .int .i64 0, .int .i64 0, .slice none 0 0, .string ⟨#[]⟩, .int .i64 0, .int .i64 0]
/-- What stands between two calls: the reader, the result's block, the entry's block. -/
structure Re (w0 w : World) (p g0 g5 : Nat) (l : List UInt8) (bad : Bool) (c : Array Value) : Prop where
  rd : RdAt w [g5] p l bad
  keeps : Below w0.heap.size w0 w
  b0 : Blk w g0 26 zeroA
  b5 : Blk w g5 26 c
  o0 : w0.heap.size ≤ g0
  o1 : g0 < p
  o2 : p < g5
theorem Re.step {w0 w w' : World} {p g0 g5 : Nat} {l l' : List UInt8} {bad bad' : Bool} {c : Array Value} (h : Re w0 w p g0 g5 l bad c) (hr : RdAt w' [g5] p l' bad') (hk : Keeps [p] w w') : Re w0 w' p g0 g5 l' bad' c := by
  have h0 := h.o0; have h1 := h.o1; have h2 := h.o2
  exact ⟨hr, ((Keeps.of_below (M := []) h.keeps).trans hk (by intro g hg; simp at hg; right; omega)).below, hk.blk h.b0 (by simp; omega), hk.blk h.b5 (by simp; omega), h0, h1, h2⟩
theorem Re.set {w0 w : World} {p g0 g5 : Nat} {l : List UInt8} {bad : Bool} {c : Array Value} (h : Re w0 w p g0 g5 l bad c) (i : Nat) (v : Value) : Re w0 (w.setCell ⟨g5, i, none⟩ v) p g0 g5 l bad (c.setIfInBounds i v) := by
  have h0 := h.o0; have h1 := h.o1; have h2 := h.o2
  have hk : Keeps [g5] w (w.setCell ⟨g5, i, none⟩ v) := (Keeps.refl _ _).setCell (by simp) v
  exact ⟨h.rd.keep hk (by simp) (by simp; omega), ((Keeps.of_below (M := []) h.keeps).trans hk (by intro g hg; simp at hg; right; omega)).below, hk.blk h.b0 (by simp; omega), h.b5.set_ i v, h0, h1, h2⟩
theorem blk9 {w : World} {g : Nat} {t : TypeId} {c0 c1 c2 c3 c4 c5 c6 c7 c8 : Value} (h : Blk w g t #[c0, c1, c2, c3, c4, c5, c6, c7, c8]) :
    w.cell? ⟨g, 0, none⟩ = some c0 ∧ w.cell? ⟨g, 1, none⟩ = some c1 ∧ w.cell? ⟨g, 2, none⟩ = some c2 ∧ w.cell? ⟨g, 3, none⟩ = some c3 ∧ w.cell? ⟨g, 4, none⟩ = some c4 ∧ w.cell? ⟨g, 5, none⟩ = some c5 ∧ w.cell? ⟨g, 6, none⟩ = some c6 ∧ w.cell? ⟨g, 7, none⟩ = some c7 ∧ w.cell? ⟨g, 8, none⟩ = some c8 ∧ (∀ i, w.frozen? ⟨g, i, none⟩ = false) :=
  ⟨h.cell 0, h.cell 1, h.cell 2, h.cell 3, h.cell 4, h.cell 5, h.cell 6, h.cell 7, h.cell 8, h.frozen⟩
/-- What a read answers. -/
def ReadPost (r : EntryD × Nat) (w : World) (e : Ending) (w' : World) : Prop := ∃ dv, e = .returned (.tuple #[.agg (eCell (r.1, dv)).toArray, .int .i64 r.2]) ∧ (∀ M, (∀ g ∈ M, g < w.heap.size) → Ds w' M dv r.1.ds) ∧ Below w.heap.size w w'
/-- What stands where both ways have met. -/
def ReCut (w wx : World) (p g5 : Nat) (RH : EntryD × List UInt8 × Bool) : Prop := ∃ dv, Re w wx p w.heap.size g5 RH.2.1 RH.2.2 (eCell (RH.1, dv)).toArray ∧ ∀ M, (∀ g ∈ M, g ≤ w.heap.size) → Ds wx M dv RH.1.ds
set_option maxRecDepth 100000 in
set_option maxHeartbeats 1000000 in
theorem eread_any (v : Value) (l : List UInt8) (m : Int) (w : World) (h : Bs w [] v l) (hl : l.length < 4294967281) (hm : w.cell? ⟨0, 0, none⟩ = some (.int .i64 m)) :
    Calls Tryz.prog 70 #[v] w fun e w' => ReadPost (readE l) w e w' := by
  have hw0 : 0 < w.heap.size := by
    have := World.block_lt_of_cell? w _ hm
    simpa using this
  have Hm := Lib.hid hm
  have hsh := Lib.hid (readH_short l hl)
  have HE : Hid (readE l = if (!(readH l).2.2 && (readH l).2.1.isEmpty) = true ∧ rightE (readH l).1 = 0 then ((readH l).1, 0) else (zeroD, 12)) := rfl
  obtain ⟨kt, ft, tt, hk, hf, ht, hH⟩ := readH_eq l
  generalize readE l = RE at *
  generalize readH l = RH at *
  obtain ⟨A, c, rfl, hc⟩ := h.len
  have Hh := Lib.hid h
  have Hk := Lib.hid hk; have Hf := Lib.hid hf; have Ht := Lib.hid ht; have HH := Lib.hid hH
  clear h hm hk hf ht hH
  go_enter Tryz.func70, Tryz.ntmps70
  go_wp2_with fail
  refine (new_any [] _ l (w.alloc (.cells zeroA 26)) (Hh.out.keep (M' := []) ((Keeps.refl _ _).alloc _) (by simp)) (by omega)).mono ?_
  rintro e w1 ⟨rfl, hrd, hb1⟩
  have hsz : (w.alloc (.cells zeroA 26)).heap.size = w.heap.size + 1 := by simp
  rw [hsz] at hrd hb1 ⊢
  have hB0 : Blk w1 w.heap.size 26 zeroA := (Blk.new w 26 zeroA).below (B := w.heap.size + 1) hb1 (by omega)
  have hbw : Below w.heap.size w w1 := ((Below.refl _ _).alloc (Nat.le_refl _) _).trans (hb1.mono (by omega))
  obtain ⟨p, hp⟩ : ∃ p, p = w.heap.size + 1 := ⟨_, rfl⟩
  rw [← hp] at hrd hb1 ⊢
  have Hrd := Lib.hid hrd; have HB0 := Lib.hid hB0; have Hbw := Lib.hid hbw
  have hpw : w.heap.size < p := by omega
  have hpw1 : p < w1.heap.size := hrd.lt
  clear hrd hB0 hbw hb1 hsz hp
  go_wp2_with fail
  have hby := Lib.hid (byte_any [] p l false w1 Hrd.out)
  rw [← Hk.out] at hby
  obtain ⟨k1, k2, k3⟩ := kt
  simp only [] at hby Hf HH
  refine hby.out.mono ?_
  rintro e w2 ⟨rfl, hrd2, hk2⟩
  have HB2 := Lib.hid (hk2.blk HB0.out (by simp; omega))
  have Hbw2 := Lib.hid ((Keeps.of_below (M := []) Hbw.out).trans hk2 (by intro g hg; simp at hg; right; omega)).below
  have Hrd2 := Lib.hid hrd2
  have hp2 : p < w2.heap.size := hrd2.lt
  simp only [bV]
  have hk256 := UInt8.toNat_lt k1
  generalize k1.toNat = k at *
  have hwk : IntKind.i64.wrap (k : Int) = (k : Int) := by rw [IntKind.wrap_i64]; omega
  clear hrd2 hk2 hby Hbw HB0 Hrd Hk hk256
  go_wp2_with fail
  have hst : Re w (w2.alloc (.cells #[.int .i64 k, .int .i64 0, .int .i64 0, .int .i64 0, .int .i64 0, .slice none 0 0, .string ⟨#[]⟩, .int .i64 0, .int .i64 0] 26)) p w.heap.size w2.heap.size k2 k3 #[.int .i64 k, .int .i64 0, .int .i64 0, .int .i64 0, .int .i64 0, .slice none 0 0, .string ⟨#[]⟩, .int .i64 0, .int .i64 0] :=
    ⟨(Hrd2.out.avoid (M' := [w2.heap.size]) (by intro g hg; simp at hg; right; omega)).keep (M' := []) ((Keeps.refl _ _).alloc _) (by simp) (by simp), Hbw2.out.alloc (by omega) _, HB2.out.below (below_new' w2 _) (by omega), Blk.new w2 _ _, Nat.le_refl _, hpw, hp2⟩
  have H3 := Lib.hid hst
  clear hst HB2 Hbw2 Hrd2
  generalize hw3 : w2.alloc _ = w3 at *
  generalize w2.heap.size = g5 at *
  clear hw3
  have hct := Lib.hid (count_any [g5] p k2 k3 8 (by omega) w3 H3.out.rd)
  rw [← Hf.out] at hct
  obtain ⟨f1, f2, f3⟩ := ft
  simp only [] at hct Ht HH
  refine hct.out.mono ?_
  rintro e w4 ⟨rfl, hA4, hk4⟩
  have H4 := Lib.hid (H3.out.step hA4 hk4)
  clear hA4 hk4 H3 hct Hf
  go_wp2_with fail
  have hct := Lib.hid (rint_any [g5] p f2 f3 w4 H4.out.rd)
  rw [← Ht.out] at hct
  obtain ⟨t1, t2, t3⟩ := tt
  simp only [] at hct HH
  refine hct.out.mono ?_
  rintro e w5 ⟨rfl, hA5, hk5⟩
  have H5 := Lib.hid (H4.out.step hA5 hk5)
  clear hA5 hk5 H4 hct Ht
  obtain ⟨q0, q1, q2, q3, q4, q5, q6, q7, q8, qf⟩ := blk9 H5.out.b5
  have H6 : Hid (Re w ((w5.setCell ⟨g5, 7, none⟩ (.int .i64 f1)).setCell ⟨g5, 8, none⟩ (.int .i64 t1)) p w.heap.size g5 t2 t3 #[.int .i64 k, .int .i64 0, .int .i64 0, .int .i64 0, .int .i64 0, .slice none 0 0, .string ⟨#[]⟩, .int .i64 f1, .int .i64 t1]) :=
    (by simpa using (H5.out.set 7 (.int .i64 f1)).set 8 (.int .i64 t1) : Re w _ p w.heap.size g5 t2 t3 _)
  have ho2 := H5.out.o2
  clear H5
  go_upto_if 20 with (fail)
  go_cut [] (fun wx => ReCut w wx p g5 RH)
  case first =>
    generalize (w5.setCell ⟨g5, 7, none⟩ (.int .i64 f1)).setCell ⟨g5, 8, none⟩ (.int .i64 t1) = w6 at *
    clear q0 q1 q2 q3 q4 q5 q6 q7 q8 qf
    obtain ⟨q0, q1, q2, q3, q4, q5, q6, q7, q8, qf⟩ := blk9 H6.out.b5
    by_cases hk2 : k = 2
    · subst hk2
      have HH2 : Hid (RH = (⟨(2 : Nat), 0, 0, 0, 0, [], ⟨(textS t2 t3).1.toArray⟩, f1, t1⟩, (textS t2 t3).2)) := by show _ = _; rw [HH.out, readX_two]
      clear HH
      have hct := Lib.hid (rtext_any [g5] p t2 t3 w6 H6.out.rd)
      generalize textS t2 t3 = s at *
      obtain ⟨s1, s2, s3⟩ := s
      simp only [] at hct HH2
      go_wp2_with fail
      refine hct.out.mono ?_
      rintro e w7 ⟨rfl, hA7, hk7⟩
      have H7 := Lib.hid (H6.out.step hA7 hk7)
      clear hA7 hk7 H6 hct q0 q1 q2 q3 q4 q5 q6 q7 q8 qf
      obtain ⟨q0, q1, q2, q3, q4, q5, q6, q7, q8, qf⟩ := blk9 H7.out.b5
      have hC : Hid (ReCut w (w7.setCell ⟨g5, 6, none⟩ (.string ⟨s1.toArray⟩)) p g5 RH) := by
        show ReCut _ _ _ _ _
        rw [HH2.out]
        exact ⟨.slice none 0 0, by simpa [eCell] using H7.out.set 6 (.string ⟨s1.toArray⟩), fun M _ => Ds.nil _ _⟩
      clear H7
      go_wp2_with fail
      go_meet
      exact hC.out
    · have hkb : ((k : Int) == 2) = false := by simp; omega
      obtain ⟨a, s, u, pp, n, d, ha, hs, hq, hpp, hn, hd, e⟩ := readX_else k f1 t1 t2 t3 hk2
      have HH2 := Lib.hid (HH.out.trans e)
      have Ha := Lib.hid ha; have Hs := Lib.hid hs; have Hq := Lib.hid hq; have Hpp := Lib.hid hpp; have Hn := Lib.hid hn; have Hd := Lib.hid hd
      clear HH ha hs hq hpp hn hd e hk2
      have hct := Lib.hid (count_any [g5] p t2 t3 8 (by omega) w6 H6.out.rd)
      rw [← Ha.out] at hct
      obtain ⟨a1, a2, a3⟩ := a
      simp only [] at hct Hs HH2
      go_wp2_with fail
      refine hct.out.mono ?_
      rintro e wa ⟨rfl, hA, hk⟩
      have HA6 := Lib.hid (H6.out.step hA hk)
      clear hA hk H6 hct Ha
      have hct := Lib.hid (count_any [g5] p a2 a3 4 (by omega) wa HA6.out.rd)
      rw [← Hs.out] at hct
      obtain ⟨s1, s2, s3⟩ := s
      simp only [] at hct Hq HH2
      go_wp2_with fail
      refine hct.out.mono ?_
      rintro e wb ⟨rfl, hA, hk⟩
      have HB6 := Lib.hid (HA6.out.step hA hk)
      clear hA hk HA6 hct Hs
      clear q0 q1 q2 q3 q4 q5 q6 q7 q8 qf
      obtain ⟨q0, q1, q2, q3, q4, q5, q6, q7, q8, qf⟩ := blk9 HB6.out.b5
      have HC6 : Hid (Re w (((wb.setCell ⟨g5, 1, none⟩ (.int .i64 a1)).setCell ⟨g5, 2, none⟩ (.int .i64 s1)).setCell ⟨g5, 3, none⟩ (.int .i64 0)) p w.heap.size g5 s2 s3 #[.int .i64 k, .int .i64 a1, .int .i64 s1, .int .i64 0, .int .i64 0, .slice none 0 0, .string ⟨#[]⟩, .int .i64 f1, .int .i64 t1]) :=
        (by simpa using ((HB6.out.set 1 (.int .i64 a1)).set 2 (.int .i64 s1)).set 3 (.int .i64 0) : Re w _ p w.heap.size g5 s2 s3 _)
      clear HB6
      go_wp2_with fail
      generalize hwd : ((wb.setCell ⟨g5, 1, none⟩ (.int .i64 a1)).setCell ⟨g5, 2, none⟩ (.int .i64 s1)).setCell ⟨g5, 3, none⟩ (.int .i64 0) = wd at *
      clear hwd
      have hct := Lib.hid (rint_any [g5] p s2 s3 wd HC6.out.rd)
      rw [← Hq.out] at hct
      obtain ⟨u1, u2, u3⟩ := u
      simp only [] at hct Hpp HH2
      refine hct.out.mono ?_
      rintro e we ⟨rfl, hA, hk⟩
      have HE6 := Lib.hid (HC6.out.step hA hk)
      clear hA hk HC6 hct Hq
      have hct := Lib.hid (rint_any [g5] p u2 u3 we HE6.out.rd)
      rw [← Hpp.out] at hct
      obtain ⟨pp1, pp2, pp3⟩ := pp
      simp only [] at hct Hn HH2
      go_wp2_with fail
      refine hct.out.mono ?_
      rintro e wf ⟨rfl, hA, hk⟩
      have HF6 := Lib.hid (HE6.out.step hA hk)
      clear hA hk HE6 hct Hpp
      clear q0 q1 q2 q3 q4 q5 q6 q7 q8 qf
      obtain ⟨q0, q1, q2, q3, q4, q5, q6, q7, q8, qf⟩ := blk9 HF6.out.b5
      have HG6 : Hid (Re w ((wf.setCell ⟨g5, 3, none⟩ (.int .i64 u1)).setCell ⟨g5, 4, none⟩ (.int .i64 pp1)) p w.heap.size g5 pp2 pp3 #[.int .i64 k, .int .i64 a1, .int .i64 s1, .int .i64 u1, .int .i64 pp1, .slice none 0 0, .string ⟨#[]⟩, .int .i64 f1, .int .i64 t1]) :=
        (by simpa using (HF6.out.set 3 (.int .i64 u1)).set 4 (.int .i64 pp1) : Re w _ p w.heap.size g5 pp2 pp3 _)
      clear HF6
      go_wp2_with fail
      generalize hwg : (wf.setCell ⟨g5, 3, none⟩ (.int .i64 u1)).setCell ⟨g5, 4, none⟩ (.int .i64 pp1) = wg at *
      clear hwg
      have hn8 := countS_most pp2 pp3 8
      rw [← Hn.out] at hn8
      have hct := Lib.hid (count_any [g5] p pp2 pp3 8 (by omega) wg HG6.out.rd)
      rw [← Hn.out] at hct
      obtain ⟨n1, n2, n3⟩ := n
      simp only [] at hct hn8 Hd HH2
      refine hct.out.mono ?_
      rintro e wh ⟨rfl, hA, hk⟩
      have HH6 := Lib.hid (HG6.out.step hA hk)
      clear hA hk HG6 hct Hn
      have hct := Lib.hid (get_ds [g5] p n1 n2 n3 wh HH6.out.rd hn8)
      have Hdn := Lib.hid (getDs_short n1 n2 n3).2
      unfold GetPost at hct
      rw [← Hd.out] at hct Hdn
      obtain ⟨d1, d2, d3⟩ := d
      simp only [] at hct HH2 Hdn
      go_wp2_with fail
      refine hct.out.mono ?_
      rintro e wi ⟨dv, rfl, hown, hA, hk⟩
      have hgh : g5 < wh.heap.size := HH6.out.b5.lt
      have hgw : w.heap.size < wh.heap.size := HH6.out.b0.lt
      have HI6 := Lib.hid (HH6.out.step hA hk)
      rw [← Hdn.out] at hown
      have HD : Hid (∀ M, (∀ g ∈ M, g ≤ w.heap.size) → Ds wi (g5 :: M) dv d1) := fun M hM => Rd.of_own hown (by intro g hg; rcases List.mem_cons.1 hg with rfl | hg; exact hgh; have := hM g hg; omega)
      obtain ⟨Ad, cd, rfl, hcd⟩ := (HD.out [] (by simp)).len
      clear hA hk HH6 hct Hd hown
      clear q0 q1 q2 q3 q4 q5 q6 q7 q8 qf
      obtain ⟨q0, q1, q2, q3, q4, q5, q6, q7, q8, qf⟩ := blk9 HI6.out.b5
      have hC : Hid (ReCut w (wi.setCell ⟨g5, 5, none⟩ (.slice Ad d1.length cd)) p g5 RH) := by
        show ReCut _ _ _ _ _
        rw [HH2.out]
        exact ⟨.slice Ad d1.length cd, by simpa [eCell] using HI6.out.set 5 (.slice Ad d1.length cd), fun M hM => Rd.more ((HD.out M hM).keep (M' := [g5]) ((Keeps.refl _ _).setCell (by simp) _) (by simp))⟩
      clear HI6 HD
      go_wp2_with fail
      go_meet
      exact hC.out
  case rest =>
    obtain ⟨dv, hRe, hDs⟩ := hcut
    have HRe := Lib.hid hRe; have HDs := Lib.hid hDs
    clear hRe hDs H6 q0 q1 q2 q3 q4 q5 q6 q7 q8 qf HH
    obtain ⟨e, lx, bx⟩ := RH
    simp only [] at hsh HE HRe HDs
    obtain ⟨Ad, cd, rfl, hcd⟩ := (HDs.out [] (by simp)).len
    have hdw := Lib.hid (done_any [g5] p lx bx _ HRe.out.rd)
    obtain ⟨r0, r1, r2, r3, r4, r5, r6, r7, r8, rf⟩ := blk9 HRe.out.b0
    have ho0 := HRe.out.o0; have ho1 := HRe.out.o1
    cases hdone : (!bx && lx.isEmpty) with
    | false =>
      obtain rfl : RE = (zeroD, 12) := by rw [HE.out, hdone, if_neg (by simp)]
      rw [hdone] at hdw
      clear hdone HE
      go_wp2_with fail
      refine hdw.out.mono ?_
      rintro r w' ⟨rfl, rfl⟩
      go_wp2
      refine bodyPost_ret (v := .tuple #[.agg zeroA, .int .i64 12]) (by simp [results, Tryz.results70, go_sem, zeroA, r0, r1, r2, r3, r4, r5, r6, r7, r8]) rfl ?_
      refine ⟨.slice none 0 0, rfl, fun M _ => Ds.nil _ _, ?_⟩
      repeat (first | (with_reducible exact HRe.out.keeps) | (with_reducible refine Below.setCell ?_ (by simp) _))
    | true =>
      rw [hdone] at hdw
      have hri := Lib.hid (eright_any e _ m wc (HDs.out [] (by simp)) hsh.out.1 ((HRe.out.keeps.cell (p := ⟨0, 0, none⟩) hw0).trans Hm.out))
      have HR : Hid (RE = if rightE e = 0 then (e, 0) else (zeroD, 12)) := by show _ = _; rw [HE.out, hdone]; simp
      clear hdone HE
      generalize rightE e = rr at *
      obtain ⟨kind, ag, sh, seq, ep, ds, ser, fr, tag⟩ := e
      simp only [eCell] at hri HRe HDs HR hcd
      obtain ⟨q0, q1, q2, q3, q4, q5, q6, q7, q8, qf⟩ := blk9 HRe.out.b5
      have ho2 := HRe.out.o2
      have hg5 : g5 < wc.heap.size := HRe.out.b5.lt
      have hwc : w.heap.size < wc.heap.size := HRe.out.b0.lt
      go_wp2_with fail
      refine hdw.out.mono ?_
      rintro r w' ⟨rfl, rfl⟩
      go_wp2_with fail
      refine hri.out.mono ?_
      rintro r w9 ⟨rfl, hb9⟩
      have H9 := Lib.hid (HRe.out.keeps.trans (hb9.mono HRe.out.keeps.size))
      have HB0 := Lib.hid (HRe.out.b0.below hb9 hwc)
      have HB5 := Lib.hid (HRe.out.b5.below hb9 hg5)
      have HD9 : Hid (∀ M, (∀ g ∈ M, g ≤ w.heap.size) → Ds w9 M (.slice Ad ds.length cd) ds) := fun M hM => (HDs.out M hM).keep (Keeps.of_below (M := []) hb9) (by simp)
      clear hb9 hri hdw r0 r1 r2 r3 r4 r5 r6 r7 r8 rf q0 q1 q2 q3 q4 q5 q6 q7 q8 qf
      obtain ⟨r0, r1, r2, r3, r4, r5, r6, r7, r8, rf⟩ := blk9 HB0.out
      obtain ⟨q0, q1, q2, q3, q4, q5, q6, q7, q8, qf⟩ := blk9 HB5.out
      by_cases hrr : rr = 0
      · obtain rfl : RE = (⟨kind, ag, sh, seq, ep, ds, ser, fr, tag⟩, 0) := by rw [HR.out, if_pos hrr]
        subst hrr
        clear HR
        go_wp2
        refine bodyPost_ret (v := .tuple #[.agg #[.int .i64 kind, .int .i64 ag, .int .i64 sh, .int .i64 seq, .int .i64 ep, .slice Ad ds.length cd, .string ser, .int .i64 fr, .int .i64 tag], .int .i64 0]) (by simp [results, Tryz.results70, go_sem, r0, r1, r2, r3, r4, r5, r6, r7, r8]) rfl ?_
        refine ⟨.slice Ad ds.length cd, rfl, fun M hM => ?_, ?_⟩
        · have h1 := HD9.out (w.heap.size :: M) (by intro g hg; rcases List.mem_cons.1 hg with rfl | hg; exact Nat.le_refl _; exact Nat.le_of_lt (hM g hg))
          refine Rd.more (h1.keep (M' := [w.heap.size]) ?_ (by simp))
          repeat (first | (with_reducible exact Keeps.refl _ _) | (with_reducible refine Keeps.setCell ?_ (by simp) _))
        · repeat (first | (with_reducible exact H9.out) | (with_reducible refine Below.setCell ?_ (by simp) _))
      · obtain rfl : RE = (zeroD, 12) := by rw [HR.out, if_neg hrr]
        have hne : ((rr : Int) != 0) = true := by simpa using hrr
        clear HR hrr
        go_wp2
        refine bodyPost_ret (v := .tuple #[.agg zeroA, .int .i64 12]) (by simp [results, Tryz.results70, go_sem, zeroA, r0, r1, r2, r3, r4, r5, r6, r7, r8]) rfl ?_
        refine ⟨.slice none 0 0, rfl, fun M _ => Ds.nil _ _, ?_⟩
        repeat (first | (with_reducible exact H9.out) | (with_reducible refine Below.setCell ?_ (by simp) _))
end Go.Proofs.YtinnifhnabncfaaGreatDoor.Vi
end
/- slices.IndexFunc at no deltas. -/
section
namespace Go.Proofs.YtinnifhnabncfaaGreatDoor.Vi
open Go.RowKit Base Mem Go.Shelf
theorem indexf_nil (A : Option Addr) (c g : Nat) (lb : Array Value) (w : World) :
    Calls Tryz.prog 73 #[.slice A 0 c, .func (.func g) #[] lb] w fun e w' => e = .returned (.int .i64 (-1)) ∧ Below w.heap.size w w' := by
  go_enter Tryz.func73, Tryz.ntmps73
  go_wp2_with fail
  go_slots
  go_loopw [8] (fun i wr => i = .int .i64 0 ∧ Hid (Below w.heap.size w wr)) (fun i _ => 0)
  case atStart => exact ⟨rfl, Below.refl _ _⟩
  case round =>
    obtain ⟨rfl, Hb⟩ := hrel
    go_wp2
    go_ret
    exact ⟨rfl, Hb.out⟩
end Go.Proofs.YtinnifhnabncfaaGreatDoor.Vi
end
