/- Contract of entry.written. -/
import Derived.Test.YtinnifhnabncfaaDoorEnt1
import Derived.Shelf.SlicesQ.IndexFunc
import Derived.Deep.DeepCutAuto
namespace Go.Proofs.YtinnifhnabncfaaDoor.Vi
open Go.RowKit Base Mem Go.Shelf
instance : Inhabited DeltaD := ⟨⟨⟨#[]⟩, 0⟩⟩
def badId (e : EntryD) : Bool := !(withinB e.ag 8) || !(withinB e.sh 4) || decide (e.seq < 1) || decide (e.ep < 1)
def writtenS (e : EntryD) : Nat := if badId e = true then 1 else if 8 < e.ds.length then 3 else if (e.ds.length == 0 || e.ds.any fun d => d.n == 0) = true then 1 else if (e.ds.all fun d => serOk d.ser) = true then 0 else 12
theorem zero_any (d : DeltaD) (w : World) : Calls Tryd.prog 56 #[.agg #[.string d.ser, .int .u64 d.n]] w fun r w' => r = .returned (.bool (d.n == 0)) ∧ Below w.heap.size w w' := by
  have hb : Hid (∀ o, Below w.heap.size w (w.alloc o)) := fun o => (Below.refl _ _).alloc (Nat.le_refl _) o
  go_enter Tryd.func56, Tryd.ntmps56
  go_wp2
  go_ret
  exact ⟨rfl, hb.out _⟩
theorem ds_cells {w : World} {M : List Nat} {v : Value} {l : List DeltaD} (h : Ds w M v l) (h0 : 0 < l.length) : ∃ g off c, v = .slice (some ⟨g, off, none⟩) l.length c ∧ g < w.heap.size ∧ ∀ j, j < l.length → ∀ i u, (dCell l[j]!)[i]? = some u → w.cell? ⟨g, off + j * 2 + i, none⟩ = some u := by
  obtain ⟨g, off, c, e, _, hg, _, _⟩ := Rd.at_ dCell 2 (fun _ => rfl) h h0
  refine ⟨g, off, c, e, hg, fun j hj i u hu => ?_⟩
  obtain ⟨g2, off2, c2, e2, _, _, _, hx⟩ := Rd.at_ dCell 2 (fun _ => rfl) h hj
  rw [e] at e2
  injection e2 with e2 _ _
  injection e2 with e2
  injection e2 with e3 e4 _
  subst e3 e4
  exact hx i u (by rw [← getElem!_pos l j hj]; exact hu)
theorem anyzero_any (v : Value) (l : List DeltaD) (w : World) (h : Ds w [] v l) (h0 : 0 < l.length) (hl : l.length ≤ 8) :
    Calls Tryd.prog 55 #[v, .func (.func 56) #[] #[]] w fun r w' => r = .returned (.bool (l.any fun d => d.n == 0)) ∧ Below w.heap.size w w' := by
  obtain ⟨g, off, c, rfl, hg, hc⟩ := ds_cells h h0
  have heg : ∀ args w, (callFunc 56 args).run Tryd.prog w = .ok (.enter 56 args) w := enters_of Tryd.func56 (by kernel_rfl) rfl
  have hp : PredBelow Tryd.prog 56 #[] (fun x => .agg (dCell x).toArray) (fun d => d.n == 0) w := fun W x hb => by
    refine Calls.mono (zero_any x W) ?_
    rintro r w' ⟨rfl, hb2⟩
    exact ⟨rfl, hb.trans (hb2.mono hb.size)⟩
  have := AnyQ.slices_ContainsFunc Tryd.containsFuncDelta 2 Tryd.isAgg44 Tryd.sizeOf44 dCell (fun _ => rfl) (fun d => d.n == 0) 56 #[] heg g off l.length c l w hp (Nat.le_refl _) (by omega) hg hc
  rw [List.take_length] at this
  exact this
set_option maxRecDepth 100000 in
set_option maxHeartbeats 1000000 in
theorem written_any (e : EntryD) (dv : Value) (m : Int) (w : World) (h : Ds w [] dv e.ds) (hs : ∀ d ∈ e.ds, d.ser.size < 4294967281) (hl : e.ds.length ≤ 4611686018427387904) (hm : w.cell? ⟨0, 0, none⟩ = some (.int .i64 m)) :
    Calls Tryd.prog 42 #[.agg (eCell (e, dv)).toArray] w fun r w' => NumPost (writtenS e) w r w' := by
  have HW : Hid (writtenS e = if badId e = true then 1 else if 8 < e.ds.length then 3 else if (e.ds.length == 0 || e.ds.any fun d => d.n == 0) = true then 1 else if (e.ds.all fun d => serOk d.ser) = true then 0 else 12) := rfl
  have hw0 : 0 < w.heap.size := by
    have := World.block_lt_of_cell? w _ hm
    simpa using this
  obtain ⟨kind, ag, sh, seq, ep, ds, ser, fr, tag⟩ := e
  simp only [] at h hs hl HW
  have HB : Hid (badId ⟨kind, ag, sh, seq, ep, ds, ser, fr, tag⟩ = (!(withinB ag 8) || !(withinB sh 4) || decide (seq < 1) || decide (ep < 1))) := rfl
  generalize writtenS ⟨kind, ag, sh, seq, ep, ds, ser, fr, tag⟩ = wr0 at *
  generalize badId ⟨kind, ag, sh, seq, ep, ds, ser, fr, tag⟩ = bad at *
  have hwi := Lib.hid (fun a b W => within2_any a b W)
  obtain ⟨A, c, rfl, hc⟩ := h.len
  obtain ⟨w2, hw2⟩ : ∃ w2, w2 = w.alloc (.cells #[.int .i64 kind, .int .i64 ag, .int .i64 sh, .int .i64 seq, .int .i64 ep, .slice A ds.length c, .string ser, .int .i64 fr, .int .i64 tag] 27) := ⟨_, rfl⟩
  have hB : Blk w2 w.heap.size 27 #[.int .i64 kind, .int .i64 ag, .int .i64 sh, .int .i64 seq, .int .i64 ep, .slice A ds.length c, .string ser, .int .i64 fr, .int .i64 tag] := by rw [hw2]; exact Blk.new w _ _
  have hk2 : Keeps [] w w2 := by rw [hw2]; exact (Keeps.refl _ _).alloc _
  have c1 := hB.cell 1; have c2 := hB.cell 2; have c3 := hB.cell 3; have c4 := hB.cell 4; have c5 := hB.cell 5
  simp only [List.getElem?_toArray, List.getElem?_cons_succ, List.getElem?_cons_zero] at c1 c2 c3 c4 c5
  have Hm := Lib.hid hm; have Hs := Lib.hid hs; have Hk2 := Lib.hid hk2; have Hw2 := Lib.hid hw2; have HD := Lib.hid (h.keep hk2 (by simp))
  clear hm hs hk2 hw2 h hB
  show Calls Tryd.prog 42 #[.agg #[.int .i64 kind, .int .i64 ag, .int .i64 sh, .int .i64 seq, .int .i64 ep, .slice A ds.length c, .string ser, .int .i64 fr, .int .i64 tag]] w fun r w' => NumPost wr0 w r w'
  go_enter Tryd.func42, Tryd.ntmps42
  go_upto_region 1 with (fail)
  rw [← Hw2.out]
  go_cut [7] (fun s wx => s = .bool bad ∧ wx = w2)
  case first =>
    cases h1 : withinB ag 8 with
    | false =>
      have hb : Hid (bad = true) := by show _ = _; rw [HB.out, h1]; simp
      clear HB HW
      go_wp2_with (go_at_call 41; refine (hwi.out _ _ _).mono ?_; rintro r w' ⟨rfl, rfl⟩; rw [h1])
      go_meet
      exact ⟨by rw [hb.out], rfl⟩
    | true =>
      cases h2 : withinB sh 4 with
      | false =>
        have hb : Hid (bad = true) := by show _ = _; rw [HB.out, h1, h2]; simp
        clear HB HW
        go_wp2_with (go_at_call 41; refine (hwi.out _ _ _).mono ?_; rintro r w' ⟨rfl, rfl⟩; first | rw [h1] | rw [h2])
        go_meet
        exact ⟨by rw [hb.out], rfl⟩
      | true =>
        by_cases h3 : seq < 1
        · have hb : Hid (bad = true) := by show _ = _; rw [HB.out, h1, h2, decide_eq_true h3]; simp
          clear HB HW
          go_wp2_with (go_at_call 41; refine (hwi.out _ _ _).mono ?_; rintro r w' ⟨rfl, rfl⟩; first | rw [h1] | rw [h2])
          go_meet
          exact ⟨by rw [hb.out], rfl⟩
        · have h3' : decide (seq < 1) = false := decide_eq_false h3
          have hb : Hid (bad = decide (ep < 1)) := by show _ = _; rw [HB.out, h1, h2, h3']; simp
          clear HB HW
          by_cases h4 : ep < 1
          · go_wp2_with (go_at_call 41; refine (hwi.out _ _ _).mono ?_; rintro r w' ⟨rfl, rfl⟩; first | rw [h1] | rw [h2])
            go_meet
            exact ⟨by rw [hb.out, decide_eq_true h4], rfl⟩
          · have h4' : decide (ep < 1) = false := decide_eq_false h4
            go_wp2_with (go_at_call 41; refine (hwi.out _ _ _).mono ?_; rintro r w' ⟨rfl, rfl⟩; first | rw [h1] | rw [h2])
            go_meet
            exact ⟨by rw [hb.out, h4'], rfl⟩
  case rest =>
    obtain ⟨rfl, rfl⟩ := hcut
    have hbel : Hid (Below w.heap.size w wc) := Hk2.out.below
    have hwc : w.heap.size ≤ wc.heap.size := Hk2.out.size
    clear HB hwi
    cases bad with
    | true =>
      have hR : Hid (wr0 = 1) := by show _ = _; rw [HW.out, if_pos rfl]
      clear HW
      go_wp2
      go_ret
      exact ⟨by rw [hR.out]; rfl, hbel.out⟩
    | false =>
      by_cases h8 : 8 < ds.length
      · have hR : Hid (wr0 = 3) := by show _ = _; rw [HW.out, if_neg (by simp), if_pos h8]
        have h8i : (8 : Int) < (ds.length : Int) := by omega
        clear HW
        go_wp2
        go_ret
        exact ⟨by rw [hR.out]; rfl, hbel.out⟩
      · have h8i : decide ((8 : Int) < (ds.length : Int)) = false := decide_eq_false (by omega)
        by_cases hn : ds.length = 0
        · have hR : Hid (wr0 = 1) := by show _ = _; rw [HW.out, if_neg (by simp), if_neg h8, hn]; rfl
          have hni : ((ds.length : Int) == 0) = true := by rw [beq_iff_eq]; omega
          clear HW
          go_wp2
          go_ret
          exact ⟨by rw [hR.out]; rfl, hbel.out⟩
        · have hni : ((ds.length : Int) == 0) = false := by rw [beq_eq_false_iff_ne]; omega
          have HW2 : Hid (wr0 = if (ds.any fun d => d.n == 0) = true then 1 else if (ds.all fun d => serOk d.ser) = true then 0 else 12) := by
            show _ = _
            rw [HW.out, if_neg (by simp), if_neg h8, show (ds.length == 0) = false by rw [beq_eq_false_iff_ne]; omega, Bool.false_or]
          have haz := Lib.hid (anyzero_any _ ds wc HD.out (by omega) (by omega))
          clear HW
          generalize (ds.any fun d => d.n == 0) = az at *
          go_wp2_with fail
          refine haz.out.mono ?_
          rintro r w3 ⟨rfl, hb3⟩
          have Hb3 := Lib.hid (below_then hbel.out hb3)
          have HD3 := Lib.hid (HD.out.keep (Keeps.of_below (M := []) hb3) (by simp))
          have hm3 : w3.cell? ⟨0, 0, none⟩ = some (.int .i64 m) := (Hb3.out.cell (p := ⟨0, 0, none⟩) hw0).trans Hm.out
          have Hm3 := Lib.hid hm3
          have d5 : w3.cell? ⟨w.heap.size, 5, none⟩ = some (.slice A ds.length c) := (hb3.cell (p := ⟨w.heap.size, 5, none⟩) (World.block_lt_of_cell? wc _ c5)).trans c5
          clear haz hb3 hm3
          cases az with
          | true =>
            have hR : Hid (wr0 = 1) := by show _ = _; rw [HW2.out, if_pos rfl]
            clear HW2
            go_wp2
            go_ret
            exact ⟨by rw [hR.out]; rfl, Hb3.out⟩
          | false =>
            have HW3 : Hid (wr0 = if (ds.all fun d => serOk d.ser) = true then 0 else 12) := by show _ = _; rw [HW2.out, if_neg (by simp)]
            have hw30 : 0 < w3.heap.size := by have := Hb3.out.size; omega
            clear HW2
            go_wp2_with fail
            go_loopw [49] (fun i wr => ∃ x : Nat, i = .int .i64 x ∧ x ≤ ds.length ∧ Hid (((ds.take x).all fun d => serOk d.ser) = true) ∧ Hid (Below w3.heap.size w3 wr)) (fun i _ => ds.length - (intOf i).toNat)
            case atStart => exact ⟨0, rfl, by omega, rfl, Below.refl _ _⟩
            case round =>
              obtain ⟨x, rfl, hx, Hall, Hbr⟩ := hrel
              by_cases hlt : x < ds.length
              · have hx1 : (x : Int) < (ds.length : Int) := by omega
                obtain ⟨g, off, _, e1, _, hg, _, hcell⟩ := Rd.at_ dCell 2 (fun _ => rfl) (HD3.out.keep (Keeps.of_below (M := []) Hbr.out) (by simp)) hlt
                obtain rfl : A = some ⟨g, off, none⟩ := by injection e1
                clear e1
                have p0 := hcell 0 _ rfl
                have p1 := hcell 1 _ rfl
                rw [Nat.add_zero] at p0
                have hsx := Hs.out ds[x] (List.getElem_mem _)
                have Hnx : Hid (((ds.take (x + 1)).all fun d => serOk d.ser) = serOk ds[x].ser) := by
                  show _ = _
                  rw [List.take_succ_eq_append_getElem hlt, List.all_append, Hall.out]; simp
                have Hbad : Hid (serOk ds[x].ser = false → wr0 = 12) := fun h => by
                  rw [HW3.out, if_neg]
                  intro hall
                  rw [List.all_eq_true] at hall
                  have := hall ds[x] (List.getElem_mem _)
                  rw [h] at this; cases this
                have hcell2 : (wr.alloc (.cells #[.string ds[x].ser, .int .u64 ds[x].n] 44)).cell? ⟨0, 0, none⟩ = some (.int .i64 m) := by
                  rw [World.cell?_alloc_lt _ _ _ (by have := Hbr.out.size; simp; omega)]
                  exact (Hbr.out.cell (p := ⟨0, 0, none⟩) hw30).trans Hm3.out
                have hpa := Lib.hid (parse_any ds[x].ser m _ hsx hcell2)
                have Hbra : Hid (Below w3.heap.size w3 (wr.alloc (.cells #[.string ds[x].ser, .int .u64 ds[x].n] 44))) := Hbr.out.alloc Hbr.out.size _
                clear hcell hcell2 hsx
                generalize ds[x] = d at *
                obtain ⟨dser, dn⟩ := d
                simp only [] at *
                cases hok : serOk dser with
                | true =>
                  have ho : Hid (((ds.take (x + 1)).all fun d => serOk d.ser) = true) := by show _ = _; rw [Hnx.out, hok]
                  have hpa2 := Lib.hid (show Calls Tryd.prog 43 #[.string dser] (wr.alloc (.cells #[.string dser, .int .u64 dn] 44)) fun e w' => ∃ v, e = .returned (.tuple #[v, .int .i64 0]) ∧ Below (wr.alloc (.cells #[.string dser, .int .u64 dn] 44)).heap.size (wr.alloc (.cells #[.string dser, .int .u64 dn] 44)) w' by
                    have := hpa.out; unfold ParsePost at this; rwa [hok, if_pos rfl] at this)
                  clear hpa Hbad Hnx hok
                  go_wp2_with fail
                  refine hpa2.out.mono ?_
                  rintro r w4 ⟨v4, rfl, hb4⟩
                  have Hb4 := Lib.hid (below_then Hbra.out hb4)
                  clear hb4
                  go_wp2
                  go_roundw
                  case rel => exact ⟨x + 1, by go_num, by omega, ho.out, Hb4.out⟩
                  case measure => simp [intOf] <;> omega
                | false =>
                  have hR := Lib.hid (Hbad.out hok)
                  have hpa2 := Lib.hid (show Calls Tryd.prog 43 #[.string dser] (wr.alloc (.cells #[.string dser, .int .u64 dn] 44)) fun e w' => ∃ v, e = .returned (.tuple #[v, .int .i64 12]) ∧ Below (wr.alloc (.cells #[.string dser, .int .u64 dn] 44)).heap.size (wr.alloc (.cells #[.string dser, .int .u64 dn] 44)) w' by
                    have := hpa.out; unfold ParsePost at this; rwa [hok, if_neg (by simp)] at this)
                  clear hpa Hbad Hnx hok
                  go_wp2_with fail
                  refine hpa2.out.mono ?_
                  rintro r w4 ⟨v4, rfl, hb4⟩
                  have Hb4 := Lib.hid (below_then Hb3.out (below_then Hbra.out hb4))
                  clear hb4
                  go_wp2
                  go_ret
                  exact ⟨by rw [hR.out]; rfl, Hb4.out⟩
              · obtain rfl : x = ds.length := by omega
                have hR : Hid (wr0 = 0) := by
                  show _ = _
                  have := Hall.out
                  rw [List.take_length] at this
                  rw [HW3.out, if_pos this]
                go_wp2
                go_ret
                exact ⟨by rw [hR.out]; rfl, below_then Hb3.out Hbr.out⟩
end Go.Proofs.YtinnifhnabncfaaDoor.Vi
