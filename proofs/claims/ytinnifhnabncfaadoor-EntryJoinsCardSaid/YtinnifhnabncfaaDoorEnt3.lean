/- Contract of entry.Right. -/
import Derived.Test.YtinnifhnabncfaaDoorEnt2
namespace Go.Proofs.YtinnifhnabncfaaDoor.Vi
open Go.RowKit Base Mem Go.Shelf
def rightE (e : EntryD) : Nat := if kindS e = false then 12 else if (!(withinB e.fr 8) || decide (e.tag < 0)) = true then 1 else if e.kind = 1 then writtenS e else if serOk e.ser = true then 0 else 12
/-- No text of an entry is longer than the library's search takes. -/
def Short (e : EntryD) : Prop := e.ser.size < 4294967281 ∧ (∀ d ∈ e.ds, d.ser.size < 4294967281) ∧ e.ds.length ≤ 4611686018427387904
set_option maxRecDepth 100000 in
set_option maxHeartbeats 1000000 in
theorem eright_any (e : EntryD) (dv : Value) (m : Int) (w : World) (h : Ds w [] dv e.ds) (hs : Short e) (hm : w.cell? ⟨0, 0, none⟩ = some (.int .i64 m)) :
    Calls Tryd.prog 16 #[.agg (eCell (e, dv)).toArray] w fun r w' => NumPost (rightE e) w r w' := by
  have HR : Hid (rightE e = if kindS e = false then 12 else if (!(withinB e.fr 8) || decide (e.tag < 0)) = true then 1 else if e.kind = 1 then writtenS e else if serOk e.ser = true then 0 else 12) := rfl
  have hw0 : 0 < w.heap.size := by
    have := World.block_lt_of_cell? w _ hm
    simpa using this
  obtain ⟨hs1, hs2, hs3⟩ := hs
  have hkd := Lib.hid (fun A c W => kind_any e A c W)
  have hwr := Lib.hid (fun W (hk : Keeps [] w W) (hmW : W.cell? ⟨0, 0, none⟩ = some (.int .i64 m)) => written_any e dv m W (h.keep hk (by simp)) hs2 hs3 hmW)
  have hpa := Lib.hid (fun W (hmW : W.cell? ⟨0, 0, none⟩ = some (.int .i64 m)) => parse_any e.ser m W hs1 hmW)
  obtain ⟨A, c, rfl, hc⟩ := h.len
  generalize rightE e = rr at *
  generalize kindS e = ks at *
  generalize writtenS e = ws at *
  obtain ⟨kind, ag, sh, seq, ep, ds, ser, fr, tag⟩ := e
  simp only [] at h hs1 hs2 hs3 hkd hwr hpa HR hc
  have hwi := Lib.hid (fun a b W => within2_any a b W)
  obtain ⟨w2, hw2⟩ : ∃ w2, w2 = w.alloc (.cells #[.int .i64 kind, .int .i64 ag, .int .i64 sh, .int .i64 seq, .int .i64 ep, .slice A ds.length c, .string ser, .int .i64 fr, .int .i64 tag] 27) := ⟨_, rfl⟩
  have hB : Blk w2 w.heap.size 27 #[.int .i64 kind, .int .i64 ag, .int .i64 sh, .int .i64 seq, .int .i64 ep, .slice A ds.length c, .string ser, .int .i64 fr, .int .i64 tag] := by rw [hw2]; exact Blk.new w _ _
  have hk2 : Keeps [] w w2 := by rw [hw2]; exact (Keeps.refl _ _).alloc _
  have Hm := Lib.hid hm; have Hk2 := Lib.hid hk2; have Hw2 := Lib.hid hw2; have HB := Lib.hid hB
  clear hm hk2 hw2 h hs1 hs2 hs3
  have hkd2 : Hid (∀ W, Calls Tryd.prog 40 #[.agg #[.int .i64 kind, .int .i64 ag, .int .i64 sh, .int .i64 seq, .int .i64 ep, .slice A ds.length c, .string ser, .int .i64 fr, .int .i64 tag]] W fun r w' => r = .returned (.bool ks) ∧ Below W.heap.size W w') := fun W => hkd.out A c W
  have hwr2 : Hid (∀ W, Keeps [] w W → W.cell? ⟨0, 0, none⟩ = some (.int .i64 m) → Calls Tryd.prog 42 #[.agg #[.int .i64 kind, .int .i64 ag, .int .i64 sh, .int .i64 seq, .int .i64 ep, .slice A ds.length c, .string ser, .int .i64 fr, .int .i64 tag]] W fun r w' => r = .returned (.int .i64 ws) ∧ Below W.heap.size W w') := fun W hk hmW => hwr.out W hk hmW
  clear hkd hwr
  have c0 := hB.cell 0; have c1 := hB.cell 1; have c2 := hB.cell 2; have c3 := hB.cell 3; have c4 := hB.cell 4; have c5 := hB.cell 5; have c6 := hB.cell 6; have c7 := hB.cell 7; have c8 := hB.cell 8
  simp only [List.getElem?_toArray, List.getElem?_cons_succ, List.getElem?_cons_zero] at c0 c1 c2 c3 c4 c5 c6 c7 c8
  clear hB
  show Calls Tryd.prog 16 #[.agg #[.int .i64 kind, .int .i64 ag, .int .i64 sh, .int .i64 seq, .int .i64 ep, .slice A ds.length c, .string ser, .int .i64 fr, .int .i64 tag]] w fun r w' => NumPost rr w r w'
  go_enter Tryd.func16, Tryd.ntmps16
  go_upto_region 1 with (fail)
  rw [← Hw2.out]
  go_wp2_with fail
  refine (hkd2.out _).mono ?_
  rintro r w3 ⟨rfl, hb3⟩
  have hw2s : w.heap.size < w2.heap.size := HB.out.lt
  have HB3 := Lib.hid (HB.out.below hb3 hw2s)
  have Hk3 : Hid (Keeps [] w w3) := Hk2.out.trans (Keeps.of_below (M := []) hb3) (by simp)
  have c0 := HB3.out.cell 0; have c1 := HB3.out.cell 1; have c2 := HB3.out.cell 2; have c3 := HB3.out.cell 3; have c4 := HB3.out.cell 4; have c5 := HB3.out.cell 5; have c6 := HB3.out.cell 6; have c7 := HB3.out.cell 7; have c8 := HB3.out.cell 8
  simp only [List.getElem?_toArray, List.getElem?_cons_succ, List.getElem?_cons_zero] at c0 c1 c2 c3 c4 c5 c6 c7 c8
  have hm3 : Hid (w3.cell? ⟨0, 0, none⟩ = some (.int .i64 m)) := (Hk3.out.cell (p := ⟨0, 0, none⟩) hw0 (by simp)).trans Hm.out
  clear hb3 hkd2
  cases ks with
  | false =>
    have hR : Hid (rr = 12) := by show _ = _; rw [HR.out, if_pos rfl]
    clear HR
    go_wp2
    go_ret
    exact ⟨by rw [hR.out]; rfl, Hk3.out.below⟩
  | true =>
    have HR2 : Hid (rr = if (!(withinB fr 8) || decide (tag < 0)) = true then 1 else if kind = 1 then ws else if serOk ser = true then 0 else 12) := by show _ = _; rw [HR.out, if_neg (by simp)]
    clear HR
    cases h1 : withinB fr 8 with
    | false =>
      have hR : Hid (rr = 1) := by show _ = _; rw [HR2.out, h1]; rfl
      clear HR2
      go_wp2_with (go_at_call 41; refine (hwi.out _ _ _).mono ?_; rintro r w' ⟨rfl, rfl⟩; rw [h1])
      go_ret
      exact ⟨by rw [hR.out]; rfl, Hk3.out.below⟩
    | true =>
      by_cases h2 : tag < 0
      · have hR : Hid (rr = 1) := by show _ = _; rw [HR2.out, h1, decide_eq_true h2]; rfl
        clear HR2
        go_wp2_with (go_at_call 41; refine (hwi.out _ _ _).mono ?_; rintro r w' ⟨rfl, rfl⟩; rw [h1])
        go_ret
        exact ⟨by rw [hR.out]; rfl, Hk3.out.below⟩
      · have h2' : decide (tag < 0) = false := decide_eq_false h2
        have HR3 : Hid (rr = if kind = 1 then ws else if serOk ser = true then 0 else 12) := by show _ = _; rw [HR2.out, h1, h2', if_neg (by simp)]
        clear HR2
        by_cases h3 : kind = 1
        · have hR : Hid (rr = ws) := by show _ = _; rw [HR3.out, if_pos h3]
          have h3' : (kind == 1) = true := by simpa using h3
          have hw := Lib.hid (hwr2.out w3 Hk3.out hm3.out)
          clear HR3 h3 hwr2
          go_wp2_with (go_at_call 41; refine (hwi.out _ _ _).mono ?_; rintro r w' ⟨rfl, rfl⟩; rw [h1])
          refine hw.out.mono ?_
          rintro r w4 ⟨rfl, hb4⟩
          have hb5 := Lib.hid (below_then Hk3.out.below hb4)
          clear hb4
          go_wp2
          go_ret
          exact ⟨by rw [hR.out]; rfl, hb5.out⟩
        · have h3' : (kind == 1) = false := by simpa using h3
          have hR : Hid (rr = if serOk ser = true then 0 else 12) := by show _ = _; rw [HR3.out, if_neg h3]
          have hp := Lib.hid (hpa.out w3 hm3.out)
          clear HR3 h3 hwr2 hpa
          go_wp2_with (go_at_call 41; refine (hwi.out _ _ _).mono ?_; rintro r w' ⟨rfl, rfl⟩; rw [h1])
          refine hp.out.mono ?_
          rintro r w4 ⟨v4, rfl, hb4⟩
          have hb5 := Lib.hid (below_then Hk3.out.below hb4)
          clear hb4 hp
          cases hok : serOk ser with
          | true =>
            have hR2 : Hid (rr = 0) := by show _ = _; rw [hR.out, hok]; rfl
            simp only [if_true]
            clear hR
            go_wp2
            go_ret
            exact ⟨by rw [hR2.out]; rfl, hb5.out⟩
          | false =>
            have hR2 : Hid (rr = 12) := by show _ = _; rw [hR.out, hok]; rfl
            clear hR
            go_wp2
            go_ret
            exact ⟨by rw [hR2.out]; rfl, hb5.out⟩
end Go.Proofs.YtinnifhnabncfaaDoor.Vi
