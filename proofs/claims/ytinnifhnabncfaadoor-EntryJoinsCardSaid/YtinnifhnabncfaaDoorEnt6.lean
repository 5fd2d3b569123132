/- Contracts of entry.Bytes where an entry may not be, of entry.Add. -/
import Derived.Test.YtinnifhnabncfaaDoorEnt5
namespace Go.Proofs.YtinnifhnabncfaaDoor.Vi
open Go.RowKit Base Mem Go.Shelf
set_option maxRecDepth 100000 in
theorem ebytes_no (e : EntryD) (dv : Value) (m : Int) (w : World) (hr : rightE e ≠ 0) (h : Ds w [] dv e.ds) (hs : Short e) (hm : w.cell? ⟨0, 0, none⟩ = some (.int .i64 m)) :
    Calls Tryd.prog 8 #[.agg (eCell (e, dv)).toArray] w fun r w' => r = .returned (.tuple #[.slice none 0 0, .int .i64 (rightE e)]) ∧ Below w.heap.size w w' := by
  have hri := Lib.hid (fun W (hk : Keeps [] w W) (hmW : W.cell? ⟨0, 0, none⟩ = some (.int .i64 m)) => eright_any e dv m W (h.keep hk (by simp)) hs hmW)
  have hw0 : 0 < w.heap.size := by
    have := World.block_lt_of_cell? w _ hm
    simpa using this
  obtain ⟨A, c, rfl, hc⟩ := h.len
  have hne : ((rightE e : Int) != 0) = true := by simpa using hr
  clear hr
  generalize rightE e = rr at *
  obtain ⟨kind, ag, sh, seq, ep, ds, ser, fr, tag⟩ := e
  simp only [] at h hri hc
  obtain ⟨w2, hw2e⟩ : ∃ w2, w2 = w.alloc (.cells #[.int .i64 kind, .int .i64 ag, .int .i64 sh, .int .i64 seq, .int .i64 ep, .slice A ds.length c, .string ser, .int .i64 fr, .int .i64 tag] 27) := ⟨_, rfl⟩
  have hB : Blk w2 w.heap.size 27 #[.int .i64 kind, .int .i64 ag, .int .i64 sh, .int .i64 seq, .int .i64 ep, .slice A ds.length c, .string ser, .int .i64 fr, .int .i64 tag] := by rw [hw2e]; exact Blk.new w _ _
  have hk2 : Keeps [] w w2 := by rw [hw2e]; exact (Keeps.refl _ _).alloc _
  have hm2 : w2.cell? ⟨0, 0, none⟩ = some (.int .i64 m) := (hk2.cell (p := ⟨0, 0, none⟩) hw0 (by simp)).trans hm
  have Hri := Lib.hid (show Calls Tryd.prog 16 #[.agg #[.int .i64 kind, .int .i64 ag, .int .i64 sh, .int .i64 seq, .int .i64 ep, .slice A ds.length c, .string ser, .int .i64 fr, .int .i64 tag]] w2 fun r w' => r = .returned (.int .i64 rr) ∧ Below w2.heap.size w2 w' from hri.out w2 hk2 hm2)
  have Hk2 := Lib.hid hk2; have Hw2 := Lib.hid hw2e
  have c0 := hB.cell 0; have c1 := hB.cell 1; have c2 := hB.cell 2; have c3 := hB.cell 3; have c4 := hB.cell 4; have c5 := hB.cell 5; have c6 := hB.cell 6; have c7 := hB.cell 7; have c8 := hB.cell 8
  simp only [List.getElem?_toArray, List.getElem?_cons_succ, List.getElem?_cons_zero] at c0 c1 c2 c3 c4 c5 c6 c7 c8
  clear hri hB hk2 hm2 hw2e h hm
  show Calls Tryd.prog 8 #[.agg #[.int .i64 kind, .int .i64 ag, .int .i64 sh, .int .i64 seq, .int .i64 ep, .slice A ds.length c, .string ser, .int .i64 fr, .int .i64 tag]] w fun r w' => r = .returned (.tuple #[.slice none 0 0, .int .i64 rr]) ∧ Below w.heap.size w w'
  go_enter Tryd.func8, Tryd.ntmps8
  go_upto_region 1 with (fail)
  rw [← Hw2.out]
  go_wp2_with fail
  refine Hri.out.mono ?_
  rintro r w3 ⟨rfl, hb3⟩
  have Hb := Lib.hid (below_then Hk2.out.below hb3)
  clear hb3 Hri c0 c1 c2 c3 c4 c5 c6 c7 c8
  go_wp2
  go_ret2
  exact ⟨rfl, Hb.out⟩
def addS (a b : Nat) : Nat := if 18446744073709551615 < a + b then 18446744073709551615 else a + b
theorem add_any (a b : Nat) (w : World) (ha : a < 18446744073709551616) (hb : b < 18446744073709551616) :
    Calls Tryd.prog 38 #[.int .u64 a, .int .u64 b] w fun e w' => e = .returned (.int .u64 (addS a b)) ∧ w = w' := by
  by_cases h : 18446744073709551615 < a + b
  · have hR : Hid (addS a b = 18446744073709551615) := by show _ = _; unfold addS; rw [if_pos h]
    rw [hR.out]
    have hw : IntKind.u64.wrap (18446744073709551615 - (b : Int)) = 18446744073709551615 - (b : Int) := by rw [IntKind.wrap_u64]; omega
    have hi : (18446744073709551615 : Int) - (b : Int) < (a : Int) := by omega
    go_enter Tryd.func38, Tryd.ntmps38
    go_wp2
    go_ret
    exact ⟨rfl, rfl⟩
  · have hR : Hid (addS a b = a + b) := by show _ = _; unfold addS; rw [if_neg h]
    rw [hR.out]
    have hw : IntKind.u64.wrap (18446744073709551615 - (b : Int)) = 18446744073709551615 - (b : Int) := by rw [IntKind.wrap_u64]; omega
    have hi : decide ((18446744073709551615 : Int) - (b : Int) < (a : Int)) = false := decide_eq_false (by omega)
    have hw2 : IntKind.u64.wrap ((a : Int) + (b : Int)) = (a : Int) + (b : Int) := by rw [IntKind.wrap_u64]; omega
    go_enter Tryd.func38, Tryd.ntmps38
    go_wp2
    go_ret
    exact ⟨ret_int (by simp), rfl⟩
end Go.Proofs.YtinnifhnabncfaaDoor.Vi
