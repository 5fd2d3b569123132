/- Contracts of hopperref4.SameDeltas, Same at equal arguments. -/
import Derived.Test.YtinnifhnabncfaaDoorEntA
namespace Go.Proofs.YtinnifhnabncfaaDoor.Vi
open Go.RowKit Base Mem
set_option maxRecDepth 100000 in
theorem rsameDs_eq (va vb : Value) (ds : List DeltaD) (w : World) (ha : Ds w [] va ds) (hb : Ds w [] vb ds) (hl : ds.length ≤ 1048576) :
    Calls Tryd.prog 15 #[va, vb] w fun e w' => e = .returned (.bool true) ∧ ∃ n, w' = w.drewN n := by
  have Ha := Lib.hid ha; have Hb := Lib.hid hb
  obtain ⟨Aa, ca, rfl, hca⟩ := ha.len
  obtain ⟨Ab, cb, rfl, hcb⟩ := hb.len
  clear ha hb
  go_enter Tryd.func15, Tryd.ntmps15
  go_wp2_with fail
  go_slots
  go_loopw [13] (fun i wr => ∃ (x q : Nat), i = .int .i64 x ∧ x ≤ ds.length ∧ wr = w.drewN q) (fun i _ => ds.length - (intOf i).toNat)
  case atStart => exact ⟨0, 0, rfl, by omega, rfl⟩
  case round =>
    obtain ⟨x, q, rfl, hx, rfl⟩ := hrel
    by_cases hlt : x < ds.length
    · obtain ⟨ga, oa, _, e1, _, hga, _, h1⟩ := Rd.at_ dCell 2 (fun _ => rfl) Ha.out hlt
      obtain ⟨gb, ob, _, e2, _, hgb, _, h2⟩ := Rd.at_ dCell 2 (fun _ => rfl) Hb.out hlt
      obtain rfl : Aa = some ⟨ga, oa, none⟩ := by injection e1
      obtain rfl : Ab = some ⟨gb, ob, none⟩ := by injection e2
      clear e1 e2
      have c1 : w.cell? ⟨ga, oa + x * 2 + 0, none⟩ = some (.string ds[x].ser) := h1 0 _ rfl
      have c2 : w.cell? ⟨ga, oa + x * 2 + 1, none⟩ = some (.int .u64 ds[x].n) := h1 1 _ rfl
      have c3 : w.cell? ⟨gb, ob + x * 2 + 0, none⟩ = some (.string ds[x].ser) := h2 0 _ rfl
      have c4 : w.cell? ⟨gb, ob + x * 2 + 1, none⟩ = some (.int .u64 ds[x].n) := h2 1 _ rfl
      rw [Nat.add_zero] at c1 c3
      generalize ds[x].ser = sx at *
      generalize ds[x].n = nx at *
      clear h1 h2
      have hx1 : (x : Int) < (ds.length : Int) := by omega
      go_wp2
      go_quiet (fail)
      go_wp2
      go_roundw
      case rel => exact ⟨x + 1, _, by go_num, by omega, rfl⟩
      case measure => simp [intOf] <;> omega
    · obtain rfl : x = ds.length := by omega
      go_wp2
      go_ret
      exact ⟨rfl, q, rfl⟩
def eVal (e : EntryD) (v : Value) : Value := .agg #[.int .i64 e.kind, .int .i64 e.ag, .int .i64 e.sh, .int .i64 e.seq, .int .i64 e.ep, v, .string e.ser, .int .i64 e.fr, .int .i64 e.tag]
set_option maxRecDepth 100000 in
theorem rsame_eq (va vb : Value) (e : EntryD) (w : World) (ha : Ds w [] va e.ds) (hb : Ds w [] vb e.ds) (hl : e.ds.length ≤ 1048576) :
    Calls Tryd.prog 10 #[eVal e va, eVal e vb] w fun r w' => r = .returned (.bool true) ∧ Below w.heap.size w w' := by
  have Ha := Lib.hid ha; have Hb := Lib.hid hb
  obtain ⟨Aa, ca, rfl, hca⟩ := ha.len
  obtain ⟨Ab, cb, rfl, hcb⟩ := hb.len
  obtain ⟨kind, ag, sh, seq, ep, ds, ser, fr, tag⟩ := e
  simp only [eVal]
  clear ha hb
  go_enter Tryd.func10, Tryd.ntmps10
  go_wp2_with fail
  have hk : Keeps [] w ((w.alloc (.cells #[.int .i64 kind, .int .i64 ag, .int .i64 sh, .int .i64 seq, .int .i64 ep, .slice Aa ds.length ca, .string ser, .int .i64 fr, .int .i64 tag] 27)).alloc (.cells #[.int .i64 kind, .int .i64 ag, .int .i64 sh, .int .i64 seq, .int .i64 ep, .slice Ab ds.length cb, .string ser, .int .i64 fr, .int .i64 tag] 27)) := ((Keeps.refl _ _).alloc _).alloc _
  refine (rsameDs_eq _ _ ds _ (Ha.out.keep hk (by simp)) (Hb.out.keep hk (by simp)) hl).mono ?_
  rintro e w1 ⟨rfl, n, rfl⟩
  have Hk := Lib.hid (hk.drewN n).below
  clear hk
  go_wp2
  go_ret
  exact ⟨rfl, Hk.out⟩
end Go.Proofs.YtinnifhnabncfaaDoor.Vi
