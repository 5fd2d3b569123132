/- Contracts of hopperref4.SameDeltas, Same, Logs at equal arguments. -/
import Derived.Test.YtinnifhnabncfaaAsk2
namespace Go.Proofs.Ytinnifhnabncfaa.Lead
open Go.RowKit Base Mem Tape
set_option maxRecDepth 100000 in
theorem sameDs_eq (va vb : Value) (ds : List DeltaD) (w : World) (ha : Ds w [] va ds) (hb : Ds w [] vb ds) (hl : ds.length ≤ 1048576) :
    Calls Try.prog 83 #[va, vb] w fun e w' => e = .returned (.bool true) ∧ ∃ n, w' = w.drewN n := by
  have Ha := Lib.hid ha; have Hb := Lib.hid hb
  obtain ⟨Aa, ca, rfl, hca⟩ := ha.len
  obtain ⟨Ab, cb, rfl, hcb⟩ := hb.len
  clear ha hb
  go_enter Try.func83, Try.ntmps83
  go_wp2_with fail
  go_slots
  go_loopw [13] (fun i wr => ∃ (x q : Nat), i = .int .i64 x ∧ x ≤ ds.length ∧ wr = w.drewN q) (fun i _ => ds.length - (intOf i).toNat)
  case atStart => exact ⟨0, 0, rfl, by omega, rfl⟩
  case round =>
    obtain ⟨x, q, rfl, hx, rfl⟩ := hrel
    by_cases hlt : x < ds.length
    · obtain ⟨ga, oa, _, e1, _, hga, _, h1⟩ := Rd.at_ dCell 2 (fun _ => rfl) Ha.out hlt
      obtain ⟨gb, ob, _, e2, _, hgb, _, h2⟩ := Rd.at_ dCell 2 (fun _ => rfl) Hb.out hlt
      obtain rfl : Aa = some ⟨ga, oa, none⟩ := by injection e1
      obtain rfl : Ab = some ⟨gb, ob, none⟩ := by injection e2
      clear e1 e2
      have c1 : w.cell? ⟨ga, oa + x * 2 + 0, none⟩ = some (.string ds[x].ser) := h1 0 _ rfl
      have c2 : w.cell? ⟨ga, oa + x * 2 + 1, none⟩ = some (.int .u64 ds[x].n) := h1 1 _ rfl
      have c3 : w.cell? ⟨gb, ob + x * 2 + 0, none⟩ = some (.string ds[x].ser) := h2 0 _ rfl
      have c4 : w.cell? ⟨gb, ob + x * 2 + 1, none⟩ = some (.int .u64 ds[x].n) := h2 1 _ rfl
      rw [Nat.add_zero] at c1 c3
      generalize ds[x].ser = sx at *
      generalize ds[x].n = nx at *
      clear h1 h2
      have hx1 : (x : Int) < (ds.length : Int) := by omega
      go_wp2
      go_quiet (fail)
      go_wp2
      go_roundw
      case rel => exact ⟨x + 1, _, by go_num, by omega, rfl⟩
      case measure => simp [intOf] <;> omega
    · obtain rfl : x = ds.length := by omega
      go_wp2
      go_ret
      exact ⟨rfl, q, rfl⟩
theorem _root_.Go.Proofs.Ytinnifhnabncfaa.Mem.Ens.at_ {w : World} {M : List Nat} {v : Value} {l : List EntryD} (h : Ens w M v l) {k : Nat} (hk : k < l.length) :
    ∃ g off cap dv, v = .slice (some ⟨g, off, none⟩) l.length cap ∧ g < w.heap.size ∧ g ∉ M ∧ Ds w M dv l[k].ds ∧ ∀ j u, (eCell (l[k], dv))[j]? = some u → w.cell? ⟨g, off + k * 9 + j, none⟩ = some u := by
  obtain ⟨ps, rfl, hr, hd⟩ := h
  have hk' : k < ps.length := by simpa using hk
  obtain ⟨g, off, cap, e, _, hg, hm, hx⟩ := Rd.at_ eCell 9 (fun _ => rfl) hr hk'
  refine ⟨g, off, cap, ps[k].2, by simpa using e, hg, hm, ?_, ?_⟩
  · simpa using hd ps[k] (List.getElem_mem _)
  · simpa using hx
def eVal (e : EntryD) (v : Value) : Value := .agg #[.int .i64 e.kind, .int .i64 e.ag, .int .i64 e.sh, .int .i64 e.seq, .int .i64 e.ep, v, .string e.ser, .int .i64 e.fr, .int .i64 e.tag]
set_option maxRecDepth 100000 in
theorem same_eq (va vb : Value) (e : EntryD) (w : World) (ha : Ds w [] va e.ds) (hb : Ds w [] vb e.ds) (hl : e.ds.length ≤ 1048576) :
    Calls Try.prog 67 #[eVal e va, eVal e vb] w fun r w' => r = .returned (.bool true) ∧ Below w.heap.size w w' := by
  have Ha := Lib.hid ha; have Hb := Lib.hid hb
  obtain ⟨Aa, ca, rfl, hca⟩ := ha.len
  obtain ⟨Ab, cb, rfl, hcb⟩ := hb.len
  obtain ⟨kind, ag, sh, seq, ep, ds, ser, fr, tag⟩ := e
  simp only [eVal]
  clear ha hb
  go_enter Try.func67, Try.ntmps67
  go_wp2_with fail
  have hk : Keeps [] w ((w.alloc (.cells #[.int .i64 kind, .int .i64 ag, .int .i64 sh, .int .i64 seq, .int .i64 ep, .slice Aa ds.length ca, .string ser, .int .i64 fr, .int .i64 tag] 74)).alloc (.cells #[.int .i64 kind, .int .i64 ag, .int .i64 sh, .int .i64 seq, .int .i64 ep, .slice Ab ds.length cb, .string ser, .int .i64 fr, .int .i64 tag] 74)) := ((Keeps.refl _ _).alloc _).alloc _
  refine (sameDs_eq _ _ ds _ (Ha.out.keep hk (by simp)) (Hb.out.keep hk (by simp)) hl).mono ?_
  rintro e w1 ⟨rfl, n, rfl⟩
  have Hk := Lib.hid (hk.drewN n).below
  clear hk
  go_wp2
  go_ret
  exact ⟨rfl, Hk.out⟩
set_option maxRecDepth 100000 in
theorem logs_eq (va vb : Value) (l : List EntryD) (w : World) (ha : Ens w [] va l) (hb : Ens w [] vb l) (hsm : Small l) :
    Calls Try.prog 47 #[va, vb] w fun r w' => r = .returned (.bool true) ∧ Below w.heap.size w w' := by
  have Ha := Lib.hid ha; have Hb := Lib.hid hb; have Hsm := Lib.hid hsm
  obtain ⟨Aa, ca, rfl, hca⟩ := ha.len
  obtain ⟨Ab, cb, rfl, hcb⟩ := hb.len
  have hll : l.length ≤ 1048576 := hsm.1
  clear ha hb hsm
  go_enter Try.func47, Try.ntmps47
  go_wp2_with fail
  go_slots
  go_loopw [13] (fun i wr => ∃ (x : Nat), i = .int .i64 x ∧ x ≤ l.length ∧ Hid (Below w.heap.size w wr)) (fun i _ => l.length - (intOf i).toNat)
  case atStart => exact ⟨0, rfl, by omega, Below.refl _ _⟩
  case round =>
    obtain ⟨x, rfl, hx, Hbe⟩ := hrel
    by_cases hlt : x < l.length
    · have ha2 := Ha.out.keep (Keeps.of_below (M := []) Hbe.out) (by simp)
      have hb2 := Hb.out.keep (Keeps.of_below (M := []) Hbe.out) (by simp)
      obtain ⟨ga, oa, _, da, e1, hga, _, hda, h1⟩ := Ens.at_ ha2 hlt
      obtain ⟨gb, ob, _, db, e2, hgb, _, hdb, h2⟩ := Ens.at_ hb2 hlt
      obtain rfl : Aa = some ⟨ga, oa, none⟩ := by injection e1
      obtain rfl : Ab = some ⟨gb, ob, none⟩ := by injection e2
      have hsame := Lib.hid (fun n => same_eq da db l[x] (wr.drewN n) (hda.keep (M' := []) ((Keeps.refl _ _).drewN n) (by simp)) (hdb.keep (M' := []) ((Keeps.refl _ _).drewN n) (by simp)) (Hsm.out.2 _ (List.getElem_mem _)))
      clear e1 e2 hda hdb ha2 hb2
      generalize l[x] = en at *
      obtain ⟨kind, ag, sh, seq, ep, ds, ser, fr, tag⟩ := en
      have a0 := h1 0 _ rfl; have a1 := h1 1 _ rfl; have a2 := h1 2 _ rfl; have a3 := h1 3 _ rfl; have a4 := h1 4 _ rfl; have a5 := h1 5 _ rfl; have a6 := h1 6 _ rfl; have a7 := h1 7 _ rfl; have a8 := h1 8 _ rfl
      have b0 := h2 0 _ rfl; have b1 := h2 1 _ rfl; have b2 := h2 2 _ rfl; have b3 := h2 3 _ rfl; have b4 := h2 4 _ rfl; have b5 := h2 5 _ rfl; have b6 := h2 6 _ rfl; have b7 := h2 7 _ rfl; have b8 := h2 8 _ rfl
      rw [Nat.add_zero] at a0 b0
      simp only [] at a0 a1 a2 a3 a4 a5 a6 a7 a8 b0 b1 b2 b3 b4 b5 b6 b7 b8
      simp only [eVal] at hsame
      clear h1 h2
      have hx1 : (x : Int) < (l.length : Int) := by omega
      go_wp2
      go_region_with ((go_at_call 67; refine (hsame.out 1).mono ?_; rintro e w2 ⟨rfl, hb2⟩; have Hb2 := Lib.hid (below_then Hbe.out (show Below wr.heap.size wr w2 from ⟨hb2.os, hb2.tape, hb2.output, hb2.size, hb2.block⟩)); clear hb2))
      all_goals
        go_wp2
        go_roundw
        case rel => exact ⟨x + 1, by go_num, by omega, Hb2⟩
        case measure => simp [intOf] <;> omega
    · obtain rfl : x = l.length := by omega
      go_wp2
      go_ret
      exact ⟨rfl, Hbe.out⟩
end Go.Proofs.Ytinnifhnabncfaa.Lead
