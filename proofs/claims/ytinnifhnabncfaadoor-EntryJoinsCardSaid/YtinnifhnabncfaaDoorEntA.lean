/- Contract of slices.Equal at deltas; of entry.Same. -/
import Derived.Test.YtinnifhnabncfaaDoorEnt8
import Derived.Shelf.SlicesQ.Equal
namespace Go.Proofs.YtinnifhnabncfaaDoor.Vi
open Go.RowKit Base Mem Go.Shelf
def dEq (x y : DeltaD) : Bool := x.ser.toList == y.ser.toList && (x.n == y.n)
def dsEq (a b : List DeltaD) : Bool := Lib.allEq dEq a b
theorem dEq_at : NeqAt Tryd.prog 44 (fun x => .agg (dCell x).toArray) dEq := by
  refine ⟨fun x y w => ?_, GuardAt.agg _ (by kernel_rfl)⟩
  have u1 := Tryd.underlying9
  have a1 := Tryd.isAgg9
  have z1 := Tryd.sizeOf9
  have u3 := Tryd.underlying42
  have a3 := Tryd.isAgg42
  have z3 := Tryd.sizeOf42
  have hS : Tryd.prog.underlying 44 = some (.struct (Tryd.prog.fieldsOf 44)) := by kernel_rfl
  have hp : Tryd.prog.stoodInHeld 44 = false := by kernel_rfl
  simp only [dCell, dEq]
  rw [run_neq_struct, show (10000 : Nat) = 9999 + 1 from rfl, run_equalIn_agg w 9999 44 _ _ hS hp]
  simp only [Program.fieldsOf, Tryd.underlying44]
  go_simp
  by_cases h1 : x.ser.toList = y.ser.toList <;> by_cases h2 : x.n = y.n <;> simp [h1, h2]
set_option maxRecDepth 100000 in
theorem equal_any (va vb : Value) (a b : List DeltaD) (w : World) (ha : Ds w [] va a) (hb : Ds w [] vb b) (h1 : a.length ≤ 4611686018427387904) (h2 : b.length ≤ 4611686018427387904) :
    Calls Tryd.prog 34 #[va, vb] w fun e w' => e = .returned (.bool (dsEq a b)) ∧ ∃ q, w' = w.drewN q := by
  by_cases h0 : 0 < a.length ∧ 0 < b.length
  · obtain ⟨ga, oa, ca, rfl, hga, hca⟩ := ds_cells ha h0.1
    obtain ⟨gb, ob, cb, rfl, hgb, hcb⟩ := ds_cells hb h0.2
    have := AnyQ.slices_Equal Tryd.equalDelta 2 Tryd.isAgg44 Tryd.sizeOf44 dCell (fun _ => rfl) dEq dEq_at ga oa a.length ca gb ob b.length cb a b w (Nat.le_refl _) (Nat.le_refl _) (by omega) (by omega) hca hcb
    rw [List.take_length, List.take_length] at this
    exact this
  · obtain ⟨Aa, ca, rfl, hca⟩ := ha.len
    obtain ⟨Ab, cb, rfl, hcb⟩ := hb.len
    clear ha hb
    by_cases hne : a.length = b.length
    · have ha0 : a = [] := List.length_eq_zero_iff.1 (by omega)
      have hb0 : b = [] := List.length_eq_zero_iff.1 (by omega)
      subst ha0 hb0
      clear h0 h1 h2 hne hca hcb
      simp only [List.length_nil]
      go_enter Tryd.func34, Tryd.ntmps34
      go_wp2_with fail
      go_loopw [13] (fun i wr => i = .int .i64 0 ∧ Hid (wr = w)) (fun i _ => 0)
      case atStart => exact ⟨rfl, rfl⟩
      case round =>
        obtain ⟨rfl, hw⟩ := hrel
        obtain rfl := hw.out
        go_wp2
        go_ret
        exact ⟨rfl, 0, rfl⟩
    · have hR : Hid (dsEq a b = false) := Lib.allEq_len dEq a b hne
      have hnm' : ¬ (a.length : Int) = (b.length : Int) := by omega
      rw [hR.out]
      clear h0 h1 h2 hne
      go_enter Tryd.func34, Tryd.ntmps34
      go_wp2
      go_ret
      exact ⟨rfl, 0, rfl⟩
/-- Are entries the same? -/
def sameE (a b : EntryD) : Bool := a.kind == b.kind && eqI a.ag a.sh a.seq b.ag b.sh b.seq && a.ep == b.ep && dsEq a.ds b.ds && a.ser.toList == b.ser.toList && a.fr == b.fr && a.tag == b.tag
def SamePost (r : Bool) (w : World) (e : Ending) (w' : World) : Prop := e = .returned (.bool r) ∧ Below w.heap.size w w'
set_option maxRecDepth 100000 in
set_option maxHeartbeats 1000000 in
theorem same_any (a b : EntryD) (va vb : Value) (w : World) (ha : Ds w [] va a.ds) (hb : Ds w [] vb b.ds) (h1 : a.ds.length ≤ 4611686018427387904) (h2 : b.ds.length ≤ 4611686018427387904) :
    Calls Tryd.prog 11 #[.agg (eCell (a, va)).toArray, .agg (eCell (b, vb)).toArray] w fun r w' => SamePost (sameE a b) w r w' := by
  have heq := Lib.hid (fun W (hk : Keeps [] w W) => equal_any va vb a.ds b.ds W (ha.keep hk (by simp)) (hb.keep hk (by simp)) h1 h2)
  obtain ⟨Aa, ca, rfl, hca⟩ := ha.len
  obtain ⟨Ab, cb, rfl, hcb⟩ := hb.len
  have HS : Hid (sameE a b = (a.kind == b.kind && eqI a.ag a.sh a.seq b.ag b.sh b.seq && a.ep == b.ep && dsEq a.ds b.ds && a.ser.toList == b.ser.toList && a.fr == b.fr && a.tag == b.tag)) := rfl
  generalize sameE a b = R at *
  generalize dsEq a.ds b.ds = dse at *
  obtain ⟨kind, ag, sh, seq, ep, ds, ser, fr, tag⟩ := a
  obtain ⟨kind', ag', sh', seq', ep', ds', ser', fr', tag'⟩ := b
  simp only [] at heq hca hcb HS
  clear ha hb
  simp only [eCell]
  generalize ds.length = n at *
  generalize ds'.length = n' at *
  have hk : Hid (Keeps [] w ((w.alloc (.cells #[.int .i64 kind, .int .i64 ag, .int .i64 sh, .int .i64 seq, .int .i64 ep, .slice Aa n ca, .string ser, .int .i64 fr, .int .i64 tag] 27)).alloc (.cells #[.int .i64 kind', .int .i64 ag', .int .i64 sh', .int .i64 seq', .int .i64 ep', .slice Ab n' cb, .string ser', .int .i64 fr', .int .i64 tag'] 27))) := ((Keeps.refl _ _).alloc _).alloc _
  have heq2 := Lib.hid (heq.out _ hk.out)
  clear heq
  cases h0 : (kind == kind') with
  | false =>
    obtain rfl : R = false := by rw [HS.out, h0]; simp
    clear HS
    go_enter Tryd.func11, Tryd.ntmps11
    go_wp2
    go_ret
    exact ⟨rfl, hk.out.below⟩
  | true =>
    cases h1 : (eqI ag sh seq ag' sh' seq') with
    | false =>
      obtain rfl : R = false := by rw [HS.out, h0, h1]; simp
      have he := fun W => eqI_run ag sh seq ag' sh' seq' false h1 W
      clear h1
      clear HS
      go_enter Tryd.func11, Tryd.ntmps11
      go_wp2
      go_ret
      exact ⟨rfl, hk.out.below⟩
    | true =>
      cases h2 : (ep == ep') with
      | false =>
        obtain rfl : R = false := by rw [HS.out, h0, h1, h2]; simp
        have he := fun W => eqI_run ag sh seq ag' sh' seq' true h1 W
        clear h1
        clear HS
        go_enter Tryd.func11, Tryd.ntmps11
        go_wp2
        go_ret
        exact ⟨rfl, hk.out.below⟩
      | true =>
        cases h3 : dse with
        | false =>
          subst h3
          obtain rfl : R = false := by rw [HS.out, h0, h1, h2]; simp
          have he := fun W => eqI_run ag sh seq ag' sh' seq' true h1 W
          clear h1
          clear HS
          go_enter Tryd.func11, Tryd.ntmps11
          go_wp2_with fail
          refine heq2.out.mono ?_
          rintro r w' ⟨rfl, q, rfl⟩
          have HB := Lib.hid (hk.out.drewN q).below
          clear hk heq2
          go_wp2
          go_ret
          exact ⟨rfl, HB.out⟩
        | true =>
          subst h3
          cases h4 : (ser.toList == ser'.toList) with
          | false =>
            obtain rfl : R = false := by rw [HS.out, h0, h1, h2, h4]; simp
            have he := fun W => eqI_run ag sh seq ag' sh' seq' true h1 W
            clear h1
            clear HS
            go_enter Tryd.func11, Tryd.ntmps11
            go_wp2_with fail
            refine heq2.out.mono ?_
            rintro r w' ⟨rfl, q, rfl⟩
            have HB := Lib.hid (hk.out.drewN q).below
            clear hk heq2
            go_wp2
            go_ret
            exact ⟨rfl, HB.out⟩
          | true =>
            cases h5 : (fr == fr') with
            | false =>
              obtain rfl : R = false := by rw [HS.out, h0, h1, h2, h4, h5]; simp
              have he := fun W => eqI_run ag sh seq ag' sh' seq' true h1 W
              clear h1
              clear HS
              go_enter Tryd.func11, Tryd.ntmps11
              go_wp2_with fail
              refine heq2.out.mono ?_
              rintro r w' ⟨rfl, q, rfl⟩
              have HB := Lib.hid (hk.out.drewN q).below
              clear hk heq2
              go_wp2
              go_ret
              exact ⟨rfl, HB.out⟩
            | true =>
              cases h6 : (tag == tag') with
              | false =>
                obtain rfl : R = false := by rw [HS.out, h0, h1, h2, h4, h5, h6]; simp
                have he := fun W => eqI_run ag sh seq ag' sh' seq' true h1 W
                clear h1
                clear HS
                go_enter Tryd.func11, Tryd.ntmps11
                go_wp2_with fail
                refine heq2.out.mono ?_
                rintro r w' ⟨rfl, q, rfl⟩
                have HB := Lib.hid (hk.out.drewN q).below
                clear hk heq2
                go_wp2
                go_ret
                exact ⟨rfl, HB.out⟩
              | true =>
                obtain rfl : R = true := by rw [HS.out, h0, h1, h2, h4, h5, h6]; simp
                have he := fun W => eqI_run ag sh seq ag' sh' seq' true h1 W
                clear h1
                clear HS
                go_enter Tryd.func11, Tryd.ntmps11
                go_wp2_with fail
                refine heq2.out.mono ?_
                rintro r w' ⟨rfl, q, rfl⟩
                have HB := Lib.hid (hk.out.drewN q).below
                clear hk heq2
                go_wp2
                go_ret
                exact ⟨rfl, HB.out⟩
end Go.Proofs.YtinnifhnabncfaaDoor.Vi
