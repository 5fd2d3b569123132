/- Contracts of entry.within, entry.kind. -/
import Derived.Test.YtinnifhnabncfaaDoorLab6
import Derived.Laws.StructEq
namespace Go.Proofs.YtinnifhnabncfaaDoor.Vi
open Go.RowKit Base Mem
def withinB (n e : Int) : Bool := decide (0 ≤ n) && decide (n < e)
theorem within2_any (n e : Int) (w : World) : Calls Tryd.prog 41 #[.int .i64 n, .int .i64 e] w fun r w' => r = .returned (.bool (withinB n e)) ∧ w' = w := by
  by_cases h0 : 0 ≤ n
  · by_cases h1 : n < e
    · have hR : Hid (withinB n e = true) := by show _ = _; simp [withinB, h0, h1]
      rw [hR.out]
      go_enter Tryd.func41, Tryd.ntmps41
      go_wp2
      go_ret
      exact ⟨rfl, rfl⟩
    · have hR : Hid (withinB n e = false) := by show _ = _; simp [withinB, h1]
      rw [hR.out]
      have h1' : decide (n < e) = false := decide_eq_false h1
      go_enter Tryd.func41, Tryd.ntmps41
      go_wp2
      go_ret
      exact ⟨rfl, rfl⟩
  · have hR : Hid (withinB n e = false) := by show _ = _; simp [withinB, h0]
    rw [hR.out]
    have h0' : decide (0 ≤ n) = false := decide_eq_false h0
    go_enter Tryd.func41, Tryd.ntmps41
    go_wp2
    go_ret
    exact ⟨rfl, rfl⟩
def eqI (a b c d e f : Int) : Bool := a == d && (b == e && c == f)
theorem eqI_run (a b c d e f : Int) (r : Bool) (h : eqI a b c d e f = r) (w : World) : (binOp .eql 24 (.agg #[.int .i64 a, .int .i64 b, .int .i64 c]) (.agg #[.int .i64 d, .int .i64 e, .int .i64 f])).run Tryd.prog w = .ok (.bool r) w := by
  subst h
  have u3 := Tryd.underlying3
  have a3 := Tryd.isAgg3
  have z3 := Tryd.sizeOf3
  have hS : Tryd.prog.underlying 24 = some (.struct (Tryd.prog.fieldsOf 24)) := by kernel_rfl
  have hp : Tryd.prog.stoodInHeld 24 = false := by kernel_rfl
  simp only [eqI]
  rw [run_eql_struct, show (10000 : Nat) = 9999 + 1 from rfl, run_equalIn_agg w 9999 24 _ _ hS hp]
  simp only [Program.fieldsOf, Tryd.underlying24]
  go_simp
  by_cases h1 : a = d <;> by_cases h2 : b = e <;> by_cases h3 : c = f <;> simp [h1, h2, h3]
def kindS (e : EntryD) : Bool := if e.kind = 1 then e.ser.toList.isEmpty else if e.kind = 2 then eqI e.ag e.sh e.seq 0 0 0 && e.ep == 0 && e.ds.length == 0 else false
def BoolPost (b : Bool) (w : World) (r : Ending) (w' : World) : Prop := r = .returned (.bool b) ∧ Below w.heap.size w w'
theorem kind_any (e : EntryD) (A : Option Addr) (c : Nat) (w : World) :
    Calls Tryd.prog 40 #[.agg (eCell (e, .slice A e.ds.length c)).toArray] w fun r w' => BoolPost (kindS e) w r w' := by
  obtain ⟨kind, ag, sh, seq, ep, ds, ser, fr, tag⟩ := e
  have HK : Hid (kindS ⟨kind, ag, sh, seq, ep, ds, ser, fr, tag⟩ = if kind = 1 then ser.toList.isEmpty else if kind = 2 then eqI ag sh seq 0 0 0 && ep == 0 && ds.length == 0 else false) := rfl
  have hb : Hid (∀ o, Below w.heap.size w (w.alloc o)) := fun o => (Below.refl _ _).alloc (Nat.le_refl _) o
  generalize hn : ds.length = n at *
  simp only [eCell]
  clear hn
  by_cases h1 : kind = 1
  · have hR : Hid (kindS ⟨kind, ag, sh, seq, ep, ds, ser, fr, tag⟩ = ser.toList.isEmpty) := by show _ = _; rw [HK.out, if_pos h1]
    subst h1
    go_enter Tryd.func40, Tryd.ntmps40
    go_wp2
    all_goals go_ret
    all_goals exact ⟨by rw [hR.out]; simp, hb.out _⟩
  · have h1' : (kind == 1) = false := by simpa using h1
    by_cases h2 : kind = 2
    · have hR : Hid (kindS ⟨kind, ag, sh, seq, ep, ds, ser, fr, tag⟩ = (eqI ag sh seq 0 0 0 && ep == 0 && n == 0)) := by show _ = _; rw [HK.out, if_neg h1, if_pos h2]
      have h2' : (kind == 2) = true := by simpa using h2
      clear h1 h2
      cases h3 : eqI ag sh seq 0 0 0 with
      | false =>
        have he := fun W => eqI_run ag sh seq 0 0 0 false h3 W
        have hR2 : Hid (kindS ⟨kind, ag, sh, seq, ep, ds, ser, fr, tag⟩ = false) := by show _ = _; rw [hR.out, h3]; rfl
        rw [hR2.out]
        clear h3
        go_enter Tryd.func40, Tryd.ntmps40
        go_wp2
        go_ret
        exact ⟨rfl, hb.out _⟩
      | true =>
        have he := fun W => eqI_run ag sh seq 0 0 0 true h3 W
        have hR1 : Hid (kindS ⟨kind, ag, sh, seq, ep, ds, ser, fr, tag⟩ = (true && ep == 0 && n == 0)) := by show _ = _; rw [hR.out, h3]
        clear h3
        cases h4 : (ep == 0) with
        | false =>
          have hR2 : Hid (kindS ⟨kind, ag, sh, seq, ep, ds, ser, fr, tag⟩ = false) := by show _ = _; rw [hR1.out, h4]; simp
          rw [hR2.out]
          go_enter Tryd.func40, Tryd.ntmps40
          go_wp2
          go_ret
          exact ⟨rfl, hb.out _⟩
        | true =>
          have hR2 : Hid (kindS ⟨kind, ag, sh, seq, ep, ds, ser, fr, tag⟩ = ((n : Int) == 0)) := by
            show _ = _
            rw [hR1.out, h4]
            cases n with
            | zero => rfl
            | succ n =>
              rw [show ((n + 1 : Nat) == 0) = false from rfl]
              symm
              rw [Bool.and_false, beq_eq_false_iff_ne]
              omega
          rw [hR2.out]
          go_enter Tryd.func40, Tryd.ntmps40
          go_wp2
          go_ret
          exact ⟨rfl, hb.out _⟩
    · have h2' : (kind == 2) = false := by simpa using h2
      have hR : Hid (kindS ⟨kind, ag, sh, seq, ep, ds, ser, fr, tag⟩ = false) := by show _ = _; rw [HK.out, if_neg h1, if_neg h2]
      rw [hR.out]
      clear h1 h2
      go_enter Tryd.func40, Tryd.ntmps40
      go_wp2
      go_ret
      exact ⟨rfl, hb.out _⟩
end Go.Proofs.YtinnifhnabncfaaDoor.Vi
