/- Contracts of hopperbook.Within and (*hopperkeep.Tape).Next. -/
import Derived.Test.YtinnifhnabncfaaDoorClone
import Derived.Test.YtinnifhnabncfaaDoorData
namespace Go.Proofs.YtinnifhnabncfaaDoor.Tape
open Go.RowKit Base Mem
def withinS (n lo hi : Int) : Int := if lo ≤ n ∧ n ≤ hi then n else lo + n % (hi - lo + 1)
theorem tmod_fix (n m : Int) (hm : 0 < m) : (n.tmod m < 0 → n.tmod m + m = n % m) ∧ (¬ n.tmod m < 0 → n.tmod m = n % m) := by
  have h := Int.tmod_eq_emod (a := n) (b := m)
  have h1 := Int.emod_nonneg n (show m ≠ 0 by omega)
  have h2 := Int.emod_lt_of_pos n hm
  split at h
  · omega
  · rename_i hc
    have h3 : n % m ≠ 0 := fun h0 => hc (.inr (Int.dvd_of_emod_eq_zero h0))
    omega
theorem within_bd (n lo hi : Int) (h : lo ≤ hi) : lo ≤ withinS n lo hi ∧ withinS n lo hi ≤ hi := by
  unfold withinS
  have h1 := Int.emod_nonneg n (show hi - lo + 1 ≠ 0 by omega)
  have h2 := Int.emod_lt_of_pos n (show 0 < hi - lo + 1 by omega)
  split <;> omega
theorem within_any (n lo hi : Int) (w : World) (h0 : 0 ≤ lo) (h1 : lo ≤ hi) (h2 : hi ≤ 1073741824) :
    Calls Tryd.prog 17 #[.int .i64 n, .int .i64 lo, .int .i64 hi] w fun e w' => e = .returned (.int .i64 (withinS n lo hi)) ∧ w = w' := by
  by_cases hin : lo ≤ n ∧ n ≤ hi
  · have Hw : Hid (withinS n lo hi = n) := if_pos hin
    obtain ⟨hi1, hi2⟩ := hin
    go_enter Tryd.func17, Tryd.ntmps17
    go_wp2
    go_ret
    exact ⟨ret_int Hw.out.symm, rfl⟩
  · have Hw : Hid (withinS n lo hi = lo + n % (hi - lo + 1)) := if_neg hin
    obtain ⟨t1, t2⟩ := tmod_fix n (hi - lo + 1) (by omega)
    have h3 := Int.emod_nonneg n (show hi - lo + 1 ≠ 0 by omega)
    have h4 := Int.emod_lt_of_pos n (show 0 < hi - lo + 1 by omega)
    have hc : n < lo ∨ (lo ≤ n ∧ hi < n) := by omega
    have T1 := Lib.hid t1; have T2 := Lib.hid t2
    clear hin t1 t2
    have hb : n.tmod (hi - lo + 1) < hi - lo + 1 ∧ -(hi - lo + 1) ≤ n.tmod (hi - lo + 1) := by
      have a := T1.out; have b := T2.out
      by_cases hh : n.tmod (hi - lo + 1) < 0
      · have := a hh; omega
      · have := b hh; omega
    obtain ⟨hb1, hb2⟩ := hb
    generalize hg : n.tmod (hi - lo + 1) = t at *
    generalize n % (hi - lo + 1) = r at *
    by_cases ht : t < 0
    · have Hr : Hid (t + hi - lo + 1 = r) := by have := T1.out ht; show _ = _; omega
      rcases hc with hc | ⟨hc, hc2⟩
      all_goals
        go_enter Tryd.func17, Tryd.ntmps17
        go_wp2
        go_ret
        exact ⟨ret_int (by rw [Hw.out, ← Hr.out]), rfl⟩
    · have Hr : Hid (t = r) := T2.out ht
      rcases hc with hc | ⟨hc, hc2⟩
      all_goals
        go_enter Tryd.func17, Tryd.ntmps17
        go_wp2
        go_ret
        exact ⟨ret_int (by rw [Hw.out, ← Hr.out]), rfl⟩
/-- A tape's numbers, and below which block they lie. -/
structure TapeL where
  l : List Int
  B : Nat
/-- A tape lies in block b: its numbers, how many are read. -/
structure TapeAt (w : World) (b : Nat) (L : TapeL) (k : Nat) : Prop where
  le : k ≤ L.l.length
  max : L.l.length ≤ 9223372036854775807
  low : L.B ≤ b
  mem : ∃ A c, Blk w b 30 #[.slice A L.l.length c, .int .i64 k] ∧ L.l.length ≤ c ∧ (0 < L.l.length → ∃ g off, A = some ⟨g, off, none⟩ ∧ g < L.B ∧ ∀ (j : Nat) (x : Int), L.l[j]? = some x → w.cell? ⟨g, off + j, none⟩ = some (.int .i64 x))
section
variable {w w' : World} {M' : List Nat} {b k : Nat} {L : TapeL}
theorem TapeAt.lt (h : TapeAt w b L k) : b < w.heap.size := by obtain ⟨_, _, _, _, _, hv, _⟩ := h; exact hv.lt
theorem TapeAt.keep2 (h : TapeAt w b L k) (hk : Keeps M' w w') (hM : ∀ g ∈ M', L.B ≤ g ∧ g ≠ b) : TapeAt w' b L k := by
  obtain ⟨h1, h2, h3, A, c, hv, hc, hr⟩ := h
  refine ⟨h1, h2, h3, A, c, hk.blk hv (fun hm => (hM b hm).2 rfl), hc, fun hn => ?_⟩
  obtain ⟨g, off, e, hg, hx⟩ := hr hn
  exact ⟨g, off, e, hg, fun j x hj => (hk.cell (p := ⟨g, off + j, none⟩) (by have := hv.lt; simp; omega) (fun hm => by have := hM g hm; omega)).trans (hx j x hj)⟩
theorem TapeAt.keep (h : TapeAt w b L k) (hk : Keeps M' w w') (hM : ∀ g ∈ M', b < g) : TapeAt w' b L k :=
  h.keep2 hk (fun g hg => by have := hM g hg; have := h.low; omega)
theorem TapeAt.set_at (h : TapeAt w b L k) {j : Nat} (hj : j ≤ L.l.length) : TapeAt (w.setCell ⟨b, 1, none⟩ (.int .i64 j)) b L j := by
  obtain ⟨h1, h2, h3, A, c, hv, hc, hr⟩ := h
  refine ⟨hj, h2, h3, A, c, hv.set_ 1 (.int .i64 j), hc, fun hn => ?_⟩
  obtain ⟨g, off, e, hg, hx⟩ := hr hn
  exact ⟨g, off, e, hg, fun j' x hj' => (World.cell?_setCell_other _ _ _ _ (by intro e; injection e with e1; omega)).trans (hx j' x hj')⟩
theorem TapeAt.drewN (h : TapeAt w b L k) (n : Nat) : TapeAt (w.drewN n) b L k := h.keep (M' := []) ((Keeps.refl _ _).drewN n) (by simp)
theorem TapeAt.cells (h : TapeAt w b L k) : ∃ A c, w.cell? ⟨b, 0, none⟩ = some (.slice A L.l.length c) ∧ L.l.length ≤ c ∧ w.cell? ⟨b, 1, none⟩ = some (.int .i64 k) ∧ w.frozen? ⟨b, 1, none⟩ = false ∧ b < w.heap.size ∧
    (k < L.l.length → ∃ g off x, A = some ⟨g, off, none⟩ ∧ g < w.heap.size ∧ g ≠ b ∧ w.cell? ⟨g, off + k, none⟩ = some (.int .i64 x)) := by
  obtain ⟨h1, h2, h3, A, c, hv, hc, hr⟩ := h
  refine ⟨A, c, hv.cell 0, hc, hv.cell 1, hv.frozen 1, hv.lt, fun hk => ?_⟩
  obtain ⟨g, off, e, hg, hx⟩ := hr (by omega)
  exact ⟨g, off, L.l[k], e, by have := hv.lt; omega, by omega, hx k _ (List.getElem?_eq_getElem hk)⟩
end
theorem next_any (b : Nat) (L : TapeL) (k : Nat) (n : Int) (w : World) (h : TapeAt w b L k) :
    Calls Tryd.prog 22 #[.pointer (some ⟨b, 0, none⟩), .int .i64 n] w fun e w' => ∃ (v : Int) (k' : Nat), e = .returned (.int .i64 v) ∧ 0 ≤ v ∧ (1 ≤ n → v < n) ∧ TapeAt w' b L k' ∧ Keeps [b] w w' := by
  obtain ⟨A, c, c0, hc, c1, f1, hlt, hx⟩ := h.cells
  have hle := h.le
  have hmx := h.max
  have H := Lib.hid h
  by_cases hk : k < L.l.length
  · by_cases hn : 1 ≤ n
    · obtain ⟨g, off, x, rfl, hg, hne, hcell⟩ := hx hk
      have hwi := Lib.hid (fun W => within_any x 0 1073741824 W (by omega) (by omega) (by omega))
      have hwb := within_bd x 0 1073741824 (by omega)
      have hcell2 : (w.setCell ⟨b, 1, none⟩ (.int .i64 ((k : Int) + 1))).cell? ⟨g, off + k, none⟩ = some (.int .i64 x) := by
        rw [World.cell?_setCell_other _ _ _ _ (by intro e; injection e with e1; exact hne e1.symm)]; exact hcell
      have hj : ((k : Int) + 1 - 1) = k := by omega
      clear h hx hcell
      generalize withinS x 0 1073741824 = y at *
      have hr1 := Int.emod_nonneg y (show n ≠ 0 by omega)
      have hr2 := Int.emod_lt_of_pos y (show 0 < n by omega)
      have d0 : decide (L.l.length ≤ k) = false := by simp; omega
      have d1 : decide (n < 1) = false := by simp; omega
      go_enter Tryd.func22, Tryd.ntmps22
      go_wp2
      go_quiet (fail)
      go_wp2
      have hT : TapeAt ((w.drewN nq).setCell ⟨b, 1, none⟩ (.int .i64 ((k : Int) + 1))) b L (k + 1) := by
        have := (H.out.drewN nq).set_at (j := k + 1) (by omega)
        rwa [show (((k + 1 : Nat)) : Int) = (k : Int) + 1 by omega] at this
      have hK : Keeps [b] w ((w.drewN nq).setCell ⟨b, 1, none⟩ (.int .i64 ((k : Int) + 1))) := ((Keeps.refl _ _).drewN nq).setCell (by simp) _
      have e0 : ((w.drewN nq).setCell ⟨b, 1, none⟩ (.int .i64 ((k : Int) + 1))).cell? ⟨b, 0, none⟩ = some (.slice (some ⟨g, off, none⟩) L.l.length c) := by
        rw [World.cell?_setCell_other _ _ _ _ (by intro e; injection e with e1 e2; omega)]; exact c0
      have e1 : ((w.drewN nq).setCell ⟨b, 1, none⟩ (.int .i64 ((k : Int) + 1))).cell? ⟨b, 1, none⟩ = some (.int .i64 ((k : Int) + 1)) := by
        obtain ⟨_, _, _, _, _, hv, _⟩ := hT
        have := hv.cell 1
        simpa using this
      have e2 : ((w.drewN nq).setCell ⟨b, 1, none⟩ (.int .i64 ((k : Int) + 1))).cell? ⟨g, off + k, none⟩ = some (.int .i64 x) := hcell2
      clear hcell2 c0 c1 f1
      generalize ((w.drewN nq).setCell ⟨b, 1, none⟩ (.int .i64 ((k : Int) + 1))) = W at *
      have hk0 : (0 : Int) ≤ (k : Int) := by omega
      have hk1 : (k : Int) < (L.l.length : Int) := by omega
      go_quiet ((go_at_call 17; exact quiet_left (hwi.out _)))
      go_wp2
      go_ret
      exact ⟨_, _, rfl, hr1, fun _ => hr2, hT.drewN _, hK.drewN _⟩
    · have d0 : decide (L.l.length ≤ k) = false := by simp; omega
      have d1 : decide (n < 1) = true := by simp; omega
      clear h hx
      go_enter Tryd.func22, Tryd.ntmps22
      go_wp2
      go_quiet (fail)
      go_wp2
      go_ret
      exact ⟨0, k, rfl, by omega, fun h => by omega, H.out.drewN _, (Keeps.refl _ _).drewN _⟩
  · have d0 : decide (L.l.length ≤ k) = true := by simp; omega
    clear h hx
    go_enter Tryd.func22, Tryd.ntmps22
    go_wp2
    go_quiet (fail)
    go_wp2
    go_ret
    exact ⟨0, k, rfl, by omega, fun h => by omega, H.out.drewN _, (Keeps.refl _ _).drewN _⟩
end Go.Proofs.YtinnifhnabncfaaDoor.Tape
