/- Contracts of bytes.New and of a Reader's methods. -/
import Derived.Test.YtinnifhnabncfaaDoorVar4
namespace Go.Proofs.YtinnifhnabncfaaDoor.Vi
open Go.RowKit Base Mem
/-- A reader lies in block p: what is left, and whether something was not there. -/
def RdAt (w : World) (M : List Nat) (p : Nat) (l : List UInt8) (bad : Bool) : Prop := l.length ≤ 4611686018427387904 ∧ ∃ v, Blk w p 89 #[v, .bool bad] ∧ Bs w (p :: M) v l
theorem RdAt.lt {w : World} {M : List Nat} {p : Nat} {l : List UInt8} {bad : Bool} (h : RdAt w M p l bad) : p < w.heap.size := by obtain ⟨_, _, h, _⟩ := h; exact h.lt
theorem RdAt.keep {w w' : World} {M M' : List Nat} {p : Nat} {l : List UInt8} {bad : Bool} (h : RdAt w M p l bad) (k : Keeps M' w w') (hM : ∀ g ∈ M', g ∈ M ∨ w.heap.size ≤ g) (hp : p ∉ M') : RdAt w' M p l bad := by
  obtain ⟨hl, v, hb, hs⟩ := h
  exact ⟨hl, v, k.blk hb hp, hs.keep k (fun g hg => (hM g hg).imp (fun h => List.mem_cons_of_mem _ h) id)⟩
theorem RdAt.avoid {w : World} {M M' : List Nat} {p : Nat} {l : List UInt8} {bad : Bool} (h : RdAt w M p l bad) (hM : ∀ g ∈ M', g ∈ M ∨ w.heap.size ≤ g) : RdAt w M' p l bad := by
  obtain ⟨hl, v, hb, hs⟩ := h
  exact ⟨hl, v, hb, hs.avoid (fun g hg => by
    rcases List.mem_cons.1 hg with rfl | hg
    · exact .inl (by simp)
    · exact (hM g hg).imp (fun h => List.mem_cons_of_mem _ h) id)⟩
theorem RdAt.setBad {w : World} {M : List Nat} {p : Nat} {l : List UInt8} {bad : Bool} (h : RdAt w M p l bad) : RdAt (w.setCell ⟨p, 1, none⟩ (.bool true)) M p l true := by
  obtain ⟨hl, v, hb, hs⟩ := h
  exact ⟨hl, v, by simpa using hb.set_ 1 (.bool true), hs.keep (M' := [p]) ((Keeps.refl _ _).setCell (by simp) _) (fun g hg => .inl (by simp at hg; simp [hg]))⟩
theorem RdAt.setB {w : World} {M : List Nat} {p : Nat} {l l' : List UInt8} {bad : Bool} {v' : Value} (h : RdAt w M p l bad) (hl : l'.length ≤ l.length) (hv : Bs w (p :: M) v' l') : RdAt (w.setCell ⟨p, 0, none⟩ v') M p l' bad := by
  obtain ⟨hl0, v, hb, hs⟩ := h
  exact ⟨by omega, v', by simpa using hb.set_ 0 v', hv.keep (M' := [p]) ((Keeps.refl _ _).setCell (by simp) _) (fun g hg => .inl (by simp at hg; simp [hg]))⟩
/-- What is left behind k bytes. -/
theorem Bs.behind {w : World} {M : List Nat} {g off c : Nat} {l : List UInt8} (h : Bs w M (.slice (some ⟨g, off, none⟩) l.length c) l) (k : Nat) (hk : k ≤ l.length) (hc : l.length ≤ c) :
    Bs w M (.slice (some ⟨g, off + k, none⟩) (l.length - k) (c - k)) (l.drop k) := by
  have h1 := h.part k (l.length - k) (by omega) (c - k) (by omega) (some ⟨g, off + k, none⟩) (fun _ => rfl)
  have h2 : (l.drop k).take (l.length - k) = l.drop k := List.take_of_length_le (by rw [List.length_drop]; exact Nat.le_refl _)
  rw [h2, List.length_drop] at h1
  exact h1
theorem Bs.some_ {w : World} {M : List Nat} {A : Option Addr} {l : List UInt8} {c : Nat} (h : Bs w M (.slice A l.length c) l) (h0 : 0 < l.length) : ∃ g off, A = some ⟨g, off, none⟩ := by
  obtain ⟨A', c', he, _, _, hr⟩ := h
  injection he with h1 h2 h3
  subst h1
  obtain ⟨g, off, e, _⟩ := hr h0
  exact ⟨g, off, e⟩
theorem new_any (M : List Nat) (v : Value) (l : List UInt8) (w : World) (h : Bs w M v l) (hl : l.length ≤ 4611686018427387904) :
    Calls Tryd.prog 27 #[v] w fun e w' => e = .returned (.pointer (some ⟨w.heap.size, 0, none⟩)) ∧ RdAt w' M w.heap.size l false ∧ Below w.heap.size w w' := by
  have hR : Hid (RdAt (w.alloc (.cells #[v, .bool false] 89)) M w.heap.size l false) :=
    ⟨hl, v, Blk.new w _ _, (h.avoid (M' := w.heap.size :: M) (fun g hg => by rcases List.mem_cons.1 hg with rfl | hg; exact .inr (Nat.le_refl _); exact .inl hg)).keep (M' := []) ((Keeps.refl _ _).alloc _) (by simp)⟩
  obtain ⟨A, c, rfl, hc⟩ := h.len
  clear h
  go_enter Tryd.func27, Tryd.ntmps27
  go_wp2
  go_ret
  exact ⟨rfl, hR.out, (Below.refl _ _).alloc (Nat.le_refl _) _⟩
theorem done_any (M : List Nat) (p : Nat) (l : List UInt8) (bad : Bool) (w : World) (h : RdAt w M p l bad) :
    Calls Tryd.prog 33 #[.pointer (some ⟨p, 0, none⟩)] w fun e w' => e = .returned (.bool (!bad && l.isEmpty)) ∧ w = w' := by
  obtain ⟨hl, v, hb, hs⟩ := h
  obtain ⟨A, c, rfl, hc⟩ := hs.len
  have c0 : w.cell? ⟨p, 0, none⟩ = some (.slice A l.length c) := hb.cell 0
  have c1 : w.cell? ⟨p, 1, none⟩ = some (.bool bad) := hb.cell 1
  clear hb hs
  cases bad with
  | true =>
    go_enter Tryd.func33, Tryd.ntmps33
    go_wp2
    go_ret
    exact ⟨rfl, rfl⟩
  | false =>
    have hR : Hid (l.isEmpty = ((l.length : Int) == 0)) := by show _ = _; cases l <;> simp <;> omega
    go_enter Tryd.func33, Tryd.ntmps33
    go_wp2
    go_ret
    rw [hR.out]
    exact ⟨rfl, rfl⟩
/-- What a call of a reader answers: a value, and how the reader stands. -/
def RdPost (M : List Nat) (p : Nat) (v : Value) (l : List UInt8) (bad : Bool) (w : World) (e : Ending) (w' : World) : Prop := e = .returned v ∧ RdAt w' M p l bad ∧ Keeps [p] w w'
def numS (l : List UInt8) (bad : Bool) : Nat × List UInt8 × Bool := if bad = true ∨ (getL l).2 = 0 then (0, l, true) else ((getL l).1, l.drop (getL l).2, false)
set_option maxRecDepth 100000 in
set_option maxHeartbeats 600000 in
theorem number_any (M : List Nat) (p : Nat) (l : List UInt8) (bad : Bool) (w : World) (h : RdAt w M p l bad) :
    Calls Tryd.prog 53 #[.pointer (some ⟨p, 0, none⟩)] w fun e w' => RdPost M p (.int .u64 (numS l bad).1) (numS l bad).2.1 (numS l bad).2.2 w e w' := by
  obtain ⟨hl, v, hb, hs⟩ := id h
  obtain ⟨A, c, rfl, hc⟩ := hs.len
  have hg := Lib.hid (get_any _ l w (hs.avoid (M' := []) (by simp)) hl)
  have hr : Hid (∀ q, RdPost M p (.int .u64 0) l true w (.returned (.int .u64 0)) ((w.drewN q).setCell ⟨p, 1, none⟩ (.bool true))) := fun q =>
    ⟨rfl, (h.keep (M' := []) ((Keeps.refl _ _).drewN q) (by simp) (by simp)).setBad, ((Keeps.refl _ _).drewN q).setCell (by simp) _⟩
  have hr2 : Hid (∀ q v' l', bad = false → l'.length ≤ l.length → Bs w (p :: M) v' l' → ∀ n, RdPost M p (.int .u64 n) l' false w (.returned (.int .u64 n)) ((w.drewN q).setCell ⟨p, 0, none⟩ v')) := fun q v' l' hb0 hll hv n => by
    subst hb0
    exact ⟨rfl, (h.keep (M' := []) ((Keeps.refl _ _).drewN q) (by simp) (by simp)).setB hll (hv.keep (M' := []) ((Keeps.refl _ _).drewN q) (by simp)), ((Keeps.refl _ _).drewN q).setCell (by simp) _⟩
  have HN : Hid (numS l bad = if bad = true ∨ (getL l).2 = 0 then (0, l, true) else ((getL l).1, l.drop (getL l).2, false)) := rfl
  have hk := (getL_le l).1
  have Hs := Lib.hid hs
  have c0 : w.cell? ⟨p, 0, none⟩ = some (.slice A l.length c) := hb.cell 0
  have c1 : w.cell? ⟨p, 1, none⟩ = some (.bool bad) := hb.cell 1
  have f0 : w.frozen? ⟨p, 0, none⟩ = false := hb.frozen 0
  have f1 : w.frozen? ⟨p, 1, none⟩ = false := hb.frozen 1
  clear h hb hs
  generalize (getL l).1 = n at *
  generalize (getL l).2 = k at *
  cases bad with
  | true =>
    have hR : Hid (numS l true = (0, l, true)) := by show _ = _; rw [HN.out]; simp
    rw [hR.out]
    clear HN hr2
    go_enter Tryd.func53, Tryd.ntmps53
    go_wp2_with fail
    refine hg.out.mono ?_
    rintro e w1 ⟨rfl, q, rfl⟩
    go_wp2
    go_ret
    exact hr.out q
  | false =>
    by_cases hk0 : k = 0
    · have hR : Hid (numS l false = (0, l, true)) := by show _ = _; rw [HN.out, if_pos (.inr hk0)]
      rw [hR.out]
      subst hk0
      clear HN hr2
      go_enter Tryd.func53, Tryd.ntmps53
      go_wp2_with fail
      refine hg.out.mono ?_
      rintro e w1 ⟨rfl, q, rfl⟩
      go_wp2
      go_ret
      exact hr.out q
    · have hR : Hid (numS l false = (n, l.drop k, false)) := by show _ = _; rw [HN.out, if_neg (by simp [hk0])]
      rw [hR.out]
      have hkz : ((k : Int) == 0) = false := by simpa using hk0
      have hki : (k : Int) ≤ (l.length : Int) := by omega
      obtain ⟨g, off, rfl⟩ := Hs.out.some_ (by omega)
      clear HN hr
      by_cases hck : c = k
      · have hd : Hid (l.drop k = []) := List.drop_eq_nil_of_le (by omega)
        have hp : Hid (∀ q, RdPost M p (.int .u64 n) (l.drop k) false w (.returned (.int .u64 n)) ((w.drewN q).setCell ⟨p, 0, none⟩ (.slice (some ⟨g, off, none⟩) 0 0))) := fun q => by
          rw [hd.out]
          exact hr2.out q _ [] rfl (by simp) ⟨_, 0, rfl, Nat.le_refl _, rfl, fun h => absurd h (by simp)⟩ n
        have hkl : l.length = k := by omega
        subst hck
        rw [hkl] at c0
        have hg2 := Lib.hid (show Calls Tryd.prog 68 #[.slice (some ⟨g, off, none⟩) c c] w fun e w' => e = .returned (.tuple #[.int .u64 n, .int .i64 c]) ∧ ∃ q, w' = w.drewN q by have := hg.out; rwa [hkl] at this)
        clear hg hr2 hki hk hc hd hkl Hs
        go_enter Tryd.func53, Tryd.ntmps53
        go_wp2_with fail
        refine hg2.out.mono ?_
        rintro e w1 ⟨rfl, q, rfl⟩
        go_wp2
        go_ret
        exact hp.out q
      · have hp : Hid (∀ q, RdPost M p (.int .u64 n) (l.drop k) false w (.returned (.int .u64 n)) ((w.drewN q).setCell ⟨p, 0, none⟩ (.slice (some ⟨g, off + k, none⟩) (l.length - k) (c - k)))) := fun q =>
          hr2.out q _ (l.drop k) rfl (by rw [List.length_drop]; omega) (by have := Hs.out.behind k hk hc; rwa [← List.length_drop] at this ⊢) n
        go_enter Tryd.func53, Tryd.ntmps53
        go_wp2_with fail
        refine hg.out.mono ?_
        rintro e w1 ⟨rfl, q, rfl⟩
        go_wp2
        go_ret
        exact hp.out q
end Go.Proofs.YtinnifhnabncfaaDoor.Vi
