/- Contracts of a Reader's Text, Byte, Int, Count. -/
import Derived.Test.YtinnifhnabncfaaDoorRead1
namespace Go.Proofs.YtinnifhnabncfaaDoor.Vi
open Go.RowKit Base Mem
theorem cutL_le (l : List UInt8) : (cutL l).2 ≤ l.length := by
  have := (getL_le l).1
  unfold cutL
  split
  · simp
  · simp only; omega
def textS (l : List UInt8) (bad : Bool) : List UInt8 × List UInt8 × Bool := if bad = true ∨ (cutL l).2 = 0 then ([], l, true) else ((cutL l).1, l.drop (cutL l).2, false)
set_option maxRecDepth 100000 in
set_option maxHeartbeats 600000 in
theorem rtext_any (M : List Nat) (p : Nat) (l : List UInt8) (bad : Bool) (w : World) (h : RdAt w M p l bad) :
    Calls Tryd.prog 31 #[.pointer (some ⟨p, 0, none⟩)] w fun e w' => RdPost M p (.string ⟨(textS l bad).1.toArray⟩) (textS l bad).2.1 (textS l bad).2.2 w e w' := by
  obtain ⟨hl, v, hb, hs⟩ := id h
  obtain ⟨A, c, rfl, hc⟩ := hs.len
  have hg := Lib.hid (cut_any _ l w (hs.avoid (M' := []) (by simp)) hl)
  have hr : Hid (∀ q, RdPost M p (.string ⟨#[]⟩) l true w (.returned (.string ⟨#[]⟩)) ((w.drewN q).setCell ⟨p, 1, none⟩ (.bool true))) := fun q =>
    ⟨rfl, (h.keep (M' := []) ((Keeps.refl _ _).drewN q) (by simp) (by simp)).setBad, ((Keeps.refl _ _).drewN q).setCell (by simp) _⟩
  have hr2 : Hid (∀ q v' l', bad = false → l'.length ≤ l.length → Bs w (p :: M) v' l' → ∀ n : List UInt8, RdPost M p (.string ⟨n.toArray⟩) l' false w (.returned (.string ⟨n.toArray⟩)) ((w.drewN q).setCell ⟨p, 0, none⟩ v')) := fun q v' l' hb0 hll hv n => by
    subst hb0
    exact ⟨rfl, (h.keep (M' := []) ((Keeps.refl _ _).drewN q) (by simp) (by simp)).setB hll (hv.keep (M' := []) ((Keeps.refl _ _).drewN q) (by simp)), ((Keeps.refl _ _).drewN q).setCell (by simp) _⟩
  have HN : Hid (textS l bad = if bad = true ∨ (cutL l).2 = 0 then ([], l, true) else ((cutL l).1, l.drop (cutL l).2, false)) := rfl
  have hk := cutL_le l
  have Hs := Lib.hid hs
  have c0 : w.cell? ⟨p, 0, none⟩ = some (.slice A l.length c) := hb.cell 0
  have c1 : w.cell? ⟨p, 1, none⟩ = some (.bool bad) := hb.cell 1
  have f0 : w.frozen? ⟨p, 0, none⟩ = false := hb.frozen 0
  have f1 : w.frozen? ⟨p, 1, none⟩ = false := hb.frozen 1
  clear h hb hs
  generalize (cutL l).1 = n at *
  generalize (cutL l).2 = k at *
  cases bad with
  | true =>
    have hR : Hid (textS l true = ([], l, true)) := by show _ = _; rw [HN.out]; simp
    rw [hR.out]
    clear HN hr2
    go_enter Tryd.func31, Tryd.ntmps31
    go_wp2_with fail
    refine hg.out.mono ?_
    rintro e w1 ⟨rfl, q, rfl⟩
    go_wp2
    go_ret
    exact hr.out q
  | false =>
    by_cases hk0 : k = 0
    · have hR : Hid (textS l false = ([], l, true)) := by show _ = _; rw [HN.out, if_pos (.inr hk0)]
      rw [hR.out]
      subst hk0
      clear HN hr2
      go_enter Tryd.func31, Tryd.ntmps31
      go_wp2_with fail
      refine hg.out.mono ?_
      rintro e w1 ⟨rfl, q, rfl⟩
      go_wp2
      go_ret
      exact hr.out q
    · have hR : Hid (textS l false = (n, l.drop k, false)) := by show _ = _; rw [HN.out, if_neg (by simp [hk0])]
      rw [hR.out]
      have hkz : ((k : Int) == 0) = false := by simpa using hk0
      have hki : (k : Int) ≤ (l.length : Int) := by omega
      obtain ⟨g, off, rfl⟩ := Hs.out.some_ (by omega)
      clear HN hr
      by_cases hck : c = k
      · have hd : Hid (l.drop k = []) := List.drop_eq_nil_of_le (by omega)
        have hp : Hid (∀ q, RdPost M p (.string ⟨n.toArray⟩) (l.drop k) false w (.returned (.string ⟨n.toArray⟩)) ((w.drewN q).setCell ⟨p, 0, none⟩ (.slice (some ⟨g, off, none⟩) 0 0))) := fun q => by
          rw [hd.out]
          exact hr2.out q _ [] rfl (by simp) ⟨_, 0, rfl, Nat.le_refl _, rfl, fun h => absurd h (by simp)⟩ n
        have hkl : l.length = k := by omega
        subst hck
        rw [hkl] at c0
        have hg2 := Lib.hid (show Calls Tryd.prog 54 #[.slice (some ⟨g, off, none⟩) c c] w fun e w' => e = .returned (.tuple #[.string ⟨n.toArray⟩, .int .i64 c]) ∧ ∃ q, w' = w.drewN q by have := hg.out; rwa [hkl] at this)
        clear hg hr2 hki hk hc hd hkl Hs
        go_enter Tryd.func31, Tryd.ntmps31
        go_wp2_with fail
        refine hg2.out.mono ?_
        rintro e w1 ⟨rfl, q, rfl⟩
        go_wp2
        go_ret
        exact hp.out q
      · have hp : Hid (∀ q, RdPost M p (.string ⟨n.toArray⟩) (l.drop k) false w (.returned (.string ⟨n.toArray⟩)) ((w.drewN q).setCell ⟨p, 0, none⟩ (.slice (some ⟨g, off + k, none⟩) (l.length - k) (c - k)))) := fun q =>
          hr2.out q _ (l.drop k) rfl (by rw [List.length_drop]; omega) (by have := Hs.out.behind k hk hc; rwa [← List.length_drop] at this ⊢) n
        go_enter Tryd.func31, Tryd.ntmps31
        go_wp2_with fail
        refine hg.out.mono ?_
        rintro e w1 ⟨rfl, q, rfl⟩
        go_wp2
        go_ret
        exact hp.out q
def byteS (l : List UInt8) (bad : Bool) : UInt8 × List UInt8 × Bool := if bad = true then (0, l, true) else match l with | [] => (0, [], true) | c :: r => (c, r, false)
set_option maxRecDepth 100000 in
set_option maxHeartbeats 600000 in
theorem byte_any (M : List Nat) (p : Nat) (l : List UInt8) (bad : Bool) (w : World) (h : RdAt w M p l bad) :
    Calls Tryd.prog 28 #[.pointer (some ⟨p, 0, none⟩)] w fun e w' => RdPost M p (bV (byteS l bad).1) (byteS l bad).2.1 (byteS l bad).2.2 w e w' := by
  obtain ⟨hl, v, hb, hs⟩ := id h
  obtain ⟨A, c, rfl, hc⟩ := hs.len
  have hr : Hid (RdPost M p (bV 0) l true w (.returned (.int .u8 0)) (w.setCell ⟨p, 1, none⟩ (.bool true))) :=
    ⟨rfl, h.setBad, (Keeps.refl _ _).setCell (by simp) _⟩
  have hr2 : Hid (∀ v' l', bad = false → l'.length ≤ l.length → Bs w (p :: M) v' l' → ∀ x, RdPost M p (bV x) l' false w (.returned (bV x)) (w.setCell ⟨p, 0, none⟩ v')) := fun v' l' hb0 hll hv x => by
    subst hb0
    exact ⟨rfl, h.setB hll hv, (Keeps.refl _ _).setCell (by simp) _⟩
  have Hs := Lib.hid hs
  have c0 : w.cell? ⟨p, 0, none⟩ = some (.slice A l.length c) := hb.cell 0
  have c1 : w.cell? ⟨p, 1, none⟩ = some (.bool bad) := hb.cell 1
  have f0 : w.frozen? ⟨p, 0, none⟩ = false := hb.frozen 0
  have f1 : w.frozen? ⟨p, 1, none⟩ = false := hb.frozen 1
  clear h hb hs
  cases bad with
  | true =>
    clear hr2
    show Calls _ _ _ _ fun e w' => RdPost M p (bV 0) l true w e w'
    go_enter Tryd.func28, Tryd.ntmps28
    go_wp2
    go_ret
    exact hr.out
  | false =>
    cases l with
    | nil =>
      clear hr2
      show Calls _ _ _ _ fun e w' => RdPost M p (bV 0) [] true w e w'
      rw [List.length_nil] at c0
      go_enter Tryd.func28, Tryd.ntmps28
      go_wp2
      go_ret
      exact hr.out
    | cons x r =>
      show Calls _ _ _ _ fun e w' => RdPost M p (bV x) r false w e w'
      obtain ⟨g, off, rfl⟩ := Hs.out.some_ (by simp)
      have hx : w.cell? ⟨g, off, none⟩ = some (.int .u8 x.toNat) := by
        obtain ⟨A', c', he, _, _, hr⟩ := Hs.out
        injection he with h1 h2 h3
        subst h1
        obtain ⟨g', off', e, _, _, hx⟩ := hr (by simp)
        injection e with e
        injection e with e1 e2 _
        subst e1 e2
        exact hx 0 _ rfl
      obtain ⟨n, hn⟩ : ∃ n, n = r.length := ⟨_, rfl⟩
      have hln : (x :: r).length = n + 1 := by rw [hn]; rfl
      rw [hln] at c0 hc
      have hbe := Lib.hid (Hs.out.behind 1 (by simp) (by rw [hln]; exact hc))
      have hnz : (((n + 1 : Nat) : Int) == 0) = false := by simp; omega
      clear hr
      by_cases hck : c = 1
      · subst hck
        obtain rfl : n = 0 := by omega
        obtain rfl : r = [] := List.length_eq_zero_iff.1 hn.symm
        have hp := Lib.hid (hr2.out (.slice (some ⟨g, off, none⟩) 0 0) [] rfl (by simp) ⟨_, 0, rfl, Nat.le_refl _, rfl, fun h => absurd h (by simp)⟩ x)
        unfold bV at hp
        clear hr2 hbe Hs hln hn
        go_enter Tryd.func28, Tryd.ntmps28
        go_wp2
        go_ret
        exact hp.out
      · have hp : Hid (RdPost M p (bV x) r false w (.returned (.int .u8 x.toNat)) (w.setCell ⟨p, 0, none⟩ (.slice (some ⟨g, off + 1, none⟩) n (c - 1)))) :=
          hr2.out _ r rfl (by simp) (by have := hbe.out; rw [hln, Nat.add_sub_cancel, hn] at this; rw [hn]; exact this) x
        have h1c : (1 : Int) ≤ ((n + 1 : Nat) : Int) := by omega
        have h2c : ((n + 1 : Nat) : Int) ≤ (c : Int) := by omega
        clear hr2 hbe Hs hln hn
        go_enter Tryd.func28, Tryd.ntmps28
        go_wp2
        go_ret
        exact hp.out
def intS (l : List UInt8) (bad : Bool) : Nat × List UInt8 × Bool := if 9223372036854775807 < (numS l bad).1 then (0, (numS l bad).2.1, true) else numS l bad
theorem numS_lt (l : List UInt8) (bad : Bool) : (numS l bad).1 < 18446744073709551616 := by
  have := (getL_le l).2
  unfold numS
  split
  · simp
  · simpa using this
theorem rint_any (M : List Nat) (p : Nat) (l : List UInt8) (bad : Bool) (w : World) (h : RdAt w M p l bad) :
    Calls Tryd.prog 30 #[.pointer (some ⟨p, 0, none⟩)] w fun e w' => RdPost M p (.int .i64 (intS l bad).1) (intS l bad).2.1 (intS l bad).2.2 w e w' := by
  have hN := Lib.hid (number_any M p l bad w h)
  have hlt := numS_lt l bad
  have HI : Hid (intS l bad = if 9223372036854775807 < (numS l bad).1 then (0, (numS l bad).2.1, true) else numS l bad) := rfl
  generalize numS l bad = r at *
  obtain ⟨n, l', b'⟩ := r
  simp only at hN hlt HI
  clear h
  by_cases hbig : 9223372036854775807 < n
  · have hR : Hid (intS l bad = (0, l', true)) := by show _ = _; rw [HI.out, if_pos hbig]
    rw [hR.out]
    have hbi : (9223372036854775807 : Int) < (n : Int) := by omega
    go_enter Tryd.func30, Tryd.ntmps30
    go_wp2_with fail
    refine hN.out.mono ?_
    rintro e w1 ⟨rfl, hA, hk⟩
    have hp : Hid (RdPost M p (.int .i64 0) l' true w (.returned (.int .i64 0)) (w1.setCell ⟨p, 1, none⟩ (.bool true))) := ⟨rfl, hA.setBad, hk.setCell (by simp) _⟩
    obtain ⟨_, v, hb, _⟩ := hA
    have c1 := hb.cell 1
    have f1 : w1.frozen? ⟨p, 1, none⟩ = false := hb.frozen 1
    simp only [List.getElem?_toArray, List.getElem?_cons_succ, List.getElem?_cons_zero] at c1
    clear hb hk
    go_wp2
    go_ret
    exact hp.out
  · have hR : Hid (intS l bad = (n, l', b')) := by show _ = _; rw [HI.out, if_neg hbig]
    rw [hR.out]
    have hbi : decide ((9223372036854775807 : Int) < (n : Int)) = false := decide_eq_false (by omega)
    go_enter Tryd.func30, Tryd.ntmps30
    go_wp2_with fail
    refine hN.out.mono ?_
    rintro e w1 ⟨rfl, hA, hk⟩
    have hp : Hid (RdPost M p (.int .i64 n) l' b' w (.returned (.int .i64 n)) w1) := ⟨rfl, hA, hk⟩
    clear hA hk
    go_wp2
    go_ret
    exact hp.out
def countS (l : List UInt8) (bad : Bool) (most : Nat) : Nat × List UInt8 × Bool := if most < (intS l bad).1 then (0, (intS l bad).2.1, true) else intS l bad
theorem intS_lt (l : List UInt8) (bad : Bool) : (intS l bad).1 ≤ 9223372036854775807 := by
  unfold intS
  split
  · simp
  · omega
theorem count_any (M : List Nat) (p : Nat) (l : List UInt8) (bad : Bool) (most : Nat) (hm : most ≤ 1000000) (w : World) (h : RdAt w M p l bad) :
    Calls Tryd.prog 29 #[.pointer (some ⟨p, 0, none⟩), .int .i64 most] w fun e w' => RdPost M p (.int .i64 (countS l bad most).1) (countS l bad most).2.1 (countS l bad most).2.2 w e w' := by
  have hN := Lib.hid (rint_any M p l bad w h)
  have hlt := intS_lt l bad
  have HI : Hid (countS l bad most = if most < (intS l bad).1 then (0, (intS l bad).2.1, true) else intS l bad) := rfl
  generalize intS l bad = r at *
  obtain ⟨n, l', b'⟩ := r
  simp only at hN hlt HI
  clear h
  by_cases hbig : most < n
  · have hR : Hid (countS l bad most = (0, l', true)) := by show _ = _; rw [HI.out, if_pos hbig]
    rw [hR.out]
    have hbi : (most : Int) < (n : Int) := by omega
    go_enter Tryd.func29, Tryd.ntmps29
    go_wp2_with fail
    refine hN.out.mono ?_
    rintro e w1 ⟨rfl, hA, hk⟩
    have hp : Hid (RdPost M p (.int .i64 0) l' true w (.returned (.int .i64 0)) (w1.setCell ⟨p, 1, none⟩ (.bool true))) := ⟨rfl, hA.setBad, hk.setCell (by simp) _⟩
    obtain ⟨_, v, hb, _⟩ := hA
    have c1 := hb.cell 1
    have f1 : w1.frozen? ⟨p, 1, none⟩ = false := hb.frozen 1
    simp only [List.getElem?_toArray, List.getElem?_cons_succ, List.getElem?_cons_zero] at c1
    clear hb hk
    go_wp2
    go_ret
    exact hp.out
  · have hR : Hid (countS l bad most = (n, l', b')) := by show _ = _; rw [HI.out, if_neg hbig]
    rw [hR.out]
    have hbi : decide ((most : Int) < (n : Int)) = false := decide_eq_false (by omega)
    go_enter Tryd.func29, Tryd.ntmps29
    go_wp2_with fail
    refine hN.out.mono ?_
    rintro e w1 ⟨rfl, hA, hk⟩
    have hp : Hid (RdPost M p (.int .i64 n) l' b' w (.returned (.int .i64 n)) w1) := ⟨rfl, hA, hk⟩
    clear hA hk
    go_wp2
    go_ret
    exact hp.out
end Go.Proofs.YtinnifhnabncfaaDoor.Vi
