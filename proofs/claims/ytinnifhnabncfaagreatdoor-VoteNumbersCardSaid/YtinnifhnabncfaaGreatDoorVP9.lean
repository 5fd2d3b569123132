/- Texts put together: Ref6, RefH, RefI, RefU, Wal1, Copies, Vote2. -/
import Derived.Deep.RegionHeld3
import Derived.Test.YtinnifhnabncfaaGreatDoorVP1
import Derived.Test.YtinnifhnabncfaaGreatDoorVP2
import Derived.Test.YtinnifhnabncfaaGreatDoorVP5
import Derived.Test.YtinnifhnabncfaaGreatDoorVP6
import Derived.Test.YtinnifhnabncfaaGreatDoorVP7
import Derived.Test.YtinnifhnabncfaaGreatDoorVP8
set_option linter.unusedVariables false
set_option linter.unusedSimpArgs false
section
namespace Go.Proofs.YtinnifhnabncfaaGreatDoor.Vi
open Go.RowKit Base Mem
set_option maxRecDepth 100000 in
set_option maxHeartbeats 600000 in
theorem rstr_any (M : List Nat) (p : Nat) (l : List UInt8) (bad : Bool) (w : World) (h : RRdAt w M p l bad) :
  Calls Tryz.prog 133 #[.pointer (some ⟨p, 0, none⟩)] w fun e w' => RRdPost M p (.string ⟨(textS l bad).1.toArray⟩) (textS l bad).2.1 (textS l bad).2.2 w e w' := by
 obtain ⟨hl, v, hb, hs⟩ := id h
 obtain ⟨A, c, rfl, hc⟩ := hs.len
 have hg := Lib.hid (rcut_any _ l w (hs.avoid (M' := []) (by simp)) hl)
 have hr : Hid (∀ (W : World) (hW : Below w.heap.size w W), RRdPost M p (.string ⟨#[]⟩) l true w (.returned (.string ⟨#[]⟩)) (W.setCell ⟨p, 1, none⟩ (.bool true))) := fun W hW =>
  ⟨rfl, (h.keep (M' := []) (Keeps.of_below hW) (by simp) (by simp)).setBad, (Keeps.of_below hW).setCell (by simp) _⟩
 have hr2 : Hid (∀ (W : World) (hW : Below w.heap.size w W) v' l', bad = false → l'.length ≤ l.length → Bs w (p :: M) v' l' → ∀ n : List UInt8, RRdPost M p (.string ⟨n.toArray⟩) l' false w (.returned (.string ⟨n.toArray⟩)) (W.setCell ⟨p, 0, none⟩ v')) := fun W hW v' l' hb0 hll hv n => by
  subst hb0
  exact ⟨rfl, (h.keep (M' := []) (Keeps.of_below hW) (by simp) (by simp)).setB hll (hv.keep (M' := []) (Keeps.of_below hW) (by simp)), (Keeps.of_below hW).setCell (by simp) _⟩
 have HN : Hid (textS l bad = if bad = true ∨ (cutL l).2 = 0 then ([], l, true) else ((cutL l).1, l.drop (cutL l).2, false)) := rfl
 have hk := cutL_le l
 have Hs := Lib.hid hs
 have HB := Lib.hid hb
 have c0 : w.cell? ⟨p, 0, none⟩ = some (.slice A l.length c) := hb.cell 0
 have c1 : w.cell? ⟨p, 1, none⟩ = some (.bool bad) := hb.cell 1
 have f0 : w.frozen? ⟨p, 0, none⟩ = false := hb.frozen 0
 have f1 : w.frozen? ⟨p, 1, none⟩ = false := hb.frozen 1
 clear h hb hs
 generalize (cutL l).1 = n at *
 generalize (cutL l).2 = k at *
 cases bad with
 | true =>
  have hR : Hid (textS l true = ([], l, true)) := by show _ = _; rw [HN.out]; simp
  rw [hR.out]
  clear HN hr2
  go_enter Tryz.func133, Tryz.ntmps133
  go_wp2_with fail
  refine hg.out.mono ?_
  rintro e w1 ⟨rfl, hb1⟩
  have HB1 := Lib.hid (HB.out.below hb1 HB.out.lt); have Hb1 := Lib.hid hb1
  have d0 := HB1.out.cell 0; have d1 := HB1.out.cell 1; have g0 := HB1.out.frozen 0; have g1 := HB1.out.frozen 1
  simp only [List.getElem?_toArray, List.getElem?_cons_zero, List.getElem?_cons_succ] at d0 d1
  try rw [HKL.out] at d0
  clear hb1
  go_wp2
  go_ret
  exact hr.out w1 Hb1.out
 | false =>
  by_cases hk0 : k = 0
  ·have hR : Hid (textS l false = ([], l, true)) := by show _ = _; rw [HN.out, if_pos (.inr hk0)]
   rw [hR.out]
   subst hk0
   clear HN hr2
   go_enter Tryz.func133, Tryz.ntmps133
   go_wp2_with fail
   refine hg.out.mono ?_
   rintro e w1 ⟨rfl, hb1⟩
   have HB1 := Lib.hid (HB.out.below hb1 HB.out.lt); have Hb1 := Lib.hid hb1
   have d0 := HB1.out.cell 0; have d1 := HB1.out.cell 1; have g0 := HB1.out.frozen 0; have g1 := HB1.out.frozen 1
   simp only [List.getElem?_toArray, List.getElem?_cons_zero, List.getElem?_cons_succ] at d0 d1
   try rw [HKL.out] at d0
   clear hb1
   go_wp2
   go_ret
   exact hr.out w1 Hb1.out
  ·have hR : Hid (textS l false = (n, l.drop k, false)) := by show _ = _; rw [HN.out, if_neg (by simp [hk0])]
   rw [hR.out]
   have hkz : ((k : Int) == 0) = false := by simpa using hk0
   have hki : (k : Int) ≤ (l.length : Int) := by omega
   obtain ⟨g, off, rfl⟩ := Hs.out.some_ (by omega)
   clear HN hr
   by_cases hck : c = k
   ·have hd : Hid (l.drop k = []) := List.drop_eq_nil_of_le (by omega)
    have hp : Hid (∀ (W : World) (hW : Below w.heap.size w W), RRdPost M p (.string ⟨n.toArray⟩) (l.drop k) false w (.returned (.string ⟨n.toArray⟩)) (W.setCell ⟨p, 0, none⟩ (.slice (some ⟨g, off, none⟩) 0 0))) := fun W hW => by
     rw [hd.out]
     exact hr2.out W hW _ [] rfl (by simp) ⟨_, 0, rfl, Nat.le_refl _, rfl, fun h => absurd h (by simp)⟩ n
    have hkl : l.length = k := by omega
    subst hck
    rw [hkl] at c0
    have HKL := Lib.hid hkl
    have hg2 := Lib.hid (show Calls Tryz.prog 178 #[.slice (some ⟨g, off, none⟩) c c] w fun e w' => e = .returned (.tuple #[.string ⟨n.toArray⟩, .int .i64 c]) ∧ Below w.heap.size w w' by have := hg.out; rwa [hkl] at this)
    clear hg hr2 hki hk hc hd hkl Hs
    go_enter Tryz.func133, Tryz.ntmps133
    go_wp2_with fail
    refine hg2.out.mono ?_
    rintro e w1 ⟨rfl, hb1⟩
    have HB1 := Lib.hid (HB.out.below hb1 HB.out.lt); have Hb1 := Lib.hid hb1
    have d0 := HB1.out.cell 0; have d1 := HB1.out.cell 1; have g0 := HB1.out.frozen 0; have g1 := HB1.out.frozen 1
    simp only [List.getElem?_toArray, List.getElem?_cons_zero, List.getElem?_cons_succ] at d0 d1
    try rw [HKL.out] at d0
    clear hb1
    go_wp2
    go_ret
    exact hp.out w1 Hb1.out
   ·have hp : Hid (∀ (W : World) (hW : Below w.heap.size w W), RRdPost M p (.string ⟨n.toArray⟩) (l.drop k) false w (.returned (.string ⟨n.toArray⟩)) (W.setCell ⟨p, 0, none⟩ (.slice (some ⟨g, off + k, none⟩) (l.length - k) (c - k)))) := fun W hW =>
     hr2.out W hW _ (l.drop k) rfl (by rw [List.length_drop]; omega) (by have := Hs.out.behind k hk hc; rwa [← List.length_drop] at this ⊢) n
    go_enter Tryz.func133, Tryz.ntmps133
    go_wp2_with fail
    refine hg.out.mono ?_
    rintro e w1 ⟨rfl, hb1⟩
    have HB1 := Lib.hid (HB.out.below hb1 HB.out.lt); have Hb1 := Lib.hid hb1
    have d0 := HB1.out.cell 0; have d1 := HB1.out.cell 1; have g0 := HB1.out.frozen 0; have g1 := HB1.out.frozen 1
    simp only [List.getElem?_toArray, List.getElem?_cons_zero, List.getElem?_cons_succ] at d0 d1
    try rw [HKL.out] at d0
    clear hb1
    go_wp2
    go_ret
    exact hp.out w1 Hb1.out
set_option maxRecDepth 100000 in
set_option maxHeartbeats 600000 in
theorem rbyte_any (M : List Nat) (p : Nat) (l : List UInt8) (bad : Bool) (w : World) (h : RRdAt w M p l bad) :
  Calls Tryz.prog 131 #[.pointer (some ⟨p, 0, none⟩)] w fun e w' => RRdPost M p (.int .i64 (byteS l bad).1.toNat) (byteS l bad).2.1 (byteS l bad).2.2 w e w' := by
 obtain ⟨hl, v, hb, hs⟩ := id h
 obtain ⟨A, c, rfl, hc⟩ := hs.len
 have hr : Hid (RRdPost M p ((.int .i64 0)) l true w (.returned (.int .i64 0)) (w.setCell ⟨p, 1, none⟩ (.bool true))) :=
  ⟨rfl, h.setBad, (Keeps.refl _ _).setCell (by simp) _⟩
 have hr2 : Hid (∀ v' l', bad = false → l'.length ≤ l.length → Bs w (p :: M) v' l' → ∀ x : UInt8, RRdPost M p (.int .i64 x.toNat) l' false w (.returned (.int .i64 x.toNat)) (w.setCell ⟨p, 0, none⟩ v')) := fun v' l' hb0 hll hv x => by
  subst hb0
  exact ⟨rfl, h.setB hll hv, (Keeps.refl _ _).setCell (by simp) _⟩
 have Hs := Lib.hid hs
 have c0 : w.cell? ⟨p, 0, none⟩ = some (.slice A l.length c) := hb.cell 0
 have c1 : w.cell? ⟨p, 1, none⟩ = some (.bool bad) := hb.cell 1
 have f0 : w.frozen? ⟨p, 0, none⟩ = false := hb.frozen 0
 have f1 : w.frozen? ⟨p, 1, none⟩ = false := hb.frozen 1
 clear h hb hs
 cases bad with
 | true =>
  clear hr2
  show Calls _ _ _ _ fun e w' => RRdPost M p ((.int .i64 0)) l true w e w'
  go_enter Tryz.func131, Tryz.ntmps131
  go_wp2
  go_ret
  exact hr.out
 | false =>
  cases l with
  | nil =>
   clear hr2
   show Calls _ _ _ _ fun e w' => RRdPost M p ((.int .i64 0)) [] true w e w'
   rw [List.length_nil] at c0
   go_enter Tryz.func131, Tryz.ntmps131
   go_wp2
   go_ret
   exact hr.out
  | cons x r =>
   show Calls _ _ _ _ fun e w' => RRdPost M p (.int .i64 x.toNat) r false w e w'
   obtain ⟨g, off, rfl⟩ := Hs.out.some_ (by simp)
   have hx : w.cell? ⟨g, off, none⟩ = some (.int .u8 x.toNat) := by
    obtain ⟨A', c', he, _, _, hr⟩ := Hs.out
    injection he with h1 h2 h3
    subst h1
    obtain ⟨g', off', e, _, _, hx⟩ := hr (by simp)
    injection e with e
    injection e with e1 e2 _
    subst e1 e2
    exact hx 0 _ rfl
   obtain ⟨n, hn⟩ : ∃ n, n = r.length := ⟨_, rfl⟩
   have hln : (x :: r).length = n + 1 := by rw [hn]; rfl
   rw [hln] at c0 hc
   have hbe := Lib.hid (Hs.out.behind 1 (by simp) (by rw [hln]; exact hc))
   have hnz : (((n + 1 : Nat) : Int) == 0) = false := by simp; omega
   have hcvx : IntKind.i64.wrap (x.toNat : Int) = (x.toNat : Int) := by have := x.toNat_lt; rw [IntKind.wrap_i64]; omega
   clear hr
   by_cases hck : c = 1
   ·subst hck
    obtain rfl : n = 0 := by omega
    obtain rfl : r = [] := List.length_eq_zero_iff.1 hn.symm
    have hp := Lib.hid (hr2.out (.slice (some ⟨g, off, none⟩) 0 0) [] rfl (by simp) ⟨_, 0, rfl, Nat.le_refl _, rfl, fun h => absurd h (by simp)⟩ x)
    clear hr2 hbe Hs hln hn
    go_enter Tryz.func131, Tryz.ntmps131
    go_wp2
    go_ret
    exact hp.out
   ·have hp : Hid (RRdPost M p (.int .i64 x.toNat) r false w (.returned (.int .i64 x.toNat)) (w.setCell ⟨p, 0, none⟩ (.slice (some ⟨g, off + 1, none⟩) n (c - 1)))) :=
     hr2.out _ r rfl (by simp) (by have := hbe.out; rw [hln, Nat.add_sub_cancel, hn] at this; rw [hn]; exact this) x
    have h1c : (1 : Int) ≤ ((n + 1 : Nat) : Int) := by omega
    have h2c : ((n + 1 : Nat) : Int) ≤ (c : Int) := by omega
    clear hr2 hbe Hs hln hn
    go_enter Tryz.func131, Tryz.ntmps131
    go_wp2
    go_ret
    exact hp.out
theorem rrint_any (M : List Nat) (p : Nat) (l : List UInt8) (bad : Bool) (w : World) (h : RRdAt w M p l bad) :
  Calls Tryz.prog 132 #[.pointer (some ⟨p, 0, none⟩)] w fun e w' => RRdPost M p (.int .i64 (intS l bad).1) (intS l bad).2.1 (intS l bad).2.2 w e w' := by
 have hN := Lib.hid (rnum_any M p l bad w h)
 have hlt := numS_lt l bad
 have HI : Hid (intS l bad = if 9223372036854775807 < (numS l bad).1 then (0, (numS l bad).2.1, true) else numS l bad) := rfl
 generalize numS l bad = r at *
 obtain ⟨n, l', b'⟩ := r
 simp only at hN hlt HI
 clear h
 by_cases hbig : 9223372036854775807 < n
 ·have hR : Hid (intS l bad = (0, l', true)) := by show _ = _; rw [HI.out, if_pos hbig]
  rw [hR.out]
  have hbi : (9223372036854775807 : Int) < (n : Int) := by omega
  go_enter Tryz.func132, Tryz.ntmps132
  go_wp2_with fail
  refine hN.out.mono ?_
  rintro e w1 ⟨rfl, hA, hk⟩
  have hp : Hid (RRdPost M p (.int .i64 0) l' true w (.returned (.int .i64 0)) (w1.setCell ⟨p, 1, none⟩ (.bool true))) := ⟨rfl, hA.setBad, hk.setCell (by simp) _⟩
  obtain ⟨_, v, hb, _⟩ := hA
  have c1 := hb.cell 1
  have f1 : w1.frozen? ⟨p, 1, none⟩ = false := hb.frozen 1
  simp only [List.getElem?_toArray, List.getElem?_cons_succ, List.getElem?_cons_zero] at c1
  clear hb hk
  go_wp2
  go_ret
  exact hp.out
 ·have hR : Hid (intS l bad = (n, l', b')) := by show _ = _; rw [HI.out, if_neg hbig]
  rw [hR.out]
  have hbi : decide ((9223372036854775807 : Int) < (n : Int)) = false := decide_eq_false (by omega)
  go_enter Tryz.func132, Tryz.ntmps132
  go_wp2_with fail
  refine hN.out.mono ?_
  rintro e w1 ⟨rfl, hA, hk⟩
  have hp : Hid (RRdPost M p (.int .i64 n) l' b' w (.returned (.int .i64 n)) w1) := ⟨rfl, hA, hk⟩
  clear hA hk
  go_wp2
  go_ret
  exact hp.out
end Go.Proofs.YtinnifhnabncfaaGreatDoor.Vi
end
section
namespace Go.Proofs.YtinnifhnabncfaaGreatDoor.Vi
open Go.RowKit Base Mem Go.Shelf
theorem text_less {l : List UInt8} (h : (textS l false).2.2 = false) : (textS l false).2.1.length < l.length := by
 unfold textS at h ⊢
 by_cases hc : (cutL l).2 = 0
 ·rw [if_pos (.inr hc)] at h; cases h
 ·rw [if_neg (by simp [hc])]
  have h1 := (getL_le l).1
  simp only [List.length_drop]
  have h2 : 0 < l.length := by
   rcases Nat.eq_zero_or_pos l.length with hz | hz
   ·exfalso
    apply hc
    unfold cutL
    rw [if_pos (.inl (by omega))]
   ·exact hz
  omega
theorem rreadDs_short : ∀ (n : Nat) (l : List UInt8) (b : Bool), (rreadDs n l b).1.length ≤ l.length + 1 ∧ ∀ d ∈ (rreadDs n l b).1, d.ser.size ≤ l.length
 | 0, l, b => by simp [rreadDs]
 | n + 1, l, b => by
  cases b with
  | true => rw [rreadDs_bad]; simp
  | false =>
   rw [rreadDs, if_neg (by simp)]
   have h1 := textS_len l false
   have h2 := numS_len (textS l false).2.1 (textS l false).2.2
   obtain ⟨h3, h4⟩ := rreadDs_short n (numS (textS l false).2.1 (textS l false).2.2).2.1 (numS (textS l false).2.1 (textS l false).2.2).2.2
   simp only []
   refine ⟨?_, ?_⟩
   ·rw [List.length_cons]
    cases ht : (textS l false).2.2 with
    | true =>
     rw [num_bad, rreadDs_bad]
     simp
    | false =>
     have := text_less ht
     rw [ht] at h3 h2
     omega
   ·intro d hd
    rcases List.mem_cons.1 hd with rfl | hd
    ·have h5 : (textS l false).1.length ≤ l.length := by first | exact h1.1 | exact h1.2 | omega
     simp only []
     exact h5
    ·have := h4 d hd
     omega
def RDsPost (M : List Nat) (p : Nat) (R : List DeltaD × List UInt8 × Bool) (w : World) (e : Ending) (w' : World) : Prop := ∃ v, e = .returned v ∧ w'.ownsRow w.heap.size 86 2 v R.1.length (dCells R.1) ∧ RRdAt w' M p R.2.1 R.2.2 ∧ Keeps [p] w w'
set_option maxRecDepth 100000 in
set_option maxHeartbeats 2000000 in
theorem rreadDs_any (M : List Nat) (p : Nat) (l : List UInt8) (b : Bool) (w : World) (h : RRdAt w M p l b) (hL : l.length < 4294967281) :
  Calls Tryz.prog 134 #[.pointer (some ⟨p, 0, none⟩)] w fun e w' => RDsPost M p (rreadDs (numS l b).1 (numS l b).2.1 (numS l b).2.2) w e w' := by
 have hp0 := h.lt
 obtain ⟨i0, hi0, hz0, hz1, hz2⟩ := info_parts infoDelta2
 have Hi0 := Lib.hid hi0; have Hz0 := Lib.hid hz0; have Hz1 := Lib.hid hz1; have Hz2 := Lib.hid hz2
 have hn := Lib.hid (rnum_any M p l b w h)
 have hnl := numS_len l b
 have hnt := numS_lt l b
 clear h hi0 hz0 hz1 hz2
 generalize numS l b = N at *
 obtain ⟨n0, l0, b0⟩ := N
 simp only [] at hn hnl hnt ⊢
 have hL0 : l0.length < 4294967281 := by first | omega | (have := hnl.2; omega) | (have := hnl.1; omega)
 clear hnl
 obtain ⟨R, hR⟩ : ∃ R, R = rreadDs n0 l0 b0 := ⟨_, rfl⟩
 rw [← hR]
 have HR0 := Lib.hid hR
 clear hR
 go_enter Tryz.func134, Tryz.ntmps134
 go_wp2_with fail
 refine hn.out.mono ?_
 rintro e w1 ⟨rfl, hA1, hk1⟩
 have HA1 := Lib.hid hA1; have Hk1 := Lib.hid hk1
 have hp1 : p < w1.heap.size := hA1.lt
 clear hA1 hk1 hn
 go_wp2_with fail
 go_loopw [3, 4] (fun out n wr => ∃ (k : Nat) (acc : List DeltaD) (lx : List UInt8) (bx : Bool), n = .int .u64 k ∧ k < 18446744073709551616 ∧ Hid (R = (acc ++ (rreadDs k lx bx).1, (rreadDs k lx bx).2)) ∧ Hid (acc.length ≤ l0.length + 1 ∧ (bx = false → acc.length + lx.length ≤ l0.length)) ∧ Hid (wr.ownsRow w1.heap.size 86 2 out acc.length (dCells acc)) ∧ Hid (RRdAt wr (out.ownBlock.toList ++ M) p lx bx) ∧ Hid (Keeps [p] w1 wr)) (fun _ n _ => (intOf n).toNat)
 case atStart => exact ⟨n0, [], l0, b0, rfl, hnt, HR0, (show _ ∧ _ from ⟨by simp, fun _ => by simp⟩), World.ownsRow_nil _ _ _ _, (show RRdAt w1 _ p l0 b0 from HA1.out), Keeps.refl _ _⟩
 case round =>
  obtain ⟨k, acc, lx, bx, rfl, hk, Hg, Hc, Hown, HR, Hk⟩ := hrel
  have hfell : wr.cell? ⟨p, 1, none⟩ = some (.bool bx) := by
   obtain ⟨_, v, hb, _⟩ := HR.out
   exact hb.cell 1
  rcases Nat.eq_zero_or_pos k with hk0 | hk0
  ·obtain rfl : k = 0 := hk0
   have hP : Hid (RDsPost M p R w (.returned u3) wr) := by
    have := Hg.out
    simp only [rreadDs, List.append_nil] at this
    rw [this]
    exact ⟨u3, rfl, own_more Hown.out Hk1.out.size, HR.out.avoid (fun g hg => .inl (List.mem_append_right _ hg)), Hk1.out.trans Hk.out (by simp)⟩
   go_wp2
   go_ret
   exact hP.out
  ·obtain ⟨j, rfl⟩ : ∃ j, k = j + 1 := ⟨k - 1, by omega⟩
   have hkp : (0 : Int) < (j : Int) + 1 := by omega
   cases bx with
   | true =>
    have hP : Hid (RDsPost M p R w (.returned u3) wr) := by
     have := Hg.out
     rw [rreadDs_bad] at this
     simp only [List.append_nil] at this
     rw [this]
     exact ⟨u3, rfl, own_more Hown.out Hk1.out.size, HR.out.avoid (fun g hg => .inl (List.mem_append_right _ hg)), Hk1.out.trans Hk.out (by simp)⟩
    go_wp2
    go_ret
    exact hP.out
   | false =>
    have hwj : IntKind.u64.wrap (j : Int) = (j : Int) := by rw [IntKind.wrap_u64]; omega
    have hwj2 : IntKind.u64.wrap ((j : Int) + 1 - 1) = (j : Int) := by rw [IntKind.wrap_u64]; omega
    have hjj : (j : Int) + 1 - 1 = (j : Int) := by omega
    have Hst : Hid (rreadDs (j + 1) lx false = (⟨⟨(textS lx false).1.toArray⟩, (numS (textS lx false).2.1 (textS lx false).2.2).1⟩ :: (rreadDs j (numS (textS lx false).2.1 (textS lx false).2.2).2.1 (numS (textS lx false).2.1 (textS lx false).2.2).2.2).1, (rreadDs j (numS (textS lx false).2.1 (textS lx false).2.2).2.1 (numS (textS lx false).2.1 (textS lx false).2.2).2.2).2)) := by
     show _ = _
     rw [rreadDs, if_neg (by simp)]
    have ht := Lib.hid (rstr_any (u3.ownBlock.toList ++ M) p lx false wr HR.out)
    have htl := Lib.hid (fun h => text_less (l := lx) h)
    generalize textS lx false = t at *
    obtain ⟨t1, t2, t3⟩ := t
    simp only [] at ht Hst htl
    go_wp2_with fail
    refine ht.out.mono ?_
    rintro e w3 ⟨rfl, hA3, hk3⟩
    have hu := Lib.hid (rnum_any (u3.ownBlock.toList ++ M) p t2 t3 w3 hA3)
    have hul := Lib.hid (numS_len t2 t3)
    have hub := Lib.hid (fun (h : (numS t2 t3).2.2 = false) => num_ok h)
    have Hk3 := Lib.hid hk3
    generalize numS t2 t3 = u at *
    obtain ⟨u1, u2', u3'⟩ := u
    simp only [] at hu Hst hul hub
    clear hA3 hk3 ht
    go_wp2_with fail
    refine hu.out.mono ?_
    rintro e w4 ⟨rfl, hA4, hk4⟩
    have HA4 := Lib.hid hA4
    have Hk4 : Hid (Keeps [p] wr w4) := Hk3.out.trans hk4 (by simp)
    clear hA4 hk4 hu
    have hown4 := own_keep Hown.out Hk4.out (by simp; exact hp1)
    have Hown5 := Lib.hid (hown4.alloc (.cells #[.string ⟨t1.toArray⟩, .int .u64 u1] 86))
    have hlt0 := Lib.hid Hown.out.lt
    have hz4 : w1.heap.size ≤ w4.heap.size := Nat.le_trans Hk.out.size Hk4.out.size
    have hac : acc.length ≤ 4294967281 := by have := Hc.out.2 (by first | rfl | trivial); omega
    clear hown4
    go_wp2_with (at_builtin; refine wpList_append_any _ rfl (.tmp 21) (.tmp 26) _ rfl w1.heap.size 86 i0 _ 2 24 Tryz.underlying24 Hi0.out Hz0.out Hz1.out Hz2.out rfl (by omega) u3 acc.length (dCells acc) rfl Hown5.out (w4.heap.size + 1) (some ⟨w4.heap.size, 0, none⟩) 1 1 (dCell ⟨⟨t1.toArray⟩, u1⟩) rfl (reads_new _ _ _ _ _ rfl) (by intro u hu; simp [dCell] at hu; rcases hu with rfl | rfl <;> rfl) (by unfold maxLen; omega) (by omega) (by simp; omega) ?_)
    intro v6 w6 hown6 hg6 hat6
    have hpo : p ∉ u3.ownBlock.toList := fun hm => by have := (hlt0.out p (by simpa using hm)).1; omega
    have kg : Keeps u3.ownBlock.toList (w4.alloc (.cells #[.string ⟨t1.toArray⟩, .int .u64 u1] 86)) w6 := (Keeps.refl _ _).grown hg6 (fun g hg => .inl (by simpa using hg))
    have h1 := HA4.out.keep (M' := []) ((Keeps.refl _ _).alloc (.cells #[.string ⟨t1.toArray⟩, .int .u64 u1] 86)) (by simp) (by simp)
    have h2 := h1.avoid (M' := v6.ownBlock.toList ++ (u3.ownBlock.toList ++ M)) (fun g hg => by
     rcases List.mem_append.1 hg with h | h
     ·rcases hat6 with h5 | h5
      ·exact .inl (List.mem_append_left _ (by rw [h5] at h; exact h))
      ·rw [h5] at h; simp at h; exact .inr (by simp; omega)
     ·exact .inl h)
    have H6 := Lib.hid ((h2.keep kg (fun g hg => .inl (List.mem_append_right _ (List.mem_append_left _ hg))) hpo).avoid (M' := v6.ownBlock.toList ++ M) (fun g hg => by
     rcases List.mem_append.1 hg with h | h
     ·exact .inl (List.mem_append_left _ h)
     ·exact .inl (List.mem_append_right _ (List.mem_append_right _ h))))
    have Hk6 : Hid (Keeps [p] w1 w6) := ((Hk.out.trans Hk4.out (by simp)).alloc _).grown hg6 (fun g hg => .inr (hlt0.out g hg).1)
    have Hown6 : Hid (w6.ownsRow w1.heap.size 86 2 v6 (acc ++ [(⟨⟨t1.toArray⟩, u1⟩ : DeltaD)]).length (dCells (acc ++ [⟨⟨t1.toArray⟩, u1⟩]))) := by
     show World.ownsRow _ _ _ _ _ _ _
     unfold dCells at hown6 ⊢
     rw [List.flatMap_append, List.length_append]
     simpa using hown6
    have Hg6 : Hid (R = ((acc ++ [⟨⟨t1.toArray⟩, u1⟩]) ++ (rreadDs j u2' u3').1, (rreadDs j u2' u3').2)) := by
     show _ = _
     rw [Hg.out, Hst.out]; simp
    have Hc6 : Hid ((acc ++ [(⟨⟨t1.toArray⟩, u1⟩ : DeltaD)]).length ≤ l0.length + 1 ∧ (u3' = false → (acc ++ [(⟨⟨t1.toArray⟩, u1⟩ : DeltaD)]).length + u2'.length ≤ l0.length)) := by
     show _ ∧ _
     have h3 := Hc.out.2 (by first | rfl | trivial)
     have h4 := hul.out
     rw [List.length_append, List.length_singleton]
     refine ⟨by omega, fun h => ?_⟩
     have h5 := htl.out (hub.out h)
     omega
    clear hown6 hg6 hat6 kg h1 h2 hpo htl hul hub
    go_wp2
    go_roundw
    case rel => exact ⟨j, acc ++ [⟨⟨t1.toArray⟩, u1⟩], u2', u3', rfl, by omega, Hg6, Hc6, Hown6, H6, Hk6⟩
    case measure => simp [intOf] <;> omega
structure ReR (w0 w : World) (p g0 g5 : Nat) (l : List UInt8) (bad : Bool) (c : Array Value) : Prop where
 rd : RRdAt w [g5] p l bad
 keeps : Below w0.heap.size w0 w
 b0 : Blk w g0 26 zeroA
 b5 : Blk w g5 26 c
 o0 : w0.heap.size ≤ g0
 o1 : g0 < p
 o2 : p < g5
theorem ReR.step {w0 w w' : World} {p g0 g5 : Nat} {l l' : List UInt8} {bad bad' : Bool} {c : Array Value} (h : ReR w0 w p g0 g5 l bad c) (hr : RRdAt w' [g5] p l' bad') (hk : Keeps [p] w w') : ReR w0 w' p g0 g5 l' bad' c := by
 have h0 := h.o0; have h1 := h.o1; have h2 := h.o2
 exact ⟨hr, ((Keeps.of_below (M := []) h.keeps).trans hk (by intro g hg; simp at hg; right; omega)).below, hk.blk h.b0 (by simp; omega), hk.blk h.b5 (by simp; omega), h0, h1, h2⟩
theorem ReR.set {w0 w : World} {p g0 g5 : Nat} {l : List UInt8} {bad : Bool} {c : Array Value} (h : ReR w0 w p g0 g5 l bad c) (i : Nat) (v : Value) : ReR w0 (w.setCell ⟨g5, i, none⟩ v) p g0 g5 l bad (c.setIfInBounds i v) := by
 have h0 := h.o0; have h1 := h.o1; have h2 := h.o2
 have hk : Keeps [g5] w (w.setCell ⟨g5, i, none⟩ v) := (Keeps.refl _ _).setCell (by simp) v
 exact ⟨h.rd.keep hk (by simp) (by simp; omega), ((Keeps.of_below (M := []) h.keeps).trans hk (by intro g hg; simp at hg; right; omega)).below, hk.blk h.b0 (by simp; omega), h.b5.set_ i v, h0, h1, h2⟩
def ReRCut (w wx : World) (p g5 : Nat) (RH : EntryD × List UInt8 × Bool) : Prop := ∃ dv, ReR w wx p w.heap.size g5 RH.2.1 RH.2.2 (eCell (RH.1, dv)).toArray ∧ ∀ M, (∀ g ∈ M, g ≤ w.heap.size) → Ds wx M dv RH.1.ds
theorem rreadX_two (fr tag : Nat) (l : List UInt8) (b : Bool) : rreadX 2 fr tag l b = (⟨(2 : Nat), 0, 0, 0, 0, [], ⟨(textS l b).1.toArray⟩, fr, tag⟩, (textS l b).2) := rfl
theorem rreadX_one (fr tag : Nat) (l : List UInt8) (b : Bool) : ∃ a s q p d, a = intS l b ∧ s = intS a.2.1 a.2.2 ∧ q = intS s.2.1 s.2.2 ∧ p = intS q.2.1 q.2.2 ∧ d = rreadDs (numS p.2.1 p.2.2).1 (numS p.2.1 p.2.2).2.1 (numS p.2.1 p.2.2).2.2 ∧ rreadX 1 fr tag l b = (⟨(1 : Nat), a.1, s.1, q.1, p.1, d.1, ⟨#[]⟩, fr, tag⟩, d.2) := ⟨_, _, _, _, _, rfl, rfl, rfl, rfl, rfl, rfl⟩
theorem rreadX_no {k : Nat} (fr tag : Nat) (l : List UInt8) (b : Bool) (h2 : k ≠ 2) (h1 : k ≠ 1) : rreadX k fr tag l b = (⟨k, 0, 0, 0, 0, [], ⟨#[]⟩, fr, tag⟩, l, b) := by
 unfold rreadX; rw [if_neg h2, if_neg h1]
theorem rreadX_short (k fr tag : Nat) (l : List UInt8) (b : Bool) (h : l.length < 4294967281) : Short (rreadX k fr tag l b).1 := by
 by_cases h2 : k = 2
 ·subst h2
  rw [rreadX_two]
  refine ⟨?_, by simp, by simp⟩
  have := (textS_len l b).2
  show (textS l b).1.length < _
  omega
 ·by_cases h1 : k = 1
  ·subst h1
   obtain ⟨a, s, q, p, d, ha, hs, hq, hp, hd, e⟩ := rreadX_one fr tag l b
   rw [e]
   have e1 := intS_len l b
   have e2 := intS_len a.2.1 a.2.2
   have e3 := intS_len s.2.1 s.2.2
   have e4 := intS_len q.2.1 q.2.2
   have e5 := numS_len p.2.1 p.2.2
   obtain ⟨e6, e7⟩ := rreadDs_short (numS p.2.1 p.2.2).1 (numS p.2.1 p.2.2).2.1 (numS p.2.1 p.2.2).2.2
   rw [← ha] at e1; rw [← hs] at e2; rw [← hq] at e3; rw [← hp] at e4; rw [← hd] at e6 e7
   refine ⟨by show (0 : Nat) < _; omega, fun x hx => ?_, ?_⟩
   ·have := e7 x hx; omega
   ·show d.1.length ≤ _; omega
  ·rw [rreadX_no fr tag l b h2 h1]
   exact ⟨by show (0 : Nat) < _; omega, by simp, by simp⟩
theorem rreadH_short (l : List UInt8) (h : l.length < 4294967281) : Short (rreadH l).1 := by
 have e1 := byteS_len l false
 have e2 := intS_len (byteS l false).2.1 (byteS l false).2.2
 have e3 := intS_len (intS (byteS l false).2.1 (byteS l false).2.2).2.1 (intS (byteS l false).2.1 (byteS l false).2.2).2.2
 unfold rreadH
 exact rreadX_short _ _ _ _ _ (by omega)
set_option maxRecDepth 100000 in
set_option maxHeartbeats 4000000 in
theorem rreadE_any (v : Value) (l : List UInt8) (w : World) (h : Bs w [] v l) (hl : l.length < 4294967281) :
  Calls Tryz.prog 71 #[v] w fun e w' => ReadPost (rreadE l) w e w' := by
 have hsh := Lib.hid (rreadH_short l hl)
 have HE : Hid (rreadE l = if (!(rreadH l).2.2 && (rreadH l).2.1.isEmpty) = true ∧ rightE (rreadH l).1 = 0 then ((rreadH l).1, 0) else (zeroD, 12)) := rfl
 obtain ⟨kt, ft, tt, hk, hf, ht, hH⟩ : ∃ k f t, k = byteS l false ∧ f = intS k.2.1 k.2.2 ∧ t = intS f.2.1 f.2.2 ∧ rreadH l = rreadX k.1.toNat f.1 t.1 t.2.1 t.2.2 := ⟨_, _, _, rfl, rfl, rfl, rfl⟩
 have hlt : tt.2.1.length < 4294967281 := by
  have e1 := byteS_len l false
  have e2 := intS_len kt.2.1 kt.2.2
  have e3 := intS_len ft.2.1 ft.2.2
  rw [← hk] at e1; rw [← hf] at e2; rw [← ht] at e3
  omega
 generalize rreadE l = RE at *
 generalize rreadH l = RH at *
 obtain ⟨A, c, rfl, hc⟩ := h.len
 have Hh := Lib.hid h
 have Hk := Lib.hid hk; have Hf := Lib.hid hf; have Ht := Lib.hid ht; have HH := Lib.hid hH
 clear h hk hf ht hH
 go_enter Tryz.func71, Tryz.ntmps71
 go_upto_region 2 with (fail)
 have hB0 : Blk ((w.alloc (.cells zeroA 26)).alloc (.cells #[.slice A l.length c, .bool false] 175)) w.heap.size 26 zeroA := (Blk.new w 26 zeroA).below (B := w.heap.size + 1) (((Below.refl _ _)).alloc (by simp) _) (by omega)
 have hrd : RRdAt ((w.alloc (.cells zeroA 26)).alloc (.cells #[.slice A l.length c, .bool false] 175)) [] (w.heap.size + 1) l false := by
  refine ⟨by omega, .slice A l.length c, ?_, ?_⟩
  ·have := Blk.new (w.alloc (.cells zeroA 26)) 175 #[.slice A l.length c, .bool false]
   rwa [World.size_alloc] at this
  ·exact (Hh.out.avoid (M' := [w.heap.size + 1]) (by intro g hg; simp at hg; right; omega)).keep (M' := []) (((Keeps.refl _ _).alloc _).alloc _) (by simp)
 have hbw : Below w.heap.size w ((w.alloc (.cells zeroA 26)).alloc (.cells #[.slice A l.length c, .bool false] 175)) := ((Below.refl _ _).alloc (Nat.le_refl _) _).alloc (by simp) _
 unfold zeroA at hB0 hrd hbw
 generalize hw1 : (w.alloc _).alloc _ = w1 at *
 clear hw1
 obtain ⟨p, hp⟩ : ∃ p, p = w.heap.size + 1 := ⟨_, rfl⟩
 rw [← hp] at hrd ⊢
 have Hrd := Lib.hid hrd; have HB0 : Hid (Blk w1 w.heap.size 26 zeroA) := hB0; have Hbw := Lib.hid hbw
 have hpw : w.heap.size < p := by omega
 have hpw1 : p < w1.heap.size := hrd.lt
 clear hrd hB0 hbw hp
 go_wp2_with fail
 have hby := Lib.hid (rbyte_any [] p l false w1 Hrd.out)
 rw [← Hk.out] at hby
 obtain ⟨k1, k2, k3⟩ := kt
 simp only [] at hby Hf HH
 refine hby.out.mono ?_
 rintro e w2 ⟨rfl, hrd2, hk2⟩
 have HB2 := Lib.hid (hk2.blk HB0.out (by simp; omega))
 have Hbw2 := Lib.hid ((Keeps.of_below (M := []) Hbw.out).trans hk2 (by intro g hg; simp at hg; right; omega)).below
 have Hrd2 := Lib.hid hrd2
 have hp2 : p < w2.heap.size := hrd2.lt
 generalize k1.toNat = k at *
 clear hrd2 hk2 hby Hbw HB0 Hrd Hk
 go_wp2_with fail
 have hst : ReR w (w2.alloc (.cells #[.int .i64 k, .int .i64 0, .int .i64 0, .int .i64 0, .int .i64 0, .slice none 0 0, .string ⟨#[]⟩, .int .i64 0, .int .i64 0] 26)) p w.heap.size w2.heap.size k2 k3 #[.int .i64 k, .int .i64 0, .int .i64 0, .int .i64 0, .int .i64 0, .slice none 0 0, .string ⟨#[]⟩, .int .i64 0, .int .i64 0] :=
  ⟨(Hrd2.out.avoid (M' := [w2.heap.size]) (by intro g hg; simp at hg; right; omega)).keep (M' := []) ((Keeps.refl _ _).alloc _) (by simp) (by simp), Hbw2.out.alloc (by omega) _, HB2.out.below (below_new' w2 _) (by omega), Blk.new w2 _ _, Nat.le_refl _, hpw, hp2⟩
 have H3 := Lib.hid hst
 clear hst HB2 Hbw2 Hrd2
 generalize hw3 : w2.alloc _ = w3 at *
 generalize w2.heap.size = g5 at *
 clear hw3
 have hct := Lib.hid (rrint_any [g5] p k2 k3 w3 H3.out.rd)
 rw [← Hf.out] at hct
 obtain ⟨f1, f2, f3⟩ := ft
 simp only [] at hct Ht HH
 refine hct.out.mono ?_
 rintro e wz1 ⟨rfl, hA, hk⟩
 have Hz1 := Lib.hid (H3.out.step hA hk)
 clear hA hk H3 hct Hf
 obtain ⟨q0, q1, q2, q3, q4, q5, q6, q7, q8, qf⟩ := blk9 Hz1.out.b5
 have Hy1 : Hid (ReR w (wz1.setCell ⟨g5, 7, none⟩ (.int .i64 f1)) p w.heap.size g5 f2 f3 #[.int .i64 k, .int .i64 0, .int .i64 0, .int .i64 0, .int .i64 0, .slice none 0 0, .string ⟨#[]⟩, .int .i64 f1, .int .i64 0]) := (by simpa using Hz1.out.set 7 (.int .i64 f1) : ReR w _ p w.heap.size g5 f2 f3 _)
 clear Hz1
 go_wp2_with fail
 generalize hgw : wz1.setCell ⟨g5, 7, none⟩ (.int .i64 f1) = wy1 at *
 clear hgw q0 q1 q2 q3 q4 q5 q6 q7 q8 qf
 have hct := Lib.hid (rrint_any [g5] p f2 f3 wy1 Hy1.out.rd)
 rw [← Ht.out] at hct
 obtain ⟨t1, t2, t3⟩ := tt
 simp only [] at hct HH hlt
 refine hct.out.mono ?_
 rintro e wz2 ⟨rfl, hA, hk⟩
 have Hz2 := Lib.hid (Hy1.out.step hA hk)
 clear hA hk Hy1 hct Ht
 obtain ⟨q0, q1, q2, q3, q4, q5, q6, q7, q8, qf⟩ := blk9 Hz2.out.b5
 have Hy2 : Hid (ReR w (wz2.setCell ⟨g5, 8, none⟩ (.int .i64 t1)) p w.heap.size g5 t2 t3 #[.int .i64 k, .int .i64 0, .int .i64 0, .int .i64 0, .int .i64 0, .slice none 0 0, .string ⟨#[]⟩, .int .i64 f1, .int .i64 t1]) := (by simpa using Hz2.out.set 8 (.int .i64 t1) : ReR w _ p w.heap.size g5 t2 t3 _)
 clear Hz2
 go_upto_region 5 with (fail)
 generalize hgw : wz2.setCell ⟨g5, 8, none⟩ (.int .i64 t1) = wy2 at *
 clear hgw q0 q1 q2 q3 q4 q5 q6 q7 q8 qf
 by_cases hk2 : k = 2
 ·subst hk2
  have HH2 : Hid (RH = (⟨(2 : Nat), 0, 0, 0, 0, [], ⟨(textS t2 t3).1.toArray⟩, f1, t1⟩, (textS t2 t3).2)) := by show _ = _; rw [HH.out, rreadX_two]
  clear HH
  obtain ⟨tx, htx⟩ : ∃ tx, tx = textS t2 t3 := ⟨_, rfl⟩
  rw [← htx] at HH2
  have Htx := Lib.hid htx
  clear htx
  obtain ⟨q0, q1, q2, q3, q4, q5, q6, q7, q8, qf⟩ := blk9 Hy2.out.b5
  go_wp2_with fail
  clear q0 q1 q2 q3 q4 q5 q6 q7 q8 qf
  have hct := Lib.hid (rstr_any [g5] p t2 t3 wy2 Hy2.out.rd)
  rw [← Htx.out] at hct
  obtain ⟨s1, s2, s3⟩ := tx
  simp only [] at hct HH2
  refine hct.out.mono ?_
  rintro e wz3 ⟨rfl, hA, hk⟩
  have Hz3 := Lib.hid (Hy2.out.step hA hk)
  clear hA hk Hy2 hct Htx
  obtain ⟨q0, q1, q2, q3, q4, q5, q6, q7, q8, qf⟩ := blk9 Hz3.out.b5
  have Hy3 : Hid (ReR w (wz3.setCell ⟨g5, 6, none⟩ (.string ⟨s1.toArray⟩)) p w.heap.size g5 s2 s3 #[.int .i64 (2 : Nat), .int .i64 0, .int .i64 0, .int .i64 0, .int .i64 0, .slice none 0 0, .string ⟨s1.toArray⟩, .int .i64 f1, .int .i64 t1]) := (by simpa using Hz3.out.set 6 (.string ⟨s1.toArray⟩) : ReR w _ p w.heap.size g5 s2 s3 _)
  clear Hz3
  have HC0 : Hid (ReRCut w (wz3.setCell ⟨g5, 6, none⟩ (.string ⟨s1.toArray⟩)) p g5 RH) := by
   show ReRCut _ _ _ _ _
   rw [HH2.out]
   exact ⟨.slice none 0 0, by simpa [eCell] using Hy3.out, fun M _ => Ds.nil _ _⟩
  clear Hy3 HH2
  go_upto_region 14 with (fail)
  generalize hgw : wz3.setCell ⟨g5, 6, none⟩ (.string ⟨s1.toArray⟩) = wc at *
  clear hgw q0 q1 q2 q3 q4 q5 q6 q7 q8 qf
  have HC := HC0
  clear HC0
  have hcut := HC.out
  obtain ⟨dv, hRe, hDs⟩ := hcut
  have HRe := Lib.hid hRe; have HDs := Lib.hid hDs
  clear hRe hDs HC
  obtain ⟨e, lx, bx⟩ := RH
  simp only [] at hsh HE HRe HDs
  obtain ⟨Ad, cd, rfl, hcd⟩ := (HDs.out [] (by simp)).len
  have hdw := Lib.hid (rdone_any [g5] p lx bx _ HRe.out.rd)
  obtain ⟨r0, r1, r2, r3, r4, r5, r6, r7, r8, rf⟩ := blk9 HRe.out.b0
  have ho0 := HRe.out.o0; have ho1 := HRe.out.o1
  cases hdone : (!bx && lx.isEmpty) with
  | false =>
   obtain rfl : RE = (zeroD, 12) := by rw [HE.out, hdone, if_neg (by simp)]
   rw [hdone] at hdw
   clear hdone HE
   go_wp2_with fail
   refine hdw.out.mono ?_
   rintro r w' ⟨rfl, rfl⟩
   go_wp2
   refine bodyPost_ret (v := .tuple #[.agg zeroA, .int .i64 12]) (by simp [results, Tryz.results71, go_sem, zeroA, r0, r1, r2, r3, r4, r5, r6, r7, r8]) rfl ?_
   refine ⟨.slice none 0 0, rfl, fun M _ => Ds.nil _ _, ?_⟩
   repeat (first | (with_reducible exact HRe.out.keeps) | (with_reducible refine Below.setCell ?_ (by simp) _))
  | true =>
   rw [hdone] at hdw
   have hri := Lib.hid (rrightE_any e _ wc (HDs.out [] (by simp)) hsh.out)
   have HR : Hid (RE = if rightE e = 0 then (e, 0) else (zeroD, 12)) := by show _ = _; rw [HE.out, hdone]; simp
   clear hdone HE
   generalize rightE e = rr at *
   obtain ⟨kind, ag, sh, seq, ep, ds, ser, fr, tag⟩ := e
   simp only [eCell] at hri HRe HDs HR hcd
   obtain ⟨q0, q1, q2, q3, q4, q5, q6, q7, q8, qf⟩ := blk9 HRe.out.b5
   have ho2 := HRe.out.o2
   have hg5 : g5 < wc.heap.size := HRe.out.b5.lt
   have hwc : w.heap.size < wc.heap.size := HRe.out.b0.lt
   go_wp2_with fail
   refine hdw.out.mono ?_
   rintro r w' ⟨rfl, rfl⟩
   go_wp2_with fail
   refine hri.out.mono ?_
   rintro r w9 ⟨rfl, hb9⟩
   have H9 := Lib.hid (HRe.out.keeps.trans (hb9.mono HRe.out.keeps.size))
   have HB0 := Lib.hid (HRe.out.b0.below hb9 hwc)
   have HB5 := Lib.hid (HRe.out.b5.below hb9 hg5)
   have HD9 : Hid (∀ M, (∀ g ∈ M, g ≤ w.heap.size) → Ds w9 M (.slice Ad ds.length cd) ds) := fun M hM => (HDs.out M hM).keep (Keeps.of_below (M := []) hb9) (by simp)
   clear hb9 hri hdw r0 r1 r2 r3 r4 r5 r6 r7 r8 rf q0 q1 q2 q3 q4 q5 q6 q7 q8 qf
   obtain ⟨r0, r1, r2, r3, r4, r5, r6, r7, r8, rf⟩ := blk9 HB0.out
   obtain ⟨q0, q1, q2, q3, q4, q5, q6, q7, q8, qf⟩ := blk9 HB5.out
   by_cases hrr : rr = 0
   ·obtain rfl : RE = (⟨kind, ag, sh, seq, ep, ds, ser, fr, tag⟩, 0) := by rw [HR.out, if_pos hrr]
    subst hrr
    clear HR
    go_wp2
    refine bodyPost_ret (v := .tuple #[.agg #[.int .i64 kind, .int .i64 ag, .int .i64 sh, .int .i64 seq, .int .i64 ep, .slice Ad ds.length cd, .string ser, .int .i64 fr, .int .i64 tag], .int .i64 0]) (by simp [results, Tryz.results71, go_sem, r0, r1, r2, r3, r4, r5, r6, r7, r8]) rfl ?_
    refine ⟨.slice Ad ds.length cd, rfl, fun M hM => ?_, ?_⟩
    ·have h1 := HD9.out (w.heap.size :: M) (by intro g hg; rcases List.mem_cons.1 hg with rfl | hg; exact Nat.le_refl _; exact Nat.le_of_lt (hM g hg))
     refine Rd.more (h1.keep (M' := [w.heap.size]) ?_ (by simp))
     repeat (first | (with_reducible exact Keeps.refl _ _) | (with_reducible refine Keeps.setCell ?_ (by simp) _))
    ·repeat (first | (with_reducible exact H9.out) | (with_reducible refine Below.setCell ?_ (by simp) _))
   ·obtain rfl : RE = (zeroD, 12) := by rw [HR.out, if_neg hrr]
    have hne : ((rr : Int) != 0) = true := by simpa using hrr
    clear HR hrr
    go_wp2
    refine bodyPost_ret (v := .tuple #[.agg zeroA, .int .i64 12]) (by simp [results, Tryz.results71, go_sem, zeroA, r0, r1, r2, r3, r4, r5, r6, r7, r8]) rfl ?_
    refine ⟨.slice none 0 0, rfl, fun M _ => Ds.nil _ _, ?_⟩
    repeat (first | (with_reducible exact H9.out) | (with_reducible refine Below.setCell ?_ (by simp) _))
 ·have hkb : ((k : Int) == 2) = false := by rw [beq_eq_false_iff_ne]; omega
  by_cases hk1 : k = 1
  ·subst hk1
   obtain ⟨a, s, u, pp, d, ha, hs, hq, hpp, hd, he⟩ := rreadX_one f1 t1 t2 t3
   have hlp : pp.2.1.length < 4294967281 := by
    have e1 := intS_len t2 t3
    have e2 := intS_len a.2.1 a.2.2
    have e3 := intS_len s.2.1 s.2.2
    have e4 := intS_len u.2.1 u.2.2
    rw [← ha] at e1; rw [← hs] at e2; rw [← hq] at e3; rw [← hpp] at e4
    omega
   have HH2 := Lib.hid (HH.out.trans he)
   have Ha := Lib.hid ha; have Hs := Lib.hid hs; have Hq := Lib.hid hq; have Hpp := Lib.hid hpp; have Hd := Lib.hid hd
   clear HH ha hs hq hpp hd he
   obtain ⟨q0, q1, q2, q3, q4, q5, q6, q7, q8, qf⟩ := blk9 Hy2.out.b5
   go_wp2_with fail
   clear q0 q1 q2 q3 q4 q5 q6 q7 q8 qf
   have hct := Lib.hid (rrint_any [g5] p t2 t3 wy2 Hy2.out.rd)
   rw [← Ha.out] at hct
   obtain ⟨a1, a2, a3⟩ := a
   simp only [] at hct Hs HH2
   refine hct.out.mono ?_
   rintro e wz4 ⟨rfl, hA, hk⟩
   have Hz4 := Lib.hid (Hy2.out.step hA hk)
   clear hA hk Hy2 hct Ha
   obtain ⟨q0, q1, q2, q3, q4, q5, q6, q7, q8, qf⟩ := blk9 Hz4.out.b5
   have Hy4 : Hid (ReR w (wz4.setCell ⟨g5, 1, none⟩ (.int .i64 a1)) p w.heap.size g5 a2 a3 #[.int .i64 (1 : Nat), .int .i64 a1, .int .i64 0, .int .i64 0, .int .i64 0, .slice none 0 0, .string ⟨#[]⟩, .int .i64 f1, .int .i64 t1]) := (by simpa using Hz4.out.set 1 (.int .i64 a1) : ReR w _ p w.heap.size g5 a2 a3 _)
   clear Hz4
   go_wp2_with fail
   generalize hgw : wz4.setCell ⟨g5, 1, none⟩ (.int .i64 a1) = wy4 at *
   clear hgw q0 q1 q2 q3 q4 q5 q6 q7 q8 qf
   have hct := Lib.hid (rrint_any [g5] p a2 a3 wy4 Hy4.out.rd)
   rw [← Hs.out] at hct
   obtain ⟨s1, s2, s3⟩ := s
   simp only [] at hct Hq HH2
   refine hct.out.mono ?_
   rintro e wz5 ⟨rfl, hA, hk⟩
   have Hz5 := Lib.hid (Hy4.out.step hA hk)
   clear hA hk Hy4 hct Hs
   obtain ⟨q0, q1, q2, q3, q4, q5, q6, q7, q8, qf⟩ := blk9 Hz5.out.b5
   have Hy5 : Hid (ReR w (wz5.setCell ⟨g5, 2, none⟩ (.int .i64 s1)) p w.heap.size g5 s2 s3 #[.int .i64 (1 : Nat), .int .i64 a1, .int .i64 s1, .int .i64 0, .int .i64 0, .slice none 0 0, .string ⟨#[]⟩, .int .i64 f1, .int .i64 t1]) := (by simpa using Hz5.out.set 2 (.int .i64 s1) : ReR w _ p w.heap.size g5 s2 s3 _)
   clear Hz5
   go_wp2_with fail
   generalize hgw : wz5.setCell ⟨g5, 2, none⟩ (.int .i64 s1) = wy5 at *
   clear hgw q0 q1 q2 q3 q4 q5 q6 q7 q8 qf
   have hct := Lib.hid (rrint_any [g5] p s2 s3 wy5 Hy5.out.rd)
   rw [← Hq.out] at hct
   obtain ⟨u1, u2, u3⟩ := u
   simp only [] at hct Hpp HH2
   refine hct.out.mono ?_
   rintro e wz6 ⟨rfl, hA, hk⟩
   have Hz6 := Lib.hid (Hy5.out.step hA hk)
   clear hA hk Hy5 hct Hq
   obtain ⟨q0, q1, q2, q3, q4, q5, q6, q7, q8, qf⟩ := blk9 Hz6.out.b5
   have Hy6 : Hid (ReR w (wz6.setCell ⟨g5, 3, none⟩ (.int .i64 u1)) p w.heap.size g5 u2 u3 #[.int .i64 (1 : Nat), .int .i64 a1, .int .i64 s1, .int .i64 u1, .int .i64 0, .slice none 0 0, .string ⟨#[]⟩, .int .i64 f1, .int .i64 t1]) := (by simpa using Hz6.out.set 3 (.int .i64 u1) : ReR w _ p w.heap.size g5 u2 u3 _)
   clear Hz6
   go_wp2_with fail
   generalize hgw : wz6.setCell ⟨g5, 3, none⟩ (.int .i64 u1) = wy6 at *
   clear hgw q0 q1 q2 q3 q4 q5 q6 q7 q8 qf
   have hct := Lib.hid (rrint_any [g5] p u2 u3 wy6 Hy6.out.rd)
   rw [← Hpp.out] at hct
   obtain ⟨pp1, pp2, pp3⟩ := pp
   simp only [] at hct Hd HH2 hlp
   refine hct.out.mono ?_
   rintro e wz7 ⟨rfl, hA, hk⟩
   have Hz7 := Lib.hid (Hy6.out.step hA hk)
   clear hA hk Hy6 hct Hpp
   obtain ⟨q0, q1, q2, q3, q4, q5, q6, q7, q8, qf⟩ := blk9 Hz7.out.b5
   have Hy7 : Hid (ReR w (wz7.setCell ⟨g5, 4, none⟩ (.int .i64 pp1)) p w.heap.size g5 pp2 pp3 #[.int .i64 (1 : Nat), .int .i64 a1, .int .i64 s1, .int .i64 u1, .int .i64 pp1, .slice none 0 0, .string ⟨#[]⟩, .int .i64 f1, .int .i64 t1]) := (by simpa using Hz7.out.set 4 (.int .i64 pp1) : ReR w _ p w.heap.size g5 pp2 pp3 _)
   clear Hz7
   go_wp2_with fail
   generalize hgw : wz7.setCell ⟨g5, 4, none⟩ (.int .i64 pp1) = wy7 at *
   clear hgw q0 q1 q2 q3 q4 q5 q6 q7 q8 qf
   have hct := Lib.hid (rreadDs_any [g5] p pp2 pp3 wy7 Hy7.out.rd hlp)
   unfold RDsPost at hct
   rw [← Hd.out] at hct
   obtain ⟨d1, d2, d3⟩ := d
   simp only [] at hct HH2
   refine hct.out.mono ?_
   rintro e wi ⟨dv, rfl, hown, hA, hk⟩
   have hgh : g5 < wy7.heap.size := Hy7.out.b5.lt
   have hgw : w.heap.size < wy7.heap.size := Hy7.out.b0.lt
   have HI6 := Lib.hid (Hy7.out.step hA hk)
   have HD : Hid (∀ M, (∀ g ∈ M, g ≤ w.heap.size) → Ds wi (g5 :: M) dv d1) := fun M hM => Rd.of_own hown (by intro g hg; rcases List.mem_cons.1 hg with rfl | hg; exact hgh; have := hM g hg; omega)
   obtain ⟨Ad, cd, rfl, hcd⟩ := (HD.out [] (by simp)).len
   clear hA hk Hy7 hct Hd hown
   obtain ⟨q0, q1, q2, q3, q4, q5, q6, q7, q8, qf⟩ := blk9 HI6.out.b5
   have HC0 : Hid (ReRCut w (wi.setCell ⟨g5, 5, none⟩ (.slice Ad d1.length cd)) p g5 RH) := by
    show ReRCut _ _ _ _ _
    rw [HH2.out]
    exact ⟨.slice Ad d1.length cd, by simpa [eCell] using HI6.out.set 5 (.slice Ad d1.length cd), fun M hM => Rd.more ((HD.out M hM).keep (M' := [g5]) ((Keeps.refl _ _).setCell (by simp) _) (by simp))⟩
   clear HI6 HD HH2
   go_upto_region 14 with (fail)
   generalize hgx : wi.setCell ⟨g5, 5, none⟩ (.slice Ad d1.length cd) = wc at *
   clear hgx hgh hgw hcd q0 q1 q2 q3 q4 q5 q6 q7 q8 qf
   have HC := HC0
   clear HC0
   have hcut := HC.out
   obtain ⟨dv, hRe, hDs⟩ := hcut
   have HRe := Lib.hid hRe; have HDs := Lib.hid hDs
   clear hRe hDs HC
   obtain ⟨e, lx, bx⟩ := RH
   simp only [] at hsh HE HRe HDs
   obtain ⟨Ae, ce, rfl, hcd⟩ := (HDs.out [] (by simp)).len
   have hdw := Lib.hid (rdone_any [g5] p lx bx _ HRe.out.rd)
   obtain ⟨r0, r1, r2, r3, r4, r5, r6, r7, r8, rf⟩ := blk9 HRe.out.b0
   have ho0 := HRe.out.o0; have ho1 := HRe.out.o1
   cases hdone : (!bx && lx.isEmpty) with
   | false =>
    obtain rfl : RE = (zeroD, 12) := by rw [HE.out, hdone, if_neg (by simp)]
    rw [hdone] at hdw
    clear hdone HE
    go_wp2_with fail
    refine hdw.out.mono ?_
    rintro r w' ⟨rfl, rfl⟩
    go_wp2
    refine bodyPost_ret (v := .tuple #[.agg zeroA, .int .i64 12]) (by simp [results, Tryz.results71, go_sem, zeroA, r0, r1, r2, r3, r4, r5, r6, r7, r8]) rfl ?_
    refine ⟨.slice none 0 0, rfl, fun M _ => Ds.nil _ _, ?_⟩
    repeat (first | (with_reducible exact HRe.out.keeps) | (with_reducible refine Below.setCell ?_ (by simp) _))
   | true =>
    rw [hdone] at hdw
    have hri := Lib.hid (rrightE_any e _ wc (HDs.out [] (by simp)) hsh.out)
    have HR : Hid (RE = if rightE e = 0 then (e, 0) else (zeroD, 12)) := by show _ = _; rw [HE.out, hdone]; simp
    clear hdone HE
    generalize rightE e = rr at *
    obtain ⟨kind, ag, sh, seq, ep, ds, ser, fr, tag⟩ := e
    simp only [eCell] at hri HRe HDs HR hcd
    obtain ⟨q0, q1, q2, q3, q4, q5, q6, q7, q8, qf⟩ := blk9 HRe.out.b5
    have ho2 := HRe.out.o2
    have hg5 : g5 < wc.heap.size := HRe.out.b5.lt
    have hwc : w.heap.size < wc.heap.size := HRe.out.b0.lt
    go_wp2_with fail
    refine hdw.out.mono ?_
    rintro r w' ⟨rfl, rfl⟩
    go_wp2_with fail
    refine hri.out.mono ?_
    rintro r w9 ⟨rfl, hb9⟩
    have H9 := Lib.hid (HRe.out.keeps.trans (hb9.mono HRe.out.keeps.size))
    have HB0 := Lib.hid (HRe.out.b0.below hb9 hwc)
    have HB5 := Lib.hid (HRe.out.b5.below hb9 hg5)
    have HD9 : Hid (∀ M, (∀ g ∈ M, g ≤ w.heap.size) → Ds w9 M (.slice Ae ds.length ce) ds) := fun M hM => (HDs.out M hM).keep (Keeps.of_below (M := []) hb9) (by simp)
    clear hb9 hri hdw r0 r1 r2 r3 r4 r5 r6 r7 r8 rf q0 q1 q2 q3 q4 q5 q6 q7 q8 qf
    obtain ⟨r0, r1, r2, r3, r4, r5, r6, r7, r8, rf⟩ := blk9 HB0.out
    obtain ⟨q0, q1, q2, q3, q4, q5, q6, q7, q8, qf⟩ := blk9 HB5.out
    by_cases hrr : rr = 0
    ·obtain rfl : RE = (⟨kind, ag, sh, seq, ep, ds, ser, fr, tag⟩, 0) := by rw [HR.out, if_pos hrr]
     subst hrr
     clear HR
     go_wp2
     refine bodyPost_ret (v := .tuple #[.agg #[.int .i64 kind, .int .i64 ag, .int .i64 sh, .int .i64 seq, .int .i64 ep, .slice Ae ds.length ce, .string ser, .int .i64 fr, .int .i64 tag], .int .i64 0]) (by simp [results, Tryz.results71, go_sem, r0, r1, r2, r3, r4, r5, r6, r7, r8]) rfl ?_
     refine ⟨.slice Ae ds.length ce, rfl, fun M hM => ?_, ?_⟩
     ·have h1 := HD9.out (w.heap.size :: M) (by intro g hg; rcases List.mem_cons.1 hg with rfl | hg; exact Nat.le_refl _; exact Nat.le_of_lt (hM g hg))
      refine Rd.more (h1.keep (M' := [w.heap.size]) ?_ (by simp))
      repeat (first | (with_reducible exact Keeps.refl _ _) | (with_reducible refine Keeps.setCell ?_ (by simp) _))
     ·repeat (first | (with_reducible exact H9.out) | (with_reducible refine Below.setCell ?_ (by simp) _))
    ·obtain rfl : RE = (zeroD, 12) := by rw [HR.out, if_neg hrr]
     have hne : ((rr : Int) != 0) = true := by simpa using hrr
     clear HR hrr
     go_wp2
     refine bodyPost_ret (v := .tuple #[.agg zeroA, .int .i64 12]) (by simp [results, Tryz.results71, go_sem, zeroA, r0, r1, r2, r3, r4, r5, r6, r7, r8]) rfl ?_
     refine ⟨.slice none 0 0, rfl, fun M _ => Ds.nil _ _, ?_⟩
     repeat (first | (with_reducible exact H9.out) | (with_reducible refine Below.setCell ?_ (by simp) _))
  ·have hkc : ((k : Int) == 1) = false := by rw [beq_eq_false_iff_ne]; omega
   have HC : Hid (ReRCut w wy2 p g5 RH) := by
    show ReRCut _ _ _ _ _
    rw [HH.out, rreadX_no f1 t1 t2 t3 hk2 hk1]
    exact ⟨.slice none 0 0, by simpa [eCell] using Hy2.out, fun M _ => Ds.nil _ _⟩
   obtain ⟨q0, q1, q2, q3, q4, q5, q6, q7, q8, qf⟩ := blk9 Hy2.out.b5
   clear HH Hy2 hk2 hk1
   go_upto_region 14 with (fail)
   clear q0 q1 q2 q3 q4 q5 q6 q7 q8 qf
   generalize wy2 = wc at *
   have hcut := HC.out
   obtain ⟨dv, hRe, hDs⟩ := hcut
   have HRe := Lib.hid hRe; have HDs := Lib.hid hDs
   clear hRe hDs HC
   obtain ⟨e, lx, bx⟩ := RH
   simp only [] at hsh HE HRe HDs
   obtain ⟨Ad, cd, rfl, hcd⟩ := (HDs.out [] (by simp)).len
   have hdw := Lib.hid (rdone_any [g5] p lx bx _ HRe.out.rd)
   obtain ⟨r0, r1, r2, r3, r4, r5, r6, r7, r8, rf⟩ := blk9 HRe.out.b0
   have ho0 := HRe.out.o0; have ho1 := HRe.out.o1
   cases hdone : (!bx && lx.isEmpty) with
   | false =>
    obtain rfl : RE = (zeroD, 12) := by rw [HE.out, hdone, if_neg (by simp)]
    rw [hdone] at hdw
    clear hdone HE
    go_wp2_with fail
    refine hdw.out.mono ?_
    rintro r w' ⟨rfl, rfl⟩
    go_wp2
    refine bodyPost_ret (v := .tuple #[.agg zeroA, .int .i64 12]) (by simp [results, Tryz.results71, go_sem, zeroA, r0, r1, r2, r3, r4, r5, r6, r7, r8]) rfl ?_
    refine ⟨.slice none 0 0, rfl, fun M _ => Ds.nil _ _, ?_⟩
    repeat (first | (with_reducible exact HRe.out.keeps) | (with_reducible refine Below.setCell ?_ (by simp) _))
   | true =>
    rw [hdone] at hdw
    have hri := Lib.hid (rrightE_any e _ wc (HDs.out [] (by simp)) hsh.out)
    have HR : Hid (RE = if rightE e = 0 then (e, 0) else (zeroD, 12)) := by show _ = _; rw [HE.out, hdone]; simp
    clear hdone HE
    generalize rightE e = rr at *
    obtain ⟨kind, ag, sh, seq, ep, ds, ser, fr, tag⟩ := e
    simp only [eCell] at hri HRe HDs HR hcd
    obtain ⟨q0, q1, q2, q3, q4, q5, q6, q7, q8, qf⟩ := blk9 HRe.out.b5
    have ho2 := HRe.out.o2
    have hg5 : g5 < wc.heap.size := HRe.out.b5.lt
    have hwc : w.heap.size < wc.heap.size := HRe.out.b0.lt
    go_wp2_with fail
    refine hdw.out.mono ?_
    rintro r w' ⟨rfl, rfl⟩
    go_wp2_with fail
    refine hri.out.mono ?_
    rintro r w9 ⟨rfl, hb9⟩
    have H9 := Lib.hid (HRe.out.keeps.trans (hb9.mono HRe.out.keeps.size))
    have HB0 := Lib.hid (HRe.out.b0.below hb9 hwc)
    have HB5 := Lib.hid (HRe.out.b5.below hb9 hg5)
    have HD9 : Hid (∀ M, (∀ g ∈ M, g ≤ w.heap.size) → Ds w9 M (.slice Ad ds.length cd) ds) := fun M hM => (HDs.out M hM).keep (Keeps.of_below (M := []) hb9) (by simp)
    clear hb9 hri hdw r0 r1 r2 r3 r4 r5 r6 r7 r8 rf q0 q1 q2 q3 q4 q5 q6 q7 q8 qf
    obtain ⟨r0, r1, r2, r3, r4, r5, r6, r7, r8, rf⟩ := blk9 HB0.out
    obtain ⟨q0, q1, q2, q3, q4, q5, q6, q7, q8, qf⟩ := blk9 HB5.out
    by_cases hrr : rr = 0
    ·obtain rfl : RE = (⟨kind, ag, sh, seq, ep, ds, ser, fr, tag⟩, 0) := by rw [HR.out, if_pos hrr]
     subst hrr
     clear HR
     go_wp2
     refine bodyPost_ret (v := .tuple #[.agg #[.int .i64 kind, .int .i64 ag, .int .i64 sh, .int .i64 seq, .int .i64 ep, .slice Ad ds.length cd, .string ser, .int .i64 fr, .int .i64 tag], .int .i64 0]) (by simp [results, Tryz.results71, go_sem, r0, r1, r2, r3, r4, r5, r6, r7, r8]) rfl ?_
     refine ⟨.slice Ad ds.length cd, rfl, fun M hM => ?_, ?_⟩
     ·have h1 := HD9.out (w.heap.size :: M) (by intro g hg; rcases List.mem_cons.1 hg with rfl | hg; exact Nat.le_refl _; exact Nat.le_of_lt (hM g hg))
      refine Rd.more (h1.keep (M' := [w.heap.size]) ?_ (by simp))
      repeat (first | (with_reducible exact Keeps.refl _ _) | (with_reducible refine Keeps.setCell ?_ (by simp) _))
     ·repeat (first | (with_reducible exact H9.out) | (with_reducible refine Below.setCell ?_ (by simp) _))
    ·obtain rfl : RE = (zeroD, 12) := by rw [HR.out, if_neg hrr]
     have hne : ((rr : Int) != 0) = true := by simpa using hrr
     clear HR hrr
     go_wp2
     refine bodyPost_ret (v := .tuple #[.agg zeroA, .int .i64 12]) (by simp [results, Tryz.results71, go_sem, zeroA, r0, r1, r2, r3, r4, r5, r6, r7, r8]) rfl ?_
     refine ⟨.slice none 0 0, rfl, fun M _ => Ds.nil _ _, ?_⟩
     repeat (first | (with_reducible exact H9.out) | (with_reducible refine Below.setCell ?_ (by simp) _))
def RMGetPost (M : List Nat) (p : Nat) (R : Option (List EntryD) × List UInt8 × Bool) (w : World) (e : Ending) (w' : World) : Prop := match R with
 | (none, _) => e = .returned (.tuple #[.slice none 0 0, .bool false]) ∧ Keeps [p] w w'
 | (some es, l', b') => ∃ v, e = .returned (.tuple #[v, .bool (!b')]) ∧ (∀ M', (∀ g ∈ M', g < w.heap.size) → Ens w' M' v es) ∧ RRdAt w' M p l' b' ∧ Keeps [p] w w'
theorem rreadE_nil2 : (rreadE []).2 = 12 := by rw [rreadE_eq]; exact readE_nil
set_option maxRecDepth 100000 in
set_option maxHeartbeats 2000000 in
theorem rreadlog_any (M : List Nat) (p : Nat) (l : List UInt8) (b : Bool) (w : World) (h : RRdAt w M p l b) (hl : l.length < 4294967281) :
  Calls Tryz.prog 152 #[.pointer (some ⟨p, 0, none⟩)] w fun e w' => RMGetPost M p (rmgetS l b) w e w' := by
 have hn := Lib.hid (rnum_any M p l b w h)
 have hnl := numS_len l b
 have hnt := numS_lt l b
 have HS : Hid (rmgetS l b = rgetEs (numS l b).1 (numS l b).2.1 (numS l b).2.2) := rfl
 obtain ⟨i0, hi0, hz0, hz1, hz2⟩ := info_parts infoEntry2
 have Hi0 := Lib.hid hi0; have Hz0 := Lib.hid hz0; have Hz1 := Lib.hid hz1; have Hz2 := Lib.hid hz2
 clear h hi0 hz0 hz1 hz2
 generalize rmgetS l b = R at *
 generalize numS l b = N at *
 obtain ⟨n0, l0, b0⟩ := N
 simp only [] at hn hnl hnt HS
 have hL0 : l0.length < 4294967281 := by omega
 go_enter Tryz.func152, Tryz.ntmps152
 go_wp2_with fail
 refine hn.out.mono ?_
 rintro e w1 ⟨rfl, hA1, hk1⟩
 have HA1 := Lib.hid hA1; have Hk1 := Lib.hid hk1
 have hpw : p < w1.heap.size := hA1.lt
 have hw1 : w.heap.size ≤ w1.heap.size := hk1.size
 clear hA1 hk1 hn
 go_wp2_with fail
 go_loopw [4, 5] (fun out i wr => ∃ (k : Nat) (qs : List (EntryD × Value)) (lx : List UInt8) (bx : Bool), i = .int .u64 k ∧ k < 18446744073709551616 ∧ qs.length + lx.length ≤ l0.length ∧ Hid (R = preE (qs.map (·.1)) (rgetEs k lx bx)) ∧ Hid (wr.ownsRow w1.heap.size 26 9 out qs.length (qs.flatMap eCell)) ∧ Hid (DsOwn w1 wr out qs) ∧ Hid (RRdAt wr (out.ownBlock.toList ++ M) p lx bx) ∧ Hid (Keeps [p] w1 wr)) (fun _ i _ => (intOf i).toNat)
 case atStart => exact ⟨n0, [], l0, b0, rfl, hnt, by simp, (show R = preE [] _ by rw [preE_nil]; exact HS.out), World.ownsRow_nil _ _ _ _, (show DsOwn _ _ _ _ from by intro q hq; cases hq), (show RRdAt w1 _ p l0 b0 from HA1.out), Keeps.refl _ _⟩
 case round =>
  obtain ⟨k, qs, lx, bx, rfl, hk, hqx, HR, Hown, Hds, HA, Hk⟩ := hrel
  have hfell : wr.cell? ⟨p, 1, none⟩ = some (.bool bx) := by
   obtain ⟨_, v, hb, _⟩ := HA.out
   exact hb.cell 1
  have HFin : Hid (rgetEs k lx bx = (some [], lx, bx) → ∀ n, RMGetPost M p R w (.returned (.tuple #[u4, .bool (!bx)])) (wr.drewN n)) := fun hr n => by
   have h1 := HR.out
   rw [hr] at h1
   rw [h1]
   simp only [preE, List.append_nil]
   exact ⟨u4, rfl, fun M' hM => ⟨qs, rfl, Rd.of_own (w := wr.drewN n) Hown.out (fun g hg => by have := hM g hg; omega), fun q hq => Hds.out q hq M' (fun g hg => .inl (by have := hM g hg; omega))⟩, (HA.out.avoid (fun g hg => .inl (List.mem_append_right _ hg))).keep (M' := []) ((Keeps.refl _ _).drewN n) (by simp) (by simp), (Hk1.out.trans Hk.out (by simp)).drewN n⟩
  rcases Nat.eq_zero_or_pos k with hk0 | hk0
  ·obtain rfl : k = 0 := hk0
   have HF := Lib.hid (HFin.out rfl)
   clear HFin
   go_wp2_with fail
   go_quiet (fail)
   go_wp2
   go_ret2
   exact HF.out _
  ·obtain ⟨j, rfl⟩ : ∃ j, k = j + 1 := ⟨k - 1, by omega⟩
   have hkp : (0 : Int) < (j : Int) + 1 := by omega
   cases bx with
   | true =>
    have HF := Lib.hid (HFin.out (by rw [rgetEs, if_pos rfl]))
    clear HFin
    go_wp2_with fail
    go_quiet (fail)
    go_wp2
    go_ret2
    exact HF.out _
   | false =>
    clear HFin
    have hwj : IntKind.u64.wrap (j : Int) = (j : Int) := by rw [IntKind.wrap_u64]; omega
    have hwj2 : IntKind.u64.wrap ((j : Int) + 1 - 1) = (j : Int) := by rw [IntKind.wrap_u64]; omega
    have hjj : (j : Int) + 1 - 1 = (j : Int) := by omega
    have HST : Hid (R = preE (qs.map (·.1)) (if (rreadE (textS lx false).1).2 ≠ 0 then (none, (textS lx false).2) else preE [(rreadE (textS lx false).1).1] (rgetEs j (textS lx false).2.1 (textS lx false).2.2))) := by
     show _ = _
     rw [HR.out, rgetEs, if_neg (by simp)]
    have htl := textS_len lx false
    have hls := Lib.hid (fun h => text_less (l := lx) h)
    have hbn := Lib.hid (fun h => text_badnil (l := lx) (b := false) h)
    have htx := Lib.hid (rstr_any (u4.ownBlock.toList ++ M) p lx false wr HA.out)
    generalize textS lx false = t at *
    obtain ⟨t1, t2, t3⟩ := t
    simp only [] at HST htl htx hls hbn
    go_wp2_with fail
    refine htx.out.mono ?_
    rintro e w3 ⟨rfl, hA3, hk3⟩
    obtain ⟨cc, w4, cv, hk4, hsz4, hB4⟩ := bytes_of w3 t1
    have HA4 := Lib.hid (hA3.keep hk4 (by simp) (by simp))
    have Hk34 := Lib.hid (hk3.trans hk4 (by simp))
    have HK4 := Lib.hid ((Hk.out.trans hk3 (by simp)).trans hk4 (by simp))
    have hrd := Lib.hid (rreadE_any _ t1 w4 (hB4 [] (by simp)) (by omega))
    have hbn2 : Hid (t3 = true → (rreadE t1).2 ≠ 0) := fun h => by rw [hbn.out h, rreadE_nil2]; decide
    clear hA3 hk3 hk4 hB4 htx hsz4 hbn
    generalize rreadE t1 = r at *
    obtain ⟨re, rn⟩ := r
    simp only [] at HST hrd hbn2
    go_wp2_with fail
    refine hrd.out.mono ?_
    rintro e w5 ⟨dv, rfl, hD5, hb5⟩
    obtain ⟨Ad, cd, rfl, _⟩ := (hD5 [] (by simp)).len
    have HA5 := Lib.hid (HA4.out.keep (Keeps.of_below (M := []) hb5) (by simp) (by simp))
    have HK5 := Lib.hid (HK4.out.trans (Keeps.of_below (M := []) hb5) (by simp))
    have Hk35 := Lib.hid (Hk34.out.trans (Keeps.of_below (M := []) hb5) (by simp))
    have HD5 := Lib.hid (fun M hM => hD5 M (fun g hg => Nat.lt_of_lt_of_le (hM g hg) Hk34.out.size) : ∀ M, (∀ g ∈ M, g < wr.heap.size) → Ds w5 M (.slice Ad re.ds.length cd) re.ds)
    clear hD5 hb5 hrd cv
    obtain ⟨kind, ag, sh, seq, ep, ds, ser, fr, tag⟩ := re
    simp only [eCell] at HD5 ⊢
    by_cases hrn : rn = 0
    ·have ht3 : t3 = false := by
      cases t3 with
      | false => rfl
      | true => exact absurd hrn (hbn2.out rfl)
     subst ht3
     have hlss := hls.out rfl
     have HST2 : Hid (R = preE (qs.map (·.1) ++ [⟨kind, ag, sh, seq, ep, ds, ser, fr, tag⟩]) (rgetEs j t2 false)) := by
      show _ = _
      rw [HST.out, if_neg (by simp [hrn]), preE_pre]
     have hnn : ((rn : Int) != 0) = false := by simp [hrn]
     clear HST hrn hbn2 hls HA4 HK4 Hk34
     go_upto_region 6 with (fail)
     obtain ⟨w6, hw6⟩ : ∃ w6, w6 = w5.alloc (.cells #[.int .i64 kind, .int .i64 ag, .int .i64 sh, .int .i64 seq, .int .i64 ep, .slice Ad ds.length cd, .string ser, .int .i64 fr, .int .i64 tag] 26) := ⟨_, rfl⟩
     rw [← hw6]
     have hk6 : Keeps [] w5 w6 := by rw [hw6]; exact (Keeps.refl _ _).alloc _
     have hB6 : Blk w6 w5.heap.size 26 #[.int .i64 kind, .int .i64 ag, .int .i64 sh, .int .i64 seq, .int .i64 ep, .slice Ad ds.length cd, .string ser, .int .i64 fr, .int .i64 tag] := by rw [hw6]; exact Blk.new w5 _ _
     have HA6 := Lib.hid (HA5.out.keep hk6 (by simp) (by simp)); have HK6 := Lib.hid (HK5.out.trans hk6 (by simp)); have Hk36 := Lib.hid (Hk35.out.trans hk6 (by simp))
     have HD6 : Hid (∀ M, (∀ g ∈ M, g < wr.heap.size) → Ds w6 M (.slice Ad ds.length cd) ds) := fun M hM => (HD5.out M hM).keep hk6 (by simp)
     obtain ⟨q0, q1, q2, q3, q4, q5, q6, q7, q8, qf⟩ := blk9 hB6
     clear hk6 hw6 hB6 HA5 HK5 Hk35 HD5
     have hlt0 := Lib.hid Hown.out.lt
     have Hown6 := Lib.hid ((own_keep (Hown.out) Hk36.out (by simp; exact hpw)).alloc (.cells #[.int .i64 kind, .int .i64 ag, .int .i64 sh, .int .i64 seq, .int .i64 ep, .slice Ad ds.length cd, .string ser, .int .i64 fr, .int .i64 tag] 26))
     have hz6 : w1.heap.size ≤ w6.heap.size := HK6.out.size
     have hm1 : qs.length + 1 ≤ maxLen := by unfold maxLen; omega
     have hm2 : (qs.length + 1) * 96 ≤ 140737488355328 := by omega
     have hb0 : w1.heap.size ≤ (w6.alloc (.cells #[.int .i64 kind, .int .i64 ag, .int .i64 sh, .int .i64 seq, .int .i64 ep, .slice Ad ds.length cd, .string ser, .int .i64 fr, .int .i64 tag] 26)).heap.size := by simp; omega
     have Hm1 := Lib.hid hm1; have Hm2 := Lib.hid hm2; have Hb0 := Lib.hid hb0
     clear hm1 hm2 hb0
     go_wp2_with (at_builtin; go_must (refine wpList_append_any _ rfl (.tmp 30) (.tmp 32) _ rfl w1.heap.size 26 i0 _ 9 96 Tryz.underlying52 Hi0.out Hz0.out Hz1.out Hz2.out rfl (by omega) u4 qs.length (qs.flatMap eCell) rfl Hown6.out (w6.heap.size + 1) (some ⟨w6.heap.size, 0, none⟩) 1 1 [.int .i64 kind, .int .i64 ag, .int .i64 sh, .int .i64 seq, .int .i64 ep, .slice Ad ds.length cd, .string ser, .int .i64 fr, .int .i64 tag] rfl (reads_new _ _ _ _ _ rfl) (by intro u hu; simp at hu; rcases hu with rfl | rfl | rfl | rfl | rfl | rfl | rfl | rfl | rfl <;> rfl) Hm1.out Hm2.out Hb0.out ?_))
     intro v8 w8 hown8 hg8 hat8
     have hpo : p ∉ u4.ownBlock.toList := fun hm => by have := (hlt0.out p (by simpa using hm)).1; omega
     have kg : Keeps u4.ownBlock.toList (w6.alloc (.cells #[.int .i64 kind, .int .i64 ag, .int .i64 sh, .int .i64 seq, .int .i64 ep, .slice Ad ds.length cd, .string ser, .int .i64 fr, .int .i64 tag] 26)) w8 := (Keeps.refl _ _).grown hg8 (fun g hg => .inl (by simpa using hg))
     have h1 := HA6.out.keep (M' := []) ((Keeps.refl _ _).alloc (.cells #[.int .i64 kind, .int .i64 ag, .int .i64 sh, .int .i64 seq, .int .i64 ep, .slice Ad ds.length cd, .string ser, .int .i64 fr, .int .i64 tag] 26)) (by simp) (by simp)
     have h2 := h1.avoid (M' := v8.ownBlock.toList ++ (u4.ownBlock.toList ++ M)) (fun g hg => by
      rcases List.mem_append.1 hg with h | h
      ·rcases hat8 with h5 | h5
       ·exact .inl (List.mem_append_left _ (by rw [h5] at h; exact h))
       ·rw [h5] at h; simp at h; exact .inr (by simp; omega)
      ·exact .inl h)
     have H8 := Lib.hid ((h2.keep kg (fun g hg => .inl (List.mem_append_right _ (List.mem_append_left _ hg))) hpo).avoid (M' := v8.ownBlock.toList ++ M) (fun g hg => by
      rcases List.mem_append.1 hg with h | h
      ·exact .inl (List.mem_append_left _ h)
      ·exact .inl (List.mem_append_right _ (List.mem_append_right _ h))))
     have Hk8 : Hid (Keeps [p] w1 w8) := (HK6.out.alloc _).grown hg8 (fun g hg => .inr (hlt0.out g hg).1)
     have Hds8 : Hid (DsOwn w1 w8 v8 (qs ++ [(⟨kind, ag, sh, seq, ep, ds, ser, fr, tag⟩, .slice Ad ds.length cd)])) :=
      dsOwn_stepK Hds.out Hk36.out (by simp; exact hpw) (fun g hg => (hlt0.out g hg).2) Hk.out.size HD6.out hg8 (by simpa using hat8)
     have Hown8 : Hid (w8.ownsRow w1.heap.size 26 9 v8 (qs ++ [((⟨kind, ag, sh, seq, ep, ds, ser, fr, tag⟩ : EntryD), Value.slice Ad ds.length cd)]).length ((qs ++ [((⟨kind, ag, sh, seq, ep, ds, ser, fr, tag⟩ : EntryD), Value.slice Ad ds.length cd)]).flatMap eCell)) := by
      show World.ownsRow _ _ _ _ _ _ _
      rw [List.length_append, List.flatMap_append]
      simpa [eCell] using hown8
     have HR8 : Hid (R = preE ((qs ++ [((⟨kind, ag, sh, seq, ep, ds, ser, fr, tag⟩ : EntryD), Value.slice Ad ds.length cd)]).map (·.1)) (rgetEs j t2 false)) := by
      show _ = _
      rw [List.map_append]
      exact HST2.out
     clear hown8 hg8 hat8 kg h1 h2 hpo q0 q1 q2 q3 q4 q5 q6 q7 q8 qf
     go_wp2
     go_roundw
     case rel => exact ⟨j, _, t2, false, rfl, by omega, by simp; omega, HR8, Hown8, Hds8, H8, Hk8⟩
     case measure => simp [intOf] <;> omega
    ·have hp : Hid (∀ W, Keeps [] w5 W → RMGetPost M p R w (.returned (.tuple #[.slice none 0 0, .bool false])) W) := fun W hk => by
      rw [HST.out, if_pos hrn]
      exact ⟨rfl, (Hk1.out.trans HK5.out (by simp)).trans hk (by simp)⟩
     have hnn : ((rn : Int) != 0) = true := by simpa using hrn
     clear HST hrn
     go_wp2
     go_ret2
     exact hp.out _ ((Keeps.refl _ _).alloc _)
end Go.Proofs.YtinnifhnabncfaaGreatDoor.Vi
end
section
namespace Go.Proofs.YtinnifhnabncfaaGreatDoor.Vi
open Go.RowKit Base Mem
/-- A log lies in block p, its disk in d. -/
def LgAt (w : World) (p : Nat) (Y : List Nat) (d : Nat) (b : List UInt8) (k n : Nat) : Prop :=
 Blk w p 180 #[.pointer (some ⟨d, 0, none⟩), .int .i64 n] ∧ DkAt w Y d b k ∧ p ∉ Y ∧ n ≤ b.length
theorem LgAt.keep {w w' : World} {M Y : List Nat} {p d k n : Nat} {b : List UInt8} (h : LgAt w p Y d b k n) (hk : Keeps M w w') (hM : ∀ g ∈ p :: Y, g ∉ M) : LgAt w' p Y d b k n :=
 ⟨hk.blk h.1 (hM p (by simp)), h.2.1.keep hk (fun g hg => hM g (by simp [hg])), h.2.2⟩
theorem LgAt.keep0 {w w' : World} {Y : List Nat} {p d k n : Nat} {b : List UInt8} (h : LgAt w p Y d b k n) (hk : Keeps [] w w') : LgAt w' p Y d b k n := h.keep hk (by simp)
theorem DkAt.inX {w : World} {X : List Nat} {d k : Nat} {b : List UInt8} (h : DkAt w X d b k) : d ∈ X := by obtain ⟨_, _, _, h, _⟩ := h; exact h
theorem DkAt.old {w : World} {X : List Nat} {d k : Nat} {b : List UInt8} (h : DkAt w X d b k) : ∀ g ∈ X, g < w.heap.size := by obtain ⟨_, _, _, _, _, _, _, h⟩ := h; exact h
theorem Bss.avoid {w : World} {M M' : List Nat} {v : Value} {rs : List (List UInt8)} (h : Bss w M v rs) (hM : ∀ g ∈ M', g ∈ M ∨ w.heap.size ≤ g) : Bss w M' v rs := by
 obtain ⟨ps, hl, hr, hd⟩ := h
 exact ⟨ps, hl, hr.avoid hM, fun p hp => (hd p hp).avoid hM⟩
def WoPost (Y : List Nat) (d : Nat) (b : List UInt8) (w : World) (e : Ending) (w' : World) : Prop :=
 ∃ p v, e = .returned (.tuple #[.pointer (some ⟨p, 0, none⟩), v]) ∧ w.heap.size ≤ p ∧ LgAt w' p Y d (b.take (scanS b).2) (scanS b).2 (scanS b).1.length ∧ (∀ M, (∀ g ∈ M, g < w.heap.size) → Bss w' (p :: M) v (scanS b).1) ∧ Keeps Y w w'
set_option maxRecDepth 100000 in
theorem wopen_any (Y : List Nat) (d k : Nat) (b : List UInt8) (w : World) (h : DkAt w Y d b k) :
  Calls Tryz.prog 78 #[.pointer (some ⟨d, 0, none⟩)] w fun e w' => WoPost Y d b w e w' := by
 have hle := h.le
 have H := Lib.hid h
 have hall := Lib.hid (dkall_any w h)
 obtain ⟨hs1, _, hs3⟩ := scanS_bd b
 have hsc : Hid (∀ W v, Bs W [] v b → Calls Tryz.prog 136 #[v] W fun e w' => ScPost (scanS b) W e w') := fun W v hv => scan_any v b W hv (by omega)
 have HP : Hid (∀ e W, WoPost Y d b w e W = ∃ p v, e = .returned (.tuple #[.pointer (some ⟨p, 0, none⟩), v]) ∧ w.heap.size ≤ p ∧ LgAt W p Y d (b.take (scanS b).2) (scanS b).2 (scanS b).1.length ∧ (∀ M, (∀ g ∈ M, g < w.heap.size) → Bss W (p :: M) v (scanS b).1) ∧ Keeps Y w W) := fun _ _ => rfl
 have hdY := h.inX
 have hN : Hid ((scanS b).1.length ≤ (scanS b).2) := by
  have : ∀ (f : Nat) (l : List UInt8), (scanF f l).1.length ≤ (scanF f l).2 := by
   intro f
   induction f with
   | zero => intro l; simp [scanF]
   | succ f ih =>
    intro l
    rw [scanF]
    cases hr : readF l with
    | none => simp
    | some p =>
     obtain ⟨x, n⟩ := p
     have := readF_bd hr
     have := ih (l.drop n)
     simp only [List.length_cons]; omega
  exact this _ _
 clear h
 generalize scanS b = R at *
 obtain ⟨rs, n⟩ := R
 simp only [] at hs1 hs3 HP hN
 go_enter Tryz.func78, Tryz.ntmps78
 go_wp2_with fail
 refine hall.out.mono ?_
 rintro e w1 ⟨v1, rfl, hown, hb1⟩
 have HB1 : Hid (Bs w1 [] v1 b) := by
  have := Rd.of_own (M := []) hown (by simp)
  exact this
 have Hk1 := Lib.hid (Keeps.of_below (M := []) hb1)
 clear hown hb1 hall
 go_wp2_with fail
 refine (hsc.out _ _ HB1.out).mono ?_
 rintro e w2 ⟨v2, rfl, hbs, hb2⟩
 have Hk2 := Lib.hid (Hk1.out.trans (Keeps.of_below (M := []) hb2) (by simp))
 have Hbs := Lib.hid (fun (M : List Nat) (hM : ∀ g ∈ M, g < w.heap.size) => hbs M (fun g hg => Nat.lt_of_lt_of_le (hM g hg) Hk1.out.size))
 clear hbs hb2 Hk1 HB1 hsc
 simp only []
 go_wp2_with fail
 refine (dkcut_any w2 (H.out.keep0 Hk2.out) n hs1).mono ?_
 rintro e w3 ⟨rfl, hD, hk3⟩
 have Hk3 : Hid (Keeps Y w w3) := (Hk2.out.mono (M' := Y) (by simp)).trans hk3 (fun g hg => by simp at hg; subst hg; exact .inl hdY)
 have hdw := H.out.lt
 have HB3 := Lib.hid (fun (M : List Nat) (hM : ∀ g ∈ M, g < w.heap.size) => ((Hbs.out (d :: M) (fun g hg => by rcases List.mem_cons.1 hg with rfl | hg; exact hdw; exact hM g hg)).keep hk3 (fun g hg => .inl (by simp at hg; simp [hg]))).avoid (M' := M) (fun g hg => .inl (by simp [hg])))
 have HD := Lib.hid hD
 have hlen : (b.take n).length = n := by rw [List.length_take]; omega
 have hR : Hid (WoPost Y d b w (.returned (.tuple #[.pointer (some ⟨w3.heap.size, 0, none⟩), v2])) (w3.alloc (.cells #[.pointer (some ⟨d, 0, none⟩), .int .i64 rs.length] 180))) := by
  show WoPost _ _ _ _ _ _
  have hka : Keeps [] w3 (w3.alloc (.cells #[.pointer (some ⟨d, 0, none⟩), .int .i64 rs.length] 180)) := (Keeps.refl _ _).alloc _
  rw [HP.out]
  refine ⟨w3.heap.size, v2, rfl, Hk3.out.size, ⟨Blk.new w3 _ _, HD.out.keep0 hka, fun hm => by have := HD.out.old _ hm; omega, by rw [hlen]; exact hN.out⟩, fun M hM => ?_, Hk3.out.trans hka (by simp)⟩
  exact ((HB3.out M hM).avoid (M' := w3.heap.size :: M) (fun g hg => by rcases List.mem_cons.1 hg with rfl | hg; exact .inr (Nat.le_refl _); exact .inl hg)).keep hka (by simp)
 obtain ⟨A2, c2, rfl, _⟩ := (HB3.out [] (by simp)).len
 clear hD hk3
 go_wp2
 go_ret2
 exact hR.out
def WaPost (p : Nat) (Y : List Nat) (d : Nat) (b l : List UInt8) (k n : Nat) (sync : Bool) (w : World) (e : Ending) (w' : World) : Prop :=
 if l.length ≤ 65536 ∧ b.length + (frameL l).length ≤ 1048576 then e = .returned (.int .i64 0) ∧ ∃ Y', LgAt w' p Y' d (b ++ frameL l) (if sync = true then b.length + (frameL l).length else k) (n + 1) ∧ Grows Y w Y' ∧ Keeps (p :: Y) w w'
 else ∃ c : Int, e = .returned (.int .i64 c) ∧ c ≠ 0 ∧ Keeps [] w w'
set_option maxRecDepth 100000 in
theorem wappend_any (p : Nat) (Y : List Nat) (d k n : Nat) (b : List UInt8) (w : World) (h : LgAt w p Y d b k n) (v : Value) (l : List UInt8) (hv : Bs w [] v l) :
  Calls Tryz.prog 181 #[.pointer (some ⟨p, 0, none⟩), v] w fun e w' => WaPost p Y d b l k n false w e w' := by
 have hle := h.2.1.le
 have hfl := frameL_len l
 have hnb := h.2.2.2
 have H := Lib.hid h
 have hp := h.1.lt
 by_cases hlong : 65536 < l.length
 ·have HP : Hid (∀ e W, (∃ c : Int, e = .returned (.int .i64 c) ∧ c ≠ 0 ∧ Keeps [] w W) → WaPost p Y d b l k n false w e W) := fun e W h => by unfold WaPost; rw [if_neg (by omega)]; exact h
  have hf := Lib.hid (frame_long v l w hv hlong)
  obtain ⟨A, c, rfl, _⟩ := hv.len
  clear h hv
  go_enter Tryz.func181, Tryz.ntmps181
  go_wp2_with fail
  refine hf.out.mono ?_
  rintro e w1 ⟨rfl, rfl⟩
  go_wp2
  go_ret
  exact HP.out _ _ ⟨3, rfl, by omega, Keeps.refl _ _⟩
 ·have hf := Lib.hid (frame_any v l w hv (by omega))
  obtain ⟨A, c, rfl, _⟩ := hv.len
  have hul := Lib.uvarint_length64 (x := l.length) (by omega)
  clear hv h
  have HP : Hid (∀ e W, (b.length + (frameL l).length ≤ 1048576 → e = .returned (.int .i64 0) ∧ ∃ Y', LgAt W p Y' d (b ++ frameL l) k (n + 1) ∧ Grows Y w Y' ∧ Keeps (p :: Y) w W) → (¬ b.length + (frameL l).length ≤ 1048576 → ∃ c : Int, e = .returned (.int .i64 c) ∧ c ≠ 0 ∧ Keeps [] w W) → WaPost p Y d b l k n false w e W) := fun e W h1 h2 => by
   unfold WaPost
   by_cases hr : b.length + (frameL l).length ≤ 1048576
   ·rw [if_pos ⟨by omega, hr⟩]; exact h1 hr
   ·rw [if_neg (by omega)]; exact h2 hr
  have HFr : Hid (∀ e W, FrPost l w e W → ∃ A c, e = .returned (.tuple #[.slice A (frameL l).length c, .int .i64 0]) ∧ (∀ M, (∀ g ∈ M, g < w.heap.size) → Bs W M (.slice A (frameL l).length c) (frameL l)) ∧ Below w.heap.size w W) := fun _ _ h => h
  generalize frameL l = x at *
  have hx5 : 5 ≤ x.length := by have := Lib.uvarint_pos l.length; omega
  have hx6 : x.length ≤ 65600 := by omega
  clear hfl hul
  go_enter Tryz.func181, Tryz.ntmps181
  go_wp2_with fail
  refine hf.out.mono ?_
  intro e w1 hfp
  obtain ⟨A1, c1, rfl, hB, hb1⟩ := HFr.out _ _ hfp
  have Hk1 := Lib.hid (Keeps.of_below (M := []) hb1)
  have HB := Lib.hid (hB [] (by simp))
  have HL1 := Lib.hid (H.out.keep0 Hk1.out)
  have q0 := HL1.out.1.cell 0
  simp only [List.getElem?_toArray, List.getElem?_cons_zero] at q0
  clear hB hb1 hf
  simp only []
  go_wp2_with fail
  refine (dkappend_any w1 HL1.out.2.1 _ x [] HB.out (by omega) (by omega)).mono ?_
  intro e w2 hpost
  by_cases hr : b.length + x.length ≤ 1048576
  ·unfold DaPost at hpost
   rw [if_pos hr] at hpost
   obtain ⟨rfl, Y', hD, hG, hK⟩ := hpost
   have hB2 : Blk w2 p 180 #[.pointer (some ⟨d, 0, none⟩), .int .i64 n] := hK.blk HL1.out.1 HL1.out.2.2.1
   have q1 := hB2.cell 1
   have f1 := hB2.frozen 1
   simp only [List.getElem?_toArray, List.getElem?_cons_succ, List.getElem?_cons_zero] at q1
   have hR : Hid (WaPost p Y d b l k n false w (.returned (.int .i64 0)) (w2.setCell ⟨p, 1, none⟩ (.int .i64 ((n : Int) + 1)))) := by
    refine HP.out _ _ (fun _ => ⟨rfl, Y', ?_, ?_, ?_⟩) (fun h => absurd hr h)
    ·have hk3 : Keeps [p] w2 (w2.setCell ⟨p, 1, none⟩ (.int .i64 ((n : Int) + 1))) := (Keeps.refl _ _).setCell (by simp) _
     have hpY : p ∉ Y' := fun hm => by
      rcases hG p hm with h | h
      ·exact HL1.out.2.2.1 h
      ·have := Hk1.out.size; omega
     refine ⟨?_, hD.keep hk3 (fun g hg => by rintro hm; simp at hm; subst hm; exact hpY hg), hpY, by rw [List.length_append]; omega⟩
     have := hB2.set_ 1 (.int .i64 ((n : Int) + 1))
     simpa using this
    ·intro g hg
     rcases hG g hg with h | h
     ·exact .inl h
     ·exact .inr (Nat.le_trans Hk1.out.size h)
    ·exact (((Hk1.out.mono (M' := p :: Y) (by simp)).trans hK (fun g hg => .inl (by simp [hg]))).setCell (by simp) _)
   clear hD hG hK hB2
   go_wp2
   go_ret
   exact hR.out
  ·unfold DaPost at hpost
   rw [if_neg hr] at hpost
   obtain ⟨rfl, rfl⟩ := hpost
   have hR : Hid (WaPost p Y d b l k n false w (.returned (.int .i64 24)) w1) := HP.out _ _ (fun h => absurd h hr) (fun _ => ⟨24, rfl, by omega, Hk1.out⟩)
   go_wp2
   go_ret
   exact hR.out
theorem wsync_any (p : Nat) (Y : List Nat) (d k n : Nat) (b : List UInt8) (w : World) (h : LgAt w p Y d b k n) :
  Calls Tryz.prog 182 #[.pointer (some ⟨p, 0, none⟩)] w fun e w' => e = .returned (.tuple #[]) ∧ LgAt w' p Y d b b.length n ∧ Keeps Y w w' := by
 have H := Lib.hid h
 have q0 := h.1.cell 0
 simp only [List.getElem?_toArray, List.getElem?_cons_zero] at q0
 have hs := Lib.hid (dksync_any w h.2.1)
 have hp := h.1.lt
 clear h
 go_enter Tryz.func182, Tryz.ntmps182
 go_wp2_with fail
 refine hs.out.mono ?_
 rintro e w1 ⟨rfl, hD, hk⟩
 have hR : Hid (LgAt w1 p Y d b b.length n ∧ Keeps Y w w1) := ⟨⟨hk.blk H.out.1 (by simp; rintro rfl; exact H.out.2.2.1 H.out.2.1.inX), hD, H.out.2.2⟩, hk.mono (fun g hg => by simp at hg; subst hg; exact .inl H.out.2.1.inX)⟩
 clear hD hk
 go_wp2
 go_end0
 exact ⟨rfl, hR.out⟩
set_option maxRecDepth 100000 in
theorem wwrite_any (p : Nat) (Y : List Nat) (d k n : Nat) (b : List UInt8) (w : World) (h : LgAt w p Y d b k n) (v : Value) (l : List UInt8) (hv : Bs w [] v l) :
  Calls Tryz.prog 141 #[.pointer (some ⟨p, 0, none⟩), v] w fun e w' => WaPost p Y d b l k n true w e w' := by
 have ha := Lib.hid (wappend_any p Y d k n b w h v l hv)
 obtain ⟨A, c, rfl, _⟩ := hv.len
 have hlen : (b ++ frameL l).length = b.length + (frameL l).length := List.length_append
 clear h hv
 by_cases hr : l.length ≤ 65536 ∧ b.length + (frameL l).length ≤ 1048576
 ·have HP : Hid (∀ e W, (e = .returned (.int .i64 0) ∧ ∃ Y', LgAt W p Y' d (b ++ frameL l) (b.length + (frameL l).length) (n + 1) ∧ Grows Y w Y' ∧ Keeps (p :: Y) w W) → WaPost p Y d b l k n true w e W) := fun e W h => by unfold WaPost; rw [if_pos hr]; exact h
  have HA : Hid (∀ e W, WaPost p Y d b l k n false w e W → (e = .returned (.int .i64 0) ∧ ∃ Y', LgAt W p Y' d (b ++ frameL l) k (n + 1) ∧ Grows Y w Y' ∧ Keeps (p :: Y) w W)) := fun e W h => by unfold WaPost at h; rw [if_pos hr] at h; exact h
  go_enter Tryz.func141, Tryz.ntmps141
  go_wp2_with fail
  refine ha.out.mono ?_
  intro e w1 hpost
  obtain ⟨rfl, Y', hL, hG, hK⟩ := HA.out _ _ hpost
  have HL := Lib.hid hL; have HG := Lib.hid hG; have HK := Lib.hid hK
  clear hL hG hK hpost
  go_wp2_with fail
  refine (wsync_any p Y' d k (n + 1) _ w1 HL.out).mono ?_
  rintro e w2 ⟨rfl, hL2, hk2⟩
  have hR : Hid (WaPost p Y d b l k n true w (.returned (.int .i64 0)) w2) := by
   refine HP.out _ _ ⟨rfl, Y', by rw [← hlen]; exact hL2, HG.out, HK.out.trans hk2 (fun g hg => ?_)⟩
   rcases HG.out g hg with h | h
   ·exact .inl (by simp [h])
   ·exact .inr h
  clear hL2 hk2
  go_wp2
  go_ret
  exact hR.out
 ·have HP : Hid (∀ e W, (∃ c : Int, e = .returned (.int .i64 c) ∧ c ≠ 0 ∧ Keeps [] w W) → WaPost p Y d b l k n true w e W) := fun e W h => by unfold WaPost; rw [if_neg hr]; exact h
  have HA : Hid (∀ e W, WaPost p Y d b l k n false w e W → ∃ c : Int, e = .returned (.int .i64 c) ∧ c ≠ 0 ∧ Keeps [] w W) := fun e W h => by unfold WaPost at h; rw [if_neg hr] at h; exact h
  go_enter Tryz.func141, Tryz.ntmps141
  go_wp2_with fail
  refine ha.out.mono ?_
  intro e w1 hpost
  obtain ⟨x, rfl, hx, hk⟩ := HA.out _ _ hpost
  have hR : Hid (WaPost p Y d b l k n true w (.returned (.int .i64 x)) w1) := HP.out _ _ ⟨x, rfl, hx, hk⟩
  have hx0 : (x == 0) = false := by simpa using hx
  clear hpost hk
  go_wp2
  go_ret
  exact hR.out
end Go.Proofs.YtinnifhnabncfaaGreatDoor.Vi
end
section
namespace Go.Proofs.YtinnifhnabncfaaGreatDoor.Mem
open Go.RowKit
theorem copy_any (M : List Nat) (e : EntryD) (dv : Value) (w : World) (h : Ds w M dv e.ds) (hb : e.ds.length * 24 ≤ 140737488355328) :
  Calls Tryz.prog 138 #[.agg (eCell (e, dv)).toArray] w fun r w' => ∃ dv', r = .returned (.agg (eCell (e, dv')).toArray) ∧ (∀ M', (∀ g ∈ M', g < w.heap.size) → Ds w' M' dv' e.ds) ∧ Below w.heap.size w w' := by
 unfold eCell
 go_enter Tryz.func138, Tryz.ntmps138
 go_wp2_with fail
 refine (cloneDelta M dv _ _ _ ((h.keep (Keeps.refl [] _) (by simp)).keep (((Keeps.refl [] w).alloc _).alloc _) (by simp)) (dCells_one _) hb).mono ?_
 rintro r w1 ⟨v', rfl, hown, hbel⟩
 obtain ⟨hc, hf⟩ := bcell hbel
 have hc5 : w1.cell? ⟨w.heap.size, 5, none⟩ = some dv := by rw [hc _ _ (by simp; omega)]; go_simp
 have hz : w.heap.size + 1 < w1.heap.size := by have := hbel.size; simp at this; omega
 have hrd : ∀ M', (∀ g ∈ M', g < w.heap.size + 2) → Rd w1 M' 2 v' e.ds.length (dCells e.ds) := fun M' hM => Rd.of_own hown (by intro g hg; have := hM g hg; simp; omega)
 have hb2 : Below w.heap.size w w1 := ((Below.refl _ _).alloc (Nat.le_refl _) _).alloc (by simp) _ |>.trans (hbel.mono (by simp; omega))
 clear hown hbel
 obtain ⟨A, c, rfl, hc2, _⟩ := hrd [] (by simp)
 have Hrd := Lib.hid hrd; have Hb2 := Lib.hid hb2; have Hh := Lib.hid h; have Hb := Lib.hid hb
 clear hrd hb2 h hb
 go_wp2_with (go_at_call 76; refine (clipDelta A _ c _ hc2).mono ?_; rintro e w' ⟨rfl, rfl⟩)
 have hd : ∀ o, o < 9 → ∃ u, w1.cell? ⟨w.heap.size + 1, o, none⟩ = some u := by
  intro o ho
  rw [hc _ _ (by simp)]
  rcases (show o = 0 ∨ o = 1 ∨ o = 2 ∨ o = 3 ∨ o = 4 ∨ o = 5 ∨ o = 6 ∨ o = 7 ∨ o = 8 by omega) with rfl | rfl | rfl | rfl | rfl | rfl | rfl | rfl | rfl <;> exact ⟨_, by go_simp; rfl⟩
 obtain ⟨u0, d0⟩ := hd 0 (by omega); obtain ⟨u1, d1⟩ := hd 1 (by omega); obtain ⟨u2, d2⟩ := hd 2 (by omega); obtain ⟨u3, d3⟩ := hd 3 (by omega)
 obtain ⟨u4, d4⟩ := hd 4 (by omega); obtain ⟨u5, d5⟩ := hd 5 (by omega); obtain ⟨u6, d6⟩ := hd 6 (by omega); obtain ⟨u7, d7⟩ := hd 7 (by omega); obtain ⟨u8, d8⟩ := hd 8 (by omega)
 refine bodyPost_ret (v := .agg #[.int .i64 e.kind, .int .i64 e.ag, .int .i64 e.sh, .int .i64 e.seq, .int .i64 e.ep, .slice A e.ds.length e.ds.length, .string e.ser, .int .i64 e.fr, .int .i64 e.tag]) (by simp [results, Tryz.results138, go_sem, d0, d1, d2, d3, d4, d5, d6, d7, d8]) rfl ⟨_, rfl, ?_, ?_⟩
 ·intro M' hM
  have h0 := (Hrd.out (w.heap.size :: (w.heap.size + 1) :: M') (by intro g hg; simp at hg; rcases hg with rfl | rfl | hg; omega; omega; have := hM g hg; omega)).clip
  refine (h0.keep (M' := [w.heap.size, w.heap.size + 1]) ?_ ?_).more.more
  ·repeat (first | (with_reducible refine Keeps.setCell ?_ (by simp) _) | (with_reducible exact Keeps.refl _ _))
  ·intro g hg; simp at hg; rcases hg with rfl | rfl <;> simp
 ·repeat (first | (with_reducible refine Below.setCell ?_ (by simp) _) | (with_reducible exact Hb2.out))
theorem infoEntry : (Tryz.prog.info? 26).map (fun i => (i.zero, i.size, i.bytes)) = some (some (.agg #[.int .i64 0, .int .i64 0, .int .i64 0, .int .i64 0, .int .i64 0, .slice none 0 0, .string ByteArray.empty, .int .i64 0, .int .i64 0]), 9, 96) := by kernel_rfl
set_option maxRecDepth 100000 in
set_option maxHeartbeats 400000 in
theorem copies_any (M : List Nat) (v : Value) (l : List EntryD) (w : World) (h : Ens w M v l) (hn : l.length ≤ 1048576) (hb : ∀ e ∈ l, e.ds.length ≤ 1048576) :
  Calls Tryz.prog 81 #[v] w fun r w' => ∃ A, r = .returned (.slice A l.length l.length) ∧ (∀ M', (∀ g ∈ M', g < w.heap.size) → Ens w' M' (.slice A l.length l.length) l) ∧ Below w.heap.size w w' := by
 obtain ⟨A, c, rfl, hc⟩ := h.len
 obtain ⟨i0, hi0, hz0, hz1, hz2⟩ := info_parts infoEntry
 have Hh := Lib.hid h; have Hb := Lib.hid hb
 have Hi0 := Lib.hid hi0; have Hz0 := Lib.hid hz0; have Hz1 := Lib.hid hz1; have Hz2 := Lib.hid hz2
 clear h hb hi0 hz0 hz1 hz2
 go_enter Tryz.func81, Tryz.ntmps81
 go_wp2
 go_loopw [3, 8] (fun out i wr => ∃ (k : Nat) (qs : List (EntryD × Value)), k ≤ l.length ∧ i = .int .i64 k ∧ Hid (qs.map (·.1) = l.take k) ∧ Hid (wr.ownsRow w.heap.size 26 9 out k (qs.flatMap eCell)) ∧ Hid (DsOwn w wr out qs) ∧ Below w.heap.size w wr)
  (fun _ i _ => l.length - (intOf i).toNat)
 case atStart => exact ⟨0, [], by omega, rfl, rfl, World.ownsRow_nil _ _ _ _, (show DsOwn _ _ _ _ from by intro q hq; cases hq), Below.refl _ _⟩
 case round =>
  obtain ⟨k, qs, hk, rfl, hq, hown, hds, hbel⟩ := hrel
  have Hbel := Lib.hid hbel; clear hbel
  by_cases hlt : k < l.length
  ·obtain ⟨ps, hps, hr, hd⟩ := Hh.out.keep (Keeps.of_below (M := []) Hbel.out) (by simp)
   have hpk : k < ps.length := by rw [← List.length_map (f := (·.1)), hps]; exact hlt
   obtain ⟨g, off, cap, he, hcap, hg, hgM, hcell⟩ := Rd.at_ eCell 9 (fun _ => rfl) hr hpk
   injection he with he1 he2 he3
   subst he1
   have Hhyp := Lib.hid hcell
   have hc0 : wr.cell? ⟨g, off + k * 9, none⟩ = _ := hcell 0 _ rfl; have hc1 := hcell 1 _ rfl; have hc2 := hcell 2 _ rfl; have hc3 := hcell 3 _ rfl; have hc4 := hcell 4 _ rfl; have hc5 := hcell 5 _ rfl; have hc6 := hcell 6 _ rfl; have hc7 := hcell 7 _ rfl; have hc8 := hcell 8 _ rfl
   clear hcell
   have hdk := hd ps[k] (List.getElem_mem hpk)
   have hek : ps[k].1 = l[k] := by subst hps; simp
   have hmk := List.getElem_mem hlt
   have Hps := Lib.hid hps; have Hr := Lib.hid hr; have Hd := Lib.hid hd
   clear hps hr hd he3 hcap he2
   generalize ps[k] = pk at *
   obtain ⟨ek, dvk⟩ := pk
   obtain ⟨Ad, cd, hdv, hcd⟩ := hdk.len
   simp only at hdv hek hcd
   subst hdv
   have Hdk := Lib.hid hdk; have Hek := Lib.hid hek; have Hmk := Lib.hid hmk
   clear hdk hek hmk
   go_wp2_with fail
   refine (copy_any [] ek (.slice Ad ek.ds.length cd) _ ?_ ?_).mono ?_
   ·exact (Hdk.out.avoid (M' := []) (by simp)).keep (M' := []) ((Keeps.refl _ _).alloc _) (by simp)
   ·have := Hb.out _ Hmk.out; rw [← Hek.out] at this; omega
   rintro r w1 ⟨dv', rfl, hds', hbel'⟩
   obtain ⟨Ad', cd', hdv', hcd'⟩ := (hds' [] (by simp)).len
   subst hdv'
   simp only [eCell]
   have hb1 : Below wr.heap.size wr w1 := (below_new' wr _).trans (hbel'.mono (by simp))
   have hown1 := Lib.hid ((own_below hown.out hb1).alloc (.cells (eCell (ek, .slice Ad' ek.ds.length cd')).toArray 26))
   have Hds' := Lib.hid hds'; have Hbel' := Lib.hid hb1
   clear hds' hbel' hb1
   go_wp2_with (at_builtin; refine wpList_append_any _ rfl (.tmp 12) (.tmp 15) _ rfl w.heap.size 26 i0 _ 9 96 Tryz.underlying52 Hi0.out Hz0.out Hz1.out Hz2.out rfl (by omega) u3 k (qs.flatMap eCell) rfl hown1.out (w1.heap.size + 1) (some ⟨w1.heap.size, 0, none⟩) 1 1 (eCell (ek, .slice Ad' ek.ds.length cd')) rfl (reads_new _ _ _ _ _ rfl) ?_ ?_ ?_ ?_ ?_)
   ·intro u hu; simp [eCell] at hu; rcases hu with rfl | rfl | rfl | rfl | rfl | rfl | rfl | rfl | rfl <;> rfl
   ·unfold maxLen; omega
   ·omega
   ·have := Hbel.out.size; have := Hbel'.out.size; simp; omega
   ·intro v2 w2 hown2 hg2 hat2
    have hlt0 : ∀ g, u3.ownBlock = some g → w.heap.size ≤ g ∧ g < wr.heap.size := hown.out.lt
    have R1 := Lib.hid (dsOwn_step (e := ek) hds.out Hbel'.out (fun g hg => (hlt0 g hg).2) Hbel.out.size (fun M' hM => Hds'.out M' (fun g hg => by have := hM g hg; simp; omega)) hg2 hat2)
    have R2 := Lib.hid (below_step Hbel.out Hbel'.out hg2 (fun g hg => (hlt0 g hg).1))
    have R3 := Lib.hid hown2
    clear hown2 hg2 hat2 hlt0
    go_wp2
    go_roundw
    case rel => exact ⟨k + 1, qs ++ [(ek, .slice Ad' ek.ds.length cd')], by omega, by go_num, (by show _ = _; rw [List.map_append, hq.out, List.take_succ_eq_append_getElem hlt, ← Hek.out]; rfl), (by show World.ownsRow _ _ _ _ _ _ _; rw [List.flatMap_append]; simpa using R3.out), R1, R2.out⟩
    case measure => simp [intOf]; omega
  ·have hk' : k = l.length := by omega
   subst hk'
   have hqs : qs.map (·.1) = l := by rw [hq.out, List.take_length]
   have hlen : qs.length = l.length := by rw [← hqs, List.length_map]
   have hens : ∀ M', (∀ g ∈ M', g < w.heap.size) → Ens wr M' u3 l := fun M' hM => ⟨qs, hqs, by rw [hlen]; exact Rd.of_own hown.out hM, fun p hp => hds.out p hp M' (fun g hg => .inl (hM g hg))⟩
   obtain ⟨Ao, co, rfl, hco⟩ := (hens [] (by simp)).len
   have Hens := Lib.hid hens
   clear hens hqs hlen
   go_wp2_with (go_at_call 139; refine (clipEntry Ao _ co _ hco).mono ?_; rintro e w' ⟨rfl, rfl⟩)
   go_ret
   refine ⟨Ao, rfl, fun M' hM => ?_, Hbel.out⟩
   obtain ⟨ps, h1, h2, h3⟩ := Hens.out M' hM
   have hl : ps.length = l.length := by rw [← h1, List.length_map]
   exact ⟨ps, h1, by rw [hl] at h2 ⊢; exact h2.clip, h3⟩
end Go.Proofs.YtinnifhnabncfaaGreatDoor.Mem
end
section
namespace Go.Proofs.YtinnifhnabncfaaGreatDoor.Vi
open Go.RowKit Base Mem Tape Go.Shelf
/-- A replica's word lies in block s, its log in p, its disk in d. -/
def StAt (w : World) (s p : Nat) (Y : List Nat) (x : WordD) (d : Nat) (b : List UInt8) (k n : Nat) : Prop :=
 ∃ lv, Blk w s 120 #[.int .i64 x.t, .int .i64 x.h, lv, .pointer (some ⟨p, 0, none⟩)] ∧ Ens w (s :: p :: Y) lv x.log ∧ LgAt w p Y d b k n ∧ s ∉ p :: Y ∧ WOk x
theorem LgAt.old {w : World} {p : Nat} {Y : List Nat} {d k n : Nat} {b : List UInt8} (h : LgAt w p Y d b k n) : ∀ g ∈ p :: Y, g < w.heap.size := fun g hg => by
 rcases List.mem_cons.1 hg with rfl | hg
 ·exact h.1.lt
 ·exact h.2.1.old g hg
section
variable {w w' : World} {s p : Nat} {Y : List Nat} {x : WordD} {d k n : Nat} {b : List UInt8}
theorem StAt.old (h : StAt w s p Y x d b k n) : ∀ g ∈ s :: p :: Y, g < w.heap.size := fun g hg => by
 obtain ⟨lv, hb, _, hl, _⟩ := h
 rcases List.mem_cons.1 hg with rfl | hg
 ·exact hb.lt
 ·exact hl.old g hg
theorem StAt.ok (h : StAt w s p Y x d b k n) : WOk x := by obtain ⟨_, _, _, _, _, h⟩ := h; exact h
theorem StAt.keep {M : List Nat} (h : StAt w s p Y x d b k n) (hk : Keeps M w w') (hM : ∀ g ∈ M, w.heap.size ≤ g) : StAt w' s p Y x d b k n := by
 have ho := h.old
 obtain ⟨lv, hb, he, hl, hs, ho'⟩ := h
 exact ⟨lv, hk.blk hb (fun hm => by have := hM s hm; have := ho s (by simp); omega), he.keep hk (fun g hg => .inr (hM g hg)), hl.keep hk (fun g hg hm => by have := hM g hm; have := ho g (by simp at hg ⊢; exact .inr hg); omega), hs, ho'⟩
theorem StAt.keep0 (h : StAt w s p Y x d b k n) (hk : Keeps [] w w') : StAt w' s p Y x d b k n := h.keep hk (by simp)
theorem StAt.lv (h : StAt w s p Y x d b k n) : ∃ A c, Blk w s 120 #[.int .i64 x.t, .int .i64 x.h, .slice A x.log.length c, .pointer (some ⟨p, 0, none⟩)] ∧ Ens w (s :: p :: Y) (.slice A x.log.length c) x.log := by
 obtain ⟨lv, hb, he, _⟩ := h
 obtain ⟨A, c, rfl, _⟩ := he.len
 exact ⟨A, c, hb, he⟩
end
theorem blk4 {w : World} {g : Nat} {t : TypeId} {c0 c1 c2 c3 : Value} (h : Blk w g t #[c0, c1, c2, c3]) :
  w.cell? ⟨g, 0, none⟩ = some c0 ∧ w.cell? ⟨g, 1, none⟩ = some c1 ∧ w.cell? ⟨g, 2, none⟩ = some c2 ∧ w.cell? ⟨g, 3, none⟩ = some c3 ∧ g < w.heap.size := ⟨h.cell 0, h.cell 1, h.cell 2, h.cell 3, h.lt⟩
section
variable {s p : Nat} {Y : List Nat} {x : WordD} {d k n : Nat} {b : List UInt8}
theorem vterm_any (w : World) (h : StAt w s p Y x d b k n) :
  Calls Tryz.prog 31 #[.pointer (some ⟨s, 0, none⟩)] w fun e w' => e = .returned (.int .i64 x.t) ∧ w = w' := by
 obtain ⟨A, c, hb, _⟩ := h.lv
 obtain ⟨c0, c1, c2, c3, hlt⟩ := blk4 hb
 clear h hb
 go_enter Tryz.func31, Tryz.ntmps31
 go_wp2
 go_ret
 exact ⟨rfl, rfl⟩
theorem vhad_any (w : World) (h : StAt w s p Y x d b k n) :
  Calls Tryz.prog 32 #[.pointer (some ⟨s, 0, none⟩)] w fun e w' => e = .returned (.int .i64 x.h) ∧ w = w' := by
 obtain ⟨A, c, hb, _⟩ := h.lv
 obtain ⟨c0, c1, c2, c3, hlt⟩ := blk4 hb
 clear h hb
 go_enter Tryz.func32, Tryz.ntmps32
 go_wp2
 go_ret
 exact ⟨rfl, rfl⟩
/-- What a call answers that makes a row of entries. -/
def EnsPost (l : List EntryD) (w : World) (e : Ending) (w' : World) : Prop := ∃ A, e = .returned (.slice A l.length l.length) ∧ (∀ M, (∀ g ∈ M, g < w.heap.size) → Ens w' M (.slice A l.length l.length) l) ∧ Keeps [] w w'
theorem eok_ds8 {e : EntryD} (h : EOk e) : e.ds.length ≤ 8 := by
 obtain ⟨hr, _⟩ := h
 have hk := right_kind hr
 rcases (right_facts hr).2 with h | h
 ·have : e.ds = [] := by
   unfold kindS at hk
   simp [h] at hk
   first | exact hk.2 | exact hk.2.2 | exact hk
  rw [this]; simp
 ·exact h.2.2.2.2.2.2.2
theorem vlog_any (w : World) (h : StAt w s p Y x d b k n) :
  Calls Tryz.prog 33 #[.pointer (some ⟨s, 0, none⟩)] w fun e w' => EnsPost x.log w e w' := by
 have hok := h.ok
 obtain ⟨A, c, hb, he⟩ := h.lv
 obtain ⟨c0, c1, c2, c3, hlt⟩ := blk4 hb
 have hc := Lib.hid (copies_any _ _ x.log w he (by have := hok.2.2.1; omega) (fun e hm => by have := eok_ds8 (hok.2.2.2 e hm); omega))
 clear h hb he
 go_enter Tryz.func33, Tryz.ntmps33
 go_wp2_with fail
 refine hc.out.mono ?_
 rintro e w1 ⟨A1, rfl, hE, hb1⟩
 have hP : Hid (EnsPost x.log w (.returned (.slice A1 x.log.length x.log.length)) w1) := ⟨A1, rfl, hE, Keeps.of_below hb1⟩
 clear hE hb1
 go_wp2
 go_ret
 exact hP.out
end
def KpOk (y : WordD) (b : List UInt8) : Prop := (recL y).length ≤ 65536 ∧ b.length + (frameL (recL y)).length ≤ 1048576
instance (y : WordD) (b : List UInt8) : Decidable (KpOk y b) := inferInstanceAs (Decidable (_ ∧ _))
def KpPost (s p : Nat) (Y : List Nat) (y : WordD) (d : Nat) (b : List UInt8) (n : Nat) (w : World) (e : Ending) (w' : World) : Prop :=
 if KpOk y b then e = .returned (.bool true) ∧ ∃ Y', StAt w' s p Y' y d (b ++ frameL (recL y)) (b.length + (frameL (recL y)).length) (n + 1) ∧ Grows Y w Y' ∧ Keeps (s :: p :: Y) w w'
 else e = .returned (.bool false) ∧ Keeps [] w w'
set_option maxRecDepth 100000 in
set_option maxHeartbeats 1000000 in
theorem vkeep_any (s p : Nat) (Y : List Nat) (x y : WordD) (d k n : Nat) (b : List UInt8) (w : World) (h : StAt w s p Y x d b k n) (lv : Value) (he : Ens w (s :: p :: Y) lv y.log) (hy : WOk y) (m : Int) (hm : w.cell? ⟨0, 0, none⟩ = some (.int .i64 m)) :
    Calls Tryz.prog 82 #[.pointer (some ⟨s, 0, none⟩), .agg #[.int .i64 y.t, .int .i64 y.h, lv]] w fun e w' => KpPost s p Y y d b n w e w' := by
  have hw0 : 0 < w.heap.size := by
    have := World.block_lt_of_cell? w _ hm
    simpa using this
  have hkeepm : Hid (∀ W, Keeps [] w W → W.cell? ⟨0, 0, none⟩ = some (.int .i64 m)) := fun W hb => (hb.cell (p := ⟨0, 0, none⟩) hw0 (by simp)).trans hm
  obtain ⟨Al, cl, rfl, _⟩ := he.len
  have H := Lib.hid h; have HE := Lib.hid he; have HY := Lib.hid hy
  have hut := Lib.uvarint_length64 (x := y.t) (by have := hy.1; omega)
  have huh := Lib.uvarint_length64 (x := y.h) (by have := hy.2.1; omega)
  have wt : IntKind.u64.wrap (y.t : Int) = (y.t : Int) := by rw [IntKind.wrap_u64]; have := hy.1; omega
  have wh : IntKind.u64.wrap (y.h : Int) = (y.h : Int) := by rw [IntKind.wrap_u64]; have := hy.2.1; omega
  obtain ⟨w1, hw1⟩ : ∃ w1, w1 = w.alloc (.cells #[.int .i64 y.t, .int .i64 y.h, .slice Al y.log.length cl] 118) := ⟨_, rfl⟩
  have hB1 : Blk w1 w.heap.size 118 #[.int .i64 y.t, .int .i64 y.h, .slice Al y.log.length cl] := by rw [hw1]; exact Blk.new w _ _
  have hk1 : Keeps [] w w1 := by rw [hw1]; exact (Keeps.refl _ _).alloc _
  have HB1 := Lib.hid hB1; have Hk1 := Lib.hid hk1
  have HP1 : Hid (∀ W, Calls Tryz.prog 118 #[.slice none 0 0, .int .u64 y.t] W fun e w' => BsPost ([] ++ Lib.uvarint y.t) W e w') := fun W => put_any _ [] y.t W (Bs.nil _ _) (by have := hy.1; omega) (by simp)
  obtain ⟨L1, hL1⟩ : ∃ L1, L1 = [] ++ Lib.uvarint y.t := ⟨_, rfl⟩
  obtain ⟨L2, hL2⟩ : ∃ L2, L2 = L1 ++ Lib.uvarint y.h := ⟨_, rfl⟩
  have hl1 : L1.length ≤ 10 := by rw [hL1]; simpa using hut
  have hl2 : L2.length ≤ 20 := by rw [hL2, List.length_append]; omega
  have HP2 : Hid (∀ W A, Bs W [] (.slice A L1.length L1.length) L1 → Calls Tryz.prog 118 #[.slice A L1.length L1.length, .int .u64 y.h] W fun e w' => BsPost L2 W e w') := fun W A hv => by
    rw [hL2]; exact put_any _ L1 y.h W hv (by have := hy.2.1; omega) (by omega)
  have HP3 : Hid (∀ W A, Keeps [] w W → Bs W [] (.slice A L2.length L2.length) L2 → Calls Tryz.prog 140 #[.slice A L2.length L2.length, .slice Al y.log.length cl] W fun e w' => BsPost (recL y) W e w') := fun W A hk hv => by
    have := mput_any _ L2 _ y.log m W hv ((he.avoid (M' := []) (by simp)).keep hk (by simp)) hy.2.2.2 hy.2.2.1 (by omega) (hkeepm.out W hk)
    have e : L2 ++ putLog y.log = recL y := by rw [hL2, hL1]; rfl
    rwa [e] at this
  rw [← hL1] at HP1
  obtain ⟨lx, cx, hbx, _⟩ := h.lv
  obtain ⟨hin, hw1s, hsY⟩ : Hid (LgAt w p Y d b k n) ∧ w.heap.size < w1.heap.size ∧ Hid (s ∉ p :: Y) := by
    obtain ⟨_, _, _, hl, hs, _⟩ := h
    exact ⟨hl, HB1.out.lt, hs⟩
  have hsz := h.old s (by simp)
  have HBx := Lib.hid hbx
  have HT : Hid (∀ e W, KpOk y b → (e = .returned (.bool true) ∧ ∃ Y', StAt W s p Y' y d (b ++ frameL (recL y)) (b.length + (frameL (recL y)).length) (n + 1) ∧ Grows Y w Y' ∧ Keeps (s :: p :: Y) w W) → KpPost s p Y y d b n w e W) := fun e W h1 h2 => by unfold KpPost; rw [if_pos h1]; exact h2
  have HF : Hid (∀ e W, ¬ KpOk y b → (e = .returned (.bool false) ∧ Keeps [] w W) → KpPost s p Y y d b n w e W) := fun e W h1 h2 => by unfold KpPost; rw [if_neg h1]; exact h2
  have HK : Hid (KpOk y b ↔ (recL y).length ≤ 65536 ∧ b.length + (frameL (recL y)).length ≤ 1048576) := (Iff.rfl : _ ↔ _)
  generalize recL y = R at *
  clear h he hy hm hk1 hB1 hL1 hL2 hbx
  have HC : Hid (∀ W, Keeps [] w1 W → W.cell? ⟨w.heap.size, 0, none⟩ = some (.int .i64 y.t) ∧ W.cell? ⟨w.heap.size, 1, none⟩ = some (.int .i64 y.h) ∧ W.cell? ⟨w.heap.size, 2, none⟩ = some (.slice Al y.log.length cl)) := fun W hk => by
    have hb := hk.blk HB1.out (by simp)
    exact ⟨hb.cell 0, hb.cell 1, hb.cell 2⟩
  have hk1 := Lib.hid (Keeps.refl [] w1)
  go_enter Tryz.func82, Tryz.ntmps82
  go_wp2_with fail
  rw [← hw1]
  clear hw1
  go_region_held3 (fun W => W.cell? ⟨w.heap.size, 0, none⟩ = some (.int .i64 y.t) ∧ W.cell? ⟨w.heap.size, 1, none⟩ = some (.int .i64 y.h) ∧ W.cell? ⟨w.heap.size, 2, none⟩ = some (.slice Al y.log.length cl)) (first | exact HC.out _ hk4.out | exact HC.out _ hk4.out.drew | exact HC.out _ hk3.out | exact HC.out _ hk3.out.drew | exact HC.out _ hk2.out | exact HC.out _ hk2.out.drew | exact HC.out _ hk1.out | exact HC.out _ hk1.out.drew) (first
    | (go_at_call 118
       with_reducible refine (HP1.out _).mono ?_
       rintro e w2 ⟨A2, rfl, hS, hb⟩
       have HS2 := Lib.hid (hS [] (by simp))
       have hk2 := Lib.hid (hk1.out.drew.trans (Keeps.of_below (M := []) hb) (by simp))
       clear hS hb)
    | (go_at_call 118
       with_reducible refine (HP2.out _ _ HS2.out).mono ?_
       rintro e w3 ⟨A3, rfl, hS, hb⟩
       have HS3 := Lib.hid (hS [] (by simp))
       have hk3 := Lib.hid (hk2.out.trans (Keeps.of_below (M := []) hb) (by simp))
       clear hS hb)
    | (go_at_call 140
       with_reducible refine (HP3.out _ _ (Hk1.out.trans hk3.out (by simp)) HS3.out).mono ?_
       rintro e w4 ⟨A4, rfl, hS, hb⟩
       have HS4 := Lib.hid (hS [] (by simp))
       have hk4 := Lib.hid (hk3.out.trans (Keeps.of_below (M := []) hb) (by simp))
       clear hS hb))
  have HK4 : Hid (Keeps [] w w4) := Hk1.out.trans hk4.out (by simp)
  have HB4 := Lib.hid (hk4.out.blk HB1.out (by simp))
  have HL4 := Lib.hid (hin.out.keep0 HK4.out)
  have HX4 := Lib.hid (HK4.out.blk HBx.out (by simp))
  obtain ⟨x0, x1, x2, x3, hsz4⟩ := blk4 HX4.out
  clear hk1 hk2 hk3 hk4 Hk1 HC HP1 HP2 HP3 HB1 HBx hkeepm x0 x1 x2
  go_wp2_with fail
  refine (wwrite_any p Y d k n b w4 HL4.out _ R HS4.out).mono ?_
  intro e w5 hpost
  by_cases hr : KpOk y b
  · have hr2 := HK.out.1 hr
    unfold WaPost at hpost
    rw [if_pos hr2] at hpost
    obtain ⟨rfl, Y', hL5, hG5, hK5⟩ := hpost
    simp only [if_true] at hL5
    have hB5 := hK5.blk HX4.out hsY.out
    have hg5 : w.heap.size ∉ p :: Y := fun hm => by have := hin.out.old _ hm; omega
    have hW5 := hK5.blk HB4.out hg5
    obtain ⟨x0, x1, x2, x3, hsz5⟩ := blk4 hB5
    have f0 := hB5.frozen 0; have f1 := hB5.frozen 1; have f2 := hB5.frozen 2
    have q0 : w5.cell? ⟨w.heap.size, 0, none⟩ = some (.int .i64 y.t) := hW5.cell 0
    have q1 : w5.cell? ⟨w.heap.size, 1, none⟩ = some (.int .i64 y.h) := hW5.cell 1
    have q2 : w5.cell? ⟨w.heap.size, 2, none⟩ = some (.slice Al y.log.length cl) := hW5.cell 2
    have hne : w.heap.size ≠ s := by omega
    have hR : Hid (KpPost s p Y y d b n w (.returned (.bool true)) (((w5.setCell ⟨s, 0, none⟩ (.int .i64 y.t)).setCell ⟨s, 1, none⟩ (.int .i64 y.h)).setCell ⟨s, 2, none⟩ (.slice Al y.log.length cl))) := by
      refine HT.out _ _ hr ⟨rfl, Y', ?_, ?_, ?_⟩
      · have hks : Keeps [s] w5 (((w5.setCell ⟨s, 0, none⟩ (.int .i64 y.t)).setCell ⟨s, 1, none⟩ (.int .i64 y.h)).setCell ⟨s, 2, none⟩ (.slice Al y.log.length cl)) := (((Keeps.refl _ _).setCell (by simp) _).setCell (by simp) _).setCell (by simp) _
        have hsY' : s ∉ p :: Y' := fun hm => by
          rcases List.mem_cons.1 hm with rfl | hm
          · exact hsY.out (by simp)
          · rcases hG5 s hm with h | h
            · exact hsY.out (by simp [h])
            · omega
        have hall : Keeps (s :: p :: Y) w (((w5.setCell ⟨s, 0, none⟩ (.int .i64 y.t)).setCell ⟨s, 1, none⟩ (.int .i64 y.h)).setCell ⟨s, 2, none⟩ (.slice Al y.log.length cl)) := by
          exact ((HK4.out.mono (M' := s :: p :: Y) (by simp)).trans hK5 (fun g hg => .inl (List.mem_cons_of_mem _ hg))).trans hks (fun g hg => by simp at hg; subst hg; exact .inl (by simp))
        have he6 := ((HE.out.avoid (M' := (s :: p :: Y) ++ Y') (fun g hg => by
          rcases List.mem_append.1 hg with h | h
          · exact .inl h
          · rcases hG5 g h with h' | h'
            · exact .inl (by simp [h'])
            · exact .inr (Nat.le_trans HK4.out.size h'))).keep hall (fun g hg => .inl (List.mem_append_left _ hg))).avoid (M' := s :: p :: Y') (fun g hg => by
          left
          simp only [List.mem_cons, List.mem_append] at hg ⊢
          rcases hg with h | h | h
          · exact .inl (.inl h)
          · exact .inl (.inr (.inl h))
          · exact .inr h)
        exact ⟨.slice Al y.log.length cl, by simpa using ((hB5.set_ 0 (.int .i64 y.t)).set_ 1 (.int .i64 y.h)).set_ 2 (.slice Al y.log.length cl), he6, hL5.keep hks (fun g hg hm => by simp at hm; subst hm; exact hsY' hg), hsY', HY.out⟩
      · intro g hg
        rcases hG5 g hg with h | h
        · exact .inl h
        · exact .inr (Nat.le_trans HK4.out.size h)
      · have hks : Keeps [s] w5 (((w5.setCell ⟨s, 0, none⟩ (.int .i64 y.t)).setCell ⟨s, 1, none⟩ (.int .i64 y.h)).setCell ⟨s, 2, none⟩ (.slice Al y.log.length cl)) := (((Keeps.refl _ _).setCell (by simp) _).setCell (by simp) _).setCell (by simp) _
        exact ((HK4.out.mono (M' := s :: p :: Y) (by simp)).trans hK5 (fun g hg => .inl (List.mem_cons_of_mem _ hg))).trans hks (fun g hg => by simp at hg; subst hg; exact .inl (by simp))
    clear hL5 hG5 hK5 hB5 hW5
    go_wp2_with fail
    go_ret
    exact hR.out
  · unfold WaPost at hpost
    rw [if_neg (fun h => hr (HK.out.2 h))] at hpost
    obtain ⟨z, rfl, hz, hk⟩ := hpost
    have hR : Hid (KpPost s p Y y d b n w (.returned (.bool false)) w5) := HF.out _ _ hr ⟨rfl, HK4.out.trans hk (by simp)⟩
    have hz0 : (z != 0) = true := by simpa using hz
    clear hk
    go_wp2_with fail
    go_ret
    exact hR.out
end Go.Proofs.YtinnifhnabncfaaGreatDoor.Vi
end
