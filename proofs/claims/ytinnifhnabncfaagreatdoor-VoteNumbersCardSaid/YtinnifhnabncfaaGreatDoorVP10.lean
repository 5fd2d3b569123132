/- Texts put together: RvB, Vote1, Vote3, RefR, RvC, Vote4, Vote5, RvD. -/
import Derived.Deep.RegionHeld3
import Derived.Deep.RegionWith
import Derived.StillTailTactics
import Derived.Test.YtinnifhnabncfaaGreatDoorVP5
import Derived.Test.YtinnifhnabncfaaGreatDoorVP6
import Derived.Test.YtinnifhnabncfaaGreatDoorVP7
import Derived.Test.YtinnifhnabncfaaGreatDoorVP8
import Derived.Test.YtinnifhnabncfaaGreatDoorVP9
set_option linter.unusedVariables false
set_option linter.unusedSimpArgs false
section
namespace Go.Proofs.YtinnifhnabncfaaGreatDoor.Vi
open Go.RowKit Base Mem Go.Shelf
section
variable {M : List Nat} {d k : Nat} {b : List UInt8}
def R7Post (M : List Nat) (d : Nat) (b : List UInt8) (w : World) (e : Ending) (w' : World) : Prop :=
 ∃ v, e = .returned v ∧ (∀ M', (∀ g ∈ M', g < w.heap.size) → Bss w' M' v (scanS b).1) ∧ RDk w' M d (b.take (scanS b).2) (scanS b).2 ∧ Keeps [d] w w'
set_option maxRecDepth 100000 in
theorem r7open_any (w : World) (h : RDk w M d b k) :
  Calls Tryz.prog 144 #[.pointer (some ⟨d, 0, none⟩)] w fun e w' => R7Post M d b w e w' := by
 have hle := h.le
 have hlt := h.lt
 have H := Lib.hid h
 obtain ⟨hs1, _, _⟩ := scanS_bd b
 obtain ⟨v, hb, hr, _⟩ := h
 obtain ⟨A, c, rfl, hc⟩ := hr.len
 have c0 := hb.cell 0
 simp only [List.getElem?_toArray, List.getElem?_cons_succ, List.getElem?_cons_zero] at c0
 have hsc := Lib.hid (rscan_any _ b w (hr.avoid (M' := []) (by simp)) (by omega))
 have hct := Lib.hid (fun W (hk : Keeps [] w W) => rdkcut_any W (H.out.keep0 hk) (scanS b).2 hs1)
 clear hb hr
 unfold ScPost at hsc
 unfold R7Post
 generalize scanS b = R at *
 obtain ⟨rs, n⟩ := R
 simp only [] at hsc hct hs1 ⊢
 go_enter Tryz.func144, Tryz.ntmps144
 go_wp2_with fail
 refine hsc.out.mono ?_
 rintro e w1 ⟨v1, rfl, hB1, hb1⟩
 have HB1 := Lib.hid hB1; have Hb1 := Lib.hid hb1
 clear hB1 hb1 hsc c0
 obtain ⟨A1, n1, c1, rfl⟩ : ∃ A1 n1 c1, v1 = .slice A1 n1 c1 := by obtain ⟨ps, _, hr, _⟩ := HB1.out [] (by simp); obtain ⟨A', c', e, _⟩ := hr; exact ⟨_, _, _, e⟩
 go_wp2_with fail
 refine (hct.out w1 (Keeps.of_below (M := []) Hb1.out)).mono ?_
 rintro e w2 ⟨rfl, hD, hk⟩
 have HD := Lib.hid hD
 have Hk := Lib.hid (((Keeps.of_below (M := []) Hb1.out).mono (M' := [d]) (by simp)).trans hk (fun g hg => .inl hg))
 have HB2 : Hid (∀ M', (∀ g ∈ M', g < w.heap.size) → Bss w2 M' (.slice A1 n1 c1) rs) := fun M' hM => by
  have h1 := HB1.out (d :: M') (fun g hg => by rcases List.mem_cons.1 hg with rfl | hg; exact hlt; exact hM g hg)
  exact (h1.keep hk (fun g hg => .inl (by simp at hg; simp [hg]))).avoid (fun g hg => .inl (List.mem_cons_of_mem _ hg))
 clear hD hk hct HB1
 go_wp2
 go_ret
 exact ⟨_, rfl, HB2.out, HD.out, Hk.out⟩
def RrPost (M : List Nat) (d : Nat) (b l : List UInt8) (k : Nat) (w : World) (e : Ending) (w' : World) : Prop :=
 if l.length ≤ 65536 ∧ b.length + (frameL l).length ≤ 1048576 then e = .returned (.int .i64 0) ∧ RDk w' M d (b ++ frameL l) k ∧ Keeps [d] w w'
 else ∃ c : Int, (c != 0) = true ∧ e = .returned (.int .i64 c) ∧ RDk w' M d b k ∧ Keeps [] w w'
set_option maxRecDepth 100000 in
theorem r7record_any (w : World) (h : RDk w M d b k) (v : Value) (l : List UInt8) (hv : Bs w [] v l) (hl : l.length ≤ 100000000000000) :
  Calls Tryz.prog 184 #[.pointer (some ⟨d, 0, none⟩), v] w fun e w' => RrPost M d b l k w e w' := by
 have H := Lib.hid h
 have hfr := Lib.hid (rframe_any v l w hv (by omega))
 obtain ⟨A, c, rfl, hc⟩ := hv.len
 unfold RrPost
 clear h hv
 go_enter Tryz.func184, Tryz.ntmps184
 by_cases hs : l.length ≤ 65536
 ·have hs1 : ¬ ((65536 : Int) < (l.length : Int)) := by omega
  have hs2 : decide ((65536 : Int) < (l.length : Int)) = false := decide_eq_false hs1
  have hfl : (frameL l).length ≤ 10000000 := by
   have h1 := frameL_len l
   have u := Lib.uvarint_length64 (x := l.length) (by omega)
   omega
  generalize frameL l = fl at *
  go_wp2_with fail
  refine hfr.out.mono ?_
  rintro e w1 ⟨v1, rfl, hown, hb1⟩
  have Hb1 := Lib.hid (Keeps.of_below (M := []) hb1)
  have hap := Lib.hid (rdkappend_any w1 (H.out.keep0 Hb1.out) v1 fl (own_bs hown) hfl)
  clear hown hb1 hfr
  unfold RaPost at hap
  go_wp2_with fail
  refine hap.out.mono ?_
  intro e w2 hp
  by_cases hfit : b.length + fl.length ≤ 1048576
  ·rw [if_pos hfit] at hp
   obtain ⟨rfl, hD, hk⟩ := hp
   have HD := Lib.hid hD
   have Hk := Lib.hid ((Hb1.out.mono (M' := [d]) (by simp)).trans hk (fun g hg => .inl hg))
   clear hD hk hap
   simp only [if_pos (show l.length ≤ 65536 ∧ b.length + fl.length ≤ 1048576 from ⟨hs, hfit⟩)]
   go_wp2
   go_ret
   exact ⟨rfl, HD.out, Hk.out⟩
  ·rw [if_neg hfit] at hp
   obtain ⟨rfl, rfl⟩ := hp
   simp only [if_neg (show ¬ (l.length ≤ 65536 ∧ b.length + fl.length ≤ 1048576) from fun h => hfit h.2)]
   go_wp2
   go_ret
   exact ⟨24, by decide, rfl, H.out.keep0 Hb1.out, Hb1.out⟩
 ·have hs1 : (65536 : Int) < (l.length : Int) := by omega
  simp only [if_neg (show ¬ (l.length ≤ 65536 ∧ b.length + (frameL l).length ≤ 1048576) from fun h => hs h.1)]
  go_wp2
  go_ret
  exact ⟨3, by decide, rfl, H.out, Keeps.refl _ _⟩
end
def RvPost (R : Option WordD) (w : World) (e : Ending) (w' : World) : Prop := match R with
 | some x => ∃ s lv, e = .returned (.tuple #[.pointer (some ⟨s, 0, none⟩), .bool true]) ∧ w.heap.size ≤ s ∧ Blk w' s 186 #[.pointer none, .int .i64 x.t, .int .i64 x.h, lv] ∧ (∀ M, (∀ g ∈ M, g < w.heap.size) → Ens w' (s :: M) lv x.log) ∧ Keeps [] w w'
 | none => ∃ s, e = .returned (.tuple #[.pointer s, .bool false]) ∧ Keeps [] w w'
set_option maxRecDepth 100000 in
set_option maxHeartbeats 2000000 in
theorem rread14_any (v : Value) (l : List UInt8) (w : World) (h : Bs w [] v l) (hl : l.length ≤ 65536) :
  Calls Tryz.prog 145 #[v] w fun e w' => RvPost (rreadV l) w e w' := by
 have HR : Hid (rreadV l = match rmgetS (intS (intS l false).2.1 (intS l false).2.2).2.1 (intS (intS l false).2.1 (intS l false).2.2).2.2 with
 | (none, _) => none
 | (some es, l', bad) => if bad = false ∧ l'.isEmpty = true ∧ es.length ≤ 128 then some ⟨(intS l false).1, (intS (intS l false).2.1 (intS l false).2.2).1, es⟩ else none) := rfl
 have l1 := intS_len l false
 have hi1 := Lib.hid (fun W p (hr : RRdAt W [] p l false) => rrint_any [] p l false W hr)
 obtain ⟨A, c, rfl, hc⟩ := h.len
 have HV := Lib.hid h
 clear h
 generalize rreadV l = RV at *
 generalize intS l false = r1 at *
 obtain ⟨t, l1', b1⟩ := r1
 simp only [] at l1 HR hi1
 have l2 := intS_len l1' b1
 have hi2 := Lib.hid (fun W p (hr : RRdAt W [] p l1' b1) => rrint_any [] p l1' b1 W hr)
 generalize intS l1' b1 = r2 at *
 obtain ⟨hd, l2', b2⟩ := r2
 simp only [] at l2 HR hi2
 have hg := Lib.hid (fun W M p (hr : RRdAt W M p l2' b2) => rreadlog_any M p l2' b2 W hr (by omega))
 generalize rmgetS l2' b2 = r3 at *
 obtain ⟨w1, hw1⟩ : ∃ w1, w1 = w.alloc (.cells #[.slice A l.length c, .bool false] 175) := ⟨_, rfl⟩
 have hk1 : Keeps [] w w1 := by rw [hw1]; exact (Keeps.refl _ _).alloc _
 have HA1 : Hid (RRdAt w1 [] w.heap.size l false) := by
  rw [hw1]
  exact ⟨by omega, _, Blk.new w _ _, (HV.out.avoid (M' := [w.heap.size]) (fun g hg => .inr (by simp at hg; omega))).keep (M' := []) ((Keeps.refl _ _).alloc _) (by simp)⟩
 have Hk1 := Lib.hid hk1; have Hw1 := Lib.hid hw1
 clear hk1 hw1 HV
 go_enter Tryz.func145, Tryz.ntmps145
 go_upto_region 2 with (fail)
 rw [← Hw1.out]
 clear Hw1
 obtain ⟨p, Hp⟩ : ∃ p, Hid (w.heap.size = p) := ⟨_, rfl⟩
 rw [Hp.out] at HA1 ⊢
 go_wp2_with fail
 refine (hi1.out w1 p HA1.out).mono ?_
 rintro e w2 ⟨rfl, hA2, hk2⟩
 have HA2 := Lib.hid hA2; have Hk2 : Hid (Keeps [p] w w2) := (Hk1.out.mono (M' := [p]) (by simp)).trans hk2 (fun g hg => .inl hg)
 clear hA2 hk2 Hk1 HA1
 go_wp2_with fail
 refine (hi2.out w2 p HA2.out).mono ?_
 rintro e w3 ⟨rfl, hA3, hk3⟩
 have hpl3 := hA3.lt
 obtain ⟨w4, hw4⟩ : ∃ w4, w4 = w3.alloc (.cells #[.pointer none, .int .i64 t, .int .i64 hd, .slice none 0 0] 186) := ⟨_, rfl⟩
 have hk34 : Keeps [] w3 w4 := by rw [hw4]; exact (Keeps.refl _ _).alloc _
 have HB4 : Hid (Blk w4 w3.heap.size 186 #[.pointer none, .int .i64 t, .int .i64 hd, .slice none 0 0]) := by show Blk _ _ _ _; rw [hw4]; exact Blk.new w3 _ _
 have HA4 := Lib.hid ((hA3.avoid (M' := [w3.heap.size]) (fun g hg => .inr (by simp at hg; omega))).keep hk34 (by simp) (by simp))
 have Hk4 : Hid (Keeps [p] w w4) := (Hk2.out.trans hk3 (fun g hg => .inl hg)).trans hk34 (by simp)
 have hsw : w.heap.size ≤ w3.heap.size := Nat.le_trans Hk2.out.size hk3.size
 have Hw4 := Lib.hid hw4
 clear hA3 hk3 hk34 hw4 Hk2 HA2 hi1 hi2
 go_upto_region 3 with (fail)
 rw [← Hw4.out]
 clear Hw4
 generalize w3.heap.size = s at *
 have hs4 : s < w4.heap.size := HB4.out.lt
 have hps : p < s := hpl3
 have hw4 : w.heap.size ≤ w4.heap.size := Hk4.out.size
 go_wp2_with fail
 refine (hg.out w4 [s] p HA4.out).mono ?_
 intro e w5 hp5
 clear hg
 unfold RMGetPost at hp5
 obtain ⟨_ | es, l', b'⟩ := r3
 ·obtain ⟨rfl, hk5⟩ := hp5
  have hB5 := hk5.blk HB4.out (by simp; omega)
  have c3 := hB5.cell 3; have f3 := hB5.frozen 3
  simp only [List.getElem?_toArray, List.getElem?_cons_succ, List.getElem?_cons_zero] at c3
  have HF : Hid (∀ u, Keeps [] w (w5.setCell ⟨s, 3, none⟩ u)) := fun u => (((Hk4.out.trans hk5 (fun g hg => .inl hg)).trans ((Keeps.refl [s] w5).setCell (p := ⟨s, 3, none⟩) (by simp) u) (fun g hg => .inr (by simp at hg; omega))).mono (M' := []) (fun g hg => .inr (by simp at hg; rw [hg]; exact Nat.le_of_eq Hp.out)))
  have HRn : Hid (RV = none) := HR.out
  clear hk5 hB5 HB4 HA4 Hk4 HR
  go_wp2
  go_ret2
  rw [HRn.out]
  exact ⟨_, rfl, HF.out _⟩
 ·obtain ⟨v5, rfl, hE5, hA5, hk5⟩ := hp5
  obtain ⟨A5, c5, rfl, _⟩ := (hE5 [] (by simp)).len
  have hB5 := hk5.blk HB4.out (by simp; omega)
  have c3 := hB5.cell 3; have f3 := hB5.frozen 3
  simp only [List.getElem?_toArray, List.getElem?_cons_succ, List.getElem?_cons_zero] at c3
  obtain ⟨w6, hw6⟩ : ∃ w6, w6 = w5.setCell ⟨s, 3, none⟩ (.slice A5 es.length c5) := ⟨_, rfl⟩
  have hk6 : Keeps [s] w5 w6 := by rw [hw6]; exact (Keeps.refl _ _).setCell (by simp) _
  have HF : Hid (Keeps [] w w6) := (((Hk4.out.trans hk5 (fun g hg => .inl hg)).trans hk6 (fun g hg => .inr (by simp at hg; omega))).mono (M' := []) (fun g hg => .inr (by simp at hg; rw [hg]; exact Nat.le_of_eq Hp.out)))
  have HB6 : Hid (Blk w6 s 186 #[.pointer none, .int .i64 t, .int .i64 hd, .slice A5 es.length c5]) := by
   show Blk _ _ _ _
   rw [hw6]; simpa using hB5.set_ 3 (.slice A5 es.length c5)
  have HE6 : Hid (∀ M, (∀ g ∈ M, g < w.heap.size) → Ens w6 (s :: M) (.slice A5 es.length c5) es) := fun M hM =>
   (hE5 (s :: M) (fun g hg => by rcases List.mem_cons.1 hg with rfl | hg; exact hs4; exact Nat.lt_of_lt_of_le (hM g hg) hw4)).keep hk6 (fun g hg => .inl (by simp at hg; simp [hg]))
  have HA6 := Lib.hid (hA5.keep hk6 (fun g hg => .inl hg) (by simp; omega))
  have Hw6 := Lib.hid hw6
  have Hdn := Lib.hid (rdone_any [s] p l' b' w6 HA6.out)
  clear hE5 hA5 hk5 hB5 hk6 hw6 HB4 HA4 Hk4
  go_upto_region 5 with (fail)
  rw [← Hw6.out]
  clear Hw6 c3 f3
  cases b' with
  | true =>
   have HRn : Hid (RV = none) := HR.out.trans (if_neg (by simp))
   clear HR
   go_wp2
   go_ret2
   rw [HRn.out]
   exact ⟨_, rfl, HF.out⟩
  | false =>
   go_wp2_with fail
   refine Hdn.out.mono ?_
   rintro e w7 ⟨rfl, rfl⟩
   cases hem : l'.isEmpty with
   | false =>
    have HRn : Hid (RV = none) := HR.out.trans (if_neg (by simp [hem]))
    clear HR
    go_wp2
    go_ret2
    rw [HRn.out]
    exact ⟨_, rfl, HF.out⟩
   | true =>
    by_cases h128 : es.length ≤ 128
    ·have h128i : (es.length : Int) ≤ 128 := by omega
     have HRs : Hid (RV = some ⟨t, hd, es⟩) := HR.out.trans (if_pos (by simp [hem, h128]))
     clear HR
     go_wp2
     go_ret2
     rw [HRs.out]
     exact ⟨s, _, rfl, hsw, HB6.out, HE6.out, HF.out⟩
    ·have h128i : decide ((es.length : Int) ≤ 128) = false := decide_eq_false (by omega)
     have HRn : Hid (RV = none) := HR.out.trans (if_neg (fun h => h128 h.2.2))
     clear HR
     go_wp2
     go_ret2
     rw [HRn.out]
     exact ⟨_, rfl, HF.out⟩
end Go.Proofs.YtinnifhnabncfaaGreatDoor.Vi
end
section
namespace Go.Proofs.YtinnifhnabncfaaGreatDoor.Vi
open Go.RowKit Base Mem Tape Go.Shelf
def VrPost (R : Option WordD) (w : World) (e : Ending) (w' : World) : Prop := match R with
 | some x => ∃ lv, e = .returned (.tuple #[.agg #[.int .i64 x.t, .int .i64 x.h, lv], .bool true]) ∧ (∀ M, (∀ g ∈ M, g < w.heap.size) → Ens w' M lv x.log) ∧ Keeps [] w w'
 | none => ∃ (a b : Int) (A : Option Addr) (n c : Nat), e = .returned (.tuple #[.agg #[.int .i64 a, .int .i64 b, .slice A n c], .bool false]) ∧ Keeps [] w w'
set_option maxRecDepth 100000 in
set_option maxHeartbeats 1000000 in
theorem vread_any (v : Value) (l : List UInt8) (m : Int) (w : World) (h : Bs w [] v l) (hl : l.length ≤ 65536) (hm : w.cell? ⟨0, 0, none⟩ = some (.int .i64 m)) :
  Calls Tryz.prog 79 #[v] w fun e w' => VrPost (readV l) w e w' := by
 have hw0 : 0 < w.heap.size := by
  have := World.block_lt_of_cell? w _ hm
  simpa using this
 have hkeepm : Hid (∀ W, Keeps [] w W → W.cell? ⟨0, 0, none⟩ = some (.int .i64 m)) := fun W hb => (hb.cell (p := ⟨0, 0, none⟩) hw0 (by simp)).trans hm
 have HR : Hid (readV l = match mgetS (intS (intS l false).2.1 (intS l false).2.2).2.1 (intS (intS l false).2.1 (intS l false).2.2).2.2 with
 | (none, _) => none
 | (some es, l', bad) => if bad = false ∧ l'.isEmpty = true then some ⟨(intS l false).1, (intS (intS l false).2.1 (intS l false).2.2).1, es⟩ else none) := rfl
 have h1 := intS_lt l false
 have l1 := intS_len l false
 have hnew := Lib.hid (fun W (hk : Keeps [] w W) => new_any [] v l W (h.keep hk (by simp)) (by omega))
 have hi1 := Lib.hid (fun W p (hr : RdAt W [] p l false) => rint_any [] p l false W hr)
 obtain ⟨A, c, rfl, hc⟩ := h.len
 clear h hm
 generalize intS l false = r1 at *
 obtain ⟨t, l1', b1⟩ := r1
 simp only [] at h1 l1 HR hi1
 have h2 := intS_lt l1' b1
 have l2 := intS_len l1' b1
 have hi2 := Lib.hid (fun W p (hr : RdAt W [] p l1' b1) => rint_any [] p l1' b1 W hr)
 generalize intS l1' b1 = r2 at *
 obtain ⟨hd, l2', b2⟩ := r2
 simp only [] at h2 l2 HR hi2
 have hg := Lib.hid (fun W M p (hr : RdAt W M p l2' b2) (hp : p ≠ 0) (hmW : W.cell? ⟨0, 0, none⟩ = some (.int .i64 m)) => mget_any M p l2' b2 m W hr (by omega) hmW hp)
 generalize mgetS l2' b2 = r3 at *
 go_enter Tryz.func79, Tryz.ntmps79
 go_wp2_with fail
 obtain ⟨w0, hw0e⟩ : ∃ w0, w0 = w.alloc (.cells #[.int .i64 0, .int .i64 0, .slice none 0 0] 118) := ⟨_, rfl⟩
 have hk0 : Keeps [] w w0 := by rw [hw0e]; exact (Keeps.refl _ _).alloc _
 have hZ0 : Blk w0 w.heap.size 118 #[.int .i64 0, .int .i64 0, .slice none 0 0] := by rw [hw0e]; exact Blk.new w _ _
 have hlt0 := hZ0.lt
 rw [← hw0e]
 clear hw0e
 refine (hnew.out w0 hk0).mono ?_
 rintro e w1 ⟨rfl, hA1, hb1⟩
 have hk1 : Keeps [] w w1 := hk0.trans (Keeps.of_below (M := []) hb1) (by simp)
 have hZ1 := hZ0.below hb1 hlt0
 have hpl := hA1.lt
 obtain ⟨g0, Hg0⟩ : ∃ g0, Hid (w.heap.size = g0) := ⟨_, rfl⟩
 rw [Hg0.out] at hZ1 hlt0 ⊢
 generalize w0.heap.size = p at *
 have HA1 := Lib.hid hA1; have Hk1 := Lib.hid hk1; have HZ1 := Lib.hid hZ1
 clear hk0 hZ0 hA1 hk1 hZ1 hb1 hnew
 go_wp2_with fail
 refine (hi1.out w1 p HA1.out).mono ?_
 rintro e w2 ⟨rfl, hA2, hk2⟩
 have HA2 := Lib.hid hA2; have Hk2 : Hid (Keeps [p] w w2) := (Hk1.out.mono (M' := [p]) (by simp)).trans hk2 (fun g hg => .inl hg)
 have HZ2 := Lib.hid (hk2.blk HZ1.out (by simp; omega))
 clear hA2 hk2 Hk1 HA1 HZ1
 go_wp2_with fail
 refine (hi2.out w2 p HA2.out).mono ?_
 rintro e w3 ⟨rfl, hA3, hk3⟩
 have hZ3 := hk3.blk HZ2.out (by simp; omega)
 have hpl3 := hA3.lt; have hgl3 := hZ3.lt
 obtain ⟨w4, hw4⟩ : ∃ w4, w4 = w3.alloc (.cells #[.int .i64 t, .int .i64 hd, .slice none 0 0] 118) := ⟨_, rfl⟩
 have hk34 : Keeps [] w3 w4 := by rw [hw4]; exact (Keeps.refl _ _).alloc _
 have HB4 : Hid (Blk w4 w3.heap.size 118 #[.int .i64 t, .int .i64 hd, .slice none 0 0]) := by show Blk _ _ _ _; rw [hw4]; exact Blk.new w3 _ _
 have HZ4 := Lib.hid (hk34.blk hZ3 (by simp))
 have HA4 := Lib.hid ((hA3.avoid (M' := [w3.heap.size]) (fun g hg => .inr (by simp at hg; omega))).keep hk34 (by simp) (by simp))
 have Hk4 : Hid (Keeps [p] w w4) := (Hk2.out.trans hk3 (fun g hg => .inl hg)).trans hk34 (by simp)
 have hs34 : g0 ≤ w3.heap.size := by
  rw [← Hg0.out]; exact (Hk2.out.trans hk3 (fun g hg => .inl hg)).size
 clear hA3 hk3 HA2 Hk2 HZ2 hZ3 hk34
 go_wp2_with fail
 rw [← hw4]
 clear hw4
 obtain ⟨g5, Hg5⟩ : ∃ g5, Hid (w3.heap.size = g5) := ⟨_, rfl⟩
 rw [Hg5.out] at HA4 HB4 hpl3 hgl3 hs34 ⊢
 refine (hg.out w4 [g5] p HA4.out (by omega) ((Hk4.out.cell (p := ⟨0, 0, none⟩) hw0 (by simp; omega)).trans (hkeepm.out w (Keeps.refl _ _)))).mono ?_
 intro e w5 hpost
 obtain ⟨r31, r32⟩ := r3
 cases r31 with
 | none =>
  simp only [MGetPost] at hpost
  obtain ⟨rfl, hk5⟩ := hpost
  have hB5 := hk5.blk HB4.out (by simp; omega)
  have hZ5 := hk5.blk HZ4.out (by simp; omega)
  obtain ⟨w6, hw6⟩ : ∃ w6, w6 = w5.setCell ⟨g5, 2, none⟩ (.slice none 0 0) := ⟨_, rfl⟩
  have hB6 : Blk w6 g5 118 #[.int .i64 t, .int .i64 hd, .slice none 0 0] := by rw [hw6]; simpa using hB5.set_ 2 (.slice none 0 0)
  have hk6 : Keeps [g5] w5 w6 := by rw [hw6]; exact (Keeps.refl _ _).setCell (by simp) _
  have hZ6 : Blk w6 g0 118 #[.int .i64 0, .int .i64 0, .slice none 0 0] := hk6.blk hZ5 (by simp; omega)
  have HB6 := Lib.hid hB6; have HZ6 := Lib.hid hZ6
  have hK6 : Hid (Keeps [p, g5] w4 w6) := (hk5.mono (M' := [p, g5]) (fun g hg => .inl (by simp at hg; simp [hg]))).trans hk6 (fun g hg => .inl (by simp at hg; simp [hg]))
  have HC : Hid (∀ W, Keeps [g0] w6 W → (fun W => W.cell? ⟨g5, 0, none⟩ = some (.int .i64 t) ∧ W.cell? ⟨g5, 1, none⟩ = some (.int .i64 hd) ∧ W.cell? ⟨g5, 2, none⟩ = some (.slice none 0 0)) W) := fun W hk => by
   have hb := hk.blk HB6.out (by simp; omega)
   exact ⟨hb.cell 0, hb.cell 1, hb.cell 2⟩
  have z0 := hZ6.cell 0; have z1 := hZ6.cell 1; have z2 := hZ6.cell 2; have f0 := hZ6.frozen 0; have f1 := hZ6.frozen 1; have f2 := hZ6.frozen 2
  simp only [List.getElem?_toArray, List.getElem?_cons_succ, List.getElem?_cons_zero] at z0 z1 z2
  have hgl : g0 < w6.heap.size := hZ6.lt
  have c52 : w5.cell? ⟨g5, 2, none⟩ = some (.slice none 0 0) := hB5.cell 2
  have f52 := hB5.frozen 2
  clear hB6 hk6 hZ6
  go_wp2_with fail
  rw [← hw6]
  clear hw6 c52 f52
  obtain ⟨b0, b1, b2⟩ := HC.out w6 (Keeps.refl _ _)
  have hk9 : Hid (Keeps [] w ((((w6.setCell ⟨g0, 0, none⟩ (.int .i64 t)).setCell ⟨g0, 1, none⟩ (.int .i64 hd)).setCell ⟨g0, 2, none⟩ (.slice none 0 0)).drew)) := by
   have hk9 : Keeps [p, g5, g0] w w6 := (Hk4.out.mono (M' := [p, g5, g0]) (fun g hg => .inl (by simp at hg; simp [hg]))).trans hK6.out (fun g hg => .inl (by simp at hg ⊢; omega))
   exact (((hk9.setCell (by simp) _).setCell (by simp) _).setCell (by simp) _).drew.mono (M' := []) (fun g hg => .inr (by rw [Hg0.out]; simp at hg; omega))
  have HR2 : Hid (readV l = none) := HR.out
  have hP : Hid (VrPost (readV l) w (.returned (.tuple #[.agg #[.int .i64 t, .int .i64 hd, .slice none 0 0], .bool false])) (((w6.setCell ⟨g0, 0, none⟩ (.int .i64 t)).setCell ⟨g0, 1, none⟩ (.int .i64 hd)).setCell ⟨g0, 2, none⟩ (.slice none 0 0)).drew) := by
   show VrPost _ _ _ _
   rw [HR2.out]
   exact ⟨t, hd, none, 0, 0, rfl, hk9.out⟩
  refine wp_region_held_drew (S := (fun W => W.cell? ⟨g5, 0, none⟩ = some (.int .i64 t) ∧ W.cell? ⟨g5, 1, none⟩ = some (.int .i64 hd) ∧ W.cell? ⟨g5, 2, none⟩ = some (.slice none 0 0))) (by kernel_rfl) (HC.out _ (Keeps.refl _ _).drew) (fun hHeld => ?_)
  refine wpAnyH_take (i := 0) (oi := _) (v := ?v0u1) rfl (by kernel_rfl) (by kernel_rfl) (by kernel_rfl) (fun _ _ _ h => h) (Or.inl ⟨by rfl, ?y0u1⟩) (by assumption) ?r0u1
  case y0u1 => (intro w hSw; (try dsimp only at hSw); go_simp <;> with_reducible rfl)
  try simp only [List.getElem_toArray, List.getElem_cons_succ, List.getElem_cons_zero, Act.put, List.setIfInBounds_toArray, List.set_cons_zero, List.set_cons_succ]
  refine wpAnyH_take (i := 1) (oi := _) (v := ?v1u2) rfl (by kernel_rfl) (by kernel_rfl) (by kernel_rfl) (fun _ _ _ h => h) (Or.inl ⟨by rfl, ?y1u2⟩) (by assumption) ?r1u2
  case y1u2 => (intro w hSw; (try dsimp only at hSw); go_simp <;> with_reducible rfl)
  try simp only [List.getElem_toArray, List.getElem_cons_succ, List.getElem_cons_zero, Act.put, List.setIfInBounds_toArray, List.set_cons_zero, List.set_cons_succ]
  refine wpAnyH_take (i := 2) (oi := _) (v := ?v2u3) rfl (by kernel_rfl) (by kernel_rfl) (by kernel_rfl) (fun _ _ _ h => h) (Or.inl ⟨by rfl, ?y2u3⟩) (by assumption) ?r2u3
  case y2u3 => (intro w hSw; (try dsimp only at hSw); go_simp <;> with_reducible rfl)
  try simp only [List.getElem_toArray, List.getElem_cons_succ, List.getElem_cons_zero, Act.put, List.setIfInBounds_toArray, List.set_cons_zero, List.set_cons_succ]
  refine wpAnyH_take (i := 3) (oi := _) (v := undef) rfl (by kernel_rfl) (by kernel_rfl) (by kernel_rfl) (fun _ _ _ h => h) (Or.inr ⟨by rfl, rfl⟩) (by assumption) ?_
  try simp only [List.getElem_toArray, List.getElem_cons_succ, List.getElem_cons_zero, Act.put, List.setIfInBounds_toArray, List.set_cons_zero, List.set_cons_succ]
  refine wpAnyH_take (i := 4) (oi := _) (v := undef) rfl (by kernel_rfl) (by kernel_rfl) (by kernel_rfl) (fun _ _ _ h => h) (Or.inr ⟨by rfl, rfl⟩) (by assumption) ?_
  try simp only [List.getElem_toArray, List.getElem_cons_succ, List.getElem_cons_zero, Act.put, List.setIfInBounds_toArray, List.set_cons_zero, List.set_cons_succ]
  refine wpAnyH_take (i := 5) (oi := _) (v := ?v5u4) rfl (by kernel_rfl) (by kernel_rfl) (by kernel_rfl) (fun _ _ _ h => h) (Or.inl ⟨by rfl, ?y5u4⟩) (by assumption) ?r5u4
  case y5u4 => (intro w hSw; (try dsimp only at hSw); go_simp <;> with_reducible rfl)
  try simp only [List.getElem_toArray, List.getElem_cons_succ, List.getElem_cons_zero, Act.put, List.setIfInBounds_toArray, List.set_cons_zero, List.set_cons_succ]
  refine wpAnyH_ready (rs := [6]) (by kernel_rfl) (by simp) ?_
  refine AllReadyH.cons (o := _) rfl (fun K hK => ?_) AllReadyH.nil
  go_simp
  refine hK.out _ _ (HC.out _ ((((Keeps.refl _ _).drew.setCell (by simp) _).setCell (by simp) _).setCell (by simp) _)) (fun hHeld2 => ?_)
  clear hK K hHeld
  have hHeld := hHeld2
  clear hHeld2
  try simp only [List.getElem_toArray, List.getElem_cons_succ, List.getElem_cons_zero, Act.put, List.setIfInBounds_toArray, List.set_cons_zero, List.set_cons_succ]
  refine wpAnyH_take (i := 7) (oi := _) (v := ?v7u5) rfl (by kernel_rfl) (by kernel_rfl) (by kernel_rfl) (fun _ _ _ h => h) (Or.inl ⟨by rfl, ?y7u5⟩) (by assumption) ?r7u5
  case y7u5 => (intro w hSw; (try dsimp only at hSw); go_simp <;> with_reducible rfl)
  try simp only [List.getElem_toArray, List.getElem_cons_succ, List.getElem_cons_zero, Act.put, List.setIfInBounds_toArray, List.set_cons_zero, List.set_cons_succ]
  refine wpAnyH_done (by kernel_rfl) ?_ _
  have hZ9 : Blk (((w6.setCell ⟨g0, 0, none⟩ (.int .i64 t)).setCell ⟨g0, 1, none⟩ (.int .i64 hd)).setCell ⟨g0, 2, none⟩ (.slice none 0 0)).drew g0 118 #[.int .i64 t, .int .i64 hd, .slice none 0 0] := by
   have := ((HZ6.out.set_ 0 (.int .i64 t)).set_ 1 (.int .i64 hd)).set_ 2 (.slice none 0 0)
   simp at this
   exact this
  go_wp2_with fail
  refine bodyPost_ret (results_cell2 rfl _ _ g0 118 #[.int .i64 t, .int .i64 hd, .slice none 0 0] _ rfl hZ9 Tryz.underlying118 rfl (by kernel_rfl)) rfl ?_
  exact hP.out
 | some es =>
  obtain ⟨l3, b3⟩ := r32
  simp only [MGetPost] at hpost
  obtain ⟨lv, rfl, hE, hA5, hk5⟩ := hpost
  obtain ⟨Al, cl, rfl, _⟩ := (hE [] (by simp)).len
  have hB5 := hk5.blk HB4.out (by simp; omega)
  have hZ5 := hk5.blk HZ4.out (by simp; omega)
  have hsz45 : g0 < w4.heap.size := by have := HZ4.out.lt; omega
  have HE := Lib.hid hE
  have h54 : g5 < w4.heap.size := HB4.out.lt
  obtain ⟨w6, hw6⟩ : ∃ w6, w6 = w5.setCell ⟨g5, 2, none⟩ (.slice Al es.length cl) := ⟨_, rfl⟩
  have hB6 : Blk w6 g5 118 #[.int .i64 t, .int .i64 hd, .slice Al es.length cl] := by rw [hw6]; simpa using hB5.set_ 2 (.slice Al es.length cl)
  have hk6 : Keeps [g5] w5 w6 := by rw [hw6]; exact (Keeps.refl _ _).setCell (by simp) _
  have hZ6 : Blk w6 g0 118 #[.int .i64 0, .int .i64 0, .slice none 0 0] := hk6.blk hZ5 (by simp; omega)
  have HB6 := Lib.hid hB6; have HZ6 := Lib.hid hZ6
  have hK6 : Hid (Keeps [p, g5] w4 w6) := (hk5.mono (M' := [p, g5]) (fun g hg => .inl (by simp at hg; simp [hg]))).trans hk6 (fun g hg => .inl (by simp at hg; simp [hg]))
  have HC : Hid (∀ W, Keeps [g0] w6 W → (fun W => W.cell? ⟨g5, 0, none⟩ = some (.int .i64 t) ∧ W.cell? ⟨g5, 1, none⟩ = some (.int .i64 hd) ∧ W.cell? ⟨g5, 2, none⟩ = some (.slice Al es.length cl)) W) := fun W hk => by
   have hb := hk.blk HB6.out (by simp; omega)
   exact ⟨hb.cell 0, hb.cell 1, hb.cell 2⟩
  have z0 := hZ6.cell 0; have z1 := hZ6.cell 1; have z2 := hZ6.cell 2; have f0 := hZ6.frozen 0; have f1 := hZ6.frozen 1; have f2 := hZ6.frozen 2
  simp only [List.getElem?_toArray, List.getElem?_cons_succ, List.getElem?_cons_zero] at z0 z1 z2
  have hgl : g0 < w6.heap.size := hZ6.lt
  have c52 : w5.cell? ⟨g5, 2, none⟩ = some (.slice none 0 0) := hB5.cell 2
  have f52 := hB5.frozen 2
  have HK56e := Lib.hid hk6
  have HA6 := Lib.hid (hA5.keep hk6 (fun g hg => .inl hg) (by simp; omega))
  clear hB6 hk6 hZ6
  go_wp2_with fail
  rw [← hw6]
  clear hw6 c52 f52
  obtain ⟨b0, b1, b2⟩ := HC.out w6 (Keeps.refl _ _)
  have hk9 : Hid (Keeps [] w ((((w6.setCell ⟨g0, 0, none⟩ (.int .i64 t)).setCell ⟨g0, 1, none⟩ (.int .i64 hd)).setCell ⟨g0, 2, none⟩ (.slice Al es.length cl)).drew)) := by
   have hk9 : Keeps [p, g5, g0] w w6 := (Hk4.out.mono (M' := [p, g5, g0]) (fun g hg => .inl (by simp at hg; simp [hg]))).trans hK6.out (fun g hg => .inl (by simp at hg ⊢; omega))
   exact (((hk9.setCell (by simp) _).setCell (by simp) _).setCell (by simp) _).drew.mono (M' := []) (fun g hg => .inr (by rw [Hg0.out]; simp at hg; omega))
  have HK56 : Hid (Keeps [g5, g0] w5 w6) := HK56e.out.mono (fun g hg => .inl (by simp at hg; simp [hg]))
  have hEns : Hid (∀ M, (∀ g ∈ M, g < w.heap.size) → Ens (((w6.setCell ⟨g0, 0, none⟩ (.int .i64 t)).setCell ⟨g0, 1, none⟩ (.int .i64 hd)).setCell ⟨g0, 2, none⟩ (.slice Al es.length cl)).drew M (.slice Al es.length cl) es) := fun M hM => by
   rw [Hg0.out] at hM
   have h1 := HE.out (p :: g5 :: g0 :: M) (fun g hg => by
    simp only [List.mem_cons] at hg
    rcases hg with h | h | h | h
    ·omega
    ·omega
    ·omega
    ·have := hM g h; omega)
   have hk59 : Keeps [g5, g0] w5 ((((w6.setCell ⟨g0, 0, none⟩ (.int .i64 t)).setCell ⟨g0, 1, none⟩ (.int .i64 hd)).setCell ⟨g0, 2, none⟩ (.slice Al es.length cl)).drew) := (((HK56.out.setCell (by simp) _).setCell (by simp) _).setCell (by simp) _).drew
   exact (h1.keep hk59 (fun g hg => .inl (by simp at hg ⊢; omega))).avoid (fun g hg => .inl (by simp [hg]))
  cases b3 with
  | true =>
   have HR2 : Hid (readV l = none) := by show _ = _; rw [HR.out]; simp
   have hP : Hid (VrPost (readV l) w (.returned (.tuple #[.agg #[.int .i64 t, .int .i64 hd, .slice Al es.length cl], .bool false])) (((w6.setCell ⟨g0, 0, none⟩ (.int .i64 t)).setCell ⟨g0, 1, none⟩ (.int .i64 hd)).setCell ⟨g0, 2, none⟩ (.slice Al es.length cl)).drew) := by
    show VrPost _ _ _ _
    rw [HR2.out]
    exact ⟨t, hd, _, _, _, rfl, hk9.out⟩
   refine wp_region_held_drew (S := (fun W => W.cell? ⟨g5, 0, none⟩ = some (.int .i64 t) ∧ W.cell? ⟨g5, 1, none⟩ = some (.int .i64 hd) ∧ W.cell? ⟨g5, 2, none⟩ = some (.slice Al es.length cl))) (by kernel_rfl) (HC.out _ (Keeps.refl _ _).drew) (fun hHeld => ?_)
   refine wpAnyH_take (i := 0) (oi := _) (v := ?v0u6) rfl (by kernel_rfl) (by kernel_rfl) (by kernel_rfl) (fun _ _ _ h => h) (Or.inl ⟨by rfl, ?y0u6⟩) (by assumption) ?r0u6
   case y0u6 => (intro w hSw; (try dsimp only at hSw); go_simp <;> with_reducible rfl)
   try simp only [List.getElem_toArray, List.getElem_cons_succ, List.getElem_cons_zero, Act.put, List.setIfInBounds_toArray, List.set_cons_zero, List.set_cons_succ]
   refine wpAnyH_take (i := 1) (oi := _) (v := ?v1u7) rfl (by kernel_rfl) (by kernel_rfl) (by kernel_rfl) (fun _ _ _ h => h) (Or.inl ⟨by rfl, ?y1u7⟩) (by assumption) ?r1u7
   case y1u7 => (intro w hSw; (try dsimp only at hSw); go_simp <;> with_reducible rfl)
   try simp only [List.getElem_toArray, List.getElem_cons_succ, List.getElem_cons_zero, Act.put, List.setIfInBounds_toArray, List.set_cons_zero, List.set_cons_succ]
   refine wpAnyH_take (i := 2) (oi := _) (v := ?v2u8) rfl (by kernel_rfl) (by kernel_rfl) (by kernel_rfl) (fun _ _ _ h => h) (Or.inl ⟨by rfl, ?y2u8⟩) (by assumption) ?r2u8
   case y2u8 => (intro w hSw; (try dsimp only at hSw); go_simp <;> with_reducible rfl)
   try simp only [List.getElem_toArray, List.getElem_cons_succ, List.getElem_cons_zero, Act.put, List.setIfInBounds_toArray, List.set_cons_zero, List.set_cons_succ]
   refine wpAnyH_take (i := 3) (oi := _) (v := undef) rfl (by kernel_rfl) (by kernel_rfl) (by kernel_rfl) (fun _ _ _ h => h) (Or.inr ⟨by rfl, rfl⟩) (by assumption) ?_
   try simp only [List.getElem_toArray, List.getElem_cons_succ, List.getElem_cons_zero, Act.put, List.setIfInBounds_toArray, List.set_cons_zero, List.set_cons_succ]
   refine wpAnyH_take (i := 4) (oi := _) (v := undef) rfl (by kernel_rfl) (by kernel_rfl) (by kernel_rfl) (fun _ _ _ h => h) (Or.inr ⟨by rfl, rfl⟩) (by assumption) ?_
   try simp only [List.getElem_toArray, List.getElem_cons_succ, List.getElem_cons_zero, Act.put, List.setIfInBounds_toArray, List.set_cons_zero, List.set_cons_succ]
   refine wpAnyH_take (i := 5) (oi := _) (v := ?v5u9) rfl (by kernel_rfl) (by kernel_rfl) (by kernel_rfl) (fun _ _ _ h => h) (Or.inl ⟨by rfl, ?y5u9⟩) (by assumption) ?r5u9
   case y5u9 => (intro w hSw; (try dsimp only at hSw); go_simp <;> with_reducible rfl)
   try simp only [List.getElem_toArray, List.getElem_cons_succ, List.getElem_cons_zero, Act.put, List.setIfInBounds_toArray, List.set_cons_zero, List.set_cons_succ]
   refine wpAnyH_ready (rs := [6]) (by kernel_rfl) (by simp) ?_
   refine AllReadyH.cons (o := _) rfl (fun K hK => ?_) AllReadyH.nil
   go_simp
   refine hK.out _ _ (HC.out _ ((((Keeps.refl _ _).drew.setCell (by simp) _).setCell (by simp) _).setCell (by simp) _)) (fun hHeld2 => ?_)
   clear hK K hHeld
   have hHeld := hHeld2
   clear hHeld2
   try simp only [List.getElem_toArray, List.getElem_cons_succ, List.getElem_cons_zero, Act.put, List.setIfInBounds_toArray, List.set_cons_zero, List.set_cons_succ]
   refine wpAnyH_take (i := 7) (oi := _) (v := ?v7u10) rfl (by kernel_rfl) (by kernel_rfl) (by kernel_rfl) (fun _ _ _ h => h) (Or.inl ⟨by rfl, ?y7u10⟩) (by assumption) ?r7u10
   case y7u10 => (intro w hSw; (try dsimp only at hSw); go_simp <;> with_reducible rfl)
   try simp only [List.getElem_toArray, List.getElem_cons_succ, List.getElem_cons_zero, Act.put, List.setIfInBounds_toArray, List.set_cons_zero, List.set_cons_succ]
   refine wpAnyH_done (by kernel_rfl) ?_ _
   have hZ9 : Blk (((w6.setCell ⟨g0, 0, none⟩ (.int .i64 t)).setCell ⟨g0, 1, none⟩ (.int .i64 hd)).setCell ⟨g0, 2, none⟩ (.slice Al es.length cl)).drew g0 118 #[.int .i64 t, .int .i64 hd, .slice Al es.length cl] := by
    have := ((HZ6.out.set_ 0 (.int .i64 t)).set_ 1 (.int .i64 hd)).set_ 2 (.slice Al es.length cl)
    simp at this
    exact this
   go_wp2_with fail
   refine bodyPost_ret (results_cell2 rfl _ _ g0 118 #[.int .i64 t, .int .i64 hd, .slice Al es.length cl] _ rfl hZ9 Tryz.underlying118 rfl (by kernel_rfl)) rfl ?_
   exact hP.out
  | false =>
   have HDn : Hid (∀ W, Keeps [] w6 W → Calls Tryz.prog 105 #[.pointer (some ⟨p, 0, none⟩)] W fun e w' => e = .returned (.bool (l3.isEmpty)) ∧ W = w') := fun W hk => by
    have := done_any [] p l3 false W ((HA6.out.avoid (M' := []) (by simp)).keep hk (by simp) (by simp))
    simpa using this
   cases hem : l3.isEmpty with
   | false =>
    rw [hem] at HDn
    have HR2 : Hid (readV l = none) := by show _ = _; rw [HR.out]; simp [hem]
    have hP : Hid (VrPost (readV l) w (.returned (.tuple #[.agg #[.int .i64 t, .int .i64 hd, .slice Al es.length cl], .bool false])) (((w6.setCell ⟨g0, 0, none⟩ (.int .i64 t)).setCell ⟨g0, 1, none⟩ (.int .i64 hd)).setCell ⟨g0, 2, none⟩ (.slice Al es.length cl)).drew) := by
     show VrPost _ _ _ _
     rw [HR2.out]
     exact ⟨t, hd, _, _, _, rfl, hk9.out⟩
    refine wp_region_held_drew (S := (fun W => W.cell? ⟨g5, 0, none⟩ = some (.int .i64 t) ∧ W.cell? ⟨g5, 1, none⟩ = some (.int .i64 hd) ∧ W.cell? ⟨g5, 2, none⟩ = some (.slice Al es.length cl))) (by kernel_rfl) (HC.out _ (Keeps.refl _ _).drew) (fun hHeld => ?_)
    refine wpAnyH_take (i := 0) (oi := _) (v := ?v0u11) rfl (by kernel_rfl) (by kernel_rfl) (by kernel_rfl) (fun _ _ _ h => h) (Or.inl ⟨by rfl, ?y0u11⟩) (by assumption) ?r0u11
    case y0u11 => (intro w hSw; (try dsimp only at hSw); go_simp <;> with_reducible rfl)
    try simp only [List.getElem_toArray, List.getElem_cons_succ, List.getElem_cons_zero, Act.put, List.setIfInBounds_toArray, List.set_cons_zero, List.set_cons_succ]
    refine wpAnyH_take (i := 1) (oi := _) (v := ?v1u12) rfl (by kernel_rfl) (by kernel_rfl) (by kernel_rfl) (fun _ _ _ h => h) (Or.inl ⟨by rfl, ?y1u12⟩) (by assumption) ?r1u12
    case y1u12 => (intro w hSw; (try dsimp only at hSw); go_simp <;> with_reducible rfl)
    try simp only [List.getElem_toArray, List.getElem_cons_succ, List.getElem_cons_zero, Act.put, List.setIfInBounds_toArray, List.set_cons_zero, List.set_cons_succ]
    refine wpAnyH_take (i := 2) (oi := _) (v := ?v2u13) rfl (by kernel_rfl) (by kernel_rfl) (by kernel_rfl) (fun _ _ _ h => h) (Or.inl ⟨by rfl, ?y2u13⟩) (by assumption) ?r2u13
    case y2u13 => (intro w hSw; (try dsimp only at hSw); go_simp <;> with_reducible rfl)
    try simp only [List.getElem_toArray, List.getElem_cons_succ, List.getElem_cons_zero, Act.put, List.setIfInBounds_toArray, List.set_cons_zero, List.set_cons_succ]
    refine wpAnyH_take (i := 3) (oi := _) (v := ?v3u14) rfl (by kernel_rfl) (by kernel_rfl) (by kernel_rfl) (fun _ _ _ h => h) (Or.inl ⟨by rfl, ?y3u14⟩) (by assumption) ?r3u14
    case y3u14 => (intro w hSw; (try dsimp only at hSw); go_simp <;> with_reducible rfl)
    try simp only [List.getElem_toArray, List.getElem_cons_succ, List.getElem_cons_zero, Act.put, List.setIfInBounds_toArray, List.set_cons_zero, List.set_cons_succ]
    refine wpAnyH_ready (rs := [4]) (by kernel_rfl) (by simp) ?_
    refine AllReadyH.cons (o := _) rfl (fun K hK => ?_) AllReadyH.nil
    go_simp
    refine (HDn.out _ (Keeps.refl _ _).drew).mono ?_
    rintro e w7 ⟨rfl, rfl⟩
    refine hK.out _ _ (HC.out _ (Keeps.refl _ _).drew) (fun hHeld2 => ?_)
    clear hK K hHeld
    have hHeld := hHeld2
    clear hHeld2
    try simp only [List.getElem_toArray, List.getElem_cons_succ, List.getElem_cons_zero, Act.put, List.setIfInBounds_toArray, List.set_cons_zero, List.set_cons_succ]
    refine wpAnyH_take (i := 5) (oi := _) (v := ?v5u15) rfl (by kernel_rfl) (by kernel_rfl) (by kernel_rfl) (fun _ _ _ h => h) (Or.inl ⟨by rfl, ?y5u15⟩) (by assumption) ?r5u15
    case y5u15 => (intro w hSw; (try dsimp only at hSw); go_simp <;> with_reducible rfl)
    try simp only [List.getElem_toArray, List.getElem_cons_succ, List.getElem_cons_zero, Act.put, List.setIfInBounds_toArray, List.set_cons_zero, List.set_cons_succ]
    refine wpAnyH_ready (rs := [6]) (by kernel_rfl) (by simp) ?_
    refine AllReadyH.cons (o := _) rfl (fun K hK => ?_) AllReadyH.nil
    go_simp
    refine hK.out _ _ (HC.out _ ((((Keeps.refl _ _).drew.setCell (by simp) _).setCell (by simp) _).setCell (by simp) _)) (fun hHeld2 => ?_)
    clear hK K hHeld
    have hHeld := hHeld2
    clear hHeld2
    try simp only [List.getElem_toArray, List.getElem_cons_succ, List.getElem_cons_zero, Act.put, List.setIfInBounds_toArray, List.set_cons_zero, List.set_cons_succ]
    refine wpAnyH_take (i := 7) (oi := _) (v := ?v7u16) rfl (by kernel_rfl) (by kernel_rfl) (by kernel_rfl) (fun _ _ _ h => h) (Or.inl ⟨by rfl, ?y7u16⟩) (by assumption) ?r7u16
    case y7u16 => (intro w hSw; (try dsimp only at hSw); go_simp <;> with_reducible rfl)
    try simp only [List.getElem_toArray, List.getElem_cons_succ, List.getElem_cons_zero, Act.put, List.setIfInBounds_toArray, List.set_cons_zero, List.set_cons_succ]
    refine wpAnyH_done (by kernel_rfl) ?_ _
    have hZ9 : Blk (((w6.setCell ⟨g0, 0, none⟩ (.int .i64 t)).setCell ⟨g0, 1, none⟩ (.int .i64 hd)).setCell ⟨g0, 2, none⟩ (.slice Al es.length cl)).drew g0 118 #[.int .i64 t, .int .i64 hd, .slice Al es.length cl] := by
     have := ((HZ6.out.set_ 0 (.int .i64 t)).set_ 1 (.int .i64 hd)).set_ 2 (.slice Al es.length cl)
     simp at this
     exact this
    go_wp2_with fail
    refine bodyPost_ret (results_cell2 rfl _ _ g0 118 #[.int .i64 t, .int .i64 hd, .slice Al es.length cl] _ rfl hZ9 Tryz.underlying118 rfl (by kernel_rfl)) rfl ?_
    exact hP.out
   | true =>
    rw [hem] at HDn
    have HR2 : Hid (readV l = some ⟨t, hd, es⟩) := by show _ = _; rw [HR.out]; simp [hem]
    have hP : Hid (VrPost (readV l) w (.returned (.tuple #[.agg #[.int .i64 t, .int .i64 hd, .slice Al es.length cl], .bool true])) (((w6.setCell ⟨g0, 0, none⟩ (.int .i64 t)).setCell ⟨g0, 1, none⟩ (.int .i64 hd)).setCell ⟨g0, 2, none⟩ (.slice Al es.length cl)).drew) := by
     show VrPost _ _ _ _
     rw [HR2.out]
     exact ⟨_, rfl, hEns.out, hk9.out⟩
    refine wp_region_held_drew (S := (fun W => W.cell? ⟨g5, 0, none⟩ = some (.int .i64 t) ∧ W.cell? ⟨g5, 1, none⟩ = some (.int .i64 hd) ∧ W.cell? ⟨g5, 2, none⟩ = some (.slice Al es.length cl))) (by kernel_rfl) (HC.out _ (Keeps.refl _ _).drew) (fun hHeld => ?_)
    refine wpAnyH_take (i := 0) (oi := _) (v := ?v0u17) rfl (by kernel_rfl) (by kernel_rfl) (by kernel_rfl) (fun _ _ _ h => h) (Or.inl ⟨by rfl, ?y0u17⟩) (by assumption) ?r0u17
    case y0u17 => (intro w hSw; (try dsimp only at hSw); go_simp <;> with_reducible rfl)
    try simp only [List.getElem_toArray, List.getElem_cons_succ, List.getElem_cons_zero, Act.put, List.setIfInBounds_toArray, List.set_cons_zero, List.set_cons_succ]
    refine wpAnyH_take (i := 1) (oi := _) (v := ?v1u18) rfl (by kernel_rfl) (by kernel_rfl) (by kernel_rfl) (fun _ _ _ h => h) (Or.inl ⟨by rfl, ?y1u18⟩) (by assumption) ?r1u18
    case y1u18 => (intro w hSw; (try dsimp only at hSw); go_simp <;> with_reducible rfl)
    try simp only [List.getElem_toArray, List.getElem_cons_succ, List.getElem_cons_zero, Act.put, List.setIfInBounds_toArray, List.set_cons_zero, List.set_cons_succ]
    refine wpAnyH_take (i := 2) (oi := _) (v := ?v2u19) rfl (by kernel_rfl) (by kernel_rfl) (by kernel_rfl) (fun _ _ _ h => h) (Or.inl ⟨by rfl, ?y2u19⟩) (by assumption) ?r2u19
    case y2u19 => (intro w hSw; (try dsimp only at hSw); go_simp <;> with_reducible rfl)
    try simp only [List.getElem_toArray, List.getElem_cons_succ, List.getElem_cons_zero, Act.put, List.setIfInBounds_toArray, List.set_cons_zero, List.set_cons_succ]
    refine wpAnyH_take (i := 3) (oi := _) (v := ?v3u20) rfl (by kernel_rfl) (by kernel_rfl) (by kernel_rfl) (fun _ _ _ h => h) (Or.inl ⟨by rfl, ?y3u20⟩) (by assumption) ?r3u20
    case y3u20 => (intro w hSw; (try dsimp only at hSw); go_simp <;> with_reducible rfl)
    try simp only [List.getElem_toArray, List.getElem_cons_succ, List.getElem_cons_zero, Act.put, List.setIfInBounds_toArray, List.set_cons_zero, List.set_cons_succ]
    refine wpAnyH_ready (rs := [4]) (by kernel_rfl) (by simp) ?_
    refine AllReadyH.cons (o := _) rfl (fun K hK => ?_) AllReadyH.nil
    go_simp
    refine (HDn.out _ (Keeps.refl _ _).drew).mono ?_
    rintro e w7 ⟨rfl, rfl⟩
    refine hK.out _ _ (HC.out _ (Keeps.refl _ _).drew) (fun hHeld2 => ?_)
    clear hK K hHeld
    have hHeld := hHeld2
    clear hHeld2
    try simp only [List.getElem_toArray, List.getElem_cons_succ, List.getElem_cons_zero, Act.put, List.setIfInBounds_toArray, List.set_cons_zero, List.set_cons_succ]
    refine wpAnyH_take (i := 5) (oi := _) (v := ?v5u21) rfl (by kernel_rfl) (by kernel_rfl) (by kernel_rfl) (fun _ _ _ h => h) (Or.inl ⟨by rfl, ?y5u21⟩) (by assumption) ?r5u21
    case y5u21 => (intro w hSw; (try dsimp only at hSw); go_simp <;> with_reducible rfl)
    try simp only [List.getElem_toArray, List.getElem_cons_succ, List.getElem_cons_zero, Act.put, List.setIfInBounds_toArray, List.set_cons_zero, List.set_cons_succ]
    refine wpAnyH_ready (rs := [6]) (by kernel_rfl) (by simp) ?_
    refine AllReadyH.cons (o := _) rfl (fun K hK => ?_) AllReadyH.nil
    go_simp
    refine hK.out _ _ (HC.out _ ((((Keeps.refl _ _).drew.setCell (by simp) _).setCell (by simp) _).setCell (by simp) _)) (fun hHeld2 => ?_)
    clear hK K hHeld
    have hHeld := hHeld2
    clear hHeld2
    try simp only [List.getElem_toArray, List.getElem_cons_succ, List.getElem_cons_zero, Act.put, List.setIfInBounds_toArray, List.set_cons_zero, List.set_cons_succ]
    refine wpAnyH_take (i := 7) (oi := _) (v := ?v7u22) rfl (by kernel_rfl) (by kernel_rfl) (by kernel_rfl) (fun _ _ _ h => h) (Or.inl ⟨by rfl, ?y7u22⟩) (by assumption) ?r7u22
    case y7u22 => (intro w hSw; (try dsimp only at hSw); go_simp <;> with_reducible rfl)
    try simp only [List.getElem_toArray, List.getElem_cons_succ, List.getElem_cons_zero, Act.put, List.setIfInBounds_toArray, List.set_cons_zero, List.set_cons_succ]
    refine wpAnyH_done (by kernel_rfl) ?_ _
    have hZ9 : Blk (((w6.setCell ⟨g0, 0, none⟩ (.int .i64 t)).setCell ⟨g0, 1, none⟩ (.int .i64 hd)).setCell ⟨g0, 2, none⟩ (.slice Al es.length cl)).drew g0 118 #[.int .i64 t, .int .i64 hd, .slice Al es.length cl] := by
     have := ((HZ6.out.set_ 0 (.int .i64 t)).set_ 1 (.int .i64 hd)).set_ 2 (.slice Al es.length cl)
     simp at this
     exact this
    go_wp2_with fail
    refine bodyPost_ret (results_cell2 rfl _ _ g0 118 #[.int .i64 t, .int .i64 hd, .slice Al es.length cl] _ rfl hZ9 Tryz.underlying118 rfl (by kernel_rfl)) rfl ?_
    exact hP.out
def VoPost (Y : List Nat) (d : Nat) (b : List UInt8) (w : World) (e : Ending) (w' : World) : Prop :=
 ∃ s p, e = .returned (.pointer (some ⟨s, 0, none⟩)) ∧ StAt w' s p Y (lastV word0 (scanS b).1) d (b.take (scanS b).2) (scanS b).2 (scanS b).1.length ∧ Keeps Y w w' ∧ w.heap.size ≤ s ∧ w.heap.size ≤ p
/-- The word of a state is set anew. -/
theorem StAt.turn {w w' : World} {s p : Nat} {Y : List Nat} {x y : WordD} {d k n : Nat} {b : List UInt8} {lv : Value} (h : StAt w s p Y x d b k n) (hk : Keeps [] w w') (he : Ens w' (s :: p :: Y) lv y.log) (hy : WOk y) :
  StAt (((w'.setCell ⟨s, 0, none⟩ (.int .i64 y.t)).setCell ⟨s, 1, none⟩ (.int .i64 y.h)).setCell ⟨s, 2, none⟩ lv) s p Y y d b k n := by
 have h' := h.keep0 hk
 obtain ⟨l0, hb, _, hl, hs, _⟩ := h'
 have hks : Keeps [s] w' (((w'.setCell ⟨s, 0, none⟩ (.int .i64 y.t)).setCell ⟨s, 1, none⟩ (.int .i64 y.h)).setCell ⟨s, 2, none⟩ lv) := (((Keeps.refl _ _).setCell (by simp) _).setCell (by simp) _).setCell (by simp) _
 exact ⟨lv, by simpa using ((hb.set_ 0 (.int .i64 y.t)).set_ 1 (.int .i64 y.h)).set_ 2 lv, he.keep hks (fun g hg => by simp at hg; subst hg; exact .inl (by simp)), hl.keep hks (fun g hg hm => by simp at hm; subst hm; exact hs hg), hs, hy⟩
theorem lastV_succ (x : WordD) (rs : List (List UInt8)) (j : Nat) (hj : j < rs.length) : lastV x (rs.take (j + 1)) = (readV rs[j]).getD (lastV x (rs.take j)) := by
 unfold lastV
 rw [List.take_succ_eq_append_getElem hj, List.foldl_append]
 rfl
set_option maxRecDepth 100000 in
set_option maxHeartbeats 1000000 in
theorem vopen_any (Y : List Nat) (d k : Nat) (b : List UInt8) (w : World) (h : DkAt w Y d b k) (m : Int) (hm : w.cell? ⟨0, 0, none⟩ = some (.int .i64 m)) (h0 : 0 ∉ Y) :
  Calls Tryz.prog 29 #[.pointer (some ⟨d, 0, none⟩)] w fun e w' => VoPost Y d b w e w' := by
 have hw0 : 0 < w.heap.size := by
  have := World.block_lt_of_cell? w _ hm
  simpa using this
 have ho := wopen_any Y d k b w h
 have hle := h.le
 have hYo := h.old
 obtain ⟨hs1, hs2, hs3⟩ := scanS_bd b
 have hkeepm : Hid (∀ W, Keeps Y w W → W.cell? ⟨0, 0, none⟩ = some (.int .i64 m)) := fun W hb => (hb.cell (p := ⟨0, 0, none⟩) hw0 h0).trans hm
 have Ho := Lib.hid ho; have HYo := Lib.hid hYo
 have HP : Hid (∀ s p W, StAt W s p Y (lastV word0 (scanS b).1) d (b.take (scanS b).2) (scanS b).2 (scanS b).1.length → Keeps Y w W → w.heap.size ≤ s → w.heap.size ≤ p → VoPost Y d b w (.returned (.pointer (some ⟨s, 0, none⟩))) W) := fun s p W h1 h2 h3 h4 => ⟨s, p, rfl, h1, h2, h3, h4⟩
 have HO : Hid (∀ e W, WoPost Y d b w e W → ∃ p v, e = .returned (.tuple #[.pointer (some ⟨p, 0, none⟩), v]) ∧ w.heap.size ≤ p ∧ LgAt W p Y d (b.take (scanS b).2) (scanS b).2 (scanS b).1.length ∧ (∀ M, (∀ g ∈ M, g < w.heap.size) → Bss W (p :: M) v (scanS b).1) ∧ Keeps Y w W) := fun _ _ h => h
 clear h ho hYo hm
 generalize scanS b = R at *
 obtain ⟨rs, n⟩ := R
 simp only [] at hs1 hs2 hs3 HP HO
 go_enter Tryz.func29, Tryz.ntmps29
 go_wp2_with fail
 refine Ho.out.mono ?_
 intro e w1 hpost
 obtain ⟨p, v, rfl, hp, hL, hB, hK⟩ := HO.out _ _ hpost
 have HL := Lib.hid hL; have HK := Lib.hid hK
 have hpw := hL.1.lt
 obtain ⟨w2, hw2⟩ : ∃ w2, w2 = w1.alloc (.cells #[.int .i64 0, .int .i64 0, .slice none 0 0, .pointer (some ⟨p, 0, none⟩)] 120) := ⟨_, rfl⟩
 have hk2 : Keeps [] w1 w2 := by rw [hw2]; exact (Keeps.refl _ _).alloc _
 have hS2 : StAt w2 w1.heap.size p Y word0 d (b.take n) n rs.length := by
  refine ⟨.slice none 0 0, by rw [hw2]; exact Blk.new w1 _ _, Ens.nil _ _, hL.keep0 hk2, fun hm => by have := hL.old _ hm; omega, word0_ok⟩
 have HB2 : Hid (Bss w2 [w1.heap.size] v rs) := ((hB [] (by simp)).avoid (M' := [w1.heap.size]) (fun g hg => by simp at hg; subst hg; exact .inr (Nat.le_refl _))).keep hk2 (by simp)
 have HS2 := Lib.hid hS2
 have HK2 : Hid (Keeps Y w w2) := hK.trans hk2 (by simp)
 have hs0 : w.heap.size ≤ w1.heap.size := hK.size
 obtain ⟨A, c, rfl, hc⟩ := HB2.out.len
 clear hpost hL hB hK hk2 hS2
 go_wp2_with fail
 rw [← hw2]
 clear hw2
 generalize w1.heap.size = s at *
 go_loopw [22] (fun i wr => ∃ j : Nat, i = .int .i64 j ∧ j ≤ rs.length ∧ Hid (StAt wr s p Y (lastV word0 (rs.take j)) d (b.take n) n rs.length) ∧ Hid (Keeps [s] w2 wr)) (fun i _ => rs.length - (intOf i).toNat)
 case atStart => exact ⟨0, rfl, by omega, (by show StAt _ _ _ _ _ _ _ _ _; exact HS2.out), Keeps.refl _ _⟩
 case round =>
  obtain ⟨j, rfl, hj, HS, HKr⟩ := hrel
  by_cases hlt : j < rs.length
  ·have hji : (j : Int) < (rs.length : Int) := by omega
   have HBr := Lib.hid (HB2.out.keep HKr.out (fun g hg => .inl hg))
   obtain ⟨g, off, cap, bv, e1, hg, hgs, hcell, hbv⟩ := HBr.out.at_ hlt
   injection e1 with e1 _ e3
   subst e1 e3
   obtain ⟨Ab, cb, rfl, _⟩ := hbv.len
   have hKw : Keeps Y w wr := HK2.out.trans HKr.out (fun g hg => by simp at hg; subst hg; exact .inr hs0)
   have hrd := Lib.hid (vread_any _ rs[j] m wr (hbv.avoid (by simp)) (hs2 _ (List.getElem_mem hlt)) (hkeepm.out wr hKw))
   have HX := Lib.hid (lastV_succ word0 rs j hlt)
   have hxk := Lib.hid (fun (y : WordD) (h : readV rs[j] = some y) => readV_ok (by have := hs2 _ (List.getElem_mem hlt); omega) h)
   clear hbv hKw
   generalize readV rs[j] = rv at *
   generalize rs[j] = rj at *
   have hcc := hcell
   go_wp2_with fail
   refine hrd.out.mono ?_
   intro e w3 hpost
   cases rv with
   | none =>
    simp only [VrPost] at hpost
    obtain ⟨a0, b0, A0, n0, c0, rfl, hk3⟩ := hpost
    have HS3 : Hid (StAt (w3.alloc (.cells #[.int .i64 a0, .int .i64 b0, .slice A0 n0 c0] 118)) s p Y (lastV word0 (rs.take (j + 1))) d (b.take n) n rs.length) := by
     show StAt _ _ _ _ _ _ _ _ _
     rw [HX.out]
     exact HS.out.keep0 (hk3.alloc _)
    have HK3 : Hid (Keeps [s] w2 (w3.alloc (.cells #[.int .i64 a0, .int .i64 b0, .slice A0 n0 c0] 118))) := HKr.out.trans (hk3.alloc _) (by simp)
    clear hk3 hrd
    go_wp2_with fail
    go_roundw
    case rel => exact ⟨j + 1, by go_num, by omega, HS3, HK3⟩
    case measure => simp [intOf] <;> omega
   | some y =>
    simp only [VrPost] at hpost
    obtain ⟨lv, rfl, hE, hk3⟩ := hpost
    obtain ⟨Al, cl, rfl, _⟩ := (hE [] (by simp)).len
    have hyk := hxk.out y rfl
    have hE3 : Ens w3 (s :: p :: Y) (.slice Al y.log.length cl) y.log := hE (s :: p :: Y) (fun g hg => HS.out.old g hg)
    have HT := HS.out.turn hk3 hE3 hyk
    have hS3 := HS.out.keep0 hk3
    obtain ⟨As, cs, hbs, _⟩ := hS3.lv
    obtain ⟨s0, s1, s2, s3, hsl⟩ := blk4 hbs
    have f0 := hbs.frozen 0; have f1 := hbs.frozen 1; have f2 := hbs.frozen 2
    have HK5 : Keeps [s] w2 (((w3.setCell ⟨s, 0, none⟩ (.int .i64 y.t)).setCell ⟨s, 1, none⟩ (.int .i64 y.h)).setCell ⟨s, 2, none⟩ (.slice Al y.log.length cl)) :=
     (((HKr.out.trans hk3 (by simp)).setCell (by simp) _).setCell (by simp) _).setCell (by simp) _
    have HX2 : Hid (lastV word0 (rs.take (j + 1)) = y) := HX.out
    have HS5 : Hid (StAt ((((w3.setCell ⟨s, 0, none⟩ (.int .i64 y.t)).setCell ⟨s, 1, none⟩ (.int .i64 y.h)).setCell ⟨s, 2, none⟩ (.slice Al y.log.length cl)).alloc (.cells #[.int .i64 y.t, .int .i64 y.h, .slice Al y.log.length cl] 118)) s p Y (lastV word0 (rs.take (j + 1))) d (b.take n) n rs.length) := by
     show StAt _ _ _ _ _ _ _ _ _
     rw [HX2.out]
     exact HT.keep0 ((Keeps.refl _ _).alloc _)
    have HK6 := Lib.hid (HK5.alloc (.cells #[.int .i64 y.t, .int .i64 y.h, .slice Al y.log.length cl] 118))
    clear hE hk3 hrd hE3 hS3 hbs HX HK5 HT HX2
    go_wp2_with fail
    go_roundw
    case rel => exact ⟨j + 1, by go_num, by omega, HS5, HK6⟩
    case measure => simp [intOf] <;> omega
  ·obtain rfl : j = rs.length := by omega
   have hji : ¬ (rs.length : Int) < (rs.length : Int) := by omega
   have hfin : Hid (VoPost Y d b w (.returned (.pointer (some ⟨s, 0, none⟩))) wr) := HP.out s p wr (by have := HS.out; rwa [List.take_length] at this) (HK2.out.trans HKr.out (fun g hg => by simp at hg; subst hg; exact .inr hs0)) hs0 hp
   go_wp2
   go_ret
   exact hfin.out
end Go.Proofs.YtinnifhnabncfaaGreatDoor.Vi
end
section
namespace Go.Proofs.YtinnifhnabncfaaGreatDoor.Vi
open Go.RowKit Base Mem Go.Shelf
set_option maxRecDepth 100000 in
set_option maxHeartbeats 2000000 in
theorem rlog_any (v : Value) (l : List UInt8) (ev : Value) (es : List EntryD) (w : World) (h : Bs w [] v l) (he : Ens w [] ev es) (hok : ∀ e ∈ es, EOk e) (hl : es.length ≤ 128) (hlb : l.length ≤ 1000000000) :
  Calls Tryz.prog 95 #[v, ev] w fun e w' => OwnB (l ++ putLog es) w e w' := by
 have hp := Lib.hid (rput_any v l es.length w h (by omega) (by omega))
 have hun := Lib.uvarint_length64 (x := es.length) (by omega)
 have Hlim : Hid (∀ x, (l ++ Lib.uvarint es.length ++ (es.take x).flatMap eBlob).length ≤ 6000000000000) := fun x => by
  have h1 := blobs_big (es.take x) (fun e he => hok e (List.mem_of_mem_take he))
  have h2 : (es.take x).length * 40000000010 ≤ 128 * 40000000010 := Nat.mul_le_mul_right _ (by rw [List.length_take]; omega)
  simp only [List.length_append]
  omega
 have HE := Lib.hid he; have Hok := Lib.hid hok
 obtain ⟨A, c, rfl, hc⟩ := he.len
 have hwu : IntKind.u64.wrap (es.length : Int) = (es.length : Int) := by rw [IntKind.wrap_u64]; omega
 have hdi : (es.length : Int) < 18446744073709551616 := by omega
 have HP : Hid (l ++ putLog es = l ++ Lib.uvarint es.length ++ es.flatMap eBlob) := by show _ = _; unfold putLog; rw [List.append_assoc]
 rw [HP.out]
 clear h he hok hun HP
 obtain ⟨L0, hL0⟩ : ∃ L0, L0 = l ++ Lib.uvarint es.length := ⟨_, rfl⟩
 rw [← hL0] at hp Hlim ⊢
 clear hL0
 go_enter Tryz.func95, Tryz.ntmps95
 go_wp2_with fail
 refine hp.out.mono ?_
 rintro e w1 ⟨v1, rfl, hR, hb⟩
 have HR1 := Lib.hid hR; have Hb1 := Lib.hid hb
 clear hR hb hp
 go_wp2_with fail
 go_loopw [0, 14] (fun b i wr => ∃ (x : Nat) (L : List UInt8), i = .int .i64 x ∧ x ≤ es.length ∧ Hid (L = L0 ++ (es.take x).flatMap eBlob) ∧ Hid (wr.ownsRow w.heap.size 5 1 b L.length (L.map bV)) ∧ Hid (Below w.heap.size w wr)) (fun _ i _ => es.length - (intOf i).toNat)
 case atStart => exact ⟨0, L0, rfl, by omega, (show L0 = _ by simp), HR1.out, Hb1.out⟩
 case round =>
  obtain ⟨x, L, rfl, hx, HL, Hown, Hbr⟩ := hrel
  by_cases hlt : x < es.length
  ·have hx1 : (x : Int) < (es.length : Int) := by omega
   have he2 := HE.out.keep (Keeps.of_below (M := []) Hbr.out) (by simp)
   obtain ⟨g, off, _, dv, e1, hg, _, hdv, hcell⟩ := ens_at he2 hlt
   obtain rfl : A = some ⟨g, off, none⟩ := by injection e1
   clear e1 he2
   have HN : Hid (L0 ++ (es.take (x + 1)).flatMap eBlob = L ++ eBlob es[x]) := by
    show _ = _
    rw [List.take_succ_eq_append_getElem hlt, List.flatMap_append, HL.out]; simp
   have hlm := Hlim.out (x + 1)
   rw [HN.out, List.length_append] at hlm
   have Hlm := Lib.hid hlm
   have hoke := Hok.out es[x] (List.getElem_mem _)
   obtain ⟨Av, cv, rfl, _⟩ := hdv.len
   have Hdv := Lib.hid hdv
   have HEB : Hid (eBlob es[x] = Lib.uvarint (bytesE es[x]).length ++ bytesE es[x]) := rfl
   have Hoke := Lib.hid hoke
   clear hlm hoke hdv
   generalize es[x] = en at *
   obtain ⟨kind, ag, sh, seq, ep, ds, ser, fr, tag⟩ := en
   simp only [] at Hdv
   have a0 := hcell 0 _ rfl; have a1 := hcell 1 _ rfl; have a2 := hcell 2 _ rfl; have a3 := hcell 3 _ rfl; have a4 := hcell 4 _ rfl; have a5 := hcell 5 _ rfl; have a6 := hcell 6 _ rfl; have a7 := hcell 7 _ rfl; have a8 := hcell 8 _ rfl
   rw [Nat.add_zero] at a0
   simp only [] at a0 a1 a2 a3 a4 a5 a6 a7 a8
   clear hcell
   have hBx := Blk.new wr 26 #[.int .i64 kind, .int .i64 ag, .int .i64 sh, .int .i64 seq, .int .i64 ep, .slice Av ds.length cv, .string ser, .int .i64 fr, .int .i64 tag]
   have HbA := Lib.hid (Hbr.out.alloc Hbr.out.size (.cells #[.int .i64 kind, .int .i64 ag, .int .i64 sh, .int .i64 seq, .int .i64 ep, .slice Av ds.length cv, .string ser, .int .i64 fr, .int .i64 tag] 26))
   have HownA := Lib.hid (Hown.out.alloc (.cells #[.int .i64 kind, .int .i64 ag, .int .i64 sh, .int .i64 seq, .int .i64 ep, .slice Av ds.length cv, .string ser, .int .i64 fr, .int .i64 tag] 26))
   have HdvA : Hid (Ds (wr.alloc (.cells #[.int .i64 kind, .int .i64 ag, .int .i64 sh, .int .i64 seq, .int .i64 ep, .slice Av ds.length cv, .string ser, .int .i64 fr, .int .i64 tag] 26)) [] (.slice Av ds.length cv) ds) := Hdv.out.keep (M' := []) ((Keeps.refl _ _).alloc _) (by simp)
   have HBx := Lib.hid hBx
   clear hBx Hdv
   go_upto_region 5 with (fail)
   clear a0 a1 a2 a3 a4 a5 a6 a7 a8
   generalize wr.alloc (.cells #[.int .i64 kind, .int .i64 ag, .int .i64 sh, .int .i64 seq, .int .i64 ep, .slice Av ds.length cv, .string ser, .int .i64 fr, .int .i64 tag] 26) = wa at *
   generalize wr.heap.size = g6 at *
   obtain ⟨c0, c1, c2, c3, c4, c5, c6, c7, c8, _⟩ := rblk9G HBx.out
   have HBy := Lib.hid (show Calls Tryz.prog 19 #[.agg #[.int .i64 kind, .int .i64 ag, .int .i64 sh, .int .i64 seq, .int .i64 ep, .slice Av ds.length cv, .string ser, .int .i64 fr, .int .i64 tag]] wa fun r w' => OwnB (bytesE ⟨kind, ag, sh, seq, ep, ds, ser, fr, tag⟩) wa r w' from rbytes_any ⟨kind, ag, sh, seq, ep, ds, ser, fr, tag⟩ (.slice Av ds.length cv) wa Hoke.out.1 HdvA.out Hoke.out.2.1 Hoke.out.2.2)
   clear HdvA HBx Hoke
   generalize bytesE ⟨kind, ag, sh, seq, ep, ds, ser, fr, tag⟩ = be at *
   generalize eBlob ⟨kind, ag, sh, seq, ep, ds, ser, fr, tag⟩ = bl at *
   go_wp2_with fail
   refine HBy.out.mono ?_
   rintro r w7 ⟨v7, rfl, hown7, hb7⟩
   obtain ⟨A7, c7x, rfl, hcv⟩ := conv_own hown7
   have Hb7 := Lib.hid (below_then HbA.out hb7)
   obtain ⟨s, hs⟩ : ∃ s : ByteArray, s = ⟨be.toArray⟩ := ⟨_, rfl⟩
   rw [← hs] at hcv
   have hsz : s.size = be.length := by rw [hs]; rfl
   have hsB : sB s = be := by rw [hs]; rfl
   have hbnd : L.length + s.size ≤ 140737488355000 := by
    have := Hlm.out
    rw [HEB.out, List.length_append] at this
    omega
   have HT0 := rtxt_any u0 L s w7 (own_bs (own_below HownA.out hb7)) hbnd
   rw [hsz, hsB, List.append_assoc, ← HEB.out] at HT0
   have HT := Lib.hid HT0
   clear HT0 hs hsz hsB hbnd hown7 hb7 HBy c0 c1 c2 c3 c4 c5 c6 c7 c8
   go_wp2_with fail
   refine HT.out.mono ?_
   rintro r w8 ⟨v8, rfl, hown8, hb8⟩
   have HF : Hid (w8.ownsRow w.heap.size 5 1 v8 (L ++ bl).length ((L ++ bl).map bV)) := own_more hown8 Hb7.out.size
   have HbF := Lib.hid (below_then Hb7.out hb8)
   have HN2 := Lib.hid HN.out.symm
   clear hown8 hb8 hcv HT
   go_wp2
   go_roundw
   case rel => exact ⟨x + 1, L ++ bl, by go_num, by omega, HN2, HF, HbF⟩
   case measure => simp [intOf] <;> omega
  ·obtain rfl : x = es.length := by omega
   have hC : Hid (OwnB (L0 ++ es.flatMap eBlob) w (.returned u0) wr) := by
    have := HL.out
    rw [List.take_length] at this
    rw [← this]
    exact ⟨_, rfl, Hown.out, Hbr.out⟩
   go_wp2
   go_ret
   exact hC.out
/-- The document's word lies in block s, its disk in d; its slices in none of the blocks M. -/
def RSt (w : World) (M : List Nat) (s d : Nat) (x : WordD) (b : List UInt8) (k : Nat) : Prop :=
 ∃ lv, Blk w s 186 #[.pointer (some ⟨d, 0, none⟩), .int .i64 x.t, .int .i64 x.h, lv] ∧ Ens w (s :: d :: M) lv x.log ∧ RDk w (s :: M) d b k ∧ s ∉ M ∧ WOk x
theorem RSt.old {w : World} {M : List Nat} {s d k : Nat} {x : WordD} {b : List UInt8} (h : RSt w M s d x b k) : ∀ g ∈ s :: d :: M, g < w.heap.size := fun g hg => by
 obtain ⟨_, h1, _, h2, _⟩ := h
 rcases List.mem_cons.1 hg with rfl | hg
 ·exact h1.lt
 ·rcases List.mem_cons.1 hg with rfl | hg
  ·exact h2.lt
  ·exact h2.old g (List.mem_cons_of_mem _ hg)
theorem ens_more {w w' : World} {Z M M' N : List Nat} {lv : Value} {l : List EntryD} (h : Ens w (Z ++ M) lv l) (hk : Keeps N w w') (hN : ∀ g ∈ N, g ∈ M ∨ w.heap.size ≤ g) (hM : ∀ g ∈ M', g ∈ M ∨ w.heap.size ≤ g) : Ens w' (Z ++ M') lv l := by
 have h8 : Ens w (Z ++ M ++ M') lv l := h.avoid (fun g hg => by
  rcases List.mem_append.1 hg with hg | hg
  ·exact .inl hg
  ·exact (hM g hg).imp (fun h => List.mem_append_right _ h) id)
 exact (h8.keep hk (fun g hg => (hN g hg).imp (fun h => by simp [h]) id)).avoid (fun g hg => .inl (by rcases List.mem_append.1 hg with hg | hg <;> simp [hg]))
theorem RSt.more {w w' : World} {M M' N : List Nat} {s d k : Nat} {x : WordD} {b : List UInt8} (h : RSt w M s d x b k) (hk : Keeps N w w') (hN : ∀ g ∈ N, g ∈ M ∨ w.heap.size ≤ g) (hM : ∀ g ∈ M', g ∈ M ∨ w.heap.size ≤ g) (hlt : ∀ g ∈ M', g < w'.heap.size) : RSt w' M' s d x b k := by
 have hs := h.old s (by simp)
 obtain ⟨lv, h1, h2, h3, h4, h5⟩ := h
 refine ⟨lv, hk.blk h1 (fun hm => by rcases hN s hm with h | h; exact h4 h; omega), ens_more (Z := [s, d]) h2 hk hN hM, ?_, fun hm => by rcases hM s hm with h | h; exact h4 h; omega, h5⟩
 refine h3.more hk (fun g hg => (hN g hg).imp (fun h => List.mem_cons_of_mem _ h) id) (fun g hg => ?_) (fun g hg => ?_)
 ·rcases List.mem_cons.1 hg with rfl | hg
  ·exact .inl (by simp)
  ·exact (hM g hg).imp (fun h => List.mem_cons_of_mem _ h) id
 ·rcases List.mem_cons.1 hg with rfl | hg
  ·exact Nat.lt_of_lt_of_le hs hk.size
  ·exact hlt g hg
theorem RSt.keep0 {w w' : World} {M : List Nat} {s d k : Nat} {x : WordD} {b : List UInt8} (h : RSt w M s d x b k) (hk : Keeps [] w w') : RSt w' M s d x b k :=
 h.more hk (by simp) (fun g hg => .inl hg) (fun g hg => Nat.lt_of_lt_of_le (h.old g (by simp [hg])) hk.size)
def RoPost (M : List Nat) (d : Nat) (b : List UInt8) (w : World) (e : Ending) (w' : World) : Prop :=
 ∃ s, e = .returned (.pointer (some ⟨s, 0, none⟩)) ∧ w.heap.size ≤ s ∧ RSt w' M s d (lastV word0 (scanS b).1) (b.take (scanS b).2) (scanS b).2 ∧ Keeps [d] w w'
/-- What stands while the records are read: the last word in block s. -/
structure RLp (w : World) (M : List Nat) (d n : Nat) (b : List UInt8) (v : Value) (rs : List (List UInt8)) (x : WordD) (s : Nat) (wr : World) : Prop where
 blk : ∃ lv, Blk wr s 186 #[.pointer none, .int .i64 x.t, .int .i64 x.h, lv] ∧ Ens wr (s :: d :: M) lv x.log
 dk : RDk wr (s :: M) d b n
 recs : Bss wr [] v rs
 new : w.heap.size ≤ s
 keeps : Keeps [d] w wr
set_option maxRecDepth 100000 in
set_option maxHeartbeats 2000000 in
theorem ropen_any (M : List Nat) (d k : Nat) (b : List UInt8) (w : World) (h : RDk w M d b k) :
  Calls Tryz.prog 86 #[.pointer (some ⟨d, 0, none⟩)] w fun e w' => RoPost M d b w e w' := by
 have hdl := h.lt
 have hold := h.old
 have hle := h.le
 obtain ⟨hs1, hs2, hs3⟩ := scanS_bd b
 have hdM := h.nin
 obtain ⟨w1, hw1⟩ : ∃ w1, w1 = w.alloc (.cells #[.pointer none, .int .i64 0, .int .i64 0, .slice none 0 0] 186) := ⟨_, rfl⟩
 have hk1 : Keeps [] w w1 := by rw [hw1]; exact (Keeps.refl _ _).alloc _
 have hB1 : Blk w1 w.heap.size 186 #[.pointer none, .int .i64 0, .int .i64 0, .slice none 0 0] := by rw [hw1]; exact Blk.new w _ _
 have hsl1 := hB1.lt
 have hD1 : RDk w1 (w.heap.size :: M) d b k := h.more hk1 (by simp) (fun g hg => by rcases List.mem_cons.1 hg with rfl | hg; exact .inr (Nat.le_refl _); exact .inl hg) (fun g hg => by rcases List.mem_cons.1 hg with rfl | hg; exact hsl1; exact Nat.lt_of_lt_of_le (hold g hg) hk1.size)
 have HO := Lib.hid (r7open_any w1 hD1)
 have HB1 := Lib.hid hB1; have Hk1 := Lib.hid hk1; have Hw1 := Lib.hid hw1; have Hold := Lib.hid hold; have HdM := Lib.hid hdM
 clear h hD1 hB1 hk1 hw1 hold hdM
 unfold R7Post at HO
 have HP : Hid (∀ s W, RSt W M s d (lastV word0 (scanS b).1) (b.take (scanS b).2) (scanS b).2 → Keeps [d] w W → w.heap.size ≤ s → RoPost M d b w (.returned (.pointer (some ⟨s, 0, none⟩))) W) := fun s W h1 h2 h3 => ⟨s, rfl, h3, h1, h2⟩
 have hxo : Hid (∀ j, WOk (lastV word0 ((scanS b).1.take j))) := fun j => lastV_ok _ _ word0_ok (fun x hx => hs2 x (List.mem_of_mem_take hx))
 generalize scanS b = R at *
 obtain ⟨rs, n⟩ := R
 simp only [] at hs1 hs2 hs3 HO HP hxo
 go_enter Tryz.func86, Tryz.ntmps86
 go_upto_region 2 with (fail)
 rw [← Hw1.out]
 clear Hw1
 go_wp2_with fail
 refine HO.out.mono ?_
 rintro e w2 ⟨v, rfl, hB, hD, hK⟩
 have hHL : RLp w M d n (b.take n) v rs (lastV word0 (rs.take 0)) w.heap.size w2 := by
  refine ⟨⟨.slice none 0 0, hK.blk HB1.out (by simp; omega), Ens.nil _ _⟩, hD, hB [] (by simp), Nat.le_refl _, (Hk1.out.mono (M' := [d]) (by simp)).trans hK (fun g hg => .inl hg)⟩
 have HL := Lib.hid hHL
 obtain ⟨A, c, rfl, hc⟩ := (hB [] (by simp)).len
 clear hB hD hK HO hHL HB1 Hk1
 go_wp2_with fail
 go_loopw [13, 3] (fun i sv wr => ∃ j s : Nat, i = .int .i64 j ∧ sv = .pointer (some ⟨s, 0, none⟩) ∧ j ≤ rs.length ∧ Hid (RLp w M d n (b.take n) (.slice A rs.length c) rs (lastV word0 (rs.take j)) s wr)) (fun i _ _ => rs.length - (intOf i).toNat)
 case atStart => exact ⟨0, w.heap.size, rfl, rfl, by omega, HL.out⟩
 case round =>
  obtain ⟨j, s, rfl, rfl, hj, HS⟩ := hrel
  by_cases hlt : j < rs.length
  ·have hji : (j : Int) < (rs.length : Int) := by omega
   obtain ⟨g, off, cap, bv, e1, hg, hgs, hcell, hbv⟩ := HS.out.recs.at_ hlt
   injection e1 with e1 _ e3
   subst e1 e3
   obtain ⟨Ab, cb, rfl, _⟩ := hbv.len
   have hrl := hs2 _ (List.getElem_mem hlt)
   have hrd := rread14_any _ rs[j] wr hbv hrl
   rw [rreadV_eq (by omega)] at hrd
   have Hrd := Lib.hid hrd
   have HX := Lib.hid (lastV_succ word0 rs j hlt)
   have hsz : w.heap.size ≤ wr.heap.size := HS.out.keeps.size
   have hdr := HS.out.dk.lt
   clear hbv hrd
   generalize readV rs[j] = rv at *
   generalize rs[j] = rj at *
   go_wp2_with fail
   refine Hrd.out.mono ?_
   intro e w3 hpost
   cases rv with
   | none =>
    simp only [RvPost] at hpost
    obtain ⟨s3, rfl, hk3⟩ := hpost
    have HS3 : Hid (RLp w M d n (b.take n) (.slice (some ⟨g, off, none⟩) rs.length c) rs (lastV word0 (rs.take (j + 1))) s w3) := by
     show RLp _ _ _ _ _ _ _ _ _ _
     rw [HX.out]
     obtain ⟨⟨lv, q1, q2⟩, q3, q4, q5, q6⟩ := HS.out
     exact ⟨⟨lv, hk3.blk q1 (by simp), q2.keep hk3 (by simp)⟩, q3.keep0 hk3, q4.keep hk3 (by simp), q5, q6.trans hk3 (by simp)⟩
    clear hk3 Hrd hcell
    go_wp2
    go_roundw
    case rel => exact ⟨j + 1, s, by go_num, rfl, by omega, HS3⟩
    case measure => simp [intOf] <;> omega
   | some y =>
    simp only [RvPost] at hpost
    obtain ⟨s3, lv, rfl, hs3l, hB3, hE3, hk3⟩ := hpost
    have HS3 : Hid (RLp w M d n (b.take n) (.slice (some ⟨g, off, none⟩) rs.length c) rs (lastV word0 (rs.take (j + 1))) s3 w3) := by
     show RLp _ _ _ _ _ _ _ _ _ _
     rw [HX.out]
     obtain ⟨_, q3, q4, q5, q6⟩ := HS.out
     have ho := q3.old
     refine ⟨⟨lv, hB3, hE3 (d :: M) (fun g hg => by rcases List.mem_cons.1 hg with rfl | hg; exact hdr; exact ho g (List.mem_cons_of_mem _ hg))⟩, ?_, q4.keep hk3 (by simp), Nat.le_trans hsz hs3l, q6.trans hk3 (by simp)⟩
     exact q3.more hk3 (by simp) (fun g hg => by rcases List.mem_cons.1 hg with rfl | hg; exact .inr hs3l; exact .inl (List.mem_cons_of_mem _ hg)) (fun g hg => by rcases List.mem_cons.1 hg with rfl | hg; exact hB3.lt; exact Nat.lt_of_lt_of_le (ho g (List.mem_cons_of_mem _ hg)) hk3.size)
    clear hk3 Hrd hcell hE3 hB3
    go_wp2
    go_roundw
    case rel => exact ⟨j + 1, s3, by go_num, rfl, by omega, HS3⟩
    case measure => simp [intOf] <;> omega
  ·obtain rfl : j = rs.length := by omega
   obtain ⟨⟨lv, q1, q2⟩, q3, q4, q5, q6⟩ := HS.out
   obtain ⟨A9, c9, rfl, _⟩ := q2.len
   have e0 := q1.cell 0; have f0 := q1.frozen 0
   simp only [List.getElem?_toArray, List.getElem?_cons_succ, List.getElem?_cons_zero] at e0
   have hx := hxo.out rs.length
   rw [List.take_length] at q1 q2 hx
   have hk : Keeps [s] wr (wr.setCell ⟨s, 0, none⟩ (.pointer (some ⟨d, 0, none⟩))) := (Keeps.refl _ _).setCell (by simp) _
   have hsM : s ∉ M := fun hm => by have := Hold.out s hm; omega
   have HF : Hid (RSt (wr.setCell ⟨s, 0, none⟩ (.pointer (some ⟨d, 0, none⟩))) M s d (lastV word0 rs) (b.take n) n ∧ Keeps [d] w (wr.setCell ⟨s, 0, none⟩ (.pointer (some ⟨d, 0, none⟩)))) :=
    ⟨⟨_, by simpa using q1.set_ 0 (.pointer (some ⟨d, 0, none⟩)), q2.keep hk (fun g hg => .inl (by simp at hg; simp [hg])), q3.more hk (fun g hg => .inl (by simp at hg; simp [hg])) (fun g hg => .inl hg) (fun g hg => Nat.lt_of_lt_of_le (q3.old g hg) hk.size), hsM, hx⟩, q6.trans hk (fun g hg => .inr (by simp at hg; omega))⟩
   clear q1 q2 q3 q4 q6 hk HS HL
   go_wp2
   go_ret
   exact HP.out s _ HF.out.1 HF.out.2 q5
theorem recL_len {y : WordD} (h : WOk y) : (recL y).length ≤ 6000000000000 := by
 have h1 := blobs_big y.log h.2.2.2
 have h2 : y.log.length * 40000000010 ≤ 128 * 40000000010 := Nat.mul_le_mul_right _ h.2.2.1
 have a1 := h.1; have a2 := h.2.1; have a3 := h.2.2.1
 have ut := Lib.uvarint_length64 (x := y.t) (by omega)
 have uh := Lib.uvarint_length64 (x := y.h) (by omega)
 have ul := Lib.uvarint_length64 (x := y.log.length) (by omega)
 unfold recL putLog
 simp only [List.length_append, List.length_nil]
 omega
def RkPost (M : List Nat) (s d : Nat) (x y : WordD) (b : List UInt8) (k : Nat) (w : World) (e : Ending) (w' : World) : Prop :=
 if KpOk y b then e = .returned (.bool true) ∧ RSt w' M s d y (b ++ frameL (recL y)) (b.length + (frameL (recL y)).length) ∧ Keeps [s, d] w w'
 else e = .returned (.bool false) ∧ RSt w' M s d x b k ∧ Keeps [] w w'
set_option maxRecDepth 100000 in
set_option maxHeartbeats 2000000 in
theorem rkeep_any (M : List Nat) (s d k : Nat) (x y : WordD) (b : List UInt8) (w : World) (h : RSt w M s d x b k) (lv : Value) (he : Ens w (s :: d :: M) lv y.log) (hy : WOk y) :
  Calls Tryz.prog 146 #[.pointer (some ⟨s, 0, none⟩), .int .i64 y.t, .int .i64 y.h, lv] w fun e w' => RkPost M s d x y b k w e w' := by
 obtain ⟨i0, hi0, hz0, hz1, hz2⟩ := info_parts infoEntry2
 have Hi0 := Lib.hid hi0; have Hz0 := Lib.hid hz0; have Hz1 := Lib.hid hz1; have Hz2 := Lib.hid hz2
 clear hi0 hz0 hz1 hz2
 have H := Lib.hid h; have HE := Lib.hid he; have HY := Lib.hid hy
 have hsl := h.old s (by simp); have hdl := h.old d (by simp)
 have hsd : s ≠ d := fun e => by obtain ⟨_, _, _, h3, _⟩ := h; exact h3.nin (by simp [e])
 obtain ⟨Al, cl, rfl, hcl⟩ := he.len
 have hy1 := hy.1; have hy2 := hy.2.1; have hy3 := hy.2.2.1
 have HR : Hid (recL y = [] ++ Lib.uvarint y.t ++ Lib.uvarint y.h ++ putLog y.log) := rfl
 have hw1 : IntKind.u64.wrap (y.t : Int) = (y.t : Int) := by rw [IntKind.wrap_u64]; omega
 have hw2 : IntKind.u64.wrap (y.h : Int) = (y.h : Int) := by rw [IntKind.wrap_u64]; omega
 have ut := Lib.uvarint_length64 (x := y.t) (by omega)
 have uh := Lib.uvarint_length64 (x := y.h) (by omega)
 have HP1 := Lib.hid (rput_any (.slice none 0 0) [] y.t w (Bs.nil _ _) (by omega) (by simp))
 clear h he hy
 go_enter Tryz.func146, Tryz.ntmps146
 go_wp2_with fail
 refine HP1.out.mono ?_
 rintro e w1 ⟨v1, rfl, ho1, hb1⟩
 have Hk1 := Lib.hid (Keeps.of_below (M := []) hb1)
 have HP2 := Lib.hid (rput_any v1 _ y.h w1 (own_bs ho1) (by omega) (by simp only [List.nil_append]; omega))
 clear ho1 hb1 HP1
 go_wp2_with fail
 refine HP2.out.mono ?_
 rintro e w2 ⟨v2, rfl, ho2, hb2⟩
 have Hk2 := Lib.hid (Hk1.out.trans (Keeps.of_below (M := []) hb2) (by simp))
 have HP3 := Lib.hid (rlog_any v2 _ (.slice Al y.log.length cl) y.log w2 (own_bs ho2) ((HE.out.keep Hk2.out (by simp)).avoid (M' := []) (by simp)) HY.out.2.2.2 hy3 (by simp only [List.nil_append, List.length_append]; omega))
 clear ho2 hb2 HP2 Hk1
 rw [← HR.out] at HP3
 go_wp2_with fail
 refine HP3.out.mono ?_
 rintro e w3 ⟨v3, rfl, ho3, hb3⟩
 have Hk3 := Lib.hid (Hk2.out.trans (Keeps.of_below (M := []) hb3) (by simp))
 have H3 := Lib.hid (H.out.keep0 Hk3.out)
 have hrl : (recL y).length ≤ 100000000000000 := by
  have := recL_len HY.out
  omega
 obtain ⟨lx, q1, q2, q3, q4, q5⟩ := H3.out
 obtain ⟨Ax, cx, rfl, _⟩ := q2.len
 have HRc := Lib.hid (r7record_any w3 q3 v3 (recL y) (own_bs ho3) hrl)
 have e0 := q1.cell 0; have e1 := q1.cell 1; have e2 := q1.cell 2; have e3 := q1.cell 3
 simp only [List.getElem?_toArray, List.getElem?_cons_succ, List.getElem?_cons_zero] at e0 e1 e2 e3
 have HQ1 := Lib.hid q1; have HQ2 := Lib.hid q2; have q5x := And.intro q4 q5
 obtain ⟨Av, cv, rfl, _⟩ := (own_bs ho3).len
 clear q1 q2 q3 q4 q5 ho3 hb3 HP3 Hk2
 unfold RrPost at HRc
 have HT : Hid (∀ e W, KpOk y b → (e = .returned (.bool true) ∧ RSt W M s d y (b ++ frameL (recL y)) (b.length + (frameL (recL y)).length) ∧ Keeps [s, d] w W) → RkPost M s d x y b k w e W) := fun e W hc h => by unfold RkPost; rw [if_pos hc]; exact h
 have HN : Hid (∀ e W, ¬ KpOk y b → (e = .returned (.bool false) ∧ RSt W M s d x b k ∧ Keeps [] w W) → RkPost M s d x y b k w e W) := fun e W hc h => by unfold RkPost; rw [if_neg hc]; exact h
 have HK : Hid (KpOk y b ↔ (recL y).length ≤ 65536 ∧ b.length + (frameL (recL y)).length ≤ 1048576) := (Iff.rfl : _ ↔ _)
 generalize recL y = ry at *
 go_wp2_with fail
 refine HRc.out.mono ?_
 intro e w4 hp
 by_cases hok : ry.length ≤ 65536 ∧ b.length + (frameL ry).length ≤ 1048576
 ·rw [if_pos hok] at hp
  obtain ⟨rfl, hD4, hk4⟩ := hp
  have hk4' := (Hk3.out.mono (M' := [d]) (by simp)).trans hk4 (fun g hg => .inl hg)
  have HD4 := Lib.hid hD4
  have HQ4b := hk4.blk HQ1.out (by simpa using hsd)
  have e0 := HQ4b.cell 0
  simp only [List.getElem?_toArray, List.getElem?_cons_succ, List.getElem?_cons_zero] at e0
  have HB4 := Lib.hid HQ4b; have HK4 := Lib.hid hk4'
  have hsy := Lib.hid (rdksync_any w4 hD4)
  clear HQ4b hD4 hk4 hk4' HRc e1 e2 e3
  go_wp2_with fail
  refine hsy.out.mono ?_
  rintro e w5 ⟨rfl, hD5, hk5⟩
  have HK5 := Lib.hid (HK4.out.trans hk5 (fun g hg => .inl hg))
  have hB5 := hk5.blk HB4.out (by simpa using hsd)
  have HD5 := Lib.hid hD5
  have hws : w.heap.size ≤ w5.heap.size := HK5.out.size
  have hEl : Ens w5 (s :: d :: M) (.slice Al y.log.length cl) y.log := HE.out.keep HK5.out (fun g hg => .inl (by simp at hg; simp [hg]))
  obtain ⟨ps, hpl, hrd0, hpd⟩ := hEl
  have hpn : ps.length = y.log.length := by rw [← hpl, List.length_map]
  obtain ⟨Ay, cy, hsly, _, hrd⟩ := hrd0.reads
  rw [hpn] at hsly hrd
  obtain ⟨rfl, rfl⟩ : Al = Ay ∧ cl = cy := by injection hsly with h1 _ h3; exact ⟨h1, h3⟩
  have Hrd := Lib.hid hrd
  have Hone : Hid (∀ u ∈ ps.flatMap eCell, u.oneCell' = true) := by
   show ∀ u ∈ _, _
   intro u hu
   obtain ⟨p, hp, hu⟩ := List.mem_flatMap.1 hu
   obtain ⟨A', c', e, _⟩ := (hpd p hp).len
   simp [eCell, e] at hu
   rcases hu with rfl | rfl | rfl | rfl | rfl | rfl | rfl | rfl | rfl <;> rfl
  have Hpd := Lib.hid hpd; have Hpl := Lib.hid hpl
  have hsl5 := hB5.lt
  have hdl5 := hD5.lt
  have HB5 := Lib.hid hB5
  have Hold : Hid (∀ g ∈ s :: d :: M, g < w5.heap.size) := fun g hg => Nat.lt_of_lt_of_le (H.out.old g hg) hws
  clear hsly hrd hrd0 hpd hpl hB5 hD5 hk5 hsy e0
  have hB5c := HB5.out
  have e0 := hB5c.cell 0; have e1 := hB5c.cell 1; have e2 := hB5c.cell 2; have e3 := hB5c.cell 3
  have f1 := hB5c.frozen 1; have f2 := hB5c.frozen 2; have f3 := hB5c.frozen 3
  simp only [List.getElem?_toArray, List.getElem?_cons_succ, List.getElem?_cons_zero] at e0 e1 e2 e3
  clear hB5c
  go_wp2_with (at_builtin; go_must (refine wpList_append_any _ rfl (.tmp 35) (.tmp 36) _ rfl w5.heap.size 26 i0 _ 9 96 Tryz.underlying52 Hi0.out Hz0.out Hz1.out Hz2.out rfl (by omega) (.slice (some ⟨w5.heap.size, 0, none⟩) 0 0) 0 [] rfl (World.ownsRow_made w5 #[] 0 (Nat.le_refl _) (by unfold maxLen; omega) rfl) w5.heap.size Al y.log.length cl (ps.flatMap eCell) rfl (Hrd.out.alloc (Nat.le_refl _) _) Hone.out (by unfold maxLen; omega) (by omega) (by simp) ?_))
  intro v6 w6 ho hg hat
  have hown6 : w6.ownsRow w5.heap.size 26 9 v6 y.log.length (ps.flatMap eCell) := by simpa using ho
  have hb6 : Below w5.heap.size w5 w6 := grown_empty hg
  clear ho hg hat
  have hB6 := HB5.out.below hb6 hsl5
  have hE6 : Ens w6 (s :: d :: M) v6 y.log := ⟨ps, Hpl.out, by rw [hpn]; exact Rd.of_own hown6 (fun g hg => Hold.out g hg), fun p hp => (Hpd.out p hp).keep (M' := []) (Keeps.of_below hb6) (by simp)⟩
  have hk7 : Keeps [s] w6 (((w6.setCell ⟨s, 1, none⟩ (.int .i64 y.t)).setCell ⟨s, 2, none⟩ (.int .i64 y.h)).setCell ⟨s, 3, none⟩ v6) := (((Keeps.refl _ _).setCell (by simp) _).setCell (by simp) _).setCell (by simp) _
  have HF : Hid (RSt (((w6.setCell ⟨s, 1, none⟩ (.int .i64 y.t)).setCell ⟨s, 2, none⟩ (.int .i64 y.h)).setCell ⟨s, 3, none⟩ v6) M s d y (b ++ frameL ry) (b.length + (frameL ry).length) ∧ Keeps [s, d] w (((w6.setCell ⟨s, 1, none⟩ (.int .i64 y.t)).setCell ⟨s, 2, none⟩ (.int .i64 y.h)).setCell ⟨s, 3, none⟩ v6)) := by
   have hD6 := HD5.out.keep0 (Keeps.of_below (M := []) hb6)
   rw [List.length_append] at hD6
   refine ⟨⟨v6, by simpa using ((hB6.set_ 1 (.int .i64 y.t)).set_ 2 (.int .i64 y.h)).set_ 3 v6, hE6.keep hk7 (fun g hg => .inl (by simp at hg; simp [hg])), hD6.more hk7 (fun g hg => .inl (by simp at hg; simp [hg])) (fun g hg => .inl hg) (fun g hg => Nat.lt_of_lt_of_le (hD6.old g hg) hk7.size), q5x.1, HY.out⟩, ?_⟩
   exact ((HK5.out.mono (M' := [s, d]) (by simp)).trans (Keeps.of_below (M := []) hb6) (by simp)).trans hk7 (fun g hg => .inl (by simp at hg; simp [hg]))
  obtain ⟨A6, c6, rfl⟩ : ∃ A6 c6, v6 = .slice A6 y.log.length c6 := by obtain ⟨A6, c6, e, _⟩ := hE6.len; exact ⟨A6, c6, e⟩
  have e0 := hB6.cell 0; have e1 := hB6.cell 1; have e2 := hB6.cell 2; have e3 := hB6.cell 3
  have f1 := hB6.frozen 1; have f2 := hB6.frozen 2; have f3 := hB6.frozen 3
  simp only [List.getElem?_toArray, List.getElem?_cons_succ, List.getElem?_cons_zero] at e0 e1 e2 e3
  clear hown6 hb6 hB6 hE6 hk7 Hrd Hone Hpd
  go_wp2
  go_ret
  exact HT.out _ _ (HK.out.2 hok) ⟨rfl, HF.out.1, HF.out.2⟩
 ·rw [if_neg hok] at hp
  obtain ⟨c, hc, rfl, hD4, hk4⟩ := hp
  have HF := Lib.hid (H3.out.keep0 hk4)
  have HK4 := Lib.hid (Hk3.out.trans hk4 (by simp))
  clear hD4 hk4 HRc
  go_wp2
  go_ret
  exact HN.out _ _ (fun h => hok (HK.out.1 h)) ⟨rfl, HF.out, HK4.out⟩
end Go.Proofs.YtinnifhnabncfaaGreatDoor.Vi
end
section
namespace Go.Proofs.YtinnifhnabncfaaGreatDoor.Vi
open Go.RowKit Base Mem Tape Go.Shelf
def PmPost (s p : Nat) (Y : List Nat) (x : WordD) (d : Nat) (b : List UInt8) (n : Nat) (term : Int) (w : World) (e : Ending) (w' : World) : Prop :=
 if (x.t : Int) < term then KpPost s p Y ⟨term.toNat, x.h, x.log⟩ d b n w e w' else e = .returned (.bool false) ∧ Keeps [] w w'
theorem KpPost.drew {s p : Nat} {Y : List Nat} {y : WordD} {d : Nat} {b : List UInt8} {n : Nat} {w w0 w' : World} {e : Ending} (h : KpPost s p Y y d b n w0 e w') (hk : Keeps [] w w0) : KpPost s p Y y d b n w e w' := by
 unfold KpPost at h ⊢
 split at h
 ·rename_i hc
  rw [if_pos hc]
  obtain ⟨he, Y', h1, h2, h3⟩ := h
  refine ⟨he, Y', h1, fun g hg => (h2 g hg).imp id (Nat.le_trans hk.size), (hk.mono (M' := s :: p :: Y) (by simp)).trans h3 (fun g hg => .inl hg)⟩
 ·rename_i hc
  rw [if_neg hc]
  exact ⟨h.1, hk.trans h.2 (by simp)⟩
theorem KpPost.val {s p : Nat} {Y : List Nat} {y : WordD} {d : Nat} {b : List UInt8} {n : Nat} {w w' : World} {e : Ending} (h : KpPost s p Y y d b n w e w') : e = .returned (.bool (decide (KpOk y b))) := by
 unfold KpPost at h
 split at h
 ·rename_i hc; rw [decide_eq_true hc]; exact h.1
 ·rename_i hc; rw [decide_eq_false hc]; exact h.1
set_option maxRecDepth 100000 in
theorem vpromise_any (s p : Nat) (Y : List Nat) (x : WordD) (d k n : Nat) (b : List UInt8) (w : World) (h : StAt w s p Y x d b k n) (term : Int) (ht : term ≤ 9223372036854775807) (m : Int) (hm : w.cell? ⟨0, 0, none⟩ = some (.int .i64 m)) :
  Calls Tryz.prog 36 #[.pointer (some ⟨s, 0, none⟩), .int .i64 term] w fun e w' => PmPost s p Y x d b n term w e w' := by
 have hw0 : 0 < w.heap.size := by
  have := World.block_lt_of_cell? w _ hm
  simpa using this
 obtain ⟨A, c, hb, he⟩ := h.lv
 obtain ⟨c0, c1, c2, c3, hlt⟩ := blk4 hb
 have hok := h.ok
 by_cases hc : (x.t : Int) < term
 ·have HP : Hid (∀ e W, KpPost s p Y ⟨term.toNat, x.h, x.log⟩ d b n w e W → PmPost s p Y x d b n term w e W) := fun e W h => by unfold PmPost; rw [if_pos hc]; exact h
  obtain ⟨t, rfl⟩ : ∃ t : Nat, term = t := ⟨term.toNat, by omega⟩
  have hkp : Hid (∀ W, Keeps [] w W → Calls Tryz.prog 82 #[.pointer (some ⟨s, 0, none⟩), .agg #[.int .i64 t, .int .i64 x.h, .slice A x.log.length c]] W fun e w' => PmPost s p Y x d b n t w e w') := fun W hk => by
   refine (vkeep_any s p Y x ⟨t, x.h, x.log⟩ d k n b W (h.keep0 hk) _ (he.keep hk (by simp)) ⟨by simp only []; omega, hok.2⟩ m ((hk.cell (p := ⟨0, 0, none⟩) hw0 (by simp)).trans hm)).mono ?_
   intro e W' hq
   exact HP.out e W' (by simpa using hq.drew hk)
  have hv : Hid (∀ e W, PmPost s p Y x d b n t w e W → ∃ v, e = .returned (.bool v)) := fun e W h => by
   unfold PmPost at h
   rw [if_pos hc] at h
   exact ⟨_, h.val⟩
  clear h hb he hm
  have hd : decide ((x.t : Int) < (t : Int)) = true := decide_eq_true hc
  go_enter Tryz.func36, Tryz.ntmps36
  go_wp2_with fail
  go_still_tail 21, (by kernel_rfl)
  change wpList _ _ _ _ _ w.drew
  go_wp2_with fail
  refine (hkp.out _ ((Keeps.refl _ _).drew)).mono ?_
  intro e w1 hq
  obtain ⟨v, rfl⟩ := hv.out _ _ hq
  have Hq := Lib.hid hq
  clear hq
  go_wp2_with fail
  go_ret
  exact Hq.out
 ·have HP : Hid (∀ q, PmPost s p Y x d b n term w (.returned (.bool false)) (w.drewN q)) := fun q => by unfold PmPost; rw [if_neg hc]; exact ⟨rfl, (Keeps.refl _ _).drewN q⟩
  have hd : decide ((x.t : Int) < term) = false := decide_eq_false hc
  clear h hb he hm
  go_enter Tryz.func36, Tryz.ntmps36
  go_wp2_with fail
  go_quiet (fail)
  go_wp2
  go_ret
  exact HP.out nq
def accLong (x : WordD) (t : Nat) (l : List EntryD) : Prop := x.h < t ∨ x.log.length < l.length
instance (x : WordD) (t : Nat) (l : List EntryD) : Decidable (accLong x t l) := inferInstanceAs (Decidable (_ ∨ _))
def accW (x : WordD) (t : Nat) (l : List EntryD) : WordD := if accLong x t l then ⟨t, t, l⟩ else ⟨t, x.h, x.log⟩
def AcOk (x : WordD) (term : Int) (l : List EntryD) : Prop := (x.t : Int) ≤ term ∧ 1 ≤ term ∧ l.length ≤ 128 ∧ ∀ e ∈ l, rightE e = 0
instance (x : WordD) (term : Int) (l : List EntryD) : Decidable (AcOk x term l) := inferInstanceAs (Decidable (_ ∧ _ ∧ _ ∧ _))
def AcPost (s p : Nat) (Y : List Nat) (x : WordD) (d : Nat) (b : List UInt8) (n : Nat) (term : Int) (l : List EntryD) (w : World) (e : Ending) (w' : World) : Prop :=
 if AcOk x term l then
  if ¬ accLong x term.toNat l ∧ term = x.t then e = .returned (.bool true) ∧ Keeps [] w w'
  else KpPost s p Y (accW x term.toNat l) d b n w e w'
 else e = .returned (.bool false) ∧ Keeps [] w w'
set_option maxRecDepth 100000 in
set_option maxHeartbeats 1000000 in
theorem vaccept_any (s p : Nat) (Y : List Nat) (x : WordD) (d k n : Nat) (b : List UInt8) (w : World) (h : StAt w s p Y x d b k n) (term : Int) (ht : term ≤ 9223372036854775807) (lv : Value) (l : List EntryD) (hl : Ens w [] lv l) (hs : ∀ e ∈ l, Short e ∧ Wf e) (m : Int) (hm : w.cell? ⟨0, 0, none⟩ = some (.int .i64 m)) :
  Calls Tryz.prog 34 #[.pointer (some ⟨s, 0, none⟩), .int .i64 term, lv] w fun e w' => AcPost s p Y x d b n term l w e w' := by
 have hw0 : 0 < w.heap.size := by
  have := World.block_lt_of_cell? w _ hm
  simpa using this
 have hkeepm : Hid (∀ W, Keeps [] w W → W.cell? ⟨0, 0, none⟩ = some (.int .i64 m)) := fun W hb => (hb.cell (p := ⟨0, 0, none⟩) hw0 (by simp)).trans hm
 obtain ⟨A, c, hb, he⟩ := h.lv
 obtain ⟨c0, c1, c2, c3, hlt⟩ := blk4 hb
 have hok := h.ok
 have H := Lib.hid h; have HE := Lib.hid he; have HL := Lib.hid hl; have HS := Lib.hid hs; have HB := Lib.hid hb
 obtain ⟨Al, cl, rfl, hcl⟩ := hl.len
 have hF : Hid (∀ W, ¬ AcOk x term l → Keeps [] w W → AcPost s p Y x d b n term l w (.returned (.bool false)) W) := fun W h hk => by unfold AcPost; rw [if_neg h]; exact ⟨rfl, hk⟩
 by_cases h1 : term < (x.t : Int)
 ·have hp := hF.out w (fun h => by have := h.1; omega) (Keeps.refl _ _)
  have Hp := Lib.hid hp
  have hd : decide (term < (x.t : Int)) = true := decide_eq_true h1
  clear h hb he hm hl hs hp hF
  go_enter Tryz.func34, Tryz.ntmps34
  go_wp2_with fail
  go_ret
  exact Hp.out
 have hd1 : decide (term < (x.t : Int)) = false := decide_eq_false h1
 by_cases h2 : term < 1
 ·have hp := hF.out w (fun h => by have := h.2.1; omega) (Keeps.refl _ _)
  have Hp := Lib.hid hp
  have hd : decide (term < 1) = true := decide_eq_true h2
  clear h hb he hm hl hs hp hF
  go_enter Tryz.func34, Tryz.ntmps34
  go_wp2_with fail
  go_ret
  exact Hp.out
 have hd2 : decide (term < 1) = false := decide_eq_false h2
 by_cases h3 : 128 < l.length
 ·have hp := hF.out w (fun h => by have := h.2.2.1; omega) (Keeps.refl _ _)
  have Hp := Lib.hid hp
  have hd : decide ((128 : Int) < (l.length : Int)) = true := decide_eq_true (by omega)
  clear h hb he hm hl hs hp hF
  go_enter Tryz.func34, Tryz.ntmps34
  go_wp2_with fail
  go_ret
  exact Hp.out
 have hd3 : decide ((128 : Int) < (l.length : Int)) = false := decide_eq_false (by omega)
 clear h hb he hm hl hs
 obtain ⟨t, rfl⟩ : ∃ t : Nat, term = t := ⟨term.toNat, by omega⟩
 go_enter Tryz.func34, Tryz.ntmps34
 go_wp2_with fail
 go_loopw [29] (fun i wr => ∃ j : Nat, i = .int .i64 j ∧ j ≤ l.length ∧ Hid (∀ e ∈ l.take j, rightE e = 0) ∧ Hid (Keeps [] w wr)) (fun i _ => l.length - (intOf i).toNat)
 case atStart => exact ⟨0, rfl, by omega, (show ∀ e ∈ l.take 0, rightE e = 0 from by simp), Keeps.refl _ _⟩
 case round =>
  obtain ⟨j, rfl, hj, Hr, Hk⟩ := hrel
  by_cases hjl : j < l.length
  ·have hji : (j : Int) < (l.length : Int) := by omega
   obtain ⟨gl, ol, _, dl, e1, _, _, hDl, hcl⟩ := ens_at (HL.out.keep Hk.out (by simp)) hjl
   injection e1 with e1 _ e9
   subst e1
   clear e9
   have hmem := List.getElem_mem hjl
   have hre := Lib.hid (fun W (hk : Keeps [] wr W) => eright_any l[j] dl m W (hDl.keep hk (by simp)) (HS.out _ hmem).1 (hkeepm.out W (Hk.out.trans hk (by simp))))
   obtain ⟨Dl, nl, rfl, _⟩ := hDl.len
   have a0 := hcl 0 _ rfl; have a1 := hcl 1 _ rfl; have a2 := hcl 2 _ rfl; have a3 := hcl 3 _ rfl; have a4 := hcl 4 _ rfl; have a5 := hcl 5 _ rfl; have a6 := hcl 6 _ rfl; have a7 := hcl 7 _ rfl; have a8 := hcl 8 _ rfl
   rw [Nat.add_zero] at a0
   have HR2 : Hid (rightE l[j] = 0 → ∀ e ∈ l.take (j + 1), rightE e = 0) := fun h0 e he => by
    rw [List.take_succ_eq_append_getElem hjl] at he
    rcases List.mem_append.1 he with h | h
    ·exact Hr.out e h
    ·simp at h; subst h; exact h0
   have HR3 : Hid (∀ W, rightE l[j] ≠ 0 → Keeps [] w W → AcPost s p Y x d b n t l w (.returned (.bool false)) W) := fun W h0 hk => hF.out W (fun h => h0 (h.2.2.2 _ hmem)) hk
   clear hcl hDl c0 c1 c2 c3 hmem
   generalize l[j] = ee at *
   generalize rightE ee = rr at *
   obtain ⟨kind', ag', sh', seq', ep', ds', ser', fr', etg'⟩ := ee
   simp only [eCell] at hre
   simp only [] at a0 a1 a2 a3 a4 a5 a6 a7 a8
   have Hre := Lib.hid (hre.out (wr.alloc (.cells #[.int .i64 kind', .int .i64 ag', .int .i64 sh', .int .i64 seq', .int .i64 ep', .slice Dl ds'.length nl, .string ser', .int .i64 fr', .int .i64 etg'] 26)) ((Keeps.refl _ _).alloc _))
   have Hka := Lib.hid (Hk.out.alloc (.cells #[.int .i64 kind', .int .i64 ag', .int .i64 sh', .int .i64 seq', .int .i64 ep', .slice Dl ds'.length nl, .string ser', .int .i64 fr', .int .i64 etg'] 26))
   clear hre
   go_wp2_with fail
   refine Hre.out.mono ?_
   rintro e w4 ⟨rfl, hb4⟩
   have Hk4 := Lib.hid (Hka.out.trans (Keeps.of_below (M := []) hb4) (by simp))
   clear hb4 Hre Hka a0 a1 a2 a3 a4 a5 a6 a7 a8
   by_cases hrr : rr = 0
   ·have HR4 := Lib.hid (HR2.out hrr)
    have hrn : ((rr : Int) != 0) = false := by simp [hrr]
    clear HR2 hrr
    go_wp2
    go_roundw
    case rel => exact ⟨j + 1, by go_num, by omega, HR4, Hk4⟩
    case measure => simp [intOf] <;> omega
   ·have hp := Lib.hid (HR3.out w4 hrr Hk4.out)
    have hrn : ((rr : Int) != 0) = true := by simpa using hrr
    clear HR2 HR3 hrr
    go_wp2
    go_ret
    exact hp.out
  ·obtain rfl : j = l.length := by omega
   have hA : AcOk x t l := ⟨by omega, by omega, by omega, fun e he => Hr.out e (by rw [List.take_length]; exact he)⟩
   have hX := Hk.out.blk HB.out (by simp)
   obtain ⟨x0, x1, x2, x3, hxl⟩ := blk4 hX
   have hkp : Hid (∀ W y lv, Keeps [] w W → Ens W (s :: p :: Y) lv y.log → WOk y → Calls Tryz.prog 82 #[.pointer (some ⟨s, 0, none⟩), .agg #[.int .i64 y.t, .int .i64 y.h, lv]] W fun e w' => KpPost s p Y y d b n w e w') := fun W y lv hk hE hy =>
    (vkeep_any s p Y x y d k n b W (H.out.keep0 hk) lv hE hy m (hkeepm.out W hk)).mono fun e W' hq => hq.drew hk
   have hcop : Hid (∀ W, Keeps [] wr W → Calls Tryz.prog 81 #[.slice Al l.length cl] W fun r w' => ∃ A, r = .returned (.slice A l.length l.length) ∧ (∀ M', (∀ g ∈ M', g < W.heap.size) → Ens w' M' (.slice A l.length l.length) l) ∧ Below W.heap.size W w') := fun W hk =>
    copies_any [] _ l W ((HL.out.keep Hk.out (by simp)).keep hk (by simp)) (by omega) (fun e he => by have := eok_ds8 ⟨hA.2.2.2 e he, HS.out e he⟩; omega)
   have hEl := Lib.hid ((HE.out.keep Hk.out (by simp)))
   have HP : Hid (∀ e W, (accLong x t l → KpPost s p Y ⟨t, t, l⟩ d b n w e W) → (¬ accLong x t l → ¬ (t : Int) = x.t → KpPost s p Y ⟨t, x.h, x.log⟩ d b n w e W) → (¬ accLong x t l → (t : Int) = x.t → e = .returned (.bool true) ∧ Keeps [] w W) → AcPost s p Y x d b n t l w e W) := fun e W h1 h2 h3 => by
    unfold AcPost
    rw [if_pos hA]
    by_cases hlo : accLong x t l
    ·rw [if_neg (by simp [hlo])]
     unfold accW
     rw [Int.toNat_natCast, if_pos hlo]
     exact h1 hlo
    ·by_cases hte : (t : Int) = x.t
     ·rw [if_pos (by rw [Int.toNat_natCast]; exact ⟨hlo, hte⟩)]
      exact h3 hlo hte
     ·rw [if_neg (by intro h; exact hte h.2)]
      unfold accW
      rw [Int.toNat_natCast, if_neg hlo]
      exact h2 hlo hte
   have hyl : WOk ⟨t, t, l⟩ := ⟨by simp only []; omega, by simp only []; omega, by simp only []; omega, fun e he => ⟨hA.2.2.2 e he, HS.out e he⟩⟩
   have hyx : WOk ⟨t, x.h, x.log⟩ := ⟨by simp only []; omega, hok.2⟩
   have Hyl := Lib.hid hyl; have Hyx := Lib.hid hyx
   clear hX hyl hyx hA c0 c1 c2 c3
   go_wp2_with fail
   go_region
   all_goals
    obtain ⟨w5, hw5⟩ : ∃ w5, w5 = (wr.alloc (.cells #[.int .i64 t, .int .i64 x.h, .slice A x.log.length c] 118)).drew := ⟨_, rfl⟩
    have hk5 : Keeps [] wr w5 := by rw [hw5]; exact ((Keeps.refl _ _).alloc _).drew
    have hB5 : Blk w5 wr.heap.size 118 #[.int .i64 t, .int .i64 x.h, .slice A x.log.length c] := by rw [hw5]; exact Blk.new wr _ _
    rw [← hw5]
    clear hw5
    have y0 : w5.cell? ⟨s, 0, none⟩ = some (.int .i64 x.t) := (hk5.cell (p := ⟨s, 0, none⟩) hxl (by simp)).trans x0
    have y1 : w5.cell? ⟨s, 1, none⟩ = some (.int .i64 x.h) := (hk5.cell (p := ⟨s, 1, none⟩) hxl (by simp)).trans x1
    have y2 : w5.cell? ⟨s, 2, none⟩ = some (.slice A x.log.length c) := (hk5.cell (p := ⟨s, 2, none⟩) hxl (by simp)).trans x2
    have hs5 : s < w5.heap.size := Nat.lt_of_lt_of_le hxl hk5.size
    obtain ⟨g9, Hg9⟩ : ∃ g9, Hid (wr.heap.size = g9) := ⟨_, rfl⟩
    have hg9 : s < g9 ∧ w.heap.size ≤ g9 := by have := Hk.out.size; have := Hg9.out; omega
    obtain ⟨hg91, hg92⟩ := hg9
    rw [Hg9.out] at hB5 ⊢
    have Hk5 := Lib.hid hk5; have HB5 := Lib.hid hB5
    have Hk5w := Lib.hid (Hk.out.trans hk5 (by simp))
    clear hk5 hB5 x0 x1 x2 x3
    by_cases h4 : x.h < t
    ·have hd4 : decide ((x.h : Int) < (t : Int)) = true := decide_eq_true (by omega)
     have hn4 : decide (x.h < t) = true := decide_eq_true h4
     have hlo : accLong x t l := Or.inl h4
     have Hlo := Lib.hid hlo
     clear hlo h4
     go_wp2_with fail
     refine (hcop.out w5 Hk5.out).mono ?_
     rintro e w6 ⟨A6, rfl, hE6, hb6⟩
     have hk6 : Keeps [] w5 w6 := Keeps.of_below (M := []) hb6
     have hB6 := hk6.blk HB5.out (by simp)
     have f1 := hB6.frozen 1; have f2 := hB6.frozen 2
     have r0 := hB6.cell 0; have r1 := hB6.cell 1; have r2 := hB6.cell 2
     simp only [List.getElem?_toArray, List.getElem?_cons_succ, List.getElem?_cons_zero] at r0 r1 r2
     obtain ⟨w7, hw7⟩ : ∃ w7, w7 = (w6.setCell ⟨g9, 1, none⟩ (.int .i64 t)).setCell ⟨g9, 2, none⟩ (.slice A6 l.length l.length) := ⟨_, rfl⟩
     have hk7 : Keeps [g9] w6 w7 := by rw [hw7]; exact ((Keeps.refl _ _).setCell (by simp) _).setCell (by simp) _
     have hB : Blk w7 g9 118 #[.int .i64 t, .int .i64 t, .slice A6 l.length l.length] := by
      rw [hw7]; simpa using (hB6.set_ 1 (.int .i64 t)).set_ 2 (.slice A6 l.length l.length)
     have hE7 : Ens w7 (s :: p :: Y) (.slice A6 l.length l.length) l := ((hE6 (g9 :: s :: p :: Y) (fun g hg => by
      rcases List.mem_cons.1 hg with rfl | hg
      ·exact HB5.out.lt
      ·exact Nat.lt_of_lt_of_le (H.out.old g hg) (Hk5w.out.size))).keep hk7 (fun g hg => .inl (by simp at hg; simp [hg]))).avoid (fun g hg => .inl (by simp at hg ⊢; exact .inr hg))
     have hK7 : Keeps [] w w7 := ((Hk5w.out.trans hk6 (by simp)).trans hk7 (fun g hg => .inr (by simp at hg; omega)) : Keeps [] w w7)
     have HK7 := Lib.hid hK7; have HE7 := Lib.hid hE7
     have u0 : w7.cell? ⟨s, 0, none⟩ = some (.int .i64 x.t) := (((hk6.mono (M' := [g9]) (by simp)).trans hk7 (fun g hg => .inl hg)).cell (p := ⟨s, 0, none⟩) hs5 (by simp; omega)).trans y0
     clear hE6 hb6 hk6 hB6 hk7 hK7 hE7
     go_upto_region 13 with (fail)
     rw [← hw7]
     clear hw7 r0 r1 r2 f1 f2
     have q0 := hB.cell 0; have q1 := hB.cell 1; have q2 := hB.cell 2
     simp only [List.getElem?_toArray, List.getElem?_cons_succ, List.getElem?_cons_zero] at q0 q1 q2
     clear hB
     go_wp2_with fail
     refine (hkp.out _ ⟨t, t, l⟩ _ HK7.out HE7.out Hyl.out).mono ?_
     intro e w8 hq
     obtain ⟨v, rfl⟩ : ∃ v, e = .returned (.bool v) := ⟨_, hq.val⟩
     have hp := Lib.hid (HP.out _ _ (fun _ => hq) (fun h => absurd Hlo.out h) (fun h => absurd Hlo.out h))
     clear hq
     go_wp2_with fail
     go_ret
     exact hp.out
    ·have hd4 : decide ((x.h : Int) < (t : Int)) = false := decide_eq_false (by omega)
     have hn4 : decide (x.h < t) = false := decide_eq_false h4
     by_cases h5 : x.log.length < l.length
     ·have hd5 : decide ((x.log.length : Int) < (l.length : Int)) = true := decide_eq_true (by omega)
      have hn5 : decide (x.log.length < l.length) = true := decide_eq_true h5
      have hlo : accLong x t l := Or.inr h5
      have Hlo := Lib.hid hlo
      clear hlo h5
      go_wp2_with fail
      refine (hcop.out w5 Hk5.out).mono ?_
      rintro e w6 ⟨A6, rfl, hE6, hb6⟩
      have hk6 : Keeps [] w5 w6 := Keeps.of_below (M := []) hb6
      have hB6 := hk6.blk HB5.out (by simp)
      have f1 := hB6.frozen 1; have f2 := hB6.frozen 2
      have r0 := hB6.cell 0; have r1 := hB6.cell 1; have r2 := hB6.cell 2
      simp only [List.getElem?_toArray, List.getElem?_cons_succ, List.getElem?_cons_zero] at r0 r1 r2
      obtain ⟨w7, hw7⟩ : ∃ w7, w7 = (w6.setCell ⟨g9, 1, none⟩ (.int .i64 t)).setCell ⟨g9, 2, none⟩ (.slice A6 l.length l.length) := ⟨_, rfl⟩
      have hk7 : Keeps [g9] w6 w7 := by rw [hw7]; exact ((Keeps.refl _ _).setCell (by simp) _).setCell (by simp) _
      have hB : Blk w7 g9 118 #[.int .i64 t, .int .i64 t, .slice A6 l.length l.length] := by
       rw [hw7]; simpa using (hB6.set_ 1 (.int .i64 t)).set_ 2 (.slice A6 l.length l.length)
      have hE7 : Ens w7 (s :: p :: Y) (.slice A6 l.length l.length) l := ((hE6 (g9 :: s :: p :: Y) (fun g hg => by
       rcases List.mem_cons.1 hg with rfl | hg
       ·exact HB5.out.lt
       ·exact Nat.lt_of_lt_of_le (H.out.old g hg) (Hk5w.out.size))).keep hk7 (fun g hg => .inl (by simp at hg; simp [hg]))).avoid (fun g hg => .inl (by simp at hg ⊢; exact .inr hg))
      have hK7 : Keeps [] w w7 := ((Hk5w.out.trans hk6 (by simp)).trans hk7 (fun g hg => .inr (by simp at hg; omega)) : Keeps [] w w7)
      have HK7 := Lib.hid hK7; have HE7 := Lib.hid hE7
      have u0 : w7.cell? ⟨s, 0, none⟩ = some (.int .i64 x.t) := (((hk6.mono (M' := [g9]) (by simp)).trans hk7 (fun g hg => .inl hg)).cell (p := ⟨s, 0, none⟩) hs5 (by simp; omega)).trans y0
      clear hE6 hb6 hk6 hB6 hk7 hK7 hE7
      go_upto_region 13 with (fail)
      rw [← hw7]
      clear hw7 r0 r1 r2 f1 f2
      have q0 := hB.cell 0; have q1 := hB.cell 1; have q2 := hB.cell 2
      simp only [List.getElem?_toArray, List.getElem?_cons_succ, List.getElem?_cons_zero] at q0 q1 q2
      clear hB
      go_wp2_with fail
      refine (hkp.out _ ⟨t, t, l⟩ _ HK7.out HE7.out Hyl.out).mono ?_
      intro e w8 hq
      obtain ⟨v, rfl⟩ : ∃ v, e = .returned (.bool v) := ⟨_, hq.val⟩
      have hp := Lib.hid (HP.out _ _ (fun _ => hq) (fun h => absurd Hlo.out h) (fun h => absurd Hlo.out h))
      clear hq
      go_wp2_with fail
      go_ret
      exact hp.out
     ·have hd5 : decide ((x.log.length : Int) < (l.length : Int)) = false := decide_eq_false (by omega)
      have hn5 : decide (x.log.length < l.length) = false := decide_eq_false h5
      have hno : ¬ accLong x t l := fun h => by rcases h with h | h <;> omega
      have Hno := Lib.hid hno
      have hs6 : Hid (Ens w5 (s :: p :: Y) (.slice A x.log.length c) x.log) := hEl.out.keep Hk5.out (by simp)
      clear hno h5
      by_cases h6 : (t : Int) = x.t
      ·have hp : Hid (AcPost s p Y x d b n t l w (.returned (.bool true)) w5) := HP.out _ _ (fun h => absurd h Hno.out) (fun _ h => absurd h6 h) (fun _ _ => ⟨rfl, Hk5w.out⟩)
       obtain rfl : t = x.t := by omega
       clear h6
       go_wp2_with fail
       go_ret
       exact hp.out
      ·have hd6 : ((t : Int) == (x.t : Int)) = false := by simpa using h6
       have H6 := Lib.hid h6
       clear h6
       have hB := HB5.out
       have q0 := hB.cell 0; have q1 := hB.cell 1; have q2 := hB.cell 2
       simp only [List.getElem?_toArray, List.getElem?_cons_succ, List.getElem?_cons_zero] at q0 q1 q2
       clear hB
       go_wp2_with fail
       refine (hkp.out _ ⟨t, x.h, x.log⟩ _ Hk5w.out hs6.out Hyx.out).mono ?_
       intro e w8 hq
       obtain ⟨v, rfl⟩ : ∃ v, e = .returned (.bool v) := ⟨_, hq.val⟩
       have hp := Lib.hid (HP.out _ _ (fun h => absurd h Hno.out) (fun _ _ => hq) (fun _ h => absurd h H6.out))
       clear hq
       go_wp2_with fail
       go_ret
       exact hp.out
theorem RkPost.drew {M : List Nat} {s d k : Nat} {x y : WordD} {b : List UInt8} {w w0 w' : World} {e : Ending} (h : RkPost M s d x y b k w0 e w') (hk : Keeps [] w w0) : RkPost M s d x y b k w e w' := by
 unfold RkPost at h ⊢
 split at h
 ·rename_i hc
  rw [if_pos hc]
  exact ⟨h.1, h.2.1, (hk.mono (M' := [s, d]) (by simp)).trans h.2.2 (fun g hg => .inl hg)⟩
 ·rename_i hc
  rw [if_neg hc]
  exact ⟨h.1, h.2.1, hk.trans h.2.2 (by simp)⟩
theorem RkPost.val {M : List Nat} {s d k : Nat} {x y : WordD} {b : List UInt8} {w w' : World} {e : Ending} (h : RkPost M s d x y b k w e w') : e = .returned (.bool (decide (KpOk y b))) := by
 unfold RkPost at h
 split at h
 ·rename_i hc; rw [decide_eq_true hc]; exact h.1
 ·rename_i hc; rw [decide_eq_false hc]; exact h.1
def RpPost (M : List Nat) (s d : Nat) (x : WordD) (b : List UInt8) (k : Nat) (term : Int) (w : World) (e : Ending) (w' : World) : Prop :=
 if (x.t : Int) < term then RkPost M s d x ⟨term.toNat, x.h, x.log⟩ b k w e w' else e = .returned (.bool false) ∧ RSt w' M s d x b k ∧ Keeps [] w w'
set_option maxRecDepth 100000 in
theorem rpromise_any (M : List Nat) (s d k : Nat) (x : WordD) (b : List UInt8) (w : World) (h : RSt w M s d x b k) (term : Int) (ht : term ≤ 9223372036854775807) :
  Calls Tryz.prog 90 #[.pointer (some ⟨s, 0, none⟩), .int .i64 term] w fun e w' => RpPost M s d x b k term w e w' := by
 have H := Lib.hid h
 obtain ⟨lv, hb, he, _, _, hok⟩ := h
 obtain ⟨A, c, rfl, _⟩ := he.len
 obtain ⟨c0, c1, c2, c3, hlt⟩ := blk4 hb
 by_cases hc : (x.t : Int) < term
 ·have HP : Hid (∀ e W, RkPost M s d x ⟨term.toNat, x.h, x.log⟩ b k w e W → RpPost M s d x b k term w e W) := fun e W h => by unfold RpPost; rw [if_pos hc]; exact h
  obtain ⟨t, rfl⟩ : ∃ t : Nat, term = t := ⟨term.toNat, by omega⟩
  have hkp : Hid (∀ W, Keeps [] w W → Calls Tryz.prog 146 #[.pointer (some ⟨s, 0, none⟩), .int .i64 t, .int .i64 x.h, .slice A x.log.length c] W fun e w' => RpPost M s d x b k t w e w') := fun W hk => by
   refine (rkeep_any M s d k x ⟨t, x.h, x.log⟩ b W (H.out.keep0 hk) _ (he.keep hk (by simp)) ⟨by simp only []; omega, hok.2⟩).mono ?_
   intro e W' hq
   exact HP.out e W' (by simpa using hq.drew hk)
  have hv : Hid (∀ e W, RpPost M s d x b k t w e W → ∃ v, e = .returned (.bool v)) := fun e W h => by
   unfold RpPost at h
   rw [if_pos hc] at h
   exact ⟨_, h.val⟩
  clear hb he
  have hd : decide ((x.t : Int) < (t : Int)) = true := decide_eq_true hc
  go_enter Tryz.func90, Tryz.ntmps90
  go_wp2_with fail
  go_still_tail 17, (by kernel_rfl)
  change wpList _ _ _ _ _ w.drew
  go_wp2_with fail
  refine (hkp.out _ ((Keeps.refl _ _).drew)).mono ?_
  intro e w1 hq
  obtain ⟨v, rfl⟩ := hv.out _ _ hq
  have Hq := Lib.hid hq
  clear hq
  go_wp2_with fail
  go_ret
  exact Hq.out
 ·have HP : Hid (∀ q, RpPost M s d x b k term w (.returned (.bool false)) (w.drewN q)) := fun q => by
   unfold RpPost; rw [if_neg hc]; exact ⟨rfl, H.out.keep0 ((Keeps.refl _ _).drewN q), (Keeps.refl _ _).drewN q⟩
  have hd : decide ((x.t : Int) < term) = false := decide_eq_false hc
  clear hb he
  go_enter Tryz.func90, Tryz.ntmps90
  go_wp2_with fail
  go_quiet (fail)
  go_wp2
  go_ret
  exact HP.out nq
def RcPost (M : List Nat) (s d : Nat) (x : WordD) (b : List UInt8) (k : Nat) (term : Int) (l : List EntryD) (w : World) (e : Ending) (w' : World) : Prop :=
 if AcOk x term l then
  if ¬ accLong x term.toNat l ∧ term = x.t then e = .returned (.bool true) ∧ RSt w' M s d x b k ∧ Keeps [] w w'
  else RkPost M s d x (accW x term.toNat l) b k w e w'
 else e = .returned (.bool false) ∧ RSt w' M s d x b k ∧ Keeps [] w w'
set_option maxRecDepth 100000 in
set_option maxHeartbeats 2000000 in
theorem raccept_any (M : List Nat) (s d k : Nat) (x : WordD) (b : List UInt8) (w : World) (h : RSt w M s d x b k) (term : Int) (ht : term ≤ 9223372036854775807) (lv : Value) (l : List EntryD) (hl : Ens w (s :: d :: M) lv l) (hs : ∀ e ∈ l, Short e ∧ Wf e) :
  Calls Tryz.prog 88 #[.pointer (some ⟨s, 0, none⟩), .int .i64 term, lv] w fun e w' => RcPost M s d x b k term l w e w' := by
 have H := Lib.hid h; have HL := Lib.hid hl; have HS := Lib.hid hs
 obtain ⟨lx, hb, he, _, _, hok⟩ := h
 obtain ⟨A, c, rfl, _⟩ := he.len
 obtain ⟨c0, c1, c2, c3, hlt⟩ := blk4 hb
 have HE := Lib.hid he; have HB := Lib.hid hb; have Hok := Lib.hid hok
 obtain ⟨Al, cl, rfl, hcl⟩ := hl.len
 have hF : Hid (∀ W, ¬ AcOk x term l → Keeps [] w W → RcPost M s d x b k term l w (.returned (.bool false)) W) := fun W h hk => by unfold RcPost; rw [if_neg h]; exact ⟨rfl, H.out.keep0 hk, hk⟩
 by_cases h1 : term < (x.t : Int)
 ·have hp := hF.out w (fun h => by have := h.1; omega) (Keeps.refl _ _)
  have Hp := Lib.hid hp
  have hd : decide (term < (x.t : Int)) = true := decide_eq_true h1
  clear hb he hl hs hp hF hok
  go_enter Tryz.func88, Tryz.ntmps88
  go_wp2_with fail
  go_ret
  exact Hp.out
 have hd1 : decide (term < (x.t : Int)) = false := decide_eq_false h1
 by_cases h2 : term < 1
 ·have hp := hF.out w (fun h => by have := h.2.1; omega) (Keeps.refl _ _)
  have Hp := Lib.hid hp
  have hd : decide (term < 1) = true := decide_eq_true h2
  clear hb he hl hs hp hF hok
  go_enter Tryz.func88, Tryz.ntmps88
  go_wp2_with fail
  go_ret
  exact Hp.out
 have hd2 : decide (term < 1) = false := decide_eq_false h2
 by_cases h3 : 128 < l.length
 ·have hp := hF.out w (fun h => by have := h.2.2.1; omega) (Keeps.refl _ _)
  have Hp := Lib.hid hp
  have hd : decide ((128 : Int) < (l.length : Int)) = true := decide_eq_true (by omega)
  clear hb he hl hs hp hF hok
  go_enter Tryz.func88, Tryz.ntmps88
  go_wp2_with fail
  go_ret
  exact Hp.out
 have hd3 : decide ((128 : Int) < (l.length : Int)) = false := decide_eq_false (by omega)
 clear hb he hl hs hok
 obtain ⟨t, rfl⟩ : ∃ t : Nat, term = t := ⟨term.toNat, by omega⟩
 go_enter Tryz.func88, Tryz.ntmps88
 go_wp2_with fail
 go_loopw [26] (fun i wr => ∃ j : Nat, i = .int .i64 j ∧ j ≤ l.length ∧ Hid (∀ e ∈ l.take j, rightE e = 0) ∧ Hid (Keeps [] w wr)) (fun i _ => l.length - (intOf i).toNat)
 case atStart => exact ⟨0, rfl, by omega, (show ∀ e ∈ l.take 0, rightE e = 0 from by simp), Keeps.refl _ _⟩
 case round =>
  obtain ⟨j, rfl, hj, Hr, Hk⟩ := hrel
  by_cases hjl : j < l.length
  ·have hji : (j : Int) < (l.length : Int) := by omega
   obtain ⟨gl, ol, _, dl, e1, _, _, hDl, hcl⟩ := ens_at (HL.out.keep Hk.out (by simp)) hjl
   injection e1 with e1 _ e9
   subst e1
   clear e9
   have hmem := List.getElem_mem hjl
   have hre := Lib.hid (fun W (hk : Keeps [] wr W) => rrightE_any l[j] dl W ((hDl.avoid (M' := []) (by simp)).keep hk (by simp)) (HS.out _ hmem).1)
   obtain ⟨Dl, nl, rfl, _⟩ := hDl.len
   have a0 := hcl 0 _ rfl; have a1 := hcl 1 _ rfl; have a2 := hcl 2 _ rfl; have a3 := hcl 3 _ rfl; have a4 := hcl 4 _ rfl; have a5 := hcl 5 _ rfl; have a6 := hcl 6 _ rfl; have a7 := hcl 7 _ rfl; have a8 := hcl 8 _ rfl
   rw [Nat.add_zero] at a0
   have HR2 : Hid (rightE l[j] = 0 → ∀ e ∈ l.take (j + 1), rightE e = 0) := fun h0 e he => by
    rw [List.take_succ_eq_append_getElem hjl] at he
    rcases List.mem_append.1 he with h | h
    ·exact Hr.out e h
    ·simp at h; subst h; exact h0
   have HR3 : Hid (∀ W, rightE l[j] ≠ 0 → Keeps [] w W → RcPost M s d x b k t l w (.returned (.bool false)) W) := fun W h0 hk => hF.out W (fun h => h0 (h.2.2.2 _ hmem)) hk
   clear hcl hDl c0 c1 c2 c3 hmem
   generalize l[j] = ee at *
   generalize rightE ee = rr at *
   obtain ⟨kind', ag', sh', seq', ep', ds', ser', fr', etg'⟩ := ee
   simp only [eCell] at hre
   simp only [] at a0 a1 a2 a3 a4 a5 a6 a7 a8
   have Hre := Lib.hid (hre.out (wr.alloc (.cells #[.int .i64 kind', .int .i64 ag', .int .i64 sh', .int .i64 seq', .int .i64 ep', .slice Dl ds'.length nl, .string ser', .int .i64 fr', .int .i64 etg'] 26)) ((Keeps.refl _ _).alloc _))
   have Hka := Lib.hid (Hk.out.alloc (.cells #[.int .i64 kind', .int .i64 ag', .int .i64 sh', .int .i64 seq', .int .i64 ep', .slice Dl ds'.length nl, .string ser', .int .i64 fr', .int .i64 etg'] 26))
   clear hre
   go_wp2_with fail
   refine Hre.out.mono ?_
   rintro e w4 ⟨rfl, hb4⟩
   have Hk4 := Lib.hid (Hka.out.trans (Keeps.of_below (M := []) hb4) (by simp))
   clear hb4 Hre Hka a0 a1 a2 a3 a4 a5 a6 a7 a8
   by_cases hrr : rr = 0
   ·have HR4 := Lib.hid (HR2.out hrr)
    have hrn : ((rr : Int) != 0) = false := by simp [hrr]
    clear HR2 hrr
    go_wp2
    go_roundw
    case rel => exact ⟨j + 1, by go_num, by omega, HR4, Hk4⟩
    case measure => simp [intOf] <;> omega
   ·have hp := Lib.hid (HR3.out w4 hrr Hk4.out)
    have hrn : ((rr : Int) != 0) = true := by simpa using hrr
    clear HR2 HR3 hrr
    go_wp2
    go_ret
    exact hp.out
  ·obtain rfl : j = l.length := by omega
   have hA : AcOk x t l := ⟨by omega, by omega, by omega, fun e he => Hr.out e (by rw [List.take_length]; exact he)⟩
   have hX := Hk.out.blk HB.out (by simp)
   obtain ⟨x0, x1, x2, x3, hxl⟩ := blk4 hX
   have hkp : Hid (∀ W (y : WordD) lv, Keeps [] w W → Ens W (s :: d :: M) lv y.log → WOk y → Calls Tryz.prog 146 #[.pointer (some ⟨s, 0, none⟩), .int .i64 y.t, .int .i64 y.h, lv] W fun e w' => RkPost M s d x y b k w e w') := fun W y lv hk hE hy =>
    (rkeep_any M s d k x y b W (H.out.keep0 hk) lv hE hy).mono fun e W' hq => hq.drew hk
   have hEl := Lib.hid (HE.out.keep Hk.out (by simp))
   have hLl := Lib.hid (HL.out.keep Hk.out (by simp))
   have HP : Hid (∀ e W, (accLong x t l → RkPost M s d x ⟨t, t, l⟩ b k w e W) → (¬ accLong x t l → (t : Int) ≠ x.t → RkPost M s d x ⟨t, x.h, x.log⟩ b k w e W) → (¬ accLong x t l → (t : Int) = x.t → e = .returned (.bool true) ∧ RSt W M s d x b k ∧ Keeps [] w W) → RcPost M s d x b k t l w e W) := fun e W h1 h2 h3 => by
    unfold RcPost
    rw [if_pos hA, Int.toNat_natCast]
    by_cases hl : accLong x t l
    ·rw [if_neg (fun h => h.1 hl)]
     unfold accW
     rw [if_pos hl]
     exact h1 hl
    ·by_cases ht : (t : Int) = x.t
     ·rw [if_pos ⟨hl, ht⟩]; exact h3 hl ht
     ·rw [if_neg (fun h => ht h.2)]
      unfold accW
      rw [if_neg hl]
      exact h2 hl ht
   have Hyl : Hid (WOk ⟨t, t, l⟩) := ⟨by simp only []; omega, by simp only []; omega, hA.2.2.1, fun e he => ⟨hA.2.2.2 e he, (HS.out e he).1, (HS.out e he).2⟩⟩
   have Hyx : Hid (WOk ⟨t, x.h, x.log⟩) := ⟨by simp only []; omega, Hok.out.2⟩
   clear hX hA c0 c1 c2 c3 hF
   by_cases h4 : x.h < t
   ·have hd4 : decide ((x.h : Int) < (t : Int)) = true := decide_eq_true (by omega)
    have Hlo : Hid (accLong x t l) := Or.inl h4
    go_wp2_with fail
    refine (hkp.out _ ⟨t, t, l⟩ _ Hk.out hLl.out Hyl.out).mono ?_
    intro e w8 hq
    obtain ⟨v, rfl⟩ : ∃ v, e = .returned (.bool v) := ⟨_, hq.val⟩
    have hp := Lib.hid (HP.out _ _ (fun _ => hq) (fun h => absurd Hlo.out h) (fun h => absurd Hlo.out h))
    clear hq
    go_wp2_with fail
    go_ret
    exact hp.out
   ·have hd4 : decide ((x.h : Int) < (t : Int)) = false := decide_eq_false (by omega)
    by_cases h5 : x.log.length < l.length
    ·have hd5 : decide ((x.log.length : Int) < (l.length : Int)) = true := decide_eq_true (by omega)
     have Hlo : Hid (accLong x t l) := Or.inr h5
     go_wp2_with fail
     refine (hkp.out _ ⟨t, t, l⟩ _ Hk.out hLl.out Hyl.out).mono ?_
     intro e w8 hq
     obtain ⟨v, rfl⟩ : ∃ v, e = .returned (.bool v) := ⟨_, hq.val⟩
     have hp := Lib.hid (HP.out _ _ (fun _ => hq) (fun h => absurd Hlo.out h) (fun h => absurd Hlo.out h))
     clear hq
     go_wp2_with fail
     go_ret
     exact hp.out
    ·have hd5 : decide ((x.log.length : Int) < (l.length : Int)) = false := decide_eq_false (by omega)
     have Hno : Hid (¬ accLong x t l) := fun h => by rcases h with h | h <;> omega
     by_cases h6 : (t : Int) = x.t
     ·have hp : Hid (∀ q, RcPost M s d x b k t l w (.returned (.bool true)) (wr.drewN q)) := fun q => HP.out _ _ (fun h => absurd h Hno.out) (fun _ h => absurd h6 h) (fun _ _ => ⟨rfl, H.out.keep0 (Hk.out.drewN q), Hk.out.drewN q⟩)
      obtain rfl : t = x.t := by omega
      clear h6
      go_wp2_with fail
      go_quiet (fail)
      go_wp2
      go_ret
      exact hp.out nq
     ·have hd6 : ((t : Int) == (x.t : Int)) = false := by simpa using h6
      have H6 := Lib.hid h6
      clear h6
      go_wp2_with fail
      go_still_tail 17, (by kernel_rfl)
      change wpList _ _ _ _ _ wr.drew
      go_wp2_with fail
      refine (hkp.out _ ⟨t, x.h, x.log⟩ _ Hk.out.drew (hEl.out.keep (M' := []) ((Keeps.refl _ _).drew) (by simp)) Hyx.out).mono ?_
      intro e w8 hq
      obtain ⟨v, rfl⟩ : ∃ v, e = .returned (.bool v) := ⟨_, hq.val⟩
      have hp := Lib.hid (HP.out _ _ (fun h => absurd h Hno.out) (fun _ _ => hq) (fun _ h => absurd h H6.out))
      clear hq
      go_wp2_with fail
      go_ret
      exact hp.out
end Go.Proofs.YtinnifhnabncfaaGreatDoor.Vi
end
