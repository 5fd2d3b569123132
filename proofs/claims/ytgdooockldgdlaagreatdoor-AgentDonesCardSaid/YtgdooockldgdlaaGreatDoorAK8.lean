/- Texts put together: Wal1, BkB, BkC, Lab7, OnA, AgA, Wal2, AgB, AgC, AgD, AgE. -/
import Derived.WideKeyEntry
import Derived.Test.YtgdooockldgdlaaGreatDoorAK3
import Derived.Test.YtgdooockldgdlaaGreatDoorAK4
import Derived.Test.YtgdooockldgdlaaGreatDoorAK6
import Derived.Test.YtgdooockldgdlaaGreatDoorAK7
set_option linter.unusedVariables false
set_option linter.unusedSimpArgs false
section
namespace Go.Proofs.YtgdooockldgdlaaGreatDoor.Vi
open Go.RowKit Base Mem
/-- A log lies in block p, its disk in d. -/
def LgAt (w : World) (p : Nat) (Y : List Nat) (d : Nat) (b : List UInt8) (k n : Nat) : Prop :=
 Blk w p 184 #[.pointer (some ⟨d, 0, none⟩), .int .i64 n] ∧ DkAt w Y d b k ∧ p ∉ Y ∧ n ≤ b.length
theorem LgAt.keep {w w' : World} {M Y : List Nat} {p d k n : Nat} {b : List UInt8} (h : LgAt w p Y d b k n) (hk : Keeps M w w') (hM : ∀ g ∈ p :: Y, g ∉ M) : LgAt w' p Y d b k n :=
 ⟨hk.blk h.1 (hM p (by simp)), h.2.1.keep hk (fun g hg => hM g (by simp [hg])), h.2.2⟩
theorem LgAt.keep0 {w w' : World} {Y : List Nat} {p d k n : Nat} {b : List UInt8} (h : LgAt w p Y d b k n) (hk : Keeps [] w w') : LgAt w' p Y d b k n := h.keep hk (by simp)
theorem DkAt.inX {w : World} {X : List Nat} {d k : Nat} {b : List UInt8} (h : DkAt w X d b k) : d ∈ X := by obtain ⟨_, _, _, h, _⟩ := h; exact h
theorem DkAt.old {w : World} {X : List Nat} {d k : Nat} {b : List UInt8} (h : DkAt w X d b k) : ∀ g ∈ X, g < w.heap.size := by obtain ⟨_, _, _, _, _, _, _, h⟩ := h; exact h
theorem Bss.avoid {w : World} {M M' : List Nat} {v : Value} {rs : List (List UInt8)} (h : Bss w M v rs) (hM : ∀ g ∈ M', g ∈ M ∨ w.heap.size ≤ g) : Bss w M' v rs := by
 obtain ⟨ps, hl, hr, hd⟩ := h
 exact ⟨ps, hl, hr.avoid hM, fun p hp => (hd p hp).avoid hM⟩
def WoPost (Y : List Nat) (d : Nat) (b : List UInt8) (w : World) (e : Ending) (w' : World) : Prop :=
 ∃ p v, e = .returned (.tuple #[.pointer (some ⟨p, 0, none⟩), v]) ∧ w.heap.size ≤ p ∧ LgAt w' p Y d (b.take (scanS b).2) (scanS b).2 (scanS b).1.length ∧ (∀ M, (∀ g ∈ M, g < w.heap.size) → Bss w' (p :: M) v (scanS b).1) ∧ Keeps Y w w'
set_option maxRecDepth 100000 in
theorem wopen_any (Y : List Nat) (d k : Nat) (b : List UInt8) (w : World) (h : DkAt w Y d b k) :
  Calls Tryz.prog 54 #[.pointer (some ⟨d, 0, none⟩)] w fun e w' => WoPost Y d b w e w' := by
 have hle := h.le
 have H := Lib.hid h
 have hall := Lib.hid (dkall_any w h)
 obtain ⟨hs1, _, hs3⟩ := scanS_bd b
 have hsc : Hid (∀ W v, Bs W [] v b → Calls Tryz.prog 100 #[v] W fun e w' => ScPost (scanS b) W e w') := fun W v hv => scan_any v b W hv (by omega)
 have HP : Hid (∀ e W, WoPost Y d b w e W = ∃ p v, e = .returned (.tuple #[.pointer (some ⟨p, 0, none⟩), v]) ∧ w.heap.size ≤ p ∧ LgAt W p Y d (b.take (scanS b).2) (scanS b).2 (scanS b).1.length ∧ (∀ M, (∀ g ∈ M, g < w.heap.size) → Bss W (p :: M) v (scanS b).1) ∧ Keeps Y w W) := fun _ _ => rfl
 have hdY := h.inX
 have hN : Hid ((scanS b).1.length ≤ (scanS b).2) := by
  have : ∀ (f : Nat) (l : List UInt8), (scanF f l).1.length ≤ (scanF f l).2 := by
   intro f
   induction f with
   | zero => intro l; simp [scanF]
   | succ f ih =>
    intro l
    rw [scanF]
    cases hr : readF l with
    | none => simp
    | some p =>
     obtain ⟨x, n⟩ := p
     have := readF_bd hr
     have := ih (l.drop n)
     simp only [List.length_cons]; omega
  exact this _ _
 clear h
 generalize scanS b = R at *
 obtain ⟨rs, n⟩ := R
 simp only [] at hs1 hs3 HP hN
 go_enter Tryz.func54, Tryz.ntmps54
 go_wp2_with fail
 refine hall.out.mono ?_
 rintro e w1 ⟨v1, rfl, hown, hb1⟩
 have HB1 : Hid (Bs w1 [] v1 b) := by
  have := Rd.of_own (M := []) hown (by simp)
  exact this
 have Hk1 := Lib.hid (Keeps.of_below (M := []) hb1)
 clear hown hb1 hall
 go_wp2_with fail
 refine (hsc.out _ _ HB1.out).mono ?_
 rintro e w2 ⟨v2, rfl, hbs, hb2⟩
 have Hk2 := Lib.hid (Hk1.out.trans (Keeps.of_below (M := []) hb2) (by simp))
 have Hbs := Lib.hid (fun (M : List Nat) (hM : ∀ g ∈ M, g < w.heap.size) => hbs M (fun g hg => Nat.lt_of_lt_of_le (hM g hg) Hk1.out.size))
 clear hbs hb2 Hk1 HB1 hsc
 simp only []
 go_wp2_with fail
 refine (dkcut_any w2 (H.out.keep0 Hk2.out) n hs1).mono ?_
 rintro e w3 ⟨rfl, hD, hk3⟩
 have Hk3 : Hid (Keeps Y w w3) := (Hk2.out.mono (M' := Y) (by simp)).trans hk3 (fun g hg => by simp at hg; subst hg; exact .inl hdY)
 have hdw := H.out.lt
 have HB3 := Lib.hid (fun (M : List Nat) (hM : ∀ g ∈ M, g < w.heap.size) => ((Hbs.out (d :: M) (fun g hg => by rcases List.mem_cons.1 hg with rfl | hg; exact hdw; exact hM g hg)).keep hk3 (fun g hg => .inl (by simp at hg; simp [hg]))).avoid (M' := M) (fun g hg => .inl (by simp [hg])))
 have HD := Lib.hid hD
 have hlen : (b.take n).length = n := by rw [List.length_take]; omega
 have hR : Hid (WoPost Y d b w (.returned (.tuple #[.pointer (some ⟨w3.heap.size, 0, none⟩), v2])) (w3.alloc (.cells #[.pointer (some ⟨d, 0, none⟩), .int .i64 rs.length] 184))) := by
  show WoPost _ _ _ _ _ _
  have hka : Keeps [] w3 (w3.alloc (.cells #[.pointer (some ⟨d, 0, none⟩), .int .i64 rs.length] 184)) := (Keeps.refl _ _).alloc _
  rw [HP.out]
  refine ⟨w3.heap.size, v2, rfl, Hk3.out.size, ⟨Blk.new w3 _ _, HD.out.keep0 hka, fun hm => by have := HD.out.old _ hm; omega, by rw [hlen]; exact hN.out⟩, fun M hM => ?_, Hk3.out.trans hka (by simp)⟩
  exact ((HB3.out M hM).avoid (M' := w3.heap.size :: M) (fun g hg => by rcases List.mem_cons.1 hg with rfl | hg; exact .inr (Nat.le_refl _); exact .inl hg)).keep hka (by simp)
 obtain ⟨A2, c2, rfl, _⟩ := (HB3.out [] (by simp)).len
 clear hD hk3
 go_wp2
 go_ret2
 exact hR.out
theorem wsync_any (p : Nat) (Y : List Nat) (d k n : Nat) (b : List UInt8) (w : World) (h : LgAt w p Y d b k n) :
  Calls Tryz.prog 71 #[.pointer (some ⟨p, 0, none⟩)] w fun e w' => e = .returned (.tuple #[]) ∧ LgAt w' p Y d b b.length n ∧ Keeps Y w w' := by
 have H := Lib.hid h
 have q0 := h.1.cell 0
 simp only [List.getElem?_toArray, List.getElem?_cons_zero] at q0
 have hs := Lib.hid (dksync_any w h.2.1)
 have hp := h.1.lt
 clear h
 go_enter Tryz.func71, Tryz.ntmps71
 go_wp2_with fail
 refine hs.out.mono ?_
 rintro e w1 ⟨rfl, hD, hk⟩
 have hR : Hid (LgAt w1 p Y d b b.length n ∧ Keeps Y w w1) := ⟨⟨hk.blk H.out.1 (by simp; rintro rfl; exact H.out.2.2.1 H.out.2.1.inX), hD, H.out.2.2⟩, hk.mono (fun g hg => by simp at hg; subst hg; exact .inl H.out.2.1.inX)⟩
 clear hD hk
 go_wp2
 go_end0
 exact ⟨rfl, hR.out⟩
end Go.Proofs.YtgdooockldgdlaaGreatDoor.Vi
end
section
namespace Go.Proofs.YtgdooockldgdlaaGreatDoor.Vi
open Go.RowKit Base Mem Go.Shelf
theorem addB_cuts (S : BkD) (k : Nat) (b : BatD) : (addB S k b).cuts.length ≤ S.cuts.length + 1 := by
 unfold addB
 split
 ·simp
 ·omega
theorem batchB_cuts (S : BkD) (l : List UInt8) (bad over : Bool) : (batchB S l bad over).cuts.length ≤ S.cuts.length + 1 := by
 unfold batchB
 simp only []
 split
 ·split <;> simp
 ·split
  ·exact addB_cuts _ _ _
  ·omega
theorem takeR_cuts (S : BkD) (k : Nat) (l : List UInt8) (bad : Bool) : (takeR S k l bad).cuts.length ≤ S.cuts.length + 1 := by
 unfold takeR
 split
 ·split <;> simp
 ·split
  ·split <;> simp
  ·split
   ·split <;> simp
   ·split
    ·exact batchB_cuts _ _ _ _
    ·split
     ·exact batchB_cuts _ _ _ _
     ·omega
theorem takesB_cuts (l : List (List UInt8)) : ∀ S : BkD, (takesB S l).cuts.length ≤ S.cuts.length + l.length := by
 induction l with
 | nil => intro S; simp [takesB]
 | cons b l ih =>
  intro S
  have h1 := ih (takeB S b)
  have h2 := takeR_cuts S (numS b false).1 (numS b false).2.1 (numS b false).2.2
  rw [← takeB_eq] at h2
  show (takesB (takeB S b) l).cuts.length ≤ _
  simp only [List.length_cons]
  omega
theorem takesB_snoc (S : BkD) (l : List (List UInt8)) (b : List UInt8) : takesB S (l ++ [b]) = takeB (takesB S l) b := by simp [takesB]
section
variable {w w' w0 W : World} {M M' : List Nat} {tg tg' : Nat → Nat} {s : Nat} {S S' : BkD} {vs vc : Value} {qb : Nat → Nat}
theorem btake_any (v : Value) (b : List UInt8) (m : Int) (hb : Bs w [] v b) (h : BkAt w M tg s S) (hM : ∀ g ∈ M, g < w.heap.size) (hl : b.length ≤ 65536) (hm : w.cell? ⟨0, 0, none⟩ = some (.int .i64 m)) (hc : S.cuts.length ≤ 100000000) :
  Calls Tryz.prog 103 #[.pointer (some ⟨s, 0, none⟩), v] w fun e w' => BaPost M tg s (takeB S b) w e w' := by
 by_cases h1 : 1 ≤ (numS b false).1 ∧ (numS b false).1 ≤ 5
 ·rcases (show (numS b false).1 = 1 ∨ (numS b false).1 = 2 ∨ (numS b false).1 = 3 ∨ (numS b false).1 = 4 ∨ (numS b false).1 = 5 by omega) with h2 | h2 | h2 | h2 | h2
  ·exact btake_num 1 (.inl rfl) v b m hb h hM hl hm h2
  ·exact btake_sam v b m hb h hM hl hm h2
  ·exact btake_bat 3 (.inl rfl) v b m hb h hM hl hm h2 hc
  ·exact btake_num 4 (.inr rfl) v b m hb h hM hl hm h2
  ·exact btake_bat 5 (.inr rfl) v b m hb h hM hl hm h2 hc
 ·exact btake_none v b m hb h hM hl hm h1
set_option maxRecDepth 100000 in
theorem btakes_any (v : Value) (rs : List (List UInt8)) (m : Int) (hb : Bss w M v rs) (h : BkAt w M tg s S) (hM : ∀ g ∈ M, g < w.heap.size) (h0 : 0 ∉ M) (hl : ∀ r ∈ rs, r.length ≤ 65536) (hm : w.cell? ⟨0, 0, none⟩ = some (.int .i64 m)) (hc : S.cuts.length + rs.length ≤ 100000000) :
  Calls Tryz.prog 56 #[.pointer (some ⟨s, 0, none⟩), v] w fun e w' => BaPost M tg s (takesB S rs) w e w' := by
 have hw0 : 0 < w.heap.size := by
  have := World.block_lt_of_cell? w _ hm
  simpa using this
 obtain ⟨A, c, rfl, hcc⟩ := hb.len
 have HB := Lib.hid hb; have HS := Lib.hid h; have HM := Lib.hid hM; have Hl := Lib.hid hl
 have Hm : Hid (∀ W, Keeps (sel M tg (List.range 20)) w W → W.cell? ⟨0, 0, none⟩ = some (.int .i64 m)) := fun W hk => (hk.cell (p := ⟨0, 0, none⟩) hw0 (fun hm => h0 (mem_sel.1 hm).1)).trans hm
 have Hv : Hid (∀ e M' tg' W W' SR, BaPost M' tg' s SR W e W' → e = .returned (.tuple #[]) ∧ BaPost M' tg' s SR W e W') := fun _ _ _ _ _ _ h => ⟨h.1, h⟩
 clear hb h hM hl hm
 go_enter Tryz.func56, Tryz.ntmps56
 go_wp2_with fail
 go_loopw [8] (fun i wr => ∃ (k : Nat) (Mk : List Nat) (tgk : Nat → Nat), i = .int .i64 k ∧ k ≤ rs.length ∧ Hid (BkAt wr Mk tgk s (takesB S (rs.take k))) ∧ Hid (Ext w M tg wr Mk tgk) ∧ Hid (Keeps (sel M tg (List.range 20)) w wr)) (fun i _ => rs.length - (intOf i).toNat)
 case atStart => exact ⟨0, M, tg, rfl, by omega, HS.out, Ext.refl HM.out (Nat.le_refl _), Keeps.refl _ _⟩
 case round =>
  obtain ⟨k, Mk, tgk, rfl, hk, HSk, HXk, HKk⟩ := hrel
  by_cases hlt : k < rs.length
  ·have hx1 : (k : Int) < (rs.length : Int) := by omega
   have hbw : Bss wr Mk (.slice A rs.length c) rs := (HB.out.avoid HXk.out.new).keep HKk.out (fun g hg => .inl (HXk.out.sub g (mem_sel.1 hg).1))
   obtain ⟨g, off, cap, bv, e1, hg, _, hcell, hqk⟩ := hbw.at_ hlt
   obtain ⟨rfl, -⟩ : A = some ⟨g, off, none⟩ ∧ True := by injection e1 with e1; exact ⟨e1, trivial⟩
   have hrl := Hl.out _ (List.getElem_mem hlt)
   obtain ⟨Ar, cr, rfl, _⟩ := hqk.len
   have hcu := takesB_cuts (rs.take k) S
   rw [List.length_take] at hcu
   have htk := Lib.hid (btake_any (.slice Ar rs[k].length cr) rs[k] m (hqk.avoid (by simp)) HSk.out HXk.out.lt hrl (Hm.out _ HKk.out) (by omega))
   have hsn : Hid (takesB S (rs.take (k + 1)) = takeB (takesB S (rs.take k)) rs[k]) := by show _ = _; rw [List.take_succ_eq_append_getElem hlt, takesB_snoc]
   clear hqk hcu hrl hbw e1
   generalize rs[k] = rk at *
   go_wp2_with fail
   refine htk.out.mono ?_
   intro e w2 hp
   obtain ⟨rfl, hp⟩ := Hv.out _ _ _ _ _ _ hp
   obtain ⟨_, M2, tg2, hb2, hx2, hk2⟩ := hp
   have HS2 : Hid (BkAt w2 M2 tg2 s (takesB S (rs.take (k + 1)))) := by show BkAt _ _ _ _ _; rw [hsn.out]; exact hb2
   have HX2 := Lib.hid (HXk.out.trans hx2 HKk.out.size)
   have HK2 := Lib.hid (Ext.keeps HXk.out HKk.out hk2)
   clear hb2 hx2 hk2 htk hcell
   go_wp2
   go_roundw
   case rel => exact ⟨k + 1, M2, tg2, by go_num, by omega, HS2, HX2, HK2⟩
   case measure => simp [intOf]; omega
  ·have hke : k = rs.length := by omega
   have hx1 : decide ((k : Int) < (rs.length : Int)) = false := decide_eq_false (by omega)
   have hP : Hid (BaPost M tg s (takesB S rs) w (.returned (.tuple #[])) wr) := by
    have h1 := HSk.out
    rw [hke, List.take_length] at h1
    exact ⟨rfl, Mk, tgk, h1, HXk.out, HKk.out⟩
   clear hke
   go_wp2
   go_end0
   exact hP.out
end
def pq (k : Nat) (qb : Nat → Nat) (j : Nat) : Value := if j < k then .pointer (some ⟨qb j, 0, none⟩) else .pointer none
def bkCells (k : Nat) (qb : Nat → Nat) : Array Value := #[.int .i64 0, .slice none 0 0, .int .i64 1, pq k qb 0, pq k qb 1, pq k qb 2, pq k qb 3, .slice none 0 0]
theorem bkCells_step (k : Nat) (qb : Nat → Nat) (g : Nat) (hk : k < 4) : (bkCells k qb).setIfInBounds (3 + k) (.pointer (some ⟨g, 0, none⟩)) = bkCells (k + 1) (fun j => if j = k then g else qb j) := by
 rcases (show k = 0 ∨ k = 1 ∨ k = 2 ∨ k = 3 by omega) with rfl | rfl | rfl | rfl <;> simp [bkCells, pq]
def BnPost (w : World) (e : Ending) (w' : World) : Prop := ∃ s qb, e = .returned (.pointer (some ⟨s, 0, none⟩)) ∧ Blk w' s 122 (bkCells 4 qb) ∧ (∀ j, j < 4 → Blk w' (qb j) 197 #[.slice none 0 0, .int .i64 0] ∧ s < qb j) ∧ (∀ i j, i < j → j < 4 → qb i < qb j) ∧ w.heap.size ≤ s ∧ Below w.heap.size w w'
set_option maxRecDepth 100000 in
set_option maxHeartbeats 1000000 in
theorem bknew_any (w : World) :
    Calls Tryz.prog 55 #[] w fun e w' => BnPost w e w' := by
  obtain ⟨w0, hw0⟩ : ∃ w0, w0 = w.alloc (.cells #[.int .i64 0, .slice none 0 0, .int .i64 1, .pointer none, .pointer none, .pointer none, .pointer none, .slice none 0 0] 122) := ⟨_, rfl⟩
  have hb0 : Below w.heap.size w w0 := by rw [hw0]; exact (Below.refl _ _).alloc (Nat.le_refl _) _
  have hB0 : Blk w0 w.heap.size 122 (bkCells 0 (fun _ => 0)) := by rw [hw0]; exact Blk.new w _ _
  have Hb0 := Lib.hid hb0; have HB0 := Lib.hid hB0
  clear hb0 hB0
  go_enter Tryz.func55, Tryz.ntmps55
  go_wp2_with fail
  rw [← hw0]
  clear hw0
  obtain ⟨s, Hs⟩ : ∃ s, Hid (w.heap.size = s) := ⟨_, rfl⟩
  rw [Hs.out] at Hb0 HB0
  rw [Hs.out]
  go_loopw [5] (fun i wr => ∃ (k : Nat) (qb : Nat → Nat), i = .int .i64 k ∧ k ≤ 4 ∧ Hid (Blk wr s 122 (bkCells k qb)) ∧ Hid (∀ j, j < k → Blk wr (qb j) 197 #[.slice none 0 0, .int .i64 0] ∧ s < qb j) ∧ Hid (∀ i j, i < j → j < k → qb i < qb j) ∧ Hid (Below s w wr)) (fun i _ => 4 - (intOf i).toNat)
  case atStart => exact ⟨0, fun _ => 0, rfl, by omega, HB0.out, (show ∀ _, _ from by intro j hj; omega), (show ∀ _, _ from by intro i j _ hj; omega), Hb0.out⟩
  case round =>
    obtain ⟨k, qb, rfl, hk, HB, HQ, HI, Hb⟩ := hrel
    by_cases hlt : k < 4
    · have hx1 : (k : Int) < 4 := by omega
      have hsl := HB.out.lt
      go_upto_region 5 with (fail)
      have HC : Hid (∀ W, Keeps [] wr W → (∃ u, W.cell? ⟨s, 3 + k, none⟩ = some u) ∧ W.frozen? ⟨s, 3 + k, none⟩ = false) := fun W hk' => by
        have hb := hk'.blk HB.out (by simp)
        refine ⟨?_, hb.frozen _⟩
        rw [hb.cell, Array.getElem?_eq_getElem (by show 3 + k < 8; omega)]
        exact ⟨_, rfl⟩
      have HN : Hid (∀ W, Keeps [] wr W → Calls Tryz.prog 102 #[] W fun e w' => e = .returned (.pointer (some ⟨W.heap.size, 0, none⟩)) ∧ Blk w' W.heap.size 197 #[.slice none 0 0, .int .i64 0] ∧ Below W.heap.size W w') := fun W _ => qnew_any W
      go_region_held3 (fun W => True) (trivial)
        (first
          | (go_at_call 102
             with_reducible refine (HN.out _ ((Keeps.refl _ _).drew)).mono ?_
             rintro e w1 ⟨rfl, hq1, hb1⟩
             have HK1 : Hid (Keeps [] wr w1) := Keeps.trans ((Keeps.refl [] wr).drew) (Keeps.of_below (M := []) hb1) (by simp)
             have HQ1 : Hid (Blk w1 wr.heap.size 197 #[.slice none 0 0, .int .i64 0]) := hq1
             obtain ⟨⟨u, c1⟩, f1⟩ := HC.out _ HK1.out
             clear hq1 hb1))
      have hk2 : Keeps [s] w1 (w1.setCell ⟨s, 3 + k, none⟩ (.pointer (some ⟨wr.heap.size, 0, none⟩))) := (Keeps.refl _ _).setCell (by simp) _
      have HB2 : Hid (Blk (w1.setCell ⟨s, 3 + k, none⟩ (.pointer (some ⟨wr.heap.size, 0, none⟩))) s 122 (bkCells (k + 1) (fun j => if j = k then wr.heap.size else qb j))) := by
        have h1 := (HK1.out.blk HB.out (by simp)).set_ (3 + k) (.pointer (some ⟨wr.heap.size, 0, none⟩))
        rw [bkCells_step k qb _ hlt] at h1
        exact h1
      have HQ2 : Hid (∀ j, j < k + 1 → Blk (w1.setCell ⟨s, 3 + k, none⟩ (.pointer (some ⟨wr.heap.size, 0, none⟩))) (if j = k then wr.heap.size else qb j) 197 #[.slice none 0 0, .int .i64 0] ∧ s < (if j = k then wr.heap.size else qb j)) := fun j hj => by
        by_cases hjk : j = k
        · rw [if_pos hjk]
          exact ⟨hk2.blk HQ1.out (by simp; omega), hsl⟩
        · rw [if_neg hjk]
          obtain ⟨a1, a2⟩ := HQ.out j (by omega)
          exact ⟨hk2.blk (HK1.out.blk a1 (by simp)) (by simp; omega), a2⟩
      have HI2 : Hid (∀ i j, i < j → j < k + 1 → (if i = k then wr.heap.size else qb i) < (if j = k then wr.heap.size else qb j)) := fun i j hij hj => by
        rw [if_neg (by omega)]
        by_cases hjk : j = k
        · rw [if_pos hjk]
          exact (HQ.out i (by omega)).1.lt
        · rw [if_neg hjk]; exact HI.out i j hij (by omega)
      have Hb2 : Hid (Below s w (w1.setCell ⟨s, 3 + k, none⟩ (.pointer (some ⟨wr.heap.size, 0, none⟩)))) := (Hb.out.trans (HK1.out.below.mono (by omega))).setCell (Nat.le_refl _) _
      clear hk2
      go_wp2
      go_roundw
      case rel => exact ⟨k + 1, fun j => if j = k then wr.heap.size else qb j, by go_num, by omega, HB2, HQ2, HI2, Hb2⟩
      case measure => simp [intOf]; omega
    · have hk4 : k = 4 := by omega
      have hx1 : decide ((k : Int) < 4) = false := decide_eq_false (by omega)
      have hP : Hid (BnPost w (.returned (.pointer (some ⟨s, 0, none⟩))) wr) := by
        subst hk4
        exact ⟨s, qb, rfl, HB.out, HQ.out, HI.out, Nat.le_of_eq Hs.out, by rw [Hs.out]; exact Hb.out⟩
      clear hk4
      go_wp2
      go_ret
      exact hP.out
/-- The new state, in whatever parts are given to its blocks. -/
theorem bk_new_at {w : World} {M : List Nat} {tg : Nat → Nat} {s : Nat} {qb : Nat → Nat} (hb : Blk w s 122 (bkCells 4 qb)) (hq : ∀ j, j < 4 → Blk w (qb j) 197 #[.slice none 0 0, .int .i64 0] ∧ s < qb j) (hs : s ∈ M) (ts : tg s = 1) (hM : ∀ j, j < 4 → qb j ∈ M ∧ tg (qb j) = 10 + 2 * j) : BkAt w M tg s bk0 := by
 refine ⟨⟨by decide, by decide, by decide, by simp [bk0], by decide, by decide, by simp [bk0], fun _ => quOk0⟩, .slice none 0 0, .slice none 0 0, qb, ?_, hs, ts, World.ownsRow_nil _ _ _ _, by simp [Value.ownBlock], World.ownsRow_nil _ _ _ _, by simp [Value.ownBlock], fun k hk => ?_⟩
 ·exact hb
 ·exact qu_new (hq k hk).1 (hM k hk).1 (hM k hk).2
end Go.Proofs.YtgdooockldgdlaaGreatDoor.Vi
end
section
namespace Go.Proofs.YtgdooockldgdlaaGreatDoor.Vi
open Go.RowKit Base Mem
def stepP (h : Nat) (x : UInt8) : Nat := ((h ^^^ x.toNat) * 1099511628211) % 18446744073709551616
theorem stepP_lt (h : Nat) (x : UInt8) : stepP h x < 18446744073709551616 := Nat.mod_lt _ (by omega)
theorem stepP_wrap (h : Nat) (x : UInt8) : IntKind.u64.wrap (((h ^^^ x.toNat : Nat) : Int) * 1099511628211) = (stepP h x : Int) := by
 rw [IntKind.wrap_u64]
 unfold stepP
 omega
attribute [irreducible] stepP
def printL (h : Nat) (l : List UInt8) : Nat := l.foldl stepP h
theorem printL_snoc (h : Nat) (l : List UInt8) (x : UInt8) : printL h (l ++ [x]) = stepP (printL h l) x := by
 unfold printL
 rw [List.foldl_append, List.foldl_cons, List.foldl_nil]
theorem printL_lt (h : Nat) (hh : h < 18446744073709551616) (l : List UInt8) : printL h l < 18446744073709551616 := by
 induction l generalizing h with
 | nil => exact hh
 | cons x l ih => exact ih _ (stepP_lt _ _)
def off64 : Nat := 14695981039346656037
theorem off64_lt : off64 < 18446744073709551616 := by decide
/-- The shard of a series among n. -/
def shardS (s : ByteArray) (n : Int) : Nat := printL off64 s.data.toList % (max 1 (min n 4)).toNat
theorem shardS_lt (s : ByteArray) (n : Int) : shardS s n < 4 := by
 unfold shardS
 have h1 : 0 < (max 1 (min n 4)).toNat := by omega
 have h2 : (max 1 (min n 4)).toNat ≤ 4 := by omega
 exact Nat.lt_of_lt_of_le (Nat.mod_lt _ h1) h2
set_option maxRecDepth 100000 in
theorem print_any (s : ByteArray) (w : World) (hs : s.size ≤ 9223372036854775807) :
  Calls Tryz.prog 109 #[.string s] w fun e w' => e = .returned (.int .u64 (printL off64 s.data.toList)) ∧ w = w' := by
 have H0 : Hid (off64 = 14695981039346656037) := rfl
 have h0 := Lib.hid off64_lt
 go_enter Tryz.func109, Tryz.ntmps109
 go_wp2_with fail
 go_loop [3, 7] (fun h i => ∃ k : Nat, i = .int .i64 k ∧ k ≤ s.size ∧ h = .int .u64 (printL off64 (s.data.toList.take k))) (fun _ i => s.size - (intOf i).toNat)
 case atStart => exact ⟨0, rfl, by omega, by show _ = Value.int .u64 (off64 : Nat); rw [H0.out]; rfl⟩
 case round =>
  obtain ⟨k, rfl, hk, rfl⟩ := hrel
  by_cases hlt : k < s.size
  ·have hx1 : (k : Int) < (s.size : Int) := by omega
   have hsn : Hid (printL off64 (s.data.toList.take (k + 1)) = stepP (printL off64 (s.data.toList.take k)) s[k]) := by
    show _ = _
    rw [List.take_succ_eq_append_getElem (by simpa using hlt), printL_snoc]; rfl
   have hp := printL_lt off64 h0.out (s.data.toList.take k)
   have hbt := s[k].toNat_lt
   generalize printL off64 (s.data.toList.take k) = h at *
   generalize hx : s[k] = x at *
   have hxor := u64_xor_nat h x.toNat hp (by omega)
   have hwx : IntKind.u64.wrap (x.toNat : Int) = (x.toNat : Int) := by rw [IntKind.wrap_u64]; omega
   have hm : IntKind.u64.wrap (((h ^^^ x.toNat : Nat) : Int) * 1099511628211) = (stepP h x : Int) := stepP_wrap h x
   rw [← hsn.out] at hm
   clear hp
   go_wp2
   go_round
   case rel => exact ⟨k + 1, by go_num, by omega, rfl⟩
   case measure => simp [intOf]; omega
  ·have hke : s.data.toList.take k = s.data.toList := List.take_of_length_le (by simp; omega)
   have hx1 : decide ((k : Int) < (s.size : Int)) = false := decide_eq_false (by omega)
   rw [hke]
   go_wp2
   go_ret
   exact ⟨rfl, rfl⟩
theorem shard_any (s : ByteArray) (n : Int) (w : World) (hs : s.size ≤ 9223372036854775807) :
  Calls Tryz.prog 62 #[.string s, .int .i64 n] w fun e w' => e = .returned (.int .i64 (shardS s n)) ∧ w = w' := by
 have hp := Lib.hid (print_any s w hs)
 have hpl := printL_lt off64 off64_lt s.data.toList
 have hsh : Hid (shardS s n = printL off64 s.data.toList % (max 1 (min n 4)).toNat) := rfl
 have hsl := shardS_lt s n
 generalize printL off64 s.data.toList = h at *
 generalize shardS s n = r at *
 obtain ⟨q, hq⟩ : ∃ q : Nat, max 1 (min n 4) = (q : Int) := ⟨(max 1 (min n 4)).toNat, by omega⟩
 have hq1 : 1 ≤ q := by omega
 have hq4 : q ≤ 4 := by omega
 rw [hq, Int.toNat_natCast] at hsh
 have hqw : IntKind.u64.wrap (q : Int) = (q : Int) := by rw [IntKind.wrap_u64]; omega
 have hqz : ((q : Int) == 0) = false := beq_eq_false_iff_ne.2 (by omega)
 have hmod : (h : Int).tmod (q : Int) = (r : Int) := by rw [Int.tmod_eq_emod_of_nonneg (Int.natCast_nonneg h), hsh.out, Int.natCast_emod]
 have hmod2 : (h : Int) % (q : Int) = (r : Int) := by rw [hsh.out]; exact (Int.natCast_emod h q).symm
 have hrw : IntKind.i64.wrap (r : Int) = (r : Int) := by rw [IntKind.wrap_i64]; omega
 clear hpl
 go_enter Tryz.func62, Tryz.ntmps62
 go_wp2_with fail
 refine hp.out.mono ?_
 rintro e w1 ⟨rfl, rfl⟩
 go_wp2
 go_ret
 exact ⟨rfl, rfl⟩
end Go.Proofs.YtgdooockldgdlaaGreatDoor.Vi
end
section
namespace Go.Proofs.YtgdooockldgdlaaGreatDoor.Vi
open Go.RowKit Base Mem Tape
open Go.Maps (Keyed)
open Go.WideMaps (KeyLaw)
open Go.ChangeMaps (setBlock heap_setBlock_same)
theorem rowK : (30 : TypeId) < Tryz.prog.types.size := of_decide_eq_true (by kernel_rfl)
theorem wideK : (match Tryz.prog.underlying 30 with | some (.array _ _) | some (.struct _) => true | _ => false) = true := by kernel_rfl
set_option maxRecDepth 100000 in
theorem klK : KeyLaw Tryz.prog 30 := deep_law_laid laidOutP (m := 3) (by omega) rowK (by kernel_rfl) wideK
theorem lawK : Keyed Tryz.prog 30 := Keyed.of_law klK
/-- An Ident's key. -/
noncomputable def ik (a s n : Int) : Lit := (keyOf Tryz.prog 30 (.agg #[.int .i64 a, .int .i64 s, .int .i64 n])).getD (.bool false)
theorem ik_of {a s n : Int} (ha : I64 a) (hs : I64 s) (hn : I64 n) : keyOf Tryz.prog 30 (.agg #[.int .i64 a, .int .i64 s, .int .i64 n]) = some (ik a s n) := by
 have hwa := WalkArith.wf_i64 ha
 have hws := WalkArith.wf_i64 hs
 have hwn := WalkArith.wf_i64 hn
 have hu := Tryz.underlying30
 have hui := uInt
 have hui6 := uI64
 have hk : Tryz.prog.keyType 30 = true := by kernel_rfl
 have hc : Tryz.prog.cellsOf 30 = 3 := by kernel_rfl
 have hci : Tryz.prog.cellsOf 3 = 1 := by kernel_rfl
 have hci6 : Tryz.prog.cellsOf 2 = 1 := by kernel_rfl
 have hf : (Value.agg #[.int .i64 a, .int .i64 s, .int .i64 n]).formed Tryz.prog 30 = true := by simp [Value.formed, hu, hc]
 obtain ⟨m, hm⟩ := Nat.exists_eq_succ_of_ne_zero (Nat.ne_of_gt posP)
 have hl : Tryz.prog.keyLits (Tryz.prog.types.size + 1) 30 [.int .i64 a, .int .i64 s, .int .i64 n] = some [.int .i64 a, .int .i64 s, .int .i64 n] := by
  rw [hm]
  unfold Program.keyLits
  rw [hu]
  simp [hc, hci, hci6, Program.keyLits, hui, hui6, hwa, hws, hwn]
 unfold ik
 have hall : ∃ l, keyOf Tryz.prog 30 (.agg #[.int .i64 a, .int .i64 s, .int .i64 n]) = some l := by
  unfold keyOf
  rw [hu]
  simp only [hk, hf, Bool.and_self, if_true]
  exact ⟨_, by rw [show (Value.agg #[.int .i64 a, .int .i64 s, .int .i64 n]).cells.toList = [.int .i64 a, .int .i64 s, .int .i64 n] from rfl, hl]; rfl⟩
 obtain ⟨l, hl2⟩ := hall
 rw [hl2]
 rfl
attribute [irreducible] ik
theorem ik_key {a s n : Int} (ha : I64 a) (hs : I64 s) (hn : I64 n) : WideAt.IsKeyLit (ik a s n) := lawK.key (l := ik a s n) (ik_of ha hs hn)
theorem ik_inj {a s n a' s' n' : Int} (ha : I64 a) (hs : I64 s) (hn : I64 n) (ha' : I64 a') (hs' : I64 s') (hn' : I64 n') (h : ik a s n = ik a' s' n') : a = a' ∧ s = s' ∧ n = n' := by
 have e2 := ik_of ha' hs' hn'
 rw [← h] at e2
 have := lawK.inj (ik_of ha hs hn) e2
 simp at this
 exact this
section
variable {H : Type} {P : Program} {k e t : TypeId} {q : IntKind} {w : World} {b n : Nat} {D : DataW H}
end
end Go.Proofs.YtgdooockldgdlaaGreatDoor.Vi
end
section
namespace Go.Proofs.YtgdooockldgdlaaGreatDoor.Vi
open Go.RowKit Base Mem Go.Shelf Tape
open Go.Maps (Keyed)
/-- An agent. tries: how often a batch was sent, and when it is sent again; asked: the tags that wait for an answer (none: a read); cn: how many entries its maps were given. -/
structure AgD where
 node : Int
 reps : Int
 now : Int
 tag : Int
 last : Int
 bk : BkD
 tries : Int → Int → Option (Int × Int)
 asked : List (Int × Option (Int × Int))
 b : List UInt8
 k : Nat
 n : Nat
 cn : Nat
def zTry : Value := .agg #[.int .i64 0, .int .i64 0]
def tryV : Option (Int × Int) → Value
 | none => zTry
 | some (n, t) => .agg #[.int .i64 n, .int .i64 t]
def zId : Value := .agg #[.int .i64 0, .int .i64 0, .int .i64 0]
def idV (node : Int) : Option (Int × Int) → Value
 | none => zId
 | some (s, q) => .agg #[.int .i64 node, .int .i64 s, .int .i64 q]
def look (asked : List (Int × Option (Int × Int))) (tag : Int) : Option (Option (Int × Int)) := (asked.find? fun p => p.1 == tag).map (·.2)
def tkey (a : Int) : Lit := .int .i64 a
/-- The map of tries says this. -/
def TrOk (D : DataW Value) (node : Int) (tries : Int → Int → Option (Int × Int)) : Prop := ∀ s q, I64 s → I64 q → D.atKey (ik node s q) (.held zTry) = .held (tryV (tries s q))
/-- The map of tags says this. -/
def AsOk (D : DataW Value) (node : Int) (asked : List (Int × Option (Int × Int))) : Prop := ∀ t, I64 t → (Maps.has D (tkey t) = (look asked t).isSome) ∧ D.atKey (tkey t) (.held zId) = .held (idV node ((look asked t).getD none))
def AgOk (A : AgD) : Prop := (0 ≤ A.node ∧ A.node < 8) ∧ (1 ≤ A.reps ∧ A.reps ≤ 8) ∧ (0 ≤ A.last ∧ A.last < A.reps) ∧ (0 ≤ A.now ∧ A.now ≤ 1099511627776) ∧ 1 ≤ A.bk.ep ∧ (A.bk.ep * 4294967296 ≤ A.tag ∧ A.tag ≤ A.bk.ep * 4294967296 + A.cn) ∧ A.bk.cuts.length ≤ A.n ∧ A.cn ≤ 1099511627776 ∧
 (∀ s q x, A.tries s q = some x → 0 ≤ x.1 ∧ x.1 ≤ A.cn ∧ 0 ≤ x.2 ∧ x.2 ≤ 2199023255552) ∧ (∀ p ∈ A.asked, A.bk.ep * 4294967296 < p.1 ∧ p.1 ≤ A.tag ∧ ∀ x, p.2 = some x → 0 ≤ x.1 ∧ x.1 < 4 ∧ 1 ≤ x.2 ∧ x.2 ≤ 9223372036854775807) ∧ (A.asked.map (·.1)).Nodup
structure AgC where
 s : Nat
 p : Nat
 tb : Nat
 ab : Nat
 d : Nat
 Y : List Nat
 Nt : Nat
 Na : Nat
 Dt : DataW Value
 Da : DataW Value
def agCells (A : AgD) (C : AgC) : Array Value := #[.int .i64 A.node, .int .i64 A.reps, .pointer (some ⟨C.p, 0, none⟩), .pointer (some ⟨C.s, 0, none⟩), .int .i64 A.now, .int .i64 A.tag, .int .i64 A.last, .map (some C.tb), .map (some C.ab)]
structure AgV (w : World) (M : List Nat) (tg : Nat → Nat) (a : Nat) (A : AgD) (C : AgC) : Prop where
 blk : Blk w a 117 (agCells A C)
 aM : a ∈ M
 ta : tg a = 20
 bk : BkAt w M tg C.s A.bk
 lg : LgAt w C.p C.Y C.d A.b A.k A.n
 pM : C.p ∈ M
 tp : tg C.p = 21
 yM : ∀ g ∈ C.Y, g ∈ M ∧ tg g = 22
 tr : w.ownsMap Tryz.prog 30 heldElem C.tb C.Nt C.Dt
 tbM : C.tb ∈ M
 ttb : tg C.tb = 23
 as_ : w.ownsMap Tryz.prog 2 heldElem C.ab C.Na C.Da
 abM : C.ab ∈ M
 tab : tg C.ab = 24
 trD : TrOk C.Dt A.node A.tries
 asD : AsOk C.Da A.node A.asked
 nt : C.Nt ≤ A.cn
 na : C.Na ≤ A.cn
def AgAt (w : World) (M : List Nat) (tg : Nat → Nat) (a d : Nat) (A : AgD) : Prop := AgOk A ∧ ∃ C, C.d = d ∧ AgV w M tg a A C
section
variable {w w' : World} {M M' : List Nat} {tg tg' : Nat → Nat} {a d : Nat} {A : AgD} {C : AgC} {T : List Nat}
theorem Ext.addL (hM : ∀ g ∈ M, g < w.heap.size) (hw : w.heap.size ≤ w'.heap.size) (L : List Nat) (t : Nat) (hr : ∀ g ∈ L, (g ∈ M ∧ tg g = t ∨ w.heap.size ≤ g) ∧ g < w'.heap.size) : Ext w M tg w' (L ++ M) (fun x => if x ∈ L then t else tg x) :=
 ⟨fun g hg => List.mem_append_right _ hg, fun g hg => by
  rcases List.mem_append.1 hg with h | h
  ·rcases (hr g h).1 with h1 | h1
   ·exact .inl h1.1
   ·exact .inr h1
  ·exact .inl h, fun g hg => by
  show (if g ∈ L then t else tg g) = tg g
  split
  ·rename_i h
   rcases (hr g h).1 with h1 | h1
   ·exact h1.2.symm
   ·omega
  ·rfl, hM, fun g hg => by
  rcases List.mem_append.1 hg with h | h
  ·exact (hr g h).2
  ·exact Nat.lt_of_lt_of_le (hM g h) hw⟩
theorem map_other {k : TypeId} {b n : Nat} {D : DataW Value} (kp : Keeps (sel M tg T) w w') (h : w.ownsMap Tryz.prog k heldElem b n D) (ht : tg b ∉ T) : w'.ownsMap Tryz.prog k heldElem b n D := om_keep h kp (fun hm => ht (mem_sel.1 hm).2)
theorem lg_other (kp : Keeps (sel M tg T) w w') (h : AgV w M tg a A C) (h1 : 21 ∉ T) (h2 : 22 ∉ T) : LgAt w' C.p C.Y C.d A.b A.k A.n := h.lg.keep kp (fun g hg hm => by
 rcases List.mem_cons.1 hg with rfl | hg
 ·exact h1 (by have := (mem_sel.1 hm).2; rwa [h.tp] at this)
 ·exact h2 (by have := (mem_sel.1 hm).2; rwa [(h.yM g hg).2] at this))
/-- All but the book turned not. -/
theorem AgV.rest (h : AgV w M tg a A C) (x : Ext w M tg w' M' tg') (kp : Keeps (sel M tg T) w w') (hT : ∀ t ∈ T, t < 20) {S' : BkD} (hb : BkAt w' M' tg' C.s S') : AgV w' M' tg' a { A with bk := S' } C := by
 have n : ∀ {t}, 20 ≤ t → t ∉ T := fun {t} h1 h2 => by have := hT t h2; omega
 exact ⟨blk_other kp h.blk (by rw [h.ta]; exact n (by omega)), x.sub _ h.aM, by rw [x.tag _ (x.old _ h.aM)]; exact h.ta, hb, (show LgAt w' C.p C.Y C.d A.b A.k A.n from lg_other kp h (n (by omega)) (n (by omega))), x.sub _ h.pM, by rw [x.tag _ (x.old _ h.pM)]; exact h.tp,
  fun g hg => ⟨x.sub _ (h.yM g hg).1, by rw [x.tag _ (x.old _ (h.yM g hg).1)]; exact (h.yM g hg).2⟩, map_other kp h.tr (by rw [h.ttb]; exact n (by omega)), x.sub _ h.tbM, by rw [x.tag _ (x.old _ h.tbM)]; exact h.ttb,
  map_other kp h.as_ (by rw [h.tab]; exact n (by omega)), x.sub _ h.abM, by rw [x.tag _ (x.old _ h.abM)]; exact h.tab, h.trD, h.asD, h.nt, h.na⟩
theorem AgV.keep0 (h : AgV w M tg a A C) (hM : ∀ g ∈ M, g < w.heap.size) (k : Keeps [] w w') : AgV w' M tg a A C :=
 h.rest (T := []) (Ext.refl hM k.size) (k.to_sel (by simp)) (by simp) (h.bk.keep0 hM k)
theorem AgAt.keep0 (h : AgAt w M tg a d A) (hM : ∀ g ∈ M, g < w.heap.size) (k : Keeps [] w w') : AgAt w' M tg a d A := by
 obtain ⟨ho, C, e, hv⟩ := h
 exact ⟨ho, C, e, hv.keep0 hM k⟩
/-- The log turned. -/
theorem AgV.setLg (h : AgV w M tg a A C) (hM : ∀ g ∈ M, g < w.heap.size) {Y' : List Nat} {b' : List UInt8} {k' n' : Nat} (hl : LgAt w' C.p Y' C.d b' k' n') (hg : Grows C.Y w Y') (kp : Keeps (C.p :: C.Y) w w') :
  ∃ M' tg', AgV w' M' tg' a { A with b := b', k := k', n := n' } { C with Y := Y' } ∧ Ext w M tg w' M' tg' ∧ Keeps (sel M tg [21, 22]) w w' := by
 have ks : Keeps (sel M tg [21, 22]) w w' := kp.to_sel (fun g hg => by
  rcases List.mem_cons.1 hg with rfl | hg
  ·exact .inl ⟨h.pM, by rw [h.tp]; simp⟩
  ·exact .inl ⟨(h.yM g hg).1, by rw [(h.yM g hg).2]; simp⟩)
 have hx : Ext w M tg w' (Y' ++ M) (fun x => if x ∈ Y' then 22 else tg x) := Ext.addL hM ks.size Y' 22 (fun g hgY => by
  refine ⟨?_, hl.2.1.old g hgY⟩
  rcases hg g hgY with h1 | h1
  ·exact .inl (h.yM g h1)
  ·exact .inr h1)
 refine ⟨_, _, ⟨blk_other ks h.blk (by rw [h.ta]; simp), hx.sub _ h.aM, ?_, h.bk.keep hx ks (by simp), hl, hx.sub _ h.pM, ?_, fun g hgY => ⟨List.mem_append_left _ hgY, by simp [hgY]⟩, map_other ks h.tr (by rw [h.ttb]; simp), hx.sub _ h.tbM, ?_, map_other ks h.as_ (by rw [h.tab]; simp), hx.sub _ h.abM, ?_, h.trD, h.asD, h.nt, h.na⟩, hx, ks⟩
 ·exact (hx.tag _ (hM _ h.aM)).trans h.ta
 ·exact (hx.tag _ (hM _ h.pM)).trans h.tp
 ·exact (hx.tag _ (hM _ h.tbM)).trans h.ttb
 ·exact (hx.tag _ (hM _ h.abM)).trans h.tab
theorem agcells (h : AgV w M tg a A C) : w.cell? ⟨a, 0, none⟩ = some (.int .i64 A.node) ∧ w.cell? ⟨a, 1, none⟩ = some (.int .i64 A.reps) ∧ w.cell? ⟨a, 2, none⟩ = some (.pointer (some ⟨C.p, 0, none⟩)) ∧ w.cell? ⟨a, 3, none⟩ = some (.pointer (some ⟨C.s, 0, none⟩)) ∧ w.cell? ⟨a, 4, none⟩ = some (.int .i64 A.now) ∧ w.cell? ⟨a, 5, none⟩ = some (.int .i64 A.tag) ∧ w.cell? ⟨a, 6, none⟩ = some (.int .i64 A.last) ∧ w.cell? ⟨a, 7, none⟩ = some (.map (some C.tb)) ∧ w.cell? ⟨a, 8, none⟩ = some (.map (some C.ab)) ∧ a < w.heap.size :=
 ⟨h.blk.cell 0, h.blk.cell 1, h.blk.cell 2, h.blk.cell 3, h.blk.cell 4, h.blk.cell 5, h.blk.cell 6, h.blk.cell 7, h.blk.cell 8, h.blk.lt⟩
theorem agepoch_any (h : AgAt w M tg a d A) :
  Calls Tryz.prog 32 #[.pointer (some ⟨a, 0, none⟩)] w fun e w' => e = .returned (.int .i64 A.bk.ep) ∧ w = w' := by
 obtain ⟨ho, C, -, hv⟩ := h
 obtain ⟨-, -, -, c3, -⟩ := agcells hv
 obtain ⟨_, vs, vc, qb, hb⟩ := hv.bk
 obtain ⟨b0, -⟩ := blk8 hb.blk
 clear hv hb
 go_enter Tryz.func32, Tryz.ntmps32
 go_wp2
 go_ret
 exact ⟨rfl, rfl⟩
theorem agwaits_any (h : AgAt w M tg a d A) :
  Calls Tryz.prog 29 #[.pointer (some ⟨a, 0, none⟩)] w fun e w' => e = .returned (.int .i64 A.bk.sa.length) ∧ w = w' := by
 obtain ⟨ho, C, -, hv⟩ := h
 obtain ⟨-, -, -, c3, -⟩ := agcells hv
 obtain ⟨_, vs, vc, qb, hb⟩ := hv.bk
 obtain ⟨As, cs, rfl, -⟩ := hb.ds.len
 obtain ⟨-, b1, -⟩ := blk8 hb.blk
 clear hv hb
 go_enter Tryz.func29, Tryz.ntmps29
 go_wp2
 go_ret
 exact ⟨rfl, rfl⟩
/-- What a call leaves that turns an agent. -/
def AaPost (M : List Nat) (tg : Nat → Nat) (a d : Nat) (A : AgD) (r : Value) (w : World) (e : Ending) (w' : World) : Prop :=
 e = .returned r ∧ ∃ M' tg', AgAt w' M' tg' a d A ∧ Ext w M tg w' M' tg' ∧ Keeps (sel M tg (List.range 30)) w w'
theorem aa_same (h : AgAt w M tg a d A) (hM : ∀ g ∈ M, g < w.heap.size) (hk : Keeps [] w w') (r : Value) : AaPost M tg a d A r w (.returned r) w' :=
 ⟨rfl, M, tg, h.keep0 hM hk, Ext.refl hM hk.size, hk.to_sel (by simp)⟩
theorem agsync_any (h : AgAt w M tg a d A) (hM : ∀ g ∈ M, g < w.heap.size) :
  Calls Tryz.prog 27 #[.pointer (some ⟨a, 0, none⟩)] w fun e w' => AaPost M tg a d { A with k := A.b.length } (.tuple #[]) w e w' := by
 obtain ⟨ho, C, hCd, hv⟩ := h
 obtain ⟨-, -, c2, -⟩ := agcells hv
 have hs := Lib.hid (wsync_any C.p C.Y C.d A.k A.n A.b w hv.lg)
 have Hv := Lib.hid hv; have Ho := Lib.hid ho; have HM := Lib.hid hM; have HC := Lib.hid hCd
 clear hv ho hM hCd
 go_enter Tryz.func27, Tryz.ntmps27
 go_wp2_with fail
 refine hs.out.mono ?_
 rintro e w1 ⟨rfl, hl, hk⟩
 have hP : Hid (AaPost M tg a d { A with k := A.b.length } (.tuple #[]) w (.returned (.tuple #[])) w1) := by
  obtain ⟨M', tg', h1, h2, h3⟩ := Hv.out.setLg HM.out hl (Grows.refl _ _) (hk.mono (fun g hg => .inl (List.mem_cons_of_mem _ hg)))
  exact ⟨rfl, M', tg', ⟨Ho.out, _, HC.out, h1⟩, h2, h3.sel_mono (by simp)⟩
 clear hl hk hs
 go_wp2
 go_end0
 exact hP.out
end
end Go.Proofs.YtgdooockldgdlaaGreatDoor.Vi
end
section
namespace Go.Proofs.YtgdooockldgdlaaGreatDoor.Vi
open Go.RowKit Base Mem
/-- Why a record may not be written: it is too long, or the disk is full. -/
def waCode (l b : List UInt8) : Int := if 65536 < l.length then 3 else if 1048576 < b.length + (frameL l).length then 24 else 0
def WxPost (p : Nat) (Y : List Nat) (d : Nat) (b l : List UInt8) (k n : Nat) (sync : Bool) (w : World) (e : Ending) (w' : World) : Prop :=
 e = .returned (.int .i64 (waCode l b)) ∧ ((waCode l b = 0 ∧ ∃ Y', LgAt w' p Y' d (b ++ frameL l) (if sync = true then b.length + (frameL l).length else k) (n + 1) ∧ Grows Y w Y' ∧ Keeps (p :: Y) w w') ∨ (waCode l b ≠ 0 ∧ Keeps [] w w'))
theorem waCode0 {l b : List UInt8} (h : waCode l b = 0) : l.length ≤ 65536 ∧ b.length + (frameL l).length ≤ 1048576 := by
 unfold waCode at h
 split at h
 ·omega
 ·split at h
  ·omega
  ·omega
set_option maxRecDepth 100000 in
theorem wappendx_any (p : Nat) (Y : List Nat) (d k n : Nat) (b : List UInt8) (w : World) (h : LgAt w p Y d b k n) (v : Value) (l : List UInt8) (hv : Bs w [] v l) :
  Calls Tryz.prog 60 #[.pointer (some ⟨p, 0, none⟩), v] w fun e w' => WxPost p Y d b l k n false w e w' := by
 have hle := h.2.1.le
 have hfl := frameL_len l
 have hnb := h.2.2.2
 have H := Lib.hid h
 have hp := h.1.lt
 by_cases hlong : 65536 < l.length
 ·have HP : Hid (∀ W, Keeps [] w W → WxPost p Y d b l k n false w (.returned (.int .i64 3)) W) := fun W h => by
   have hw : waCode l b = 3 := by unfold waCode; rw [if_pos hlong]
   exact ⟨by rw [hw], .inr ⟨by rw [hw]; decide, h⟩⟩
  have hf := Lib.hid (frame_long v l w hv hlong)
  obtain ⟨A, c, rfl, _⟩ := hv.len
  clear h hv
  go_enter Tryz.func60, Tryz.ntmps60
  go_wp2_with fail
  refine hf.out.mono ?_
  rintro e w1 ⟨rfl, rfl⟩
  go_wp2
  go_ret
  exact HP.out _ (Keeps.refl _ _)
 ·have hf := Lib.hid (frame_any v l w hv (by omega))
  obtain ⟨A, c, rfl, _⟩ := hv.len
  have hul := Lib.uvarint_length64 (x := l.length) (by omega)
  clear hv h
  have HP0 : Hid (∀ e W, b.length + (frameL l).length ≤ 1048576 → (e = .returned (.int .i64 0) ∧ ∃ Y', LgAt W p Y' d (b ++ frameL l) k (n + 1) ∧ Grows Y w Y' ∧ Keeps (p :: Y) w W) → WxPost p Y d b l k n false w e W) := fun e W hr h => by
   have hw : waCode l b = 0 := by unfold waCode; rw [if_neg hlong, if_neg (by omega)]
   exact ⟨by rw [hw]; exact h.1, .inl ⟨hw, h.2⟩⟩
  have HP1 : Hid (∀ W, ¬ b.length + (frameL l).length ≤ 1048576 → Keeps [] w W → WxPost p Y d b l k n false w (.returned (.int .i64 24)) W) := fun W hr h => by
   have hw : waCode l b = 24 := by unfold waCode; rw [if_neg hlong, if_pos (by omega)]
   exact ⟨by rw [hw], .inr ⟨by rw [hw]; decide, h⟩⟩
  have HFr : Hid (∀ e W, FrPost l w e W → ∃ A c, e = .returned (.tuple #[.slice A (frameL l).length c, .int .i64 0]) ∧ (∀ M, (∀ g ∈ M, g < w.heap.size) → Bs W M (.slice A (frameL l).length c) (frameL l)) ∧ Below w.heap.size w W) := fun _ _ h => h
  generalize frameL l = x at *
  have hx5 : 5 ≤ x.length := by have := Lib.uvarint_pos l.length; omega
  have hx6 : x.length ≤ 65600 := by omega
  clear hfl hul
  go_enter Tryz.func60, Tryz.ntmps60
  go_wp2_with fail
  refine hf.out.mono ?_
  intro e w1 hfp
  obtain ⟨A1, c1, rfl, hB, hb1⟩ := HFr.out _ _ hfp
  have Hk1 := Lib.hid (Keeps.of_below (M := []) hb1)
  have HB := Lib.hid (hB [] (by simp))
  have HL1 := Lib.hid (H.out.keep0 Hk1.out)
  have q0 := HL1.out.1.cell 0
  simp only [List.getElem?_toArray, List.getElem?_cons_zero] at q0
  clear hB hb1 hf
  simp only []
  go_wp2_with fail
  refine (dkappend_any w1 HL1.out.2.1 _ x [] HB.out (by omega) (by omega)).mono ?_
  intro e w2 hpost
  by_cases hr : b.length + x.length ≤ 1048576
  ·unfold DaPost at hpost
   rw [if_pos hr] at hpost
   obtain ⟨rfl, Y', hD, hG, hK⟩ := hpost
   have hB2 : Blk w2 p 184 #[.pointer (some ⟨d, 0, none⟩), .int .i64 n] := hK.blk HL1.out.1 HL1.out.2.2.1
   have q1 := hB2.cell 1
   have f1 := hB2.frozen 1
   simp only [List.getElem?_toArray, List.getElem?_cons_succ, List.getElem?_cons_zero] at q1
   have hR : Hid (WxPost p Y d b l k n false w (.returned (.int .i64 0)) (w2.setCell ⟨p, 1, none⟩ (.int .i64 ((n : Int) + 1)))) := by
    refine HP0.out _ _ hr ⟨rfl, Y', ?_, ?_, ?_⟩
    ·have hk3 : Keeps [p] w2 (w2.setCell ⟨p, 1, none⟩ (.int .i64 ((n : Int) + 1))) := (Keeps.refl _ _).setCell (by simp) _
     have hpY : p ∉ Y' := fun hm => by
      rcases hG p hm with h | h
      ·exact HL1.out.2.2.1 h
      ·have := Hk1.out.size; omega
     refine ⟨?_, hD.keep hk3 (fun g hg => by rintro hm; simp at hm; subst hm; exact hpY hg), hpY, by rw [List.length_append]; omega⟩
     have := hB2.set_ 1 (.int .i64 ((n : Int) + 1))
     simpa using this
    ·intro g hg
     rcases hG g hg with h | h
     ·exact .inl h
     ·exact .inr (Nat.le_trans Hk1.out.size h)
    ·exact (((Hk1.out.mono (M' := p :: Y) (by simp)).trans hK (fun g hg => .inl (by simp [hg]))).setCell (by simp) _)
   clear hD hG hK hB2
   go_wp2
   go_ret
   exact hR.out
  ·unfold DaPost at hpost
   rw [if_neg hr] at hpost
   obtain ⟨rfl, rfl⟩ := hpost
   have hR : Hid (WxPost p Y d b l k n false w (.returned (.int .i64 24)) w1) := HP1.out _ hr Hk1.out
   go_wp2
   go_ret
   exact hR.out
set_option maxRecDepth 100000 in
theorem wwritex_any (p : Nat) (Y : List Nat) (d k n : Nat) (b : List UInt8) (w : World) (h : LgAt w p Y d b k n) (v : Value) (l : List UInt8) (hv : Bs w [] v l) :
  Calls Tryz.prog 57 #[.pointer (some ⟨p, 0, none⟩), v] w fun e w' => WxPost p Y d b l k n true w e w' := by
 have ha := Lib.hid (wappendx_any p Y d k n b w h v l hv)
 obtain ⟨A, c, rfl, _⟩ := hv.len
 have hlen : (b ++ frameL l).length = b.length + (frameL l).length := List.length_append
 clear h hv
 have HA : Hid (∀ e W, WxPost p Y d b l k n false w e W → e = .returned (.int .i64 (waCode l b)) ∧ ((waCode l b = 0 ∧ ∃ Y', LgAt W p Y' d (b ++ frameL l) k (n + 1) ∧ Grows Y w Y' ∧ Keeps (p :: Y) w W) ∨ (waCode l b ≠ 0 ∧ Keeps [] w W))) := fun e W h => by unfold WxPost at h; exact h
 have HP0 : Hid (waCode l b = 0 → ∀ W, (∃ Y', LgAt W p Y' d (b ++ frameL l) (b.length + (frameL l).length) (n + 1) ∧ Grows Y w Y' ∧ Keeps (p :: Y) w W) → WxPost p Y d b l k n true w (.returned (.int .i64 (waCode l b))) W) := fun h0 W h => ⟨rfl, .inl ⟨h0, h⟩⟩
 have HP1 : Hid (waCode l b ≠ 0 → ∀ W, Keeps [] w W → WxPost p Y d b l k n true w (.returned (.int .i64 (waCode l b))) W) := fun h0 W h => ⟨rfl, .inr ⟨h0, h⟩⟩
 generalize waCode l b = x at *
 by_cases h0 : x = 0
 ·subst h0
  go_enter Tryz.func57, Tryz.ntmps57
  go_wp2_with fail
  refine ha.out.mono ?_
  intro e w1 hpost
  obtain ⟨rfl, h1⟩ := HA.out _ _ hpost
  obtain ⟨Y', hL, hG, hK⟩ : ∃ Y', LgAt w1 p Y' d (b ++ frameL l) k (n + 1) ∧ Grows Y w Y' ∧ Keeps (p :: Y) w w1 := by
   rcases h1 with h1 | h1
   ·exact h1.2
   ·exact absurd rfl h1.1
  have HL := Lib.hid hL; have HG := Lib.hid hG; have HK := Lib.hid hK
  clear hL hG hK hpost h1
  go_wp2_with fail
  refine (wsync_any p Y' d k (n + 1) _ w1 HL.out).mono ?_
  rintro e w2 ⟨rfl, hL2, hk2⟩
  have hR : Hid (WxPost p Y d b l k n true w (.returned (.int .i64 0)) w2) := by
   refine HP0.out trivial _ ⟨Y', by rw [← hlen]; exact hL2, HG.out, HK.out.trans hk2 (fun g hg => ?_)⟩
   rcases HG.out g hg with h | h
   ·exact .inl (by simp [h])
   ·exact .inr h
  clear hL2 hk2
  go_wp2
  go_ret
  exact hR.out
 ·have hx0 : (x == 0) = false := by simpa using h0
  have H0 := Lib.hid h0
  clear h0
  go_enter Tryz.func57, Tryz.ntmps57
  go_wp2_with fail
  refine ha.out.mono ?_
  intro e w1 hpost
  obtain ⟨rfl, h1⟩ := HA.out _ _ hpost
  have hR : Hid (WxPost p Y d b l k n true w (.returned (.int .i64 x)) w1) := by
   rcases h1 with h1 | h1
   ·exact absurd h1.1 H0.out
   ·exact HP1.out H0.out _ h1.2
  clear hpost h1
  go_wp2
  go_ret
  exact hR.out
end Go.Proofs.YtgdooockldgdlaaGreatDoor.Vi
end
section
namespace Go.Proofs.YtgdooockldgdlaaGreatDoor.Vi
open Go.RowKit Base Mem Go.Shelf Tape
open Go.Maps (Keyed)
def agIng (A : AgD) (d : DeltaD) : Int × AgD :=
 if mayB A.bk d ≠ 0 then (mayB A.bk d, A)
 else if waCode (recS d) A.b ≠ 0 then (waCode (recS d) A.b, A)
 else (0, { A with b := A.b ++ frameL (recS d), n := A.n + 1, bk := { A.bk with sa := A.bk.sa ++ [d] } })
section
variable {w w' : World} {M M' : List Nat} {tg tg' : Nat → Nat} {a d : Nat} {A : AgD} {C : AgC} {T : List Nat}
theorem may_room {S : BkD} {x : DeltaD} (h : mayB S x = 0) : S.sa.length < 32 := by
 unfold mayB at h
 split at h
 ·omega
 ·split at h
  ·omega
  ·omega
theorem rec_ser (x : DeltaD) : x.ser.size ≤ (recS x).length := by
 unfold recS dBytes sB
 simp
 omega
theorem sa_ok {S : BkD} {x : DeltaD} (h : BkOk S) (hx : SaOk x) (hm : mayB S x = 0) : BkOk { S with sa := S.sa ++ [x] } := by
 obtain ⟨o1, o2, o3, o4, o5⟩ := h
 have := may_room hm
 refine ⟨o1, o2, by show (S.sa ++ [x]).length ≤ 32; simp; omega, fun d hd => ?_, o5⟩
 rcases List.mem_append.1 hd with h | h
 ·exact o4 d h
 ·simp at h; subst h; exact hx
theorem rec_post_val {l : List UInt8} {e : Ending} (h : RecPost l w e w') : ∃ Ar n, e = .returned (.slice Ar n n) ∧ Bs w' [] (.slice Ar n n) l ∧ Below w.heap.size w w' := by
 obtain ⟨Ar, h1, h2, h3⟩ := h
 exact ⟨Ar, _, h1, h2, h3⟩
/-- The first region: a sample may wait? -/
theorem aging_no (h : AgAt w M tg a d A) (hM : ∀ g ∈ M, g < w.heap.size) (x : DeltaD) (hx : NOk x) (hs : x.ser.size < 4294967281) (m : Int) (hm : w.cell? ⟨0, 0, none⟩ = some (.int .i64 m)) (hno : mayB A.bk x ≠ 0) :
    Calls Tryz.prog 18 #[.pointer (some ⟨a, 0, none⟩), .string x.ser, .int .u64 x.n] w fun e w' => AaPost M tg a d A (.int .i64 (mayB A.bk x)) w e w' := by
  have hw0 : 0 < w.heap.size := by
    have := World.block_lt_of_cell? w _ hm
    simpa using this
  have HA := Lib.hid h; have HM := Lib.hid hM
  obtain ⟨ho, C, -, hv⟩ := h
  obtain ⟨w0, hw0'⟩ : ∃ w0, w0 = w.alloc (.cells #[.string x.ser, .int .u64 x.n] 38) := ⟨_, rfl⟩
  have hk0 : Keeps [] w w0 := by rw [hw0']; exact (Keeps.refl _ _).alloc _
  have hB0 : Blk w0 w.heap.size 38 #[.string x.ser, .int .u64 x.n] := by rw [hw0']; exact Blk.new w _ _
  have hS : Hid (∀ W, Keeps [] w0 W → W.cell? ⟨a, 3, none⟩ = some (.pointer (some ⟨C.s, 0, none⟩)) ∧ W.cell? ⟨w.heap.size, 0, none⟩ = some (.string x.ser) ∧ W.cell? ⟨w.heap.size, 1, none⟩ = some (.int .u64 x.n)) := fun W hk => by
    have h1 := hk.blk hB0 (by simp)
    have h2 := agcells (hv.keep0 hM (hk0.trans hk (by simp)))
    exact ⟨h2.2.2.2.1, h1.cell 0, h1.cell 1⟩
  have hmay : Hid (∀ W, Keeps [] w0 W → Calls Tryz.prog 59 #[.pointer (some ⟨C.s, 0, none⟩), .agg #[.string x.ser, .int .u64 x.n]] W fun e w' => MayPost (mayB A.bk x) W e w') := fun W hk =>
    bmay_any (hv.keep0 hM (hk0.trans hk (by simp))).bk x hx m hs ((hk0.trans hk (by simp)).cell (p := ⟨0, 0, none⟩) hw0 (by simp) |>.trans hm)
  have Hk0 : Hid (Keeps [] w0 w0) := Keeps.refl _ _
  have Hkw := Lib.hid hk0
  have hne : (mayB A.bk x != 0) = true := by simpa using hno
  clear hB0 hm hv ho hk0 hno
  generalize mayB A.bk x = c at *
  go_enter Tryz.func18, Tryz.ntmps18
  go_upto_region 2 with (fail)
  rw [← hw0']
  clear hw0'
  go_region_held3 (fun W => W.cell? ⟨a, 3, none⟩ = some (.pointer (some ⟨C.s, 0, none⟩)) ∧ W.cell? ⟨w.heap.size, 0, none⟩ = some (.string x.ser) ∧ W.cell? ⟨w.heap.size, 1, none⟩ = some (.int .u64 x.n))
    ((refine hS.out _ ?_; first | (with_reducible exact Hk1.out) | (with_reducible exact Hk0.out.drew)))
    (first
      | (go_at_call 59
         with_reducible refine (hmay.out _ Hk0.out.drew).mono ?_
         rintro e w1 ⟨rfl, hb1⟩
         have Hk1 : Hid (Keeps [] w0 w1) := Keeps.trans ((Keeps.refl [] w0).drew) (Keeps.of_below (M := []) hb1) (by simp)
         clear hb1))
  have hP : Hid (AaPost M tg a d A (.int .i64 c) w (.returned (.int .i64 c)) w1) := aa_same HA.out HM.out (Hkw.out.trans Hk1.out (by simp)) _
  go_wp2
  go_ret
  exact hP.out
set_option maxRecDepth 100000 in
set_option maxHeartbeats 1000000 in
theorem aging_yes (h : AgAt w M tg a d A) (hM : ∀ g ∈ M, g < w.heap.size) (x : DeltaD) (hx : NOk x) (hs : x.ser.size < 4294967281) (m : Int) (hm : w.cell? ⟨0, 0, none⟩ = some (.int .i64 m)) (hno : mayB A.bk x = 0) :
    Calls Tryz.prog 18 #[.pointer (some ⟨a, 0, none⟩), .string x.ser, .int .u64 x.n] w fun e w' => AaPost M tg a d (agIng A x).2 (.int .i64 (agIng A x).1) w e w' := by
  have hw0 : 0 < w.heap.size := by
    have := World.block_lt_of_cell? w _ hm
    simpa using this
  have hing : agIng A x = if waCode (recS x) A.b ≠ 0 then (waCode (recS x) A.b, A) else (0, { A with b := A.b ++ frameL (recS x), n := A.n + 1, bk := { A.bk with sa := A.bk.sa ++ [x] } }) := by
    unfold agIng
    rw [if_neg (by simpa using hno)]
  have HA := Lib.hid h; have HM := Lib.hid hM
  obtain ⟨ho, C, hCd, hv⟩ := h
  obtain ⟨w0, hw0'⟩ : ∃ w0, w0 = w.alloc (.cells #[.string x.ser, .int .u64 x.n] 38) := ⟨_, rfl⟩
  have hk0 : Keeps [] w w0 := by rw [hw0']; exact (Keeps.refl _ _).alloc _
  have hB0 : Blk w0 w.heap.size 38 #[.string x.ser, .int .u64 x.n] := by rw [hw0']; exact Blk.new w _ _
  have hS : Hid (∀ W, Keeps [] w0 W → W.cell? ⟨a, 3, none⟩ = some (.pointer (some ⟨C.s, 0, none⟩)) ∧ W.cell? ⟨w.heap.size, 0, none⟩ = some (.string x.ser) ∧ W.cell? ⟨w.heap.size, 1, none⟩ = some (.int .u64 x.n)) := fun W hk => by
    have h1 := hk.blk hB0 (by simp)
    have h2 := agcells (hv.keep0 hM (hk0.trans hk (by simp)))
    exact ⟨h2.2.2.2.1, h1.cell 0, h1.cell 1⟩
  have hmay : Hid (∀ W, Keeps [] w0 W → Calls Tryz.prog 59 #[.pointer (some ⟨C.s, 0, none⟩), .agg #[.string x.ser, .int .u64 x.n]] W fun e w' => MayPost (mayB A.bk x) W e w') := fun W hk =>
    bmay_any (hv.keep0 hM (hk0.trans hk (by simp))).bk x hx m hs ((hk0.trans hk (by simp)).cell (p := ⟨0, 0, none⟩) hw0 (by simp) |>.trans hm)
  have Hk0 : Hid (Keeps [] w0 w0) := Keeps.refl _ _
  have Hkw := Lib.hid hk0; have Hv := Lib.hid hv; have Ho := Lib.hid ho; have HB0 := Lib.hid hB0; have HC := Lib.hid hCd
  have Hno := Lib.hid hno
  rw [hno] at hmay
  clear hB0 hm hv ho hk0 hno hCd
  go_enter Tryz.func18, Tryz.ntmps18
  go_upto_region 2 with (fail)
  rw [← hw0']
  clear hw0'
  go_region_held3 (fun W => W.cell? ⟨a, 3, none⟩ = some (.pointer (some ⟨C.s, 0, none⟩)) ∧ W.cell? ⟨w.heap.size, 0, none⟩ = some (.string x.ser) ∧ W.cell? ⟨w.heap.size, 1, none⟩ = some (.int .u64 x.n))
    ((refine hS.out _ ?_; first | (with_reducible exact Hk1.out) | (with_reducible exact Hk0.out.drew)))
    (first
      | (go_at_call 59
         with_reducible refine (hmay.out _ Hk0.out.drew).mono ?_
         rintro e w1 ⟨rfl, hb1⟩
         have Hk1 : Hid (Keeps [] w0 w1) := Keeps.trans ((Keeps.refl [] w0).drew) (Keeps.of_below (M := []) hb1) (by simp)
         clear hb1))
  -- the log
  have Hv1 := Lib.hid (Hv.out.keep0 HM.out (Hkw.out.trans Hk1.out (by simp)))
  have HM1 : Hid (∀ g ∈ M, g < w1.heap.size) := fun g hg => Nat.lt_of_lt_of_le (HM.out g hg) (Hkw.out.trans Hk1.out (by simp)).size
  have HB1 := Lib.hid (Hk1.out.blk HB0.out (by simp))
  have Hpa : Hid (a ∉ C.p :: C.Y) := fun hm => by
    rcases List.mem_cons.1 hm with h | h
    · have h1 := Hv.out.ta; have h2 := Hv.out.tp; rw [h] at h1; omega
    · have h1 := Hv.out.ta; have h2 := (Hv.out.yM _ h).2; omega
  have Hpb : Hid (w.heap.size ∉ C.p :: C.Y) := fun hm => by
    rcases List.mem_cons.1 hm with h | h
    · have := HM.out _ Hv.out.pM; omega
    · have := HM.out _ (Hv.out.yM _ h).1; omega
  have hS2 : Hid (∀ W, Keeps (C.p :: C.Y) w1 W → W.cell? ⟨a, 2, none⟩ = some (.pointer (some ⟨C.p, 0, none⟩)) ∧ W.cell? ⟨w.heap.size, 0, none⟩ = some (.string x.ser) ∧ W.cell? ⟨w.heap.size, 1, none⟩ = some (.int .u64 x.n)) := fun W hk => by
    have h1 := hk.blk HB1.out Hpb.out
    have h2 := hk.blk Hv1.out.blk Hpa.out
    exact ⟨h2.cell 2, h1.cell 0, h1.cell 1⟩
  have hsam : Hid (∀ W, Calls Tryz.prog 61 #[.agg #[.string x.ser, .int .u64 x.n]] W fun e w' => ∃ Ar n, e = .returned (.slice Ar n n) ∧ Bs w' [] (.slice Ar n n) (recS x) ∧ Below W.heap.size W w') := fun W => (bksample_any x W hx (by omega)).mono fun e w' h => rec_post_val h
  have happ : Hid (∀ W v, Keeps [] w1 W → Bs W [] v (recS x) → Calls Tryz.prog 60 #[.pointer (some ⟨C.p, 0, none⟩), v] W fun e w' => WxPost C.p C.Y C.d A.b (recS x) A.k A.n false W e w') := fun W v hk hb => wappendx_any C.p C.Y C.d A.k A.n A.b W (Hv1.out.keep0 HM1.out hk).lg v (recS x) hb
  have Hk01 : Hid (Keeps [] w1 w1) := Keeps.refl _ _
  have hWx : Hid (∀ W e W', WxPost C.p C.Y C.d A.b (recS x) A.k A.n false W e W' → e = .returned (.int .i64 (waCode (recS x) A.b)) ∧ Keeps (C.p :: C.Y) W W' ∧ WxPost C.p C.Y C.d A.b (recS x) A.k A.n false W e W') := fun W e W' h => by
    refine ⟨h.1, ?_, h⟩
    rcases h.2 with ⟨_, Y', _, _, h3⟩ | ⟨_, h3⟩
    · exact h3
    · exact h3.mono (by simp)
  clear hmay hS
  by_cases hz : waCode (recS x) A.b = 0
  · rw [if_neg (by simpa using hz)] at hing
    have hlen := waCode0 hz
    have hse : x.ser.size ≤ 65536 := Nat.le_trans (rec_ser x) hlen.1
    have hgood : Hid (∀ W e W', WxPost C.p C.Y C.d A.b (recS x) A.k A.n false W e W' → ∃ Y', LgAt W' C.p Y' C.d (A.b ++ frameL (recS x)) A.k (A.n + 1) ∧ Grows C.Y W Y' ∧ Keeps (C.p :: C.Y) W W') := fun W e W' h => by
      rcases h.2 with ⟨_, h⟩ | ⟨h1, _⟩
      · exact h
      · exact absurd hz h1
    have Hing := Lib.hid hing
    rw [hz] at hWx
    clear hz hing hlen
    obtain ⟨i0, hi0, hz0, hz1, hz2⟩ := info_parts infoDelta2
    have Hi0 := Lib.hid hi0; have Hz0 := Lib.hid hz0; have Hz1 := Lib.hid hz1; have Hz2 := Lib.hid hz2
    clear hi0 hz0 hz1 hz2
    go_upto_region 5 with (fail)
    go_region_held3 (fun W => W.cell? ⟨a, 2, none⟩ = some (.pointer (some ⟨C.p, 0, none⟩)) ∧ W.cell? ⟨w.heap.size, 0, none⟩ = some (.string x.ser) ∧ W.cell? ⟨w.heap.size, 1, none⟩ = some (.int .u64 x.n))
      ((refine hS2.out _ ?_; first | (with_reducible exact Hk3.out) | (with_reducible exact Hk2.out.mono (by simp)) | (with_reducible exact Hk01.out.drew.mono (by simp))))
      (first
        | (go_at_call 61
           with_reducible refine (hsam.out _).mono ?_
           rintro e w2 ⟨Ar, n, rfl, hb2, hk2⟩
           have Hk2 : Hid (Keeps [] w1 w2) := Keeps.trans ((Keeps.refl [] w1).drew) (Keeps.of_below (M := []) hk2) (by simp)
           have Hb2 := Lib.hid hb2
           clear hb2 hk2)
        | (go_at_call 60
           with_reducible refine (happ.out _ _ Hk2.out Hb2.out).mono ?_
           intro e w3 hpo
           obtain ⟨rfl, hk3, hpo⟩ := hWx.out _ _ _ hpo
           have Hk3 : Hid (Keeps (C.p :: C.Y) w1 w3) := (Hk2.out.mono (by simp)).trans hk3 (fun g hg => .inl hg)
           have Hgd := Lib.hid (hgood.out _ _ _ hpo)
           clear hk3 hpo))
    obtain ⟨Y', hlg, hgr, hk23⟩ := Hgd.out
    have hv2 := Hv1.out.keep0 HM1.out Hk2.out
    have hM2 : ∀ g ∈ M, g < w2.heap.size := fun g hg => Nat.lt_of_lt_of_le (HM1.out g hg) Hk2.out.size
    obtain ⟨M3, tg3, hv3, hx3, hkp3⟩ := hv2.setLg hM2 hlg hgr hk23
    obtain ⟨hbo, vs, vc, qb, hbk⟩ := hv3.bk
    obtain ⟨As, cs, rfl, -⟩ := hbk.ds.len
    have Hbo := Lib.hid hbo
    have Hbk := Lib.hid hbk; have Hv3 := Lib.hid hv3; have Hx3 := Lib.hid hx3; have Hkp3 := Lib.hid hkp3
    have HB3 : Hid (Blk w3 w.heap.size 38 #[.string x.ser, .int .u64 x.n]) := Hk3.out.blk HB1.out Hpb.out
    obtain ⟨-, -, -, c3, -⟩ := agcells hv3
    obtain ⟨-, b1, -, -, -, -, -, -, hslt⟩ := blk8 hbk.blk
    have hc3 : w3.cell? ⟨a, 3, none⟩ = some (.pointer (some ⟨C.s, 0, none⟩)) := c3
    have hb1 : w3.cell? ⟨C.s, 1, none⟩ = some (.slice As A.bk.sa.length cs) := b1
    have hb1a : ∀ o, (w3.alloc o).cell? ⟨C.s, 1, none⟩ = some (.slice As A.bk.sa.length cs) := fun o => (World.cell?_alloc_lt _ _ _ hslt).trans hb1
    have e0 := HB3.out.cell 0; have e1 := HB3.out.cell 1
    simp only [List.getElem?_toArray, List.getElem?_cons_succ, List.getElem?_cons_zero] at e0 e1
    have hl3 := HB3.out.lt
    have hal3 : a < w3.heap.size := hv3.blk.lt
    have hroom := may_room Hno.out
    have hsa : ¬ C.s = a := fun h => by have h1 := Hv.out.ta; obtain ⟨_, _, _, _, hq⟩ := Hv.out.bk; have h2 := hq.ts; rw [h] at h2; omega
    have hsb : ¬ C.s = w.heap.size := fun h => by obtain ⟨_, _, _, _, hq⟩ := Hv.out.bk; have := HM.out _ hq.inM; omega
    have hsM3 := hbk.inM
    have hBM3 : Hid (w.heap.size ∉ M3) := fun hm => by
      rcases hx3.new _ hm with h | h
      · have := HM.out _ h; omega
      · have := Hk2.out.size; have := HB1.out.lt; omega
    have hvsa : Hid (∀ g, (Value.slice As A.bk.sa.length cs).ownBlock = some g → g ≠ a ∧ g ≠ w.heap.size) := fun g hg => by
      obtain ⟨q1, q2⟩ := Hbk.out.tsa g hg
      refine ⟨fun h => ?_, fun h => hBM3.out (h ▸ q1)⟩
      have h3 := Hv3.out.ta
      rw [← h, q2] at h3
      omega
    clear hlg hgr hk23 hv2 hv3 hx3 hkp3 hbo hbk c3 b1
    go_upto_region 8 with (fail)
    refine wp_region_held_drew (S := (fun W => W.cell? ⟨a, 3, none⟩ = some (.pointer (some ⟨C.s, 0, none⟩)) ∧ W.cell? ⟨w.heap.size, 0, none⟩ = some (.string x.ser) ∧ W.cell? ⟨w.heap.size, 1, none⟩ = some (.int .u64 x.n))) (by kernel_rfl) ⟨hc3, e0, e1⟩ (fun hHeld => ?_)
    refine wpAnyH_take (i := 0) (oi := _) (v := ?v0u1) rfl (by kernel_rfl) (by kernel_rfl) (by kernel_rfl) (fun _ _ _ h => h) (Or.inl ⟨by rfl, ?y0u1⟩) (by assumption) ?r0u1
    case y0u1 => (intro w hSw; (obtain ⟨hS0, hS1, hS2⟩ := hSw); go_simp <;> with_reducible rfl)
    try simp only [List.getElem_toArray, List.getElem_cons_succ, List.getElem_cons_zero, Act.put, List.setIfInBounds_toArray, List.set_cons_zero, List.set_cons_succ]
    refine wpAnyH_take (i := 1) (oi := _) (v := ?v1u2) rfl (by kernel_rfl) (by kernel_rfl) (by kernel_rfl) (fun _ _ _ h => h) (Or.inl ⟨by rfl, ?y1u2⟩) (by assumption) ?r1u2
    case y1u2 => (intro w hSw; (obtain ⟨hS0, hS1, hS2⟩ := hSw); go_simp <;> with_reducible rfl)
    try simp only [List.getElem_toArray, List.getElem_cons_succ, List.getElem_cons_zero, Act.put, List.setIfInBounds_toArray, List.set_cons_zero, List.set_cons_succ]
    refine wpAnyH_take (i := 2) (oi := _) (v := ?v2u3) rfl (by kernel_rfl) (by kernel_rfl) (by kernel_rfl) (fun _ _ _ h => h) (Or.inl ⟨by rfl, ?y2u3⟩) (by assumption) ?r2u3
    case y2u3 => (intro w hSw; (obtain ⟨hS0, hS1, hS2⟩ := hSw); go_simp <;> with_reducible rfl)
    try simp only [List.getElem_toArray, List.getElem_cons_succ, List.getElem_cons_zero, Act.put, List.setIfInBounds_toArray, List.set_cons_zero, List.set_cons_succ]
    refine wpAnyH_take (i := 3) (oi := _) (v := ?v3u4) rfl (by kernel_rfl) (by kernel_rfl) (by kernel_rfl) (fun _ _ _ h => h) (Or.inl ⟨by rfl, ?y3u4⟩) (by assumption) ?r3u4
    case y3u4 => (intro w hSw; (obtain ⟨hS0, hS1, hS2⟩ := hSw); go_simp <;> with_reducible rfl)
    try simp only [List.getElem_toArray, List.getElem_cons_succ, List.getElem_cons_zero, Act.put, List.setIfInBounds_toArray, List.set_cons_zero, List.set_cons_succ]
    refine wpAnyH_take (i := 4) (oi := _) (v := ?v4u5) rfl (by kernel_rfl) (by kernel_rfl) (by kernel_rfl) (fun _ _ _ h => h) (Or.inl ⟨by rfl, ?y4u5⟩) (by assumption) ?r4u5
    case y4u5 => (intro w hSw; (obtain ⟨hS0, hS1, hS2⟩ := hSw); go_simp <;> with_reducible rfl)
    try simp only [List.getElem_toArray, List.getElem_cons_succ, List.getElem_cons_zero, Act.put, List.setIfInBounds_toArray, List.set_cons_zero, List.set_cons_succ]
    refine wpAnyH_take (i := 5) (oi := _) (v := ?v5u6) rfl (by kernel_rfl) (by kernel_rfl) (by kernel_rfl) (fun _ _ _ h => h) (Or.inl ⟨by rfl, ?y5u6⟩) (by assumption) ?r5u6
    case y5u6 => (intro w hSw; (obtain ⟨hS0, hS1, hS2⟩ := hSw); go_simp <;> with_reducible rfl)
    try simp only [List.getElem_toArray, List.getElem_cons_succ, List.getElem_cons_zero, Act.put, List.setIfInBounds_toArray, List.set_cons_zero, List.set_cons_succ]
    refine wpAnyH_take (i := 6) (oi := _) (v := ?v6u7) rfl (by kernel_rfl) (by kernel_rfl) (by kernel_rfl) (fun _ _ _ h => h) (Or.inl ⟨by rfl, ?y6u7⟩) (by assumption) ?r6u7
    case y6u7 => (intro w hSw; (obtain ⟨hS0, hS1, hS2⟩ := hSw); go_simp <;> with_reducible rfl)
    try simp only [List.getElem_toArray, List.getElem_cons_succ, List.getElem_cons_zero, Act.put, List.setIfInBounds_toArray, List.set_cons_zero, List.set_cons_succ]
    refine wpAnyH_take (i := 7) (oi := _) (v := ?v7u8) rfl (by kernel_rfl) (by kernel_rfl) (by kernel_rfl) (fun _ _ _ h => h) (Or.inl ⟨by rfl, ?y7u8⟩) (by assumption) ?r7u8
    case y7u8 => (intro w hSw; (obtain ⟨hS0, hS1, hS2⟩ := hSw); go_simp <;> with_reducible rfl)
    try simp only [List.getElem_toArray, List.getElem_cons_succ, List.getElem_cons_zero, Act.put, List.setIfInBounds_toArray, List.set_cons_zero, List.set_cons_succ]
    refine wpAnyH_take (i := 8) (oi := _) (v := ?v8u9) rfl (by kernel_rfl) (by kernel_rfl) (by kernel_rfl) (fun _ _ _ h => h) (Or.inl ⟨by rfl, ?y8u9⟩) (by assumption) ?r8u9
    case y8u9 => (intro w hSw; (obtain ⟨hS0, hS1, hS2⟩ := hSw); go_simp <;> with_reducible rfl)
    try simp only [List.getElem_toArray, List.getElem_cons_succ, List.getElem_cons_zero, Act.put, List.setIfInBounds_toArray, List.set_cons_zero, List.set_cons_succ]
    refine wpAnyH_take (i := 9) (oi := _) (v := ?v9u10) rfl (by kernel_rfl) (by kernel_rfl) (by kernel_rfl) (fun _ _ _ h => h) (Or.inl ⟨by rfl, ?y9u10⟩) (by assumption) ?r9u10
    case y9u10 => (intro w hSw; (obtain ⟨hS0, hS1, hS2⟩ := hSw); go_simp <;> with_reducible rfl)
    try simp only [List.getElem_toArray, List.getElem_cons_succ, List.getElem_cons_zero, Act.put, List.setIfInBounds_toArray, List.set_cons_zero, List.set_cons_succ]
    refine wpAnyH_take (i := 11) (oi := _) (v := ?v11u11) rfl (by kernel_rfl) (by kernel_rfl) (by kernel_rfl) (fun _ _ _ h => h) (Or.inl ⟨by rfl, ?y11u11⟩) (by assumption) ?r11u11
    case y11u11 => (intro w hSw; (obtain ⟨hS0, hS1, hS2⟩ := hSw); go_simp <;> with_reducible rfl)
    try simp only [List.getElem_toArray, List.getElem_cons_succ, List.getElem_cons_zero, Act.put, List.setIfInBounds_toArray, List.set_cons_zero, List.set_cons_succ]
    refine wpAnyH_ready (rs := [10, 12]) (by kernel_rfl) (by simp) ?_
    refine AllReadyH.cons (o := _) rfl (fun K hK => ?u16) (AllReadyH.cons (o := _) rfl (fun K hK => ?u17) AllReadyH.nil)
    case' u16 =>
      go_simp
      refine hK.out _ _ ⟨hc3, e0, e1⟩ (fun hHeld2 => ?_)
      clear hK K hHeld
      have hHeld := hHeld2
      clear hHeld2
      try simp only [List.getElem_toArray, List.getElem_cons_succ, List.getElem_cons_zero, Act.put, List.setIfInBounds_toArray, List.set_cons_zero, List.set_cons_succ]
      refine wpAnyH_ready (rs := [12]) (by kernel_rfl) (by simp) ?_
      refine AllReadyH.cons (o := _) rfl (fun K hK => ?_) AllReadyH.nil
      go_simp
      refine hK.out _ _ ⟨(World.cell?_alloc_lt _ _ _ hal3).trans hc3, (World.cell?_alloc_lt _ _ _ hl3).trans e0, (World.cell?_alloc_lt _ _ _ hl3).trans e1⟩ (fun hHeld2 => ?_)
      clear hK K hHeld
      have hHeld := hHeld2
      clear hHeld2
      try simp only [List.getElem_toArray, List.getElem_cons_succ, List.getElem_cons_zero, Act.put, List.setIfInBounds_toArray, List.set_cons_zero, List.set_cons_succ]
      refine wpAnyH_ready (rs := [13]) (by kernel_rfl) (by simp) ?_
      refine AllReadyH.cons (o := _) rfl (fun K hK => ?_) AllReadyH.nil
      refine step_append_any _ rfl (.tmp 42) (.tmp 44) 31 rfl 0 38 i0 _ 2 24 Tryz.underlying31 Hi0.out Hz0.out Hz1.out Hz2.out rfl (by omega) (.slice As A.bk.sa.length cs) A.bk.sa.length (dCells A.bk.sa) (by simp [Act.eval, Act.put]) (own_below Hbk.out.sa (Keeps.below (((Keeps.refl [] w3).alloc _).drew))) (w3.heap.size + 1) (some ⟨w3.heap.size, 0, none⟩) 1 1 [.string x.ser, .int .u64 x.n] (by simp [Act.eval, Act.put]) (show Reads (w3.alloc _).drew _ _ _ _ _ from reads_new w3 _ 2 1 _ rfl) (by intro u hu; simp at hu; rcases hu with rfl | rfl <;> rfl) (by unfold maxLen; omega) (by omega) (Nat.zero_le _) ?_
      intro v4 w4 hown4 hg4 hat4
      obtain ⟨A4, c4, rfl⟩ : ∃ A4 c4, v4 = .slice A4 (A.bk.sa.length + 1) c4 := by
        obtain ⟨A4, c4, h1, _⟩ := Rd.of_own (M := []) hown4 (by simp)
        exact ⟨A4, c4, h1⟩
      have hk4 : Keeps (Value.ownBlock (.slice As A.bk.sa.length cs)).toList w3 w4 := Keeps.grown (w := (w3.alloc (.cells #[.string x.ser, .int .u64 x.n] 38)).drew) ((((Keeps.refl [] w3).alloc _).drew).mono (by simp)) hg4 (fun g hg => .inl (by simpa using hg))
      have hat5 : (Value.slice A4 (A.bk.sa.length + 1) c4).ownBlock = (Value.slice As A.bk.sa.length cs).ownBlock ∨ ∃ g, (Value.slice A4 (A.bk.sa.length + 1) c4).ownBlock = some g ∧ w3.heap.size ≤ g := by
        rcases hat4 with h | h
        · exact .inl h
        · refine .inr ⟨_, h, ?_⟩
          show w3.heap.size ≤ (w3.alloc _).heap.size
          rw [World.size_alloc]; omega
      have hB4 := hk4.blk Hbk.out.blk (fun hm => by have := (Hbk.out.tsa C.s (by simpa using hm)).2; rw [Hbk.out.ts] at this; omega)
      have g1d := (blk8 hB4).2.1
      have f1 := hB4.frozen 1
      have HS4 : Hid (w4.cell? ⟨a, 3, none⟩ = some (.pointer (some ⟨C.s, 0, none⟩)) ∧ w4.cell? ⟨w.heap.size, 0, none⟩ = some (.string x.ser) ∧ w4.cell? ⟨w.heap.size, 1, none⟩ = some (.int .u64 x.n)) := by
        have h1 := hk4.blk HB3.out (fun hm => (hvsa.out _ (by simpa using hm)).2 rfl)
        have h2 := hk4.blk Hv3.out.blk (fun hm => (hvsa.out _ (by simpa using hm)).1 rfl)
        exact ⟨h2.cell 3, h1.cell 0, h1.cell 1⟩
      have HS5 : Hid ((w4.setCell ⟨C.s, 1, none⟩ (.slice A4 (A.bk.sa.length + 1) c4)).cell? ⟨a, 3, none⟩ = some (.pointer (some ⟨C.s, 0, none⟩)) ∧ (w4.setCell ⟨C.s, 1, none⟩ (.slice A4 (A.bk.sa.length + 1) c4)).cell? ⟨w.heap.size, 0, none⟩ = some (.string x.ser) ∧ (w4.setCell ⟨C.s, 1, none⟩ (.slice A4 (A.bk.sa.length + 1) c4)).cell? ⟨w.heap.size, 1, none⟩ = some (.int .u64 x.n)) := ⟨(World.cell?_setCell_far _ _ _ _ hsa).trans HS4.out.1, (World.cell?_setCell_far _ _ _ _ hsb).trans HS4.out.2.1, (World.cell?_setCell_far _ _ _ _ hsb).trans HS4.out.2.2⟩
      have Hk4 := Lib.hid hk4; have Hat5 := Lib.hid hat5; have Hown4 := Lib.hid hown4
      clear hown4 hg4 hat4 hk4 hat5 hB4
      refine hK.out _ _ HS4.out (fun hHeld2 => ?_)
      clear hK K hHeld
      have hHeld := hHeld2
      clear hHeld2
      try simp only [List.getElem_toArray, List.getElem_cons_succ, List.getElem_cons_zero, Act.put, List.setIfInBounds_toArray, List.set_cons_zero, List.set_cons_succ]
      refine wpAnyH_take (i := 14) (oi := _) (v := ?v14u12) rfl (by kernel_rfl) (by kernel_rfl) (by kernel_rfl) (fun _ _ _ h => h) (Or.inl ⟨by rfl, ?y14u12⟩) (by assumption) ?r14u12
      case y14u12 => (intro w hSw; (obtain ⟨hS0, hS1, hS2⟩ := hSw); go_simp <;> with_reducible rfl)
      try simp only [List.getElem_toArray, List.getElem_cons_succ, List.getElem_cons_zero, Act.put, List.setIfInBounds_toArray, List.set_cons_zero, List.set_cons_succ]
      refine wpAnyH_take (i := 15) (oi := _) (v := ?v15u13) rfl (by kernel_rfl) (by kernel_rfl) (by kernel_rfl) (fun _ _ _ h => h) (Or.inl ⟨by rfl, ?y15u13⟩) (by assumption) ?r15u13
      case y15u13 => (intro w hSw; (obtain ⟨hS0, hS1, hS2⟩ := hSw); go_simp <;> with_reducible rfl)
      try simp only [List.getElem_toArray, List.getElem_cons_succ, List.getElem_cons_zero, Act.put, List.setIfInBounds_toArray, List.set_cons_zero, List.set_cons_succ]
      refine wpAnyH_ready (rs := [16]) (by kernel_rfl) (by simp) ?_
      refine AllReadyH.cons (o := _) rfl (fun K hK => ?_) AllReadyH.nil
      go_simp
      refine hK.out _ _ HS5.out (fun hHeld2 => ?_)
      clear hK K hHeld
      have hHeld := hHeld2
      clear hHeld2
      try simp only [List.getElem_toArray, List.getElem_cons_succ, List.getElem_cons_zero, Act.put, List.setIfInBounds_toArray, List.set_cons_zero, List.set_cons_succ]
      refine wpAnyH_done (by kernel_rfl) ?_ _
      clear hHeld
    case' u17 =>
      go_simp
      refine hK.out _ _ ⟨(World.cell?_alloc_lt _ _ _ hal3).trans hc3, (World.cell?_alloc_lt _ _ _ hl3).trans e0, (World.cell?_alloc_lt _ _ _ hl3).trans e1⟩ (fun hHeld2 => ?_)
      clear hK K hHeld
      have hHeld := hHeld2
      clear hHeld2
      try simp only [List.getElem_toArray, List.getElem_cons_succ, List.getElem_cons_zero, Act.put, List.setIfInBounds_toArray, List.set_cons_zero, List.set_cons_succ]
      refine wpAnyH_ready (rs := [10]) (by kernel_rfl) (by simp) ?_
      refine AllReadyH.cons (o := _) rfl (fun K hK => ?_) AllReadyH.nil
      go_simp
      refine hK.out _ _ ⟨(World.cell?_alloc_lt _ _ _ hal3).trans hc3, (World.cell?_alloc_lt _ _ _ hl3).trans e0, (World.cell?_alloc_lt _ _ _ hl3).trans e1⟩ (fun hHeld2 => ?_)
      clear hK K hHeld
      have hHeld := hHeld2
      clear hHeld2
      try simp only [List.getElem_toArray, List.getElem_cons_succ, List.getElem_cons_zero, Act.put, List.setIfInBounds_toArray, List.set_cons_zero, List.set_cons_succ]
      refine wpAnyH_ready (rs := [13]) (by kernel_rfl) (by simp) ?_
      refine AllReadyH.cons (o := _) rfl (fun K hK => ?_) AllReadyH.nil
      refine step_append_any _ rfl (.tmp 42) (.tmp 44) 31 rfl 0 38 i0 _ 2 24 Tryz.underlying31 Hi0.out Hz0.out Hz1.out Hz2.out rfl (by omega) (.slice As A.bk.sa.length cs) A.bk.sa.length (dCells A.bk.sa) (by simp [Act.eval, Act.put]) (own_below Hbk.out.sa (Keeps.below (((Keeps.refl [] w3).alloc _).drew))) (w3.heap.size + 1) (some ⟨w3.heap.size, 0, none⟩) 1 1 [.string x.ser, .int .u64 x.n] (by simp [Act.eval, Act.put]) (show Reads (w3.alloc _).drew _ _ _ _ _ from reads_new w3 _ 2 1 _ rfl) (by intro u hu; simp at hu; rcases hu with rfl | rfl <;> rfl) (by unfold maxLen; omega) (by omega) (Nat.zero_le _) ?_
      intro v4 w4 hown4 hg4 hat4
      obtain ⟨A4, c4, rfl⟩ : ∃ A4 c4, v4 = .slice A4 (A.bk.sa.length + 1) c4 := by
        obtain ⟨A4, c4, h1, _⟩ := Rd.of_own (M := []) hown4 (by simp)
        exact ⟨A4, c4, h1⟩
      have hk4 : Keeps (Value.ownBlock (.slice As A.bk.sa.length cs)).toList w3 w4 := Keeps.grown (w := (w3.alloc (.cells #[.string x.ser, .int .u64 x.n] 38)).drew) ((((Keeps.refl [] w3).alloc _).drew).mono (by simp)) hg4 (fun g hg => .inl (by simpa using hg))
      have hat5 : (Value.slice A4 (A.bk.sa.length + 1) c4).ownBlock = (Value.slice As A.bk.sa.length cs).ownBlock ∨ ∃ g, (Value.slice A4 (A.bk.sa.length + 1) c4).ownBlock = some g ∧ w3.heap.size ≤ g := by
        rcases hat4 with h | h
        · exact .inl h
        · refine .inr ⟨_, h, ?_⟩
          show w3.heap.size ≤ (w3.alloc _).heap.size
          rw [World.size_alloc]; omega
      have hB4 := hk4.blk Hbk.out.blk (fun hm => by have := (Hbk.out.tsa C.s (by simpa using hm)).2; rw [Hbk.out.ts] at this; omega)
      have g1d := (blk8 hB4).2.1
      have f1 := hB4.frozen 1
      have HS4 : Hid (w4.cell? ⟨a, 3, none⟩ = some (.pointer (some ⟨C.s, 0, none⟩)) ∧ w4.cell? ⟨w.heap.size, 0, none⟩ = some (.string x.ser) ∧ w4.cell? ⟨w.heap.size, 1, none⟩ = some (.int .u64 x.n)) := by
        have h1 := hk4.blk HB3.out (fun hm => (hvsa.out _ (by simpa using hm)).2 rfl)
        have h2 := hk4.blk Hv3.out.blk (fun hm => (hvsa.out _ (by simpa using hm)).1 rfl)
        exact ⟨h2.cell 3, h1.cell 0, h1.cell 1⟩
      have HS5 : Hid ((w4.setCell ⟨C.s, 1, none⟩ (.slice A4 (A.bk.sa.length + 1) c4)).cell? ⟨a, 3, none⟩ = some (.pointer (some ⟨C.s, 0, none⟩)) ∧ (w4.setCell ⟨C.s, 1, none⟩ (.slice A4 (A.bk.sa.length + 1) c4)).cell? ⟨w.heap.size, 0, none⟩ = some (.string x.ser) ∧ (w4.setCell ⟨C.s, 1, none⟩ (.slice A4 (A.bk.sa.length + 1) c4)).cell? ⟨w.heap.size, 1, none⟩ = some (.int .u64 x.n)) := ⟨(World.cell?_setCell_far _ _ _ _ hsa).trans HS4.out.1, (World.cell?_setCell_far _ _ _ _ hsb).trans HS4.out.2.1, (World.cell?_setCell_far _ _ _ _ hsb).trans HS4.out.2.2⟩
      have Hk4 := Lib.hid hk4; have Hat5 := Lib.hid hat5; have Hown4 := Lib.hid hown4
      clear hown4 hg4 hat4 hk4 hat5 hB4
      refine hK.out _ _ HS4.out (fun hHeld2 => ?_)
      clear hK K hHeld
      have hHeld := hHeld2
      clear hHeld2
      try simp only [List.getElem_toArray, List.getElem_cons_succ, List.getElem_cons_zero, Act.put, List.setIfInBounds_toArray, List.set_cons_zero, List.set_cons_succ]
      refine wpAnyH_take (i := 14) (oi := _) (v := ?v14u14) rfl (by kernel_rfl) (by kernel_rfl) (by kernel_rfl) (fun _ _ _ h => h) (Or.inl ⟨by rfl, ?y14u14⟩) (by assumption) ?r14u14
      case y14u14 => (intro w hSw; (obtain ⟨hS0, hS1, hS2⟩ := hSw); go_simp <;> with_reducible rfl)
      try simp only [List.getElem_toArray, List.getElem_cons_succ, List.getElem_cons_zero, Act.put, List.setIfInBounds_toArray, List.set_cons_zero, List.set_cons_succ]
      refine wpAnyH_take (i := 15) (oi := _) (v := ?v15u15) rfl (by kernel_rfl) (by kernel_rfl) (by kernel_rfl) (fun _ _ _ h => h) (Or.inl ⟨by rfl, ?y15u15⟩) (by assumption) ?r15u15
      case y15u15 => (intro w hSw; (obtain ⟨hS0, hS1, hS2⟩ := hSw); go_simp <;> with_reducible rfl)
      try simp only [List.getElem_toArray, List.getElem_cons_succ, List.getElem_cons_zero, Act.put, List.setIfInBounds_toArray, List.set_cons_zero, List.set_cons_succ]
      refine wpAnyH_ready (rs := [16]) (by kernel_rfl) (by simp) ?_
      refine AllReadyH.cons (o := _) rfl (fun K hK => ?_) AllReadyH.nil
      go_simp
      refine hK.out _ _ HS5.out (fun hHeld2 => ?_)
      clear hK K hHeld
      have hHeld := hHeld2
      clear hHeld2
      try simp only [List.getElem_toArray, List.getElem_cons_succ, List.getElem_cons_zero, Act.put, List.setIfInBounds_toArray, List.set_cons_zero, List.set_cons_succ]
      refine wpAnyH_done (by kernel_rfl) ?_ _
      clear hHeld
    all_goals
      have hP : Hid (AaPost M tg a d (agIng A x).2 (.int .i64 (agIng A x).1) w (.returned (.int .i64 0)) (w4.setCell ⟨C.s, 1, none⟩ (.slice A4 (A.bk.sa.length + 1) c4))) := by
        obtain ⟨M5, tg5, hv5, hx5, hk5⟩ := Hbk.out.setSa (sa' := A.bk.sa ++ [x]) Hx3.out.lt Hk4.out (by rw [List.length_append]; unfold dCells; rw [List.flatMap_append]; exact Hown4.out) Hat5.out
        have hok := sa_ok Hbo.out (x := x) ⟨hx, hse⟩ Hno.out
        have hag := Hv3.out.rest hx5 hk5 (by simp) ⟨hok, _, _, _, hv5⟩
        rw [Hing.out]
        have hkw2 : Keeps [] w w2 := (Hkw.out.trans Hk1.out (by simp)).trans Hk2.out (by simp)
        have hx23 : Ext w M tg w3 M3 tg3 := (Ext.refl (w' := w2) HM.out hkw2.size).trans Hx3.out hkw2.size
        refine ⟨rfl, M5, tg5, ⟨?_, { C with Y := Y' }, HC.out, hag⟩, hx23.trans hx5 (Nat.le_trans hkw2.size Hkp3.out.size), ?_⟩
        · obtain ⟨p1, p2, p3, p4, p5, p6, p7, p8⟩ := Ho.out
          exact ⟨p1, p2, p3, p4, p5, p6, by show A.bk.cuts.length ≤ A.n + 1; omega, p8⟩
        · exact Ext.keeps hx23 ((hkw2.to_sel (by simp)).trans (Hkp3.out.sel_mono (T' := List.range 30) (by simp)) (fun g hg => .inl hg)) (hk5.sel_mono (by simp))
      go_wp2
      go_ret
      exact hP.out
  · rw [if_pos hz] at hing
    have hP : Hid (∀ W, Keeps [] w W → AaPost M tg a d (agIng A x).2 (.int .i64 (agIng A x).1) w (.returned (.int .i64 (waCode (recS x) A.b))) W) := fun W hk => by rw [hing]; exact aa_same HA.out HM.out hk _
    have hne : (waCode (recS x) A.b != 0) = true := by simpa using hz
    have hkk : Hid (∀ W e W', WxPost C.p C.Y C.d A.b (recS x) A.k A.n false W e W' → Keeps [] W W') := fun W e W' h => by
      rcases h.2 with ⟨h1, _⟩ | ⟨_, h3⟩
      · exact absurd h1 hz
      · exact h3
    clear hing hz
    generalize waCode (recS x) A.b = c at *
    go_upto_region 5 with (fail)
    go_region_held3 (fun W => W.cell? ⟨a, 2, none⟩ = some (.pointer (some ⟨C.p, 0, none⟩)) ∧ W.cell? ⟨w.heap.size, 0, none⟩ = some (.string x.ser) ∧ W.cell? ⟨w.heap.size, 1, none⟩ = some (.int .u64 x.n))
      ((refine hS2.out _ ?_; first | (with_reducible exact Hk3.out) | (with_reducible exact Hk2.out.mono (by simp)) | (with_reducible exact Hk01.out.drew.mono (by simp))))
      (first
        | (go_at_call 61
           with_reducible refine (hsam.out _).mono ?_
           rintro e w2 ⟨Ar, n, rfl, hb2, hk2⟩
           have Hk2 : Hid (Keeps [] w1 w2) := Keeps.trans ((Keeps.refl [] w1).drew) (Keeps.of_below (M := []) hk2) (by simp)
           have Hb2 := Lib.hid hb2
           clear hb2 hk2)
        | (go_at_call 60
           with_reducible refine (happ.out _ _ Hk2.out Hb2.out).mono ?_
           intro e w3 hpo
           obtain ⟨rfl, hk3, hpo⟩ := hWx.out _ _ _ hpo
           have Hk3 : Hid (Keeps (C.p :: C.Y) w1 w3) := (Hk2.out.mono (by simp)).trans hk3 (fun g hg => .inl hg)
           have Hk30 : Hid (Keeps [] w w3) := ((Hkw.out.trans Hk1.out (by simp)).trans Hk2.out (by simp)).trans (hkk.out _ _ _ hpo) (by simp)
           clear hk3 hpo))
    have hPP := Lib.hid (hP.out _ Hk30.out)
    clear hP
    go_wp2
    go_ret
    exact hPP.out
theorem aging_any (h : AgAt w M tg a d A) (hM : ∀ g ∈ M, g < w.heap.size) (x : DeltaD) (hx : NOk x) (hs : x.ser.size < 4294967281) (m : Int) (hm : w.cell? ⟨0, 0, none⟩ = some (.int .i64 m)) :
  Calls Tryz.prog 18 #[.pointer (some ⟨a, 0, none⟩), .string x.ser, .int .u64 x.n] w fun e w' => AaPost M tg a d (agIng A x).2 (.int .i64 (agIng A x).1) w e w' := by
 by_cases hno : mayB A.bk x = 0
 ·exact aging_yes h hM x hx hs m hm hno
 ·have : agIng A x = (mayB A.bk x, A) := by unfold agIng; rw [if_pos hno]
  rw [this]
  exact aging_no h hM x hx hs m hm hno
end
section
variable {w w' : World} {M M' : List Nat} {tg tg' : Nat → Nat} {a d : Nat} {A : AgD} {C : AgC} {T : List Nat}
theorem wx_keep {p : Nat} {Y : List Nat} {dd : Nat} {b l : List UInt8} {k n : Nat} {sy : Bool} {e : Ending} (h : WxPost p Y dd b l k n sy w e w') : Keeps (p :: Y) w w' := by
 rcases h.2 with ⟨_, Y', _, _, h3⟩ | ⟨_, h3⟩
 ·exact h3
 ·exact h3.mono (by simp)
theorem AgV.apart (h : AgV w M tg a A C) : a ∉ C.p :: C.Y := fun hm => by
 rcases List.mem_cons.1 hm with h1 | h1
 ·have h2 := h.ta; have h3 := h.tp; rw [h1] at h2; omega
 ·have h2 := h.ta; have h3 := (h.yM _ h1).2; omega
theorem AgV.inP (h : AgV w M tg a A C) : ∀ g ∈ C.p :: C.Y, g ∈ M := fun g hg => by
 rcases List.mem_cons.1 hg with rfl | hg
 ·exact h.pM
 ·exact (h.yM g hg).1
end
def findB (seq : Int) (l : List BatD) : List DeltaD := match l.find? (fun b => b.seq == seq) with | some b => b.ds | none => []
def agBatch (A : AgD) (ag sh seq : Int) : List DeltaD := if ag ≠ A.node ∨ sh < 0 ∨ 4 ≤ sh then [] else findB seq (A.bk.q sh.toNat).l
def DsPost (ds : List DeltaD) (w : World) (e : Ending) (w' : World) : Prop := ∃ A n c, e = .returned (.slice A n c) ∧ (∀ L, (∀ g ∈ L, g < w.heap.size) → Ds w' L (.slice A n c) ds) ∧ Below w.heap.size w w'
theorem findB_none {seq : Int} {l : List BatD} (h : ∀ b ∈ l, (b.seq == seq) = false) : findB seq l = [] := by
 unfold findB
 rw [List.find?_eq_none.2 (by simpa using h)]
theorem findB_some {seq : Int} {l : List BatD} {k : Nat} (hk : k < l.length) (h : ∀ j, (hj : j < l.length) → j < k → (l[j].seq == seq) = false) (hs : (l[k].seq == seq) = true) : findB seq l = l[k].ds := by
 have : l.find? (fun b => b.seq == seq) = some l[k] := by
  rw [List.find?_eq_some_iff_getElem]
  exact ⟨hs, k, hk, rfl, fun j hj => by simpa using h j (by omega) hj⟩
 unfold findB
 rw [this]
section
variable {w w' : World} {M M' : List Nat} {tg tg' : Nat → Nat} {a d : Nat} {A : AgD} {C : AgC} {T : List Nat}
set_option maxRecDepth 100000 in
set_option maxHeartbeats 1000000 in
theorem agbatch_any (h : AgAt w M tg a d A) (hM : ∀ g ∈ M, g < w.heap.size) (ag sh seq : Int) :
    Calls Tryz.prog 30 #[.pointer (some ⟨a, 0, none⟩), .agg #[.int .i64 ag, .int .i64 sh, .int .i64 seq]] w fun e w' => DsPost (agBatch A ag sh seq) w e w' := by
  have HM := Lib.hid hM
  obtain ⟨ho, C, -, hv⟩ := h
  obtain ⟨w0, hw0'⟩ : ∃ w0, w0 = w.alloc (.cells #[.int .i64 ag, .int .i64 sh, .int .i64 seq] 30) := ⟨_, rfl⟩
  have hk0 : Keeps [] w w0 := by rw [hw0']; exact (Keeps.refl _ _).alloc _
  have hB0 : Blk w0 w.heap.size 30 #[.int .i64 ag, .int .i64 sh, .int .i64 seq] := by rw [hw0']; exact Blk.new w _ _
  have hv0 := hv.keep0 hM hk0
  obtain ⟨c0, -, -, c3, -⟩ := agcells hv0
  have e0 := hB0.cell 0; have e1 := hB0.cell 1; have e2 := hB0.cell 2
  simp only [List.getElem?_toArray, List.getElem?_cons_succ, List.getElem?_cons_zero] at e0 e1 e2
  have Hk0 := Lib.hid hk0; have Hv0 := Lib.hid hv0; have HB0 := Lib.hid hB0
  have hbt : agBatch A ag sh seq = if ag ≠ A.node ∨ sh < 0 ∨ 4 ≤ sh then [] else findB seq (A.bk.q sh.toNat).l := rfl
  clear hB0 hv hk0 hv0
  by_cases hr : ag ≠ A.node ∨ sh < 0 ∨ 4 ≤ sh
  · rw [if_pos hr] at hbt
    have hP : Hid (∀ n, DsPost (agBatch A ag sh seq) w (.returned (.slice none 0 0)) (w0.drewN n)) := fun n => by
      rw [hbt]
      exact ⟨none, 0, 0, rfl, fun L _ => Ds.nil _ _, (Hk0.out.drewN n).below⟩
    clear hbt
    by_cases h1 : ag = A.node
    · have d1 : (ag != A.node) = false := by simpa using h1
      by_cases h2 : sh < 0
      · have d2 : decide (sh < 0) = true := decide_eq_true h2
        clear hr
        subst h1
        go_enter Tryz.func30, Tryz.ntmps30
        go_upto_region 1 with (fail)
        rw [← hw0']
        clear hw0'
        go_quiet (fail)
        go_wp2
        go_ret
        exact hP.out _
      · have d2 : decide (sh < 0) = false := decide_eq_false h2
        have d3 : decide (4 ≤ sh) = true := decide_eq_true (by omega)
        clear hr
        subst h1
        go_enter Tryz.func30, Tryz.ntmps30
        go_upto_region 1 with (fail)
        rw [← hw0']
        clear hw0'
        go_quiet (fail)
        go_wp2
        go_ret
        exact hP.out _
    · have d1 : (ag != A.node) = true := by simpa using h1
      clear hr
      go_enter Tryz.func30, Tryz.ntmps30
      go_upto_region 1 with (fail)
      rw [← hw0']
      clear hw0'
      go_quiet (fail)
      go_wp2
      go_ret
      exact hP.out _
  · rw [if_neg hr] at hbt
    have d2 : decide (sh < 0) = false := decide_eq_false (by omega)
    have d3 : decide (4 ≤ sh) = false := decide_eq_false (by omega)
    obtain ⟨q, hq⟩ : ∃ q : Nat, sh = q := ⟨sh.toNat, by omega⟩
    obtain rfl : ag = A.node := by omega
    have d1 : (A.node != A.node) = false := by simp
    subst hq
    rw [Int.toNat_natCast] at hbt
    have hq4 : q < 4 := by omega
    obtain ⟨hbo, vs, vc, qb, hbk⟩ := Hv0.out.bk
    have hqc := hbk.qCell hq4
    have hqat := hbk.q q hq4
    have hM0 : ∀ g ∈ M, g < w0.heap.size := fun g hg => Nat.lt_of_lt_of_le (HM.out g hg) Hk0.out.size
    have hall : Hid (∀ W, Keeps [] w0 W → Calls Tryz.prog 70 #[.pointer (some ⟨qb q, 0, none⟩)] W fun e w' => ∃ Ar, e = .returned (.slice Ar (A.bk.q q).l.length (A.bk.q q).l.length) ∧ (∀ L, (∀ g ∈ L, g < W.heap.size) → Bats w' L (.slice Ar (A.bk.q q).l.length (A.bk.q q).l.length) (A.bk.q q).l) ∧ Below W.heap.size W w') := fun W hk => qall_any (hqat.keep0 hM0 hk)
    have hS : Hid (∀ W, Keeps [] w0 W → W.cell? ⟨a, 3, none⟩ = some (.pointer (some ⟨C.s, 0, none⟩)) ∧ W.cell? ⟨w.heap.size, 1, none⟩ = some (.int .i64 q) ∧ W.cell? ⟨C.s, 3 + q, none⟩ = some (.pointer (some ⟨qb q, 0, none⟩))) := fun W hk => by
      have h1 := hk.blk HB0.out (by simp)
      have h2 := hbk.keep0 hM0 hk
      have h3 := agcells (Hv0.out.keep0 hM0 hk)
      exact ⟨h3.2.2.2.1, h1.cell 1, h2.qCell hq4⟩
    have hl16 := (hqat.1).1
    have Hbt := Lib.hid hbt
    have hqi : (q : Int) < 4 := by omega
    have hq0 : (0 : Int) ≤ (q : Int) := by omega
    clear hr hbo hbk hqat hM0 hbt hqc
    generalize (A.bk.q q).l = l at *
    go_enter Tryz.func30, Tryz.ntmps30
    go_upto_region 1 with (fail)
    rw [← hw0']
    clear hw0'
    go_quiet (fail)
    go_upto_region 3 with (fail)
    obtain ⟨wq, hwq⟩ : ∃ wq, wq = w0.drewN nq := ⟨_, rfl⟩
    have Hkq : Hid (Keeps [] w0 wq) := by rw [hwq]; exact (Keeps.refl _ _).drewN _
    rw [← hwq]
    clear hwq c0 c3 e0 e1 e2
    go_region_held3 (fun W => W.cell? ⟨a, 3, none⟩ = some (.pointer (some ⟨C.s, 0, none⟩)) ∧ W.cell? ⟨w.heap.size, 1, none⟩ = some (.int .i64 q) ∧ W.cell? ⟨C.s, 3 + q, none⟩ = some (.pointer (some ⟨qb q, 0, none⟩)))
      ((refine hS.out _ ?_; first | (with_reducible exact Hk1.out) | (with_reducible exact Hkq.out.drew)))
      (first
        | (go_at_call 70
           with_reducible refine (hall.out _ Hkq.out.drew).mono ?_
           rintro e w1 ⟨Ar, rfl, hbs, hb1⟩
           have Hk1 : Hid (Keeps [] w0 w1) := (Hkq.out.drew).trans (Keeps.of_below (M := []) hb1) (by simp)
           have Hbs : Hid (∀ L, (∀ g ∈ L, g < w0.heap.size) → Bats w1 L (.slice Ar l.length l.length) l) := fun L hL => hbs L (fun g hg => Nat.lt_of_lt_of_le (hL g hg) Hkq.out.size)
           clear hb1 hbs))
    have hB1 : Hid (Blk w1 w.heap.size 30 #[.int .i64 A.node, .int .i64 q, .int .i64 seq]) := Hk1.out.blk HB0.out (by simp)
    go_wp2_with fail
    go_loopw [36] (fun i wr => ∃ k : Nat, i = .int .i64 k ∧ k ≤ l.length ∧ Hid (∀ j, (hj : j < l.length) → j < k → (l[j].seq == seq) = false) ∧ Hid (Keeps [] w1 wr)) (fun i _ => l.length - (intOf i).toNat)
    case atStart => exact ⟨0, rfl, by omega, (show ∀ _, _ from by intro j hj h; omega), Keeps.refl _ _⟩
    case round =>
      obtain ⟨k, rfl, hk, Hno, Hkr⟩ := hrel
      by_cases hlt : k < l.length
      · have hx1 : (k : Int) < (l.length : Int) := by omega
        have hbw : ∀ L, (∀ g ∈ L, g < w0.heap.size) → Bats wr L (.slice Ar l.length l.length) l := fun L hL => (Hbs.out L hL).keep Hkr.out (by simp)
        obtain ⟨qs, hqs, hr, hd⟩ := hbw []  (by simp)
        have hql : qs.length = l.length := by rw [← hqs, List.length_map]
        obtain ⟨g, off, cap, e, _, hg, _, hx⟩ := Rd.at_ bCell 2 (fun _ => rfl) hr (k := k) (by omega)
        obtain rfl : Ar = some ⟨g, off, none⟩ := by injection e
        have p0 := hx 0 _ rfl
        have p1 := hx 1 _ rfl
        rw [Nat.add_zero] at p0
        have hqe : qs[k].1 = l[k] := by subst hqs; simp
        have hdk : ∀ L, (∀ g ∈ L, g < w0.heap.size) → Ds wr L qs[k].2 l[k].ds := fun L hL => by
          obtain ⟨qs2, hqs2, hr2, hd2⟩ := hbw L hL
          have hql2 : qs2.length = l.length := by rw [← hqs2, List.length_map]
          obtain ⟨g2, off2, cap2, e2, _, _, _, hx2⟩ := Rd.at_ bCell 2 (fun _ => rfl) hr2 (k := k) (by omega)
          injection e2 with e2 _ _
          injection e2 with e2
          injection e2 with e3 e4 _
          subst e3 e4
          have q1 := hx2 1 _ rfl
          rw [p1] at q1
          injection q1 with q1
          rw [q1]
          have := hd2 qs2[k] (List.getElem_mem _)
          have hqe2 : qs2[k].1 = l[k] := by subst hqs2; simp
          rw [hqe2] at this
          exact this
        rw [hqe] at p0
        obtain ⟨Ad, cd, hdv, _⟩ := (hdk [] (by simp)).len
        rw [hdv] at p1 hdk
        have Hdk := Lib.hid hdk
        have hb1r := Lib.hid (Hkr.out.blk hB1.out (by simp))
        have b2 := hb1r.out.cell 2
        simp only [List.getElem?_toArray, List.getElem?_cons_succ, List.getElem?_cons_zero] at b2
        have hwl := hb1r.out.lt
        have b2a : ∀ o, (wr.alloc o).cell? ⟨w.heap.size, 2, none⟩ = some (.int .i64 seq) := fun o => (World.cell?_alloc_lt _ _ _ hwl).trans b2
        have HkA : Hid (∀ o, Keeps [] w0 (wr.alloc o)) := fun o => (Hk1.out.trans Hkr.out (by simp)).alloc o
        have hfs := fun hs => findB_some hlt Hno.out (seq := seq) hs
        have Hfs := Lib.hid hfs
        have Hno2 : Hid ((l[k].seq == seq) = false → ∀ j, (hj : j < l.length) → j < k + 1 → (l[j].seq == seq) = false) := fun h j hj hjk => by
          rcases Nat.lt_or_ge j k with h1 | h1
          · exact Hno.out j hj h1
          · obtain rfl : j = k := by omega
            exact h
        clear hbw hqs hr hd hx hqe hdk hdv hql e hfs
        generalize l[k] = bk at *
        by_cases hse : bk.seq = seq
        · have ds1 : (bk.seq == seq) = true := by simpa using hse
          have hP : Hid (DsPost (agBatch A A.node q seq) w (.returned (.slice Ad bk.ds.length cd)) (wr.alloc (.cells #[.int .i64 bk.seq, .slice Ad bk.ds.length cd] 136))) := by
            rw [Hbt.out, Hfs.out ds1]
            refine ⟨Ad, _, cd, rfl, fun L hL => (Hdk.out L (fun g hg => Nat.lt_of_lt_of_le (hL g hg) Hk0.out.size)).keep ((Keeps.refl [] _).alloc _) (by simp), (Hk0.out.trans (HkA.out _) (by simp)).below⟩
          clear hse
          go_wp2_with fail
          go_ret
          exact hP.out
        · have ds1 : (bk.seq == seq) = false := by simpa using hse
          have Hno3 := Lib.hid (Hno2.out ds1)
          have HkA2 : Hid (Keeps [] w1 (wr.alloc (.cells #[.int .i64 bk.seq, .slice Ad bk.ds.length cd] 136))) := Hkr.out.alloc _
          clear hse Hno2
          go_wp2_with fail
          go_roundw
          case rel => exact ⟨k + 1, by go_num, by omega, Hno3, HkA2⟩
          case measure => simp [intOf]; omega
      · have hx1 : decide ((k : Int) < (l.length : Int)) = false := decide_eq_false (by omega)
        have hP : Hid (DsPost (agBatch A A.node q seq) w (.returned (.slice none 0 0)) wr) := by
          rw [Hbt.out, findB_none (fun b hb => by
            obtain ⟨j, hj, rfl⟩ := List.getElem_of_mem hb
            exact Hno.out j hj (by omega))]
          exact ⟨none, 0, 0, rfl, fun L _ => Ds.nil _ _, (Hk0.out.trans (Hk1.out.trans Hkr.out (by simp)) (by simp)).below⟩
        go_wp2_with fail
        go_ret
        exact hP.out
end
def idCell (p : Int × Int × Int) : List Value := [.int .i64 p.1, .int .i64 p.2.1, .int .i64 p.2.2]
def quIds (node : Int) (q : Nat → QuD) (k : Nat) : List (Int × Int × Int) := (q k).l.map fun b => (node, (k : Int), b.seq)
def agQueued (A : AgD) : List (Int × Int × Int) := (List.range 4).flatMap (quIds A.node A.bk.q)
def IdPost (l : List (Int × Int × Int)) (w : World) (e : Ending) (w' : World) : Prop := ∃ v, e = .returned v ∧ w'.ownsRow w.heap.size 30 3 v l.length (l.flatMap idCell) ∧ Below w.heap.size w w'
theorem run_qix (p0 p1 p2 p3 : Value) (w : World) : (Instr.index 120 (.agg #[p0, p1, p2, p3]) (.int .i64 0)).run Tryz.prog w = .ok p0 w ∧ (Instr.index 120 (.agg #[p0, p1, p2, p3]) (.int .i64 1)).run Tryz.prog w = .ok p1 w ∧ (Instr.index 120 (.agg #[p0, p1, p2, p3]) (.int .i64 2)).run Tryz.prog w = .ok p2 w ∧ (Instr.index 120 (.agg #[p0, p1, p2, p3]) (.int .i64 3)).run Tryz.prog w = .ok p3 w := by
 have h1 : Tryz.prog.underlying 120 = some (.array 4 119) := by kernel_rfl
 have h2 : ∀ w : World, (sizeOf 119).run Tryz.prog w = .ok 1 w := fun w => by kernel_rfl
 refine ⟨?_, ?_, ?_, ?_⟩ <;> kernel_rfl
theorem run_qixk (f : Nat → Value) (k : Nat) (hk : k < 4) (w : World) : (Instr.index 120 (.agg #[f 0, f 1, f 2, f 3]) (.int .i64 k)).run Tryz.prog w = .ok (f k) w := by
 obtain ⟨a0, a1, a2, a3⟩ := run_qix (f 0) (f 1) (f 2) (f 3) w
 rcases (show k = 0 ∨ k = 1 ∨ k = 2 ∨ k = 3 by omega) with rfl | rfl | rfl | rfl
 ·exact a0
 ·exact a1
 ·exact a2
 ·exact a3
section
variable {w w' : World} {M M' : List Nat} {tg tg' : Nat → Nat} {a d : Nat} {A : AgD} {C : AgC} {T : List Nat}
set_option maxRecDepth 100000 in
set_option maxHeartbeats 1000000 in
theorem agqueued_any (h : AgAt w M tg a d A) (hM : ∀ g ∈ M, g < w.heap.size) :
    Calls Tryz.prog 25 #[.pointer (some ⟨a, 0, none⟩)] w fun e w' => IdPost (agQueued A) w e w' := by
  have HM := Lib.hid hM
  obtain ⟨ho, C, -, hv⟩ := h
  obtain ⟨c0, -, -, c3, -⟩ := agcells hv
  obtain ⟨hbo, vs, vc, qb, hbk⟩ := hv.bk
  obtain ⟨-, -, -, q0, q1, q2, q3, -, hslt⟩ := blk8 hbk.blk
  have Hv := Lib.hid hv; have Hbk := Lib.hid hbk
  obtain ⟨i0, hi0, hz0, hz1, hz2⟩ := info_parts infoId2
  have Hi0 := Lib.hid hi0; have Hz0 := Lib.hid hz0; have Hz1 := Lib.hid hz1; have Hz2 := Lib.hid hz2
  clear hv hbk hbo hi0 hz0 hz1 hz2
  go_enter Tryz.func25, Tryz.ntmps25
  go_wp2_with fail
  go_loopw [3, 15] (fun out i wr => ∃ (k : Nat) (acc : List (Int × Int × Int)), i = .int .i64 k ∧ k ≤ 4 ∧ acc.length ≤ 16 * k ∧ Hid (acc = (List.range k).flatMap (quIds A.node A.bk.q)) ∧ Hid (wr.ownsRow w.heap.size 30 3 out acc.length (acc.flatMap idCell)) ∧ Hid (Below w.heap.size w wr)) (fun _ i _ => 4 - (intOf i).toNat)
  case atStart => exact ⟨0, [], rfl, by omega, by simp, rfl, World.ownsRow_nil _ _ _ _, Below.refl _ _⟩
  case round =>
    obtain ⟨k, acc, rfl, hk, hal, Hacc, Hown, Hb⟩ := hrel
    by_cases hlt : k < 4
    · have hx1 : (k : Int) < 4 := by omega
      have hM0 : ∀ g ∈ M, g < wr.heap.size := fun g hg => Nat.lt_of_lt_of_le (HM.out g hg) Hb.out.size
      have hkr : Keeps [] w wr := Keeps.of_below Hb.out
      have hix := run_qixk (fun j => .pointer (some ⟨qb j, 0, none⟩)) k hlt wr
      have hqk := (Hbk.out.q k hlt).keep0 HM.out hkr
      have hall := Lib.hid (qall_any hqk)
      have hl16 := hqk.1.1
      have Hsn : Hid ((List.range (k + 1)).flatMap (quIds A.node A.bk.q) = acc ++ (A.bk.q k).l.map fun b => (A.node, (k : Int), b.seq)) := by
        show _ = _
        rw [Hacc.out, List.range_succ, List.flatMap_append]
        simp [quIds]
      clear hqk hM0 Hacc
      generalize (A.bk.q k).l = l at *
      go_wp2_with fail
      refine hall.out.mono ?_
      rintro e w1 ⟨Ar, rfl, hbs, hb1⟩
      have Hbs := Lib.hid hbs
      have Hb1 : Hid (Below w.heap.size w w1) := Hb.out.trans (hb1.mono Hb.out.size)
      have Hown1 := Lib.hid (own_below Hown.out hb1)
      have hwr := Lib.hid hb1.size
      clear hbs hb1 hall hkr
      go_wp2_with fail
      go_loopw [3, 22] (fun out i wr2 => ∃ (j : Nat) (acc2 : List (Int × Int × Int)), i = .int .i64 j ∧ j ≤ l.length ∧ acc2.length = acc.length + j ∧ Hid (acc2 = acc ++ (l.take j).map fun b => (A.node, (k : Int), b.seq)) ∧ Hid (wr2.ownsRow w.heap.size 30 3 out acc2.length (acc2.flatMap idCell)) ∧ Hid (Below w.heap.size w wr2) ∧ Hid (Bats wr2 out.ownBlock.toList (.slice Ar l.length l.length) l)) (fun _ i _ => l.length - (intOf i).toNat)
      case atStart => exact ⟨0, acc, rfl, by omega, by simp, (by show _ = _; simp), Hown1.out, Hb1.out, Hbs.out _ (fun g hg => (Hown.out.lt g (by simpa using hg)).2)⟩
      case round =>
        obtain ⟨j, acc2, rfl, hj, hal2, Hacc2, Hown2, Hb2, Hbs2⟩ := hrel
        by_cases hjl : j < l.length
        · have hx2 : (j : Int) < (l.length : Int) := by omega
          obtain ⟨qs, hqs, hr, hd⟩ := Hbs2.out
          have hql : qs.length = l.length := by rw [← hqs, List.length_map]
          obtain ⟨g, off, cap, e, _, hg, hgM, hx⟩ := Rd.at_ bCell 2 (fun _ => rfl) hr (k := j) (by omega)
          obtain rfl : Ar = some ⟨g, off, none⟩ := by injection e
          have p0 := hx 0 _ rfl
          have p1 := hx 1 _ rfl
          rw [Nat.add_zero] at p0
          have hqe : qs[j].1 = l[j] := by subst hqs; simp
          rw [hqe] at p0
          have hdj := hd qs[j] (List.getElem_mem _)
          obtain ⟨Ad, cd, hdv, _⟩ := hdj.len
          rw [hdv] at p1
          have Htk : Hid (l.take (j + 1) = l.take j ++ [l[j]]) := by show _ = _; rw [List.take_succ_eq_append_getElem hjl]
          clear hdj
          generalize qs[j].1.ds.length = nds at *
          clear hqs hr hd hx hqe hdv hql e hgM hg
          generalize l[j] = bj at *
          obtain ⟨w5, hw5⟩ : ∃ w5, w5 = wr.alloc (.cells #[.int .i64 bj.seq, .slice Ad nds cd] 136) := ⟨_, rfl⟩
          have hB5 : Blk w5 wr.heap.size 136 #[.int .i64 bj.seq, .slice Ad nds cd] := by rw [hw5]; exact Blk.new wr _ _
          have hka5 : Keeps [] wr w5 := by rw [hw5]; exact (Keeps.refl _ _).alloc _
          have Hka5 := Lib.hid hka5
          have Hown5 : Hid (w5.ownsRow w.heap.size 30 3 u3 acc2.length (acc2.flatMap idCell)) := own_below Hown2.out hka5.below
          have hkw5 : Keeps [] w w5 := (Keeps.of_below (M := []) Hb2.out).trans hka5 (by simp)
          have Hkw5 := Lib.hid hkw5
          have n0 : w5.cell? ⟨a, 0, none⟩ = some (.int .i64 A.node) := (agcells (Hv.out.keep0 HM.out hkw5)).1
          have s0 := hB5.cell 0
          simp only [List.getElem?_toArray, List.getElem?_cons_zero] at s0
          have hl5 := hB5.lt
          have hal5 : a < w5.heap.size := (Hv.out.keep0 HM.out hkw5).blk.lt
          clear hB5 hka5 hkw5
          go_upto_region 8 with (fail)
          rw [← hw5]
          have Hgb : Hid (∀ g, u3.ownBlock = some g → g ≠ wr.heap.size) := fun g hg => Nat.ne_of_lt (Hown2.out.lt g hg).2
          clear hw5 p0 p1
          generalize wr.heap.size = gb at *
          go_region_held3 (fun W => W.cell? ⟨a, 0, none⟩ = some (.int .i64 A.node) ∧ W.cell? ⟨gb, 0, none⟩ = some (.int .i64 bj.seq))
            (first | exact ⟨n0, s0⟩ | exact ⟨(World.cell?_alloc_lt _ _ _ hal5).trans n0, (World.cell?_alloc_lt _ _ _ hl5).trans s0⟩ | exact HS4.out)
            (first
              | (refine step_append_any _ rfl (.tmp 26) (.tmp 35) 53 rfl w.heap.size 30 i0 _ 3 24 Tryz.underlying53 Hi0.out Hz0.out Hz1.out Hz2.out rfl (by omega) u3 acc2.length (acc2.flatMap idCell) (by simp [Act.eval, Act.put]) (own_below Hown5.out (Keeps.below (((Keeps.refl [] w5).alloc _).drew))) (w5.heap.size + 1) (some ⟨w5.heap.size, 0, none⟩) 1 1 [.int .i64 A.node, .int .i64 k, .int .i64 bj.seq] (by simp [Act.eval, Act.put]) (show Reads (w5.alloc _).drew _ _ _ _ _ from reads_new w5 _ 3 1 _ rfl) (by intro u hu; simp at hu; rcases hu with rfl | rfl | rfl <;> rfl) (by unfold maxLen; omega) (by omega) (by show w.heap.size ≤ (w5.alloc _).heap.size; have := Hkw5.out.size; rw [World.size_alloc]; omega) ?_
                 intro v4 w4 hown4 hg4 hat4
                 have hk4 : Keeps u3.ownBlock.toList w5 w4 := Keeps.grown (w := (w5.alloc (.cells #[.int .i64 A.node, .int .i64 k, .int .i64 bj.seq] 30)).drew) ((((Keeps.refl [] w5).alloc _).drew).mono (by simp)) hg4 (fun g hg => .inl (by simpa using hg))
                 have hlt4 := Hown5.out.lt
                 have HS4 : Hid (w4.cell? ⟨a, 0, none⟩ = some (.int .i64 A.node) ∧ w4.cell? ⟨gb, 0, none⟩ = some (.int .i64 bj.seq)) := by
                   have haw := Hv.out.blk.lt
                   refine ⟨(hk4.cell (p := ⟨a, 0, none⟩) hal5 (fun hm => ?_)).trans n0, (hk4.cell (p := ⟨gb, 0, none⟩) hl5 (fun hm => ?_)).trans s0⟩
                   · have := (hlt4 a (by simpa using hm)).1; omega
                   · exact Hgb.out _ (by simpa using hm) rfl
                 have Hk4 := Lib.hid hk4; have Hown4 := Lib.hid hown4; have Hat4 := Lib.hid hat4
                 clear hown4 hg4 hat4 hk4 hlt4))
          have Hbs4 : Hid (Bats w4 v4.ownBlock.toList (.slice (some ⟨g, off, none⟩) l.length l.length) l) := by
            have h1 := Hbs2.out.keep Hka5.out (by simp)
            have h2 := h1.avoid (M' := v4.ownBlock.toList ++ u3.ownBlock.toList) (fun x hx => by
              rcases List.mem_append.1 hx with h | h
              · rcases Hat4.out with h9 | h9
                · rw [h9] at h; exact .inl h
                · rw [h9] at h
                  have h8 : x = (w5.alloc (.cells #[.int .i64 A.node, .int .i64 k, .int .i64 bj.seq] 30)).heap.size := by simpa using h
                  refine .inr ?_
                  rw [h8, World.size_alloc]; omega
              · exact .inl h)
            exact (h2.keep Hk4.out (fun x hx => .inl (List.mem_append_right _ hx))).avoid (fun x hx => .inl (List.mem_append_left _ hx))
          have Hb4 : Hid (Below w.heap.size w w4) := (Hkw5.out.below).trans (Hk4.out.belowB Hkw5.out.size (fun x hx => (Hown5.out.lt x (by simpa using hx)).1))
          have Hacc4 : Hid (acc2 ++ [(A.node, (k : Int), bj.seq)] = acc ++ (l.take (j + 1)).map fun b => (A.node, (k : Int), b.seq)) := by
            show _ = _
            rw [Htk.out, List.map_append, ← List.append_assoc, ← Hacc2.out]; rfl
          have Hown6 : Hid (w4.ownsRow w.heap.size 30 3 v4 (acc2 ++ [(A.node, (k : Int), bj.seq)]).length ((acc2 ++ [(A.node, (k : Int), bj.seq)]).flatMap idCell)) := by
            show World.ownsRow _ _ _ _ _ _ _
            rw [List.length_append, List.flatMap_append]
            exact Hown4.out
          have hal6 : (acc2 ++ [(A.node, (k : Int), bj.seq)]).length = acc.length + (j + 1) := by rw [List.length_append]; simp; omega
          clear Hacc2 Hown4
          go_wp2_with fail
          go_roundw
          case rel => exact ⟨j + 1, acc2 ++ [(A.node, (k : Int), bj.seq)], by go_num, by omega, hal6, Hacc4, Hown6, Hb4, Hbs4⟩
          case measure => simp [intOf]; omega
        · have hx2 : decide ((j : Int) < (l.length : Int)) = false := decide_eq_false (by omega)
          have Hacc3 : Hid (acc2 = (List.range (k + 1)).flatMap (quIds A.node A.bk.q)) := by
            show _ = _
            rw [Hacc2.out, Hsn.out, List.take_of_length_le (by omega)]
          have hal3 : acc2.length ≤ 16 * (k + 1) := by omega
          clear hix
          go_wp2_with fail
          go_roundw
          case rel => exact ⟨k + 1, acc2, by go_num, by omega, hal3, Hacc3, Hown2, Hb2⟩
          case measure => simp [intOf]; omega
    · have hx1 : decide ((k : Int) < 4) = false := decide_eq_false (by omega)
      have hP : Hid (IdPost (agQueued A) w (.returned u3) wr) := by
        have hk4 : k = 4 := by omega
        have e : acc = agQueued A := by rw [Hacc.out, hk4]; rfl
        rw [← e]
        exact ⟨u3, rfl, Hown.out, Hb.out⟩
      go_wp2_with fail
      go_ret
      exact hP.out
end
end Go.Proofs.YtgdooockldgdlaaGreatDoor.Vi
end
