/- Texts put together: RefE, Ref5, Ref6, RfE, RefH, RefI. -/
import Derived.Test.YtinnifhnabncfaaGreatDoorMN1
import Derived.Test.YtinnifhnabncfaaGreatDoorMN2
import Derived.Test.YtinnifhnabncfaaGreatDoorMN3
import Derived.Test.YtinnifhnabncfaaGreatDoorMN8
import Derived.Test.YtinnifhnabncfaaGreatDoorMN9
set_option linter.unusedVariables false
set_option linter.unusedSimpArgs false
section
namespace Go.Proofs.YtinnifhnabncfaaGreatDoor.Vi
open Go.RowKit Base Mem Go.Shelf
def rzS (e : EntryD) : Bool := if e.kind = 1 then e.ser.toList.isEmpty else eqI e.ag e.sh e.seq 0 0 0 && e.ep == 0 && e.ds.length == 0
set_option maxRecDepth 100000 in
theorem rzero_any (e : EntryD) (A : Option Addr) (c : Nat) (w : World) :
  Calls Tryz.prog 121 #[.agg (eCell (e, .slice A e.ds.length c)).toArray] w fun r w' => BoolPost (rzS e) w r w' := by
 obtain ⟨kind, ag, sh, seq, ep, ds, ser, fr, tag⟩ := e
 have HK : Hid (rzS ⟨kind, ag, sh, seq, ep, ds, ser, fr, tag⟩ = if kind = 1 then ser.toList.isEmpty else eqI ag sh seq 0 0 0 && ep == 0 && ds.length == 0) := rfl
 have hb : Hid (∀ o, Below w.heap.size w (w.alloc o)) := fun o => (Below.refl _ _).alloc (Nat.le_refl _) o
 generalize hn : ds.length = n at *
 simp only [eCell]
 clear hn
 by_cases h1 : kind = 1
 ·have hR : Hid (rzS ⟨kind, ag, sh, seq, ep, ds, ser, fr, tag⟩ = ser.toList.isEmpty) := by show _ = _; rw [HK.out, if_pos h1]
  subst h1
  go_enter Tryz.func121, Tryz.ntmps121
  go_wp2
  all_goals go_ret
  all_goals exact ⟨by rw [hR.out]; simp, hb.out _⟩
 ·have h1' : (kind == 1) = false := by simpa using h1
  have hR : Hid (rzS ⟨kind, ag, sh, seq, ep, ds, ser, fr, tag⟩ = (eqI ag sh seq 0 0 0 && ep == 0 && n == 0)) := by show _ = _; rw [HK.out, if_neg h1]
  clear h1
  cases h3 : eqI ag sh seq 0 0 0 with
  | false =>
   have he := fun W => eqI_run ag sh seq 0 0 0 false h3 W
   have hR2 : Hid (rzS ⟨kind, ag, sh, seq, ep, ds, ser, fr, tag⟩ = false) := by show _ = _; rw [hR.out, h3]; rfl
   rw [hR2.out]
   clear h3
   go_enter Tryz.func121, Tryz.ntmps121
   go_wp2
   go_ret
   exact ⟨rfl, hb.out _⟩
  | true =>
   have he := fun W => eqI_run ag sh seq 0 0 0 true h3 W
   have hR1 : Hid (rzS ⟨kind, ag, sh, seq, ep, ds, ser, fr, tag⟩ = (true && ep == 0 && n == 0)) := by show _ = _; rw [hR.out, h3]
   clear h3
   cases h4 : (ep == 0) with
   | false =>
    have hR2 : Hid (rzS ⟨kind, ag, sh, seq, ep, ds, ser, fr, tag⟩ = false) := by show _ = _; rw [hR1.out, h4]; simp
    rw [hR2.out]
    go_enter Tryz.func121, Tryz.ntmps121
    go_wp2
    go_ret
    exact ⟨rfl, hb.out _⟩
   | true =>
    have hR2 : Hid (rzS ⟨kind, ag, sh, seq, ep, ds, ser, fr, tag⟩ = ((n : Int) == 0)) := by
     show _ = _
     rw [hR1.out, h4]
     cases n with
     | zero => rfl
     | succ n =>
      rw [show ((n + 1 : Nat) == 0) = false from rfl]
      symm
      rw [Bool.and_false, beq_eq_false_iff_ne]
      omega
    rw [hR2.out]
    go_enter Tryz.func121, Tryz.ntmps121
    go_wp2
    go_ret
    exact ⟨rfl, hb.out _⟩
theorem kind_z (e : EntryD) (h : e.kind = 1 ∨ e.kind = 2) : kindS e = rzS e := by
 unfold kindS rzS
 rcases h with h | h
 ·rw [h]; rfl
 ·rw [h]; rfl
theorem kind_no (e : EntryD) (h1 : e.kind ≠ 1) (h2 : e.kind ≠ 2) : kindS e = false := by
 unfold kindS
 rw [if_neg h1, if_neg h2]
theorem ite_or2 {α : Type} (a b : Prop) [Decidable a] [Decidable b] (x y : α) : (if a ∨ b then x else y) = if a then x else if b then x else y := by
 by_cases h1 : a
 ·rw [if_pos (.inl h1), if_pos h1]
 ·by_cases h2 : b
  ·rw [if_pos (.inr h2), if_neg h1, if_pos h2]
  ·rw [if_neg (by rintro (h | h); exact h1 h; exact h2 h), if_neg h1, if_neg h2]
theorem win_iff (n e : Int) : (!(withinB n e)) = true ↔ (n < 0 ∨ e ≤ n) := by
 unfold withinB
 simp only [Bool.not_eq_true', Bool.and_eq_false_iff, decide_eq_false_iff_not]
 omega
theorem bad_iff (e : EntryD) : badId e = true ↔ (e.ag < 0 ∨ 8 ≤ e.ag ∨ e.sh < 0 ∨ 4 ≤ e.sh ∨ e.seq < 1 ∨ e.ep < 1) := by
 unfold badId
 rw [Bool.or_eq_true, Bool.or_eq_true, Bool.or_eq_true, win_iff, win_iff, decide_eq_true_eq, decide_eq_true_eq]
 omega
theorem fr_iff (e : EntryD) : (!(withinB e.fr 8) || decide (e.tag < 0)) = true ↔ (e.fr < 0 ∨ 8 ≤ e.fr ∨ e.tag < 0) := by
 rw [Bool.or_eq_true, win_iff, decide_eq_true_eq]
 omega
theorem emp_iff (e : EntryD) : (e.ds.length == 0 || e.ds.any fun d => d.n == 0) = true ↔ ((e.ds.any fun d => d.n == 0) = true ∨ e.ds.length = 0) := by
 rw [Bool.or_eq_true, beq_iff_eq]
 exact Or.comm
/-- Why an entry of one kind is not right. -/
theorem right_one (e : EntryD) (h : e.kind = 1) : rightE e = if rzS e = false then 12 else if e.fr < 0 then 1 else if 8 ≤ e.fr then 1 else if e.tag < 0 then 1 else
  if e.ag < 0 then 1 else if 8 ≤ e.ag then 1 else if e.sh < 0 then 1 else if 4 ≤ e.sh then 1 else if e.seq < 1 then 1 else if e.ep < 1 then 1 else
  if 8 < e.ds.length then 3 else if (e.ds.any fun d => d.n == 0) = true then 1 else if e.ds.length = 0 then 1 else if (e.ds.all fun d => serOk d.ser) = true then 0 else 12 := by
 have hw : writtenS e = if (e.ag < 0 ∨ 8 ≤ e.ag ∨ e.sh < 0 ∨ 4 ≤ e.sh ∨ e.seq < 1 ∨ e.ep < 1) then 1 else if 8 < e.ds.length then 3 else if ((e.ds.any fun d => d.n == 0) = true ∨ e.ds.length = 0) then 1 else if (e.ds.all fun d => serOk d.ser) = true then 0 else 12 := by
  unfold writtenS
  simp only [bad_iff, emp_iff]
 have hr : rightE e = if rzS e = false then 12 else if (e.fr < 0 ∨ 8 ≤ e.fr ∨ e.tag < 0) then 1 else writtenS e := by
  unfold rightE
  rw [kind_z e (.inl h)]
  simp only [fr_iff, h, if_true]
 rw [hr, hw]
 simp only [ite_or2]
theorem right_two (e : EntryD) (h : e.kind = 2) : rightE e = if rzS e = false then 12 else if e.fr < 0 then 1 else if 8 ≤ e.fr then 1 else if e.tag < 0 then 1 else if serOk e.ser = true then 0 else 12 := by
 have h1 : ¬ e.kind = 1 := by omega
 have hr : rightE e = if rzS e = false then 12 else if (e.fr < 0 ∨ 8 ≤ e.fr ∨ e.tag < 0) then 1 else if serOk e.ser = true then 0 else 12 := by
  unfold rightE
  rw [kind_z e (.inr h)]
  simp only [fr_iff, h1, if_false]
 rw [hr]
 simp only [ite_or2]
theorem rblk9 {w : World} {g : Nat} {t : TypeId} {c0 c1 c2 c3 c4 c5 c6 c7 c8 : Value} (h : Blk w g t #[c0, c1, c2, c3, c4, c5, c6, c7, c8]) :
  w.cell? ⟨g, 0, none⟩ = some c0 ∧ w.cell? ⟨g, 1, none⟩ = some c1 ∧ w.cell? ⟨g, 2, none⟩ = some c2 ∧ w.cell? ⟨g, 3, none⟩ = some c3 ∧ w.cell? ⟨g, 4, none⟩ = some c4 ∧ w.cell? ⟨g, 5, none⟩ = some c5 ∧ w.cell? ⟨g, 6, none⟩ = some c6 ∧ w.cell? ⟨g, 7, none⟩ = some c7 ∧ w.cell? ⟨g, 8, none⟩ = some c8 ∧ (∀ i, w.frozen? ⟨g, i, none⟩ = false) :=
 ⟨h.cell 0, h.cell 1, h.cell 2, h.cell 3, h.cell 4, h.cell 5, h.cell 6, h.cell 7, h.cell 8, h.frozen⟩
set_option maxRecDepth 100000 in
set_option maxHeartbeats 4000000 in
theorem rrightE_any (e : EntryD) (dv : Value) (w : World) (h : Ds w [] dv e.ds) (hs : Short e) :
  Calls Tryz.prog 65 #[.agg (eCell (e, dv)).toArray] w fun r w' => NumPost (rightE e) w r w' := by
 have HN : Hid (e.kind ≠ 1 → e.kind ≠ 2 → rightE e = 12) := fun h1 h2 => by unfold rightE; rw [kind_no e h1 h2, if_pos rfl]
 have H1 := Lib.hid (right_one e)
 have H2 := Lib.hid (right_two e)
 obtain ⟨hs1, hs2, hs3⟩ := hs
 have hz := Lib.hid (fun A c W => rzero_any e A c W)
 have HD := Lib.hid h
 obtain ⟨A, c, rfl, hc⟩ := h.len
 have hpa := Lib.hid (fun W => rparse_any e.ser W hs1)
 have Hs2 := Lib.hid hs2
 generalize rightE e = rr at *
 generalize rzS e = zs at *
 obtain ⟨kind, ag, sh, seq, ep, ds, ser, fr, tag⟩ := e
 simp only [] at h hs1 hs2 hs3 hz hpa HN H1 H2 HD Hs2 hc
 clear h hs1 hs2
 have hz2 : Hid (∀ W, Calls Tryz.prog 121 #[.agg #[.int .i64 kind, .int .i64 ag, .int .i64 sh, .int .i64 seq, .int .i64 ep, .slice A ds.length c, .string ser, .int .i64 fr, .int .i64 tag]] W fun r w' => r = .returned (.bool zs) ∧ Below W.heap.size W w') := fun W => hz.out A c W
 clear hz
 obtain ⟨w2, hw2⟩ : ∃ w2, w2 = w.alloc (.cells #[.int .i64 kind, .int .i64 ag, .int .i64 sh, .int .i64 seq, .int .i64 ep, .slice A ds.length c, .string ser, .int .i64 fr, .int .i64 tag] 26) := ⟨_, rfl⟩
 have hB : Blk w2 w.heap.size 26 #[.int .i64 kind, .int .i64 ag, .int .i64 sh, .int .i64 seq, .int .i64 ep, .slice A ds.length c, .string ser, .int .i64 fr, .int .i64 tag] := by rw [hw2]; exact Blk.new w _ _
 have hk2 : Keeps [] w w2 := by rw [hw2]; exact (Keeps.refl _ _).alloc _
 have Hk2 := Lib.hid hk2; have Hw2 := Lib.hid hw2; have HB := Lib.hid hB
 obtain ⟨c0, c1, c2, c3, c4, c5, c6, c7, c8, _⟩ := rblk9 hB
 clear hk2 hw2 hB
 show Calls Tryz.prog 65 #[.agg #[.int .i64 kind, .int .i64 ag, .int .i64 sh, .int .i64 seq, .int .i64 ep, .slice A ds.length c, .string ser, .int .i64 fr, .int .i64 tag]] w fun r w' => NumPost rr w r w'
 go_enter Tryz.func65, Tryz.ntmps65
 go_upto_region 1 with (fail)
 rw [← Hw2.out]
 by_cases k1 : kind = 1
 ·have HR := Lib.hid (H1.out k1)
  clear H1 H2 HN
  subst k1
  go_wp2_with fail
  refine (hz2.out _).mono ?_
  rintro r w3 ⟨rfl, hb3⟩
  have hw2s : w.heap.size < w2.heap.size := HB.out.lt
  have HB3 := Lib.hid (HB.out.below hb3 hw2s)
  have Hk3 : Hid (Keeps [] w w3) := Hk2.out.trans (Keeps.of_below (M := []) hb3) (by simp)
  clear hb3 hz2 c0 c1 c2 c3 c4 c5 c6 c7 c8
  obtain ⟨c0, c1, c2, c3, c4, c5, c6, c7, c8, _⟩ := rblk9 HB3.out
  have hb30 : w.heap.size < w3.heap.size := HB3.out.lt
  cases zs with
  | false =>
   have hR : Hid (rr = 12) := by show _ = _; rw [HR.out, if_pos rfl]
   clear HR
   go_wp2
   go_ret
   exact ⟨by rw [hR.out]; rfl, Hk3.out.below⟩
  | true =>
   replace HR := Lib.hid (HR.out.trans (if_neg (by simp)))
   by_cases q1 : fr < 0
   ·have hR := Lib.hid (HR.out.trans (if_pos q1))
    clear HR
    go_wp2
    go_ret
    exact ⟨by rw [hR.out]; rfl, Hk3.out.below⟩
   ·have q1' : decide (fr < 0) = false := decide_eq_false q1
    replace HR := Lib.hid (HR.out.trans (if_neg q1))
    clear q1
    by_cases q2 : 8 ≤ fr
    ·have hR := Lib.hid (HR.out.trans (if_pos q2))
     clear HR
     go_wp2
     go_ret
     exact ⟨by rw [hR.out]; rfl, Hk3.out.below⟩
    ·have q2' : decide (8 ≤ fr) = false := decide_eq_false q2
     replace HR := Lib.hid (HR.out.trans (if_neg q2))
     clear q2
     by_cases q3 : tag < 0
     ·have hR := Lib.hid (HR.out.trans (if_pos q3))
      clear HR
      go_wp2
      go_ret
      exact ⟨by rw [hR.out]; rfl, Hk3.out.below⟩
     ·have q3' : decide (tag < 0) = false := decide_eq_false q3
      replace HR := Lib.hid (HR.out.trans (if_neg q3))
      clear q3
      go_upto_region 8 with (fail)
      by_cases q4 : ag < 0
      ·have hR := Lib.hid (HR.out.trans (if_pos q4))
       clear HR
       go_wp2
       go_ret
       exact ⟨by rw [hR.out]; rfl, Hk3.out.below⟩
      ·have q4' : decide (ag < 0) = false := decide_eq_false q4
       replace HR := Lib.hid (HR.out.trans (if_neg q4))
       clear q4
       by_cases q5 : 8 ≤ ag
       ·have hR := Lib.hid (HR.out.trans (if_pos q5))
        clear HR
        go_wp2
        go_ret
        exact ⟨by rw [hR.out]; rfl, Hk3.out.below⟩
       ·have q5' : decide (8 ≤ ag) = false := decide_eq_false q5
        replace HR := Lib.hid (HR.out.trans (if_neg q5))
        clear q5
        by_cases q6 : sh < 0
        ·have hR := Lib.hid (HR.out.trans (if_pos q6))
         clear HR
         go_wp2
         go_ret
         exact ⟨by rw [hR.out]; rfl, Hk3.out.below⟩
        ·have q6' : decide (sh < 0) = false := decide_eq_false q6
         replace HR := Lib.hid (HR.out.trans (if_neg q6))
         clear q6
         by_cases q7 : 4 ≤ sh
         ·have hR := Lib.hid (HR.out.trans (if_pos q7))
          clear HR
          go_wp2
          go_ret
          exact ⟨by rw [hR.out]; rfl, Hk3.out.below⟩
         ·have q7' : decide (4 ≤ sh) = false := decide_eq_false q7
          replace HR := Lib.hid (HR.out.trans (if_neg q7))
          clear q7
          by_cases q8 : seq < 1
          ·have hR := Lib.hid (HR.out.trans (if_pos q8))
           clear HR
           go_wp2
           go_ret
           exact ⟨by rw [hR.out]; rfl, Hk3.out.below⟩
          ·have q8' : decide (seq < 1) = false := decide_eq_false q8
           replace HR := Lib.hid (HR.out.trans (if_neg q8))
           clear q8
           by_cases q9 : ep < 1
           ·have hR := Lib.hid (HR.out.trans (if_pos q9))
            clear HR
            go_wp2
            go_ret
            exact ⟨by rw [hR.out]; rfl, Hk3.out.below⟩
           ·have q9' : decide (ep < 1) = false := decide_eq_false q9
            replace HR := Lib.hid (HR.out.trans (if_neg q9))
            clear q9
            by_cases h8 : 8 < ds.length
            ·have hR := Lib.hid (HR.out.trans (if_pos h8))
             have h8i : (8 : Int) < (ds.length : Int) := by omega
             clear HR
             go_wp2
             go_ret
             exact ⟨by rw [hR.out]; rfl, Hk3.out.below⟩
            ·have h8i : decide ((8 : Int) < (ds.length : Int)) = false := decide_eq_false (by omega)
             replace HR := Lib.hid (HR.out.trans (if_neg h8))
             have HD3 := Lib.hid (HD.out.keep (M' := []) Hk3.out (by simp))
             go_wp2_with fail
             go_loopw [87] (fun i wr => ∃ x : Nat, i = .int .i64 x ∧ x ≤ ds.length ∧ Hid (((ds.take x).any fun d => d.n == 0) = false) ∧ Hid (Below w3.heap.size w3 wr)) (fun i _ => ds.length - (intOf i).toNat)
             case atStart => exact ⟨0, rfl, by omega, rfl, Below.refl _ _⟩
             case round =>
              obtain ⟨x, rfl, hx, Hno, Hbr⟩ := hrel
              by_cases hlt : x < ds.length
              ·have hx1 : (x : Int) < (ds.length : Int) := by omega
               obtain ⟨g, off, _, e1, _, hg, _, hcell⟩ := Rd.at_ dCell 2 (fun _ => rfl) (HD3.out.keep (Keeps.of_below (M := []) Hbr.out) (by simp)) hlt
               obtain rfl : A = some ⟨g, off, none⟩ := by injection e1
               clear e1
               have p0 := hcell 0 _ rfl
               have p1 := hcell 1 _ rfl
               rw [Nat.add_zero] at p0
               clear hcell
               have Hnx : Hid (((ds.take (x + 1)).any fun d => d.n == 0) = (ds[x].n == 0)) := by
                show _ = _
                rw [List.take_succ_eq_append_getElem hlt, List.any_append, Hno.out]; simp
               have Hbad : Hid ((ds[x].n == 0) = true → (ds.any fun d => d.n == 0) = true) := fun h => List.any_eq_true.2 ⟨ds[x], List.getElem_mem _, h⟩
               have Hba := Lib.hid (Hbr.out.alloc Hbr.out.size (.cells #[.string ds[x].ser, .int .u64 ds[x].n] 86))
               generalize ds[x] = d at *
               obtain ⟨dser, dn⟩ := d
               simp only [] at p0 p1 Hnx Hbad Hba
               cases hz : (dn == 0) with
               | true =>
                have hR := Lib.hid (HR.out.trans (if_pos (Hbad.out hz)))
                obtain rfl : dn = 0 := by simpa using hz
                clear HR Hbad Hnx
                go_wp2
                go_ret
                exact ⟨by rw [hR.out]; rfl, below_then Hk3.out.below Hba.out⟩
               | false =>
                have ho : Hid (((ds.take (x + 1)).any fun d => d.n == 0) = false) := by show _ = _; rw [Hnx.out, hz]
                clear HR Hbad Hnx
                go_wp2
                go_roundw
                case rel => exact ⟨x + 1, by go_num, by omega, ho, Hba⟩
                case measure => simp [intOf] <;> omega
              ·obtain rfl : x = ds.length := by omega
               replace HR := Lib.hid (HR.out.trans (if_neg (by have := Hno.out; rw [List.take_length] at this; rw [this]; simp)))
               have HBr := Lib.hid (HB3.out.below Hbr.out hb30)
               have Hkr := Lib.hid (Hk3.out.trans (Keeps.of_below (M := []) Hbr.out) (by simp))
               clear c0 c1 c2 c3 c4 c5 c6 c7 c8 Hno
               obtain ⟨c0, c1, c2, c3, c4, c5, c6, c7, c8, _⟩ := rblk9 HBr.out
               by_cases hn : ds.length = 0
               ·have hR := Lib.hid (HR.out.trans (if_pos hn))
                have hni : ((ds.length : Int) == 0) = true := by rw [beq_iff_eq]; omega
                have hni2 : (ds.length : Int) = 0 := by omega
                clear HR
                go_wp2
                go_ret
                exact ⟨by rw [hR.out]; rfl, Hkr.out.below⟩
               ·have hni : ((ds.length : Int) == 0) = false := by rw [beq_eq_false_iff_ne]; omega
                replace HR := Lib.hid (HR.out.trans (if_neg hn))
                have HD4 := Lib.hid (HD.out.keep (M' := []) Hkr.out (by simp))
                clear HD3 Hk3 Hbr HB3
                go_wp2_with fail
                go_loopw [102] (fun i wq => ∃ x : Nat, i = .int .i64 x ∧ x ≤ ds.length ∧ Hid (((ds.take x).all fun d => serOk d.ser) = true) ∧ Hid (Below wr.heap.size wr wq)) (fun i _ => ds.length - (intOf i).toNat)
                case atStart => exact ⟨0, rfl, by omega, rfl, Below.refl _ _⟩
                case round =>
                 obtain ⟨x, rfl, hx2, Hall, Hbq⟩ := hrel
                 by_cases hlt2 : x < ds.length
                 ·have hx1 : (x : Int) < (ds.length : Int) := by omega
                  obtain ⟨g, off, _, e1, _, hg, _, hcell⟩ := Rd.at_ dCell 2 (fun _ => rfl) (HD4.out.keep (Keeps.of_below (M := []) Hbq.out) (by simp)) hlt2
                  obtain rfl : A = some ⟨g, off, none⟩ := by injection e1
                  clear e1
                  have p0 := hcell 0 _ rfl
                  have p1 := hcell 1 _ rfl
                  rw [Nat.add_zero] at p0
                  clear hcell
                  have Hnx : Hid (((ds.take (x + 1)).all fun d => serOk d.ser) = serOk ds[x].ser) := by
                   show _ = _
                   rw [List.take_succ_eq_append_getElem hlt2, List.all_append, Hall.out]; simp
                  have Hbad : Hid (serOk ds[x].ser = false → ¬ (ds.all fun d => serOk d.ser) = true) := fun h hall => by
                   have := List.all_eq_true.1 hall ds[x] (List.getElem_mem _)
                   simp only [h] at this; cases this
                  have hpa2 := Lib.hid (fun W => show Calls Tryz.prog 122 #[.string ds[x].ser] W fun e w' => ∃ v, e = .returned (.tuple #[v, .int .i64 (if serOk ds[x].ser = true then 0 else 12)]) ∧ Below W.heap.size W w' from rparse_any ds[x].ser W (Hs2.out ds[x] (List.getElem_mem _)))
                  have Hba := Lib.hid (Hbq.out.alloc Hbq.out.size (.cells #[.string ds[x].ser, .int .u64 ds[x].n] 86))
                  generalize ds[x] = d at *
                  obtain ⟨dser, dn⟩ := d
                  simp only [] at p0 p1 Hnx Hbad Hba hpa2
                  cases hok : serOk dser with
                  | true =>
                   have ho : Hid (((ds.take (x + 1)).all fun d => serOk d.ser) = true) := by show _ = _; rw [Hnx.out, hok]
                   rw [hok, if_pos rfl] at hpa2
                   clear HR Hbad Hnx hok
                   go_wp2_with fail
                   refine (hpa2.out _).mono ?_
                   rintro r w5 ⟨v5, rfl, hb5⟩
                   have Hb5 := Lib.hid (below_then Hba.out hb5)
                   clear hb5 hpa2
                   go_wp2
                   go_roundw
                   case rel => exact ⟨x + 1, by go_num, by omega, ho, Hb5⟩
                   case measure => simp [intOf] <;> omega
                  | false =>
                   have hR := Lib.hid (HR.out.trans (if_neg (Hbad.out hok)))
                   rw [hok, if_neg (by simp)] at hpa2
                   clear HR Hbad Hnx hok
                   go_wp2_with fail
                   refine (hpa2.out _).mono ?_
                   rintro r w5 ⟨v5, rfl, hb5⟩
                   have Hb5 := Lib.hid (below_then Hkr.out.below (below_then Hba.out hb5))
                   clear hb5 hpa2
                   go_wp2
                   go_ret
                   exact ⟨by rw [hR.out]; rfl, Hb5.out⟩
                 ·obtain rfl : x = ds.length := by omega
                  have hR := Lib.hid (HR.out.trans (if_pos (by have := Hall.out; rwa [List.take_length] at this)))
                  clear HR
                  go_wp2
                  go_ret
                  exact ⟨by rw [hR.out]; rfl, below_then Hkr.out.below Hbq.out⟩
 ·have k1' : (kind == 1) = false := by simpa using k1
  by_cases k2 : kind = 2
  ·have HR := Lib.hid (H2.out k2)
   clear H1 H2 HN
   subst k2
   go_wp2_with fail
   refine (hz2.out _).mono ?_
   rintro r w3 ⟨rfl, hb3⟩
   have hw2s : w.heap.size < w2.heap.size := HB.out.lt
   have HB3 := Lib.hid (HB.out.below hb3 hw2s)
   have Hk3 : Hid (Keeps [] w w3) := Hk2.out.trans (Keeps.of_below (M := []) hb3) (by simp)
   clear hb3 hz2 c0 c1 c2 c3 c4 c5 c6 c7 c8
   obtain ⟨c0, c1, c2, c3, c4, c5, c6, c7, c8, _⟩ := rblk9 HB3.out
   have hb30 : w.heap.size < w3.heap.size := HB3.out.lt
   cases zs with
   | false =>
    have hR : Hid (rr = 12) := by show _ = _; rw [HR.out, if_pos rfl]
    clear HR
    go_wp2
    go_ret
    exact ⟨by rw [hR.out]; rfl, Hk3.out.below⟩
   | true =>
    replace HR := Lib.hid (HR.out.trans (if_neg (by simp)))
    by_cases q1 : fr < 0
    ·have hR := Lib.hid (HR.out.trans (if_pos q1))
     clear HR
     go_wp2
     go_ret
     exact ⟨by rw [hR.out]; rfl, Hk3.out.below⟩
    ·have q1' : decide (fr < 0) = false := decide_eq_false q1
     replace HR := Lib.hid (HR.out.trans (if_neg q1))
     clear q1
     by_cases q2 : 8 ≤ fr
     ·have hR := Lib.hid (HR.out.trans (if_pos q2))
      clear HR
      go_wp2
      go_ret
      exact ⟨by rw [hR.out]; rfl, Hk3.out.below⟩
     ·have q2' : decide (8 ≤ fr) = false := decide_eq_false q2
      replace HR := Lib.hid (HR.out.trans (if_neg q2))
      clear q2
      by_cases q3 : tag < 0
      ·have hR := Lib.hid (HR.out.trans (if_pos q3))
       clear HR
       go_wp2
       go_ret
       exact ⟨by rw [hR.out]; rfl, Hk3.out.below⟩
      ·have q3' : decide (tag < 0) = false := decide_eq_false q3
       replace HR := Lib.hid (HR.out.trans (if_neg q3))
       clear q3
       have hpa2 := Lib.hid (fun W => show Calls Tryz.prog 122 #[.string ser] W fun e w' => ∃ v, e = .returned (.tuple #[v, .int .i64 (if serOk ser = true then 0 else 12)]) ∧ Below W.heap.size W w' from hpa.out W)
       clear hpa
       have hR : Hid (((if serOk ser = true then 0 else 12 : Int)) = (rr : Int)) := by show _ = _; rw [HR.out]; split <;> rfl
       clear HR
       generalize (if serOk ser = true then 0 else 12 : Int) = rv at *
       go_wp2_with fail
       refine (hpa2.out _).mono ?_
       rintro r w4 ⟨v4, rfl, hb4⟩
       have Hb4 := Lib.hid (below_then Hk3.out.below hb4)
       clear hb4 hpa2
       go_wp2
       go_ret
       exact ⟨by rw [hR.out]; rfl, Hb4.out⟩
  ·have k2' : (kind == 2) = false := by simpa using k2
   have hR := Lib.hid (HN.out k1 k2)
   have k1n : (kind != 1) = true := by rw [bne_iff_ne]; exact k1
   have k2n : (kind != 2) = true := by rw [bne_iff_ne]; exact k2
   clear H1 H2 HN
   go_wp2
   go_ret
   exact ⟨by rw [hR.out]; rfl, Hk2.out.below⟩
end Go.Proofs.YtinnifhnabncfaaGreatDoor.Vi
end
section
namespace Go.Proofs.YtinnifhnabncfaaGreatDoor.Vi
open Go.RowKit Base Mem
/-- A reader lies in block p: what is left, and whether something was not there. -/
def RRdAt (w : World) (M : List Nat) (p : Nat) (l : List UInt8) (bad : Bool) : Prop := l.length ≤ 4611686018427387904 ∧ ∃ v, Blk w p 175 #[v, .bool bad] ∧ Bs w (p :: M) v l
theorem RRdAt.lt {w : World} {M : List Nat} {p : Nat} {l : List UInt8} {bad : Bool} (h : RRdAt w M p l bad) : p < w.heap.size := by obtain ⟨_, _, h, _⟩ := h; exact h.lt
theorem RRdAt.keep {w w' : World} {M M' : List Nat} {p : Nat} {l : List UInt8} {bad : Bool} (h : RRdAt w M p l bad) (k : Keeps M' w w') (hM : ∀ g ∈ M', g ∈ M ∨ w.heap.size ≤ g) (hp : p ∉ M') : RRdAt w' M p l bad := by
 obtain ⟨hl, v, hb, hs⟩ := h
 exact ⟨hl, v, k.blk hb hp, hs.keep k (fun g hg => (hM g hg).imp (fun h => List.mem_cons_of_mem _ h) id)⟩
theorem RRdAt.avoid {w : World} {M M' : List Nat} {p : Nat} {l : List UInt8} {bad : Bool} (h : RRdAt w M p l bad) (hM : ∀ g ∈ M', g ∈ M ∨ w.heap.size ≤ g) : RRdAt w M' p l bad := by
 obtain ⟨hl, v, hb, hs⟩ := h
 exact ⟨hl, v, hb, hs.avoid (fun g hg => by
  rcases List.mem_cons.1 hg with rfl | hg
  ·exact .inl (by simp)
  ·exact (hM g hg).imp (fun h => List.mem_cons_of_mem _ h) id)⟩
theorem RRdAt.setBad {w : World} {M : List Nat} {p : Nat} {l : List UInt8} {bad : Bool} (h : RRdAt w M p l bad) : RRdAt (w.setCell ⟨p, 1, none⟩ (.bool true)) M p l true := by
 obtain ⟨hl, v, hb, hs⟩ := h
 exact ⟨hl, v, by simpa using hb.set_ 1 (.bool true), hs.keep (M' := [p]) ((Keeps.refl _ _).setCell (by simp) _) (fun g hg => .inl (by simp at hg; simp [hg]))⟩
theorem RRdAt.setB {w : World} {M : List Nat} {p : Nat} {l l' : List UInt8} {bad : Bool} {v' : Value} (h : RRdAt w M p l bad) (hl : l'.length ≤ l.length) (hv : Bs w (p :: M) v' l') : RRdAt (w.setCell ⟨p, 0, none⟩ v') M p l' bad := by
 obtain ⟨hl0, v, hb, hs⟩ := h
 exact ⟨by omega, v', by simpa using hb.set_ 0 v', hv.keep (M' := [p]) ((Keeps.refl _ _).setCell (by simp) _) (fun g hg => .inl (by simp at hg; simp [hg]))⟩
theorem rdone_any (M : List Nat) (p : Nat) (l : List UInt8) (bad : Bool) (w : World) (h : RRdAt w M p l bad) :
  Calls Tryz.prog 135 #[.pointer (some ⟨p, 0, none⟩)] w fun e w' => e = .returned (.bool (!bad && l.isEmpty)) ∧ w = w' := by
 obtain ⟨hl, v, hb, hs⟩ := h
 obtain ⟨A, c, rfl, hc⟩ := hs.len
 have c0 : w.cell? ⟨p, 0, none⟩ = some (.slice A l.length c) := hb.cell 0
 have c1 : w.cell? ⟨p, 1, none⟩ = some (.bool bad) := hb.cell 1
 clear hb hs
 cases bad with
 | true =>
  go_enter Tryz.func135, Tryz.ntmps135
  go_wp2
  go_ret
  exact ⟨rfl, rfl⟩
 | false =>
  have hR : Hid (l.isEmpty = ((l.length : Int) == 0)) := by show _ = _; cases l <;> simp <;> omega
  go_enter Tryz.func135, Tryz.ntmps135
  go_wp2
  go_ret
  rw [hR.out]
  exact ⟨rfl, rfl⟩
/-- What a call of a reader answers: a value, and how the reader stands. -/
def RRdPost (M : List Nat) (p : Nat) (v : Value) (l : List UInt8) (bad : Bool) (w : World) (e : Ending) (w' : World) : Prop := e = .returned v ∧ RRdAt w' M p l bad ∧ Keeps [p] w w'
set_option maxRecDepth 100000 in
set_option maxHeartbeats 600000 in
theorem rnum_any (M : List Nat) (p : Nat) (l : List UInt8) (bad : Bool) (w : World) (h : RRdAt w M p l bad) :
  Calls Tryz.prog 151 #[.pointer (some ⟨p, 0, none⟩)] w fun e w' => RRdPost M p (.int .u64 (numS l bad).1) (numS l bad).2.1 (numS l bad).2.2 w e w' := by
 obtain ⟨hl, v, hb, hs⟩ := id h
 obtain ⟨A, c, rfl, hc⟩ := hs.len
 have hg : Hid (Calls Tryz.prog 96 #[.slice A l.length c] w fun e w' => e = .returned (.tuple #[.int .u64 (getL l).1, .int .i64 (getL l).2]) ∧ Below w.heap.size w w') := rget_any _ l w (hs.avoid (M' := []) (by simp)) hl
 have hr : Hid (∀ (W : World) (hW : Below w.heap.size w W), RRdPost M p (.int .u64 0) l true w (.returned (.int .u64 0)) (W.setCell ⟨p, 1, none⟩ (.bool true))) := fun W hW =>
  ⟨rfl, (h.keep (M' := []) (Keeps.of_below hW) (by simp) (by simp)).setBad, (Keeps.of_below hW).setCell (by simp) _⟩
 have hr2 : Hid (∀ (W : World) (hW : Below w.heap.size w W) v' l', bad = false → l'.length ≤ l.length → Bs w (p :: M) v' l' → ∀ n, RRdPost M p (.int .u64 n) l' false w (.returned (.int .u64 n)) (W.setCell ⟨p, 0, none⟩ v')) := fun W hW v' l' hb0 hll hv n => by
  subst hb0
  exact ⟨rfl, (h.keep (M' := []) (Keeps.of_below hW) (by simp) (by simp)).setB hll (hv.keep (M' := []) (Keeps.of_below hW) (by simp)), (Keeps.of_below hW).setCell (by simp) _⟩
 have HN : Hid (numS l bad = if bad = true ∨ (getL l).2 = 0 then (0, l, true) else ((getL l).1, l.drop (getL l).2, false)) := rfl
 have hk := (getL_le l).1
 have Hs := Lib.hid hs
 have HB := Lib.hid hb
 have c0 : w.cell? ⟨p, 0, none⟩ = some (.slice A l.length c) := hb.cell 0
 have c1 : w.cell? ⟨p, 1, none⟩ = some (.bool bad) := hb.cell 1
 have f0 : w.frozen? ⟨p, 0, none⟩ = false := hb.frozen 0
 have f1 : w.frozen? ⟨p, 1, none⟩ = false := hb.frozen 1
 clear h hb hs
 generalize (getL l).1 = n at *
 generalize (getL l).2 = k at *
 cases bad with
 | true =>
  have hR : Hid (numS l true = (0, l, true)) := by show _ = _; rw [HN.out]; simp
  rw [hR.out]
  clear HN hr2
  go_enter Tryz.func151, Tryz.ntmps151
  go_wp2_with fail
  refine hg.out.mono ?_
  rintro e w1 ⟨rfl, hb1⟩
  have HB1 := Lib.hid (HB.out.below hb1 HB.out.lt); have Hb1 := Lib.hid hb1
  have d0 := HB1.out.cell 0; have d1 := HB1.out.cell 1; have g0 := HB1.out.frozen 0; have g1 := HB1.out.frozen 1
  simp only [List.getElem?_toArray, List.getElem?_cons_zero, List.getElem?_cons_succ] at d0 d1
  try rw [HKL.out] at d0
  clear hb1
  go_wp2
  go_ret
  exact hr.out w1 Hb1.out
 | false =>
  by_cases hk0 : k = 0
  ·have hR : Hid (numS l false = (0, l, true)) := by show _ = _; rw [HN.out, if_pos (.inr hk0)]
   rw [hR.out]
   subst hk0
   clear HN hr2
   go_enter Tryz.func151, Tryz.ntmps151
   go_wp2_with fail
   refine hg.out.mono ?_
   rintro e w1 ⟨rfl, hb1⟩
   have HB1 := Lib.hid (HB.out.below hb1 HB.out.lt); have Hb1 := Lib.hid hb1
   have d0 := HB1.out.cell 0; have d1 := HB1.out.cell 1; have g0 := HB1.out.frozen 0; have g1 := HB1.out.frozen 1
   simp only [List.getElem?_toArray, List.getElem?_cons_zero, List.getElem?_cons_succ] at d0 d1
   try rw [HKL.out] at d0
   clear hb1
   go_wp2
   go_ret
   exact hr.out w1 Hb1.out
  ·have hR : Hid (numS l false = (n, l.drop k, false)) := by show _ = _; rw [HN.out, if_neg (by simp [hk0])]
   rw [hR.out]
   have hkz : ((k : Int) == 0) = false := by simpa using hk0
   have hki : (k : Int) ≤ (l.length : Int) := by omega
   obtain ⟨g, off, rfl⟩ := Hs.out.some_ (by omega)
   clear HN hr
   by_cases hck : c = k
   ·have hd : Hid (l.drop k = []) := List.drop_eq_nil_of_le (by omega)
    have hp : Hid (∀ (W : World) (hW : Below w.heap.size w W), RRdPost M p (.int .u64 n) (l.drop k) false w (.returned (.int .u64 n)) (W.setCell ⟨p, 0, none⟩ (.slice (some ⟨g, off, none⟩) 0 0))) := fun W hW => by
     rw [hd.out]
     exact hr2.out W hW _ [] rfl (by simp) ⟨_, 0, rfl, Nat.le_refl _, rfl, fun h => absurd h (by simp)⟩ n
    have hkl : l.length = k := by omega
    subst hck
    rw [hkl] at c0
    have HKL := Lib.hid hkl
    have hg2 := Lib.hid (show Calls Tryz.prog 96 #[.slice (some ⟨g, off, none⟩) c c] w fun e w' => e = .returned (.tuple #[.int .u64 n, .int .i64 c]) ∧ Below w.heap.size w w' by have := hg.out; rwa [hkl] at this)
    clear hg hr2 hki hk hc hd hkl Hs
    go_enter Tryz.func151, Tryz.ntmps151
    go_wp2_with fail
    refine hg2.out.mono ?_
    rintro e w1 ⟨rfl, hb1⟩
    have HB1 := Lib.hid (HB.out.below hb1 HB.out.lt); have Hb1 := Lib.hid hb1
    have d0 := HB1.out.cell 0; have d1 := HB1.out.cell 1; have g0 := HB1.out.frozen 0; have g1 := HB1.out.frozen 1
    simp only [List.getElem?_toArray, List.getElem?_cons_zero, List.getElem?_cons_succ] at d0 d1
    try rw [HKL.out] at d0
    clear hb1
    go_wp2
    go_ret
    exact hp.out w1 Hb1.out
   ·have hp : Hid (∀ (W : World) (hW : Below w.heap.size w W), RRdPost M p (.int .u64 n) (l.drop k) false w (.returned (.int .u64 n)) (W.setCell ⟨p, 0, none⟩ (.slice (some ⟨g, off + k, none⟩) (l.length - k) (c - k)))) := fun W hW =>
     hr2.out W hW _ (l.drop k) rfl (by rw [List.length_drop]; omega) (by have := Hs.out.behind k hk hc; rwa [← List.length_drop] at this ⊢) n
    go_enter Tryz.func151, Tryz.ntmps151
    go_wp2_with fail
    refine hg.out.mono ?_
    rintro e w1 ⟨rfl, hb1⟩
    have HB1 := Lib.hid (HB.out.below hb1 HB.out.lt); have Hb1 := Lib.hid hb1
    have d0 := HB1.out.cell 0; have d1 := HB1.out.cell 1; have g0 := HB1.out.frozen 0; have g1 := HB1.out.frozen 1
    simp only [List.getElem?_toArray, List.getElem?_cons_zero, List.getElem?_cons_succ] at d0 d1
    try rw [HKL.out] at d0
    clear hb1
    go_wp2
    go_ret
    exact hp.out w1 Hb1.out
end Go.Proofs.YtinnifhnabncfaaGreatDoor.Vi
end
section
namespace Go.Proofs.YtinnifhnabncfaaGreatDoor.Vi
open Go.RowKit Base Mem
set_option maxRecDepth 100000 in
set_option maxHeartbeats 600000 in
theorem rstr_any (M : List Nat) (p : Nat) (l : List UInt8) (bad : Bool) (w : World) (h : RRdAt w M p l bad) :
  Calls Tryz.prog 133 #[.pointer (some ⟨p, 0, none⟩)] w fun e w' => RRdPost M p (.string ⟨(textS l bad).1.toArray⟩) (textS l bad).2.1 (textS l bad).2.2 w e w' := by
 obtain ⟨hl, v, hb, hs⟩ := id h
 obtain ⟨A, c, rfl, hc⟩ := hs.len
 have hg := Lib.hid (rcut_any _ l w (hs.avoid (M' := []) (by simp)) hl)
 have hr : Hid (∀ (W : World) (hW : Below w.heap.size w W), RRdPost M p (.string ⟨#[]⟩) l true w (.returned (.string ⟨#[]⟩)) (W.setCell ⟨p, 1, none⟩ (.bool true))) := fun W hW =>
  ⟨rfl, (h.keep (M' := []) (Keeps.of_below hW) (by simp) (by simp)).setBad, (Keeps.of_below hW).setCell (by simp) _⟩
 have hr2 : Hid (∀ (W : World) (hW : Below w.heap.size w W) v' l', bad = false → l'.length ≤ l.length → Bs w (p :: M) v' l' → ∀ n : List UInt8, RRdPost M p (.string ⟨n.toArray⟩) l' false w (.returned (.string ⟨n.toArray⟩)) (W.setCell ⟨p, 0, none⟩ v')) := fun W hW v' l' hb0 hll hv n => by
  subst hb0
  exact ⟨rfl, (h.keep (M' := []) (Keeps.of_below hW) (by simp) (by simp)).setB hll (hv.keep (M' := []) (Keeps.of_below hW) (by simp)), (Keeps.of_below hW).setCell (by simp) _⟩
 have HN : Hid (textS l bad = if bad = true ∨ (cutL l).2 = 0 then ([], l, true) else ((cutL l).1, l.drop (cutL l).2, false)) := rfl
 have hk := cutL_le l
 have Hs := Lib.hid hs
 have HB := Lib.hid hb
 have c0 : w.cell? ⟨p, 0, none⟩ = some (.slice A l.length c) := hb.cell 0
 have c1 : w.cell? ⟨p, 1, none⟩ = some (.bool bad) := hb.cell 1
 have f0 : w.frozen? ⟨p, 0, none⟩ = false := hb.frozen 0
 have f1 : w.frozen? ⟨p, 1, none⟩ = false := hb.frozen 1
 clear h hb hs
 generalize (cutL l).1 = n at *
 generalize (cutL l).2 = k at *
 cases bad with
 | true =>
  have hR : Hid (textS l true = ([], l, true)) := by show _ = _; rw [HN.out]; simp
  rw [hR.out]
  clear HN hr2
  go_enter Tryz.func133, Tryz.ntmps133
  go_wp2_with fail
  refine hg.out.mono ?_
  rintro e w1 ⟨rfl, hb1⟩
  have HB1 := Lib.hid (HB.out.below hb1 HB.out.lt); have Hb1 := Lib.hid hb1
  have d0 := HB1.out.cell 0; have d1 := HB1.out.cell 1; have g0 := HB1.out.frozen 0; have g1 := HB1.out.frozen 1
  simp only [List.getElem?_toArray, List.getElem?_cons_zero, List.getElem?_cons_succ] at d0 d1
  try rw [HKL.out] at d0
  clear hb1
  go_wp2
  go_ret
  exact hr.out w1 Hb1.out
 | false =>
  by_cases hk0 : k = 0
  ·have hR : Hid (textS l false = ([], l, true)) := by show _ = _; rw [HN.out, if_pos (.inr hk0)]
   rw [hR.out]
   subst hk0
   clear HN hr2
   go_enter Tryz.func133, Tryz.ntmps133
   go_wp2_with fail
   refine hg.out.mono ?_
   rintro e w1 ⟨rfl, hb1⟩
   have HB1 := Lib.hid (HB.out.below hb1 HB.out.lt); have Hb1 := Lib.hid hb1
   have d0 := HB1.out.cell 0; have d1 := HB1.out.cell 1; have g0 := HB1.out.frozen 0; have g1 := HB1.out.frozen 1
   simp only [List.getElem?_toArray, List.getElem?_cons_zero, List.getElem?_cons_succ] at d0 d1
   try rw [HKL.out] at d0
   clear hb1
   go_wp2
   go_ret
   exact hr.out w1 Hb1.out
  ·have hR : Hid (textS l false = (n, l.drop k, false)) := by show _ = _; rw [HN.out, if_neg (by simp [hk0])]
   rw [hR.out]
   have hkz : ((k : Int) == 0) = false := by simpa using hk0
   have hki : (k : Int) ≤ (l.length : Int) := by omega
   obtain ⟨g, off, rfl⟩ := Hs.out.some_ (by omega)
   clear HN hr
   by_cases hck : c = k
   ·have hd : Hid (l.drop k = []) := List.drop_eq_nil_of_le (by omega)
    have hp : Hid (∀ (W : World) (hW : Below w.heap.size w W), RRdPost M p (.string ⟨n.toArray⟩) (l.drop k) false w (.returned (.string ⟨n.toArray⟩)) (W.setCell ⟨p, 0, none⟩ (.slice (some ⟨g, off, none⟩) 0 0))) := fun W hW => by
     rw [hd.out]
     exact hr2.out W hW _ [] rfl (by simp) ⟨_, 0, rfl, Nat.le_refl _, rfl, fun h => absurd h (by simp)⟩ n
    have hkl : l.length = k := by omega
    subst hck
    rw [hkl] at c0
    have HKL := Lib.hid hkl
    have hg2 := Lib.hid (show Calls Tryz.prog 178 #[.slice (some ⟨g, off, none⟩) c c] w fun e w' => e = .returned (.tuple #[.string ⟨n.toArray⟩, .int .i64 c]) ∧ Below w.heap.size w w' by have := hg.out; rwa [hkl] at this)
    clear hg hr2 hki hk hc hd hkl Hs
    go_enter Tryz.func133, Tryz.ntmps133
    go_wp2_with fail
    refine hg2.out.mono ?_
    rintro e w1 ⟨rfl, hb1⟩
    have HB1 := Lib.hid (HB.out.below hb1 HB.out.lt); have Hb1 := Lib.hid hb1
    have d0 := HB1.out.cell 0; have d1 := HB1.out.cell 1; have g0 := HB1.out.frozen 0; have g1 := HB1.out.frozen 1
    simp only [List.getElem?_toArray, List.getElem?_cons_zero, List.getElem?_cons_succ] at d0 d1
    try rw [HKL.out] at d0
    clear hb1
    go_wp2
    go_ret
    exact hp.out w1 Hb1.out
   ·have hp : Hid (∀ (W : World) (hW : Below w.heap.size w W), RRdPost M p (.string ⟨n.toArray⟩) (l.drop k) false w (.returned (.string ⟨n.toArray⟩)) (W.setCell ⟨p, 0, none⟩ (.slice (some ⟨g, off + k, none⟩) (l.length - k) (c - k)))) := fun W hW =>
     hr2.out W hW _ (l.drop k) rfl (by rw [List.length_drop]; omega) (by have := Hs.out.behind k hk hc; rwa [← List.length_drop] at this ⊢) n
    go_enter Tryz.func133, Tryz.ntmps133
    go_wp2_with fail
    refine hg.out.mono ?_
    rintro e w1 ⟨rfl, hb1⟩
    have HB1 := Lib.hid (HB.out.below hb1 HB.out.lt); have Hb1 := Lib.hid hb1
    have d0 := HB1.out.cell 0; have d1 := HB1.out.cell 1; have g0 := HB1.out.frozen 0; have g1 := HB1.out.frozen 1
    simp only [List.getElem?_toArray, List.getElem?_cons_zero, List.getElem?_cons_succ] at d0 d1
    try rw [HKL.out] at d0
    clear hb1
    go_wp2
    go_ret
    exact hp.out w1 Hb1.out
set_option maxRecDepth 100000 in
set_option maxHeartbeats 600000 in
theorem rbyte_any (M : List Nat) (p : Nat) (l : List UInt8) (bad : Bool) (w : World) (h : RRdAt w M p l bad) :
  Calls Tryz.prog 131 #[.pointer (some ⟨p, 0, none⟩)] w fun e w' => RRdPost M p (.int .i64 (byteS l bad).1.toNat) (byteS l bad).2.1 (byteS l bad).2.2 w e w' := by
 obtain ⟨hl, v, hb, hs⟩ := id h
 obtain ⟨A, c, rfl, hc⟩ := hs.len
 have hr : Hid (RRdPost M p ((.int .i64 0)) l true w (.returned (.int .i64 0)) (w.setCell ⟨p, 1, none⟩ (.bool true))) :=
  ⟨rfl, h.setBad, (Keeps.refl _ _).setCell (by simp) _⟩
 have hr2 : Hid (∀ v' l', bad = false → l'.length ≤ l.length → Bs w (p :: M) v' l' → ∀ x : UInt8, RRdPost M p (.int .i64 x.toNat) l' false w (.returned (.int .i64 x.toNat)) (w.setCell ⟨p, 0, none⟩ v')) := fun v' l' hb0 hll hv x => by
  subst hb0
  exact ⟨rfl, h.setB hll hv, (Keeps.refl _ _).setCell (by simp) _⟩
 have Hs := Lib.hid hs
 have c0 : w.cell? ⟨p, 0, none⟩ = some (.slice A l.length c) := hb.cell 0
 have c1 : w.cell? ⟨p, 1, none⟩ = some (.bool bad) := hb.cell 1
 have f0 : w.frozen? ⟨p, 0, none⟩ = false := hb.frozen 0
 have f1 : w.frozen? ⟨p, 1, none⟩ = false := hb.frozen 1
 clear h hb hs
 cases bad with
 | true =>
  clear hr2
  show Calls _ _ _ _ fun e w' => RRdPost M p ((.int .i64 0)) l true w e w'
  go_enter Tryz.func131, Tryz.ntmps131
  go_wp2
  go_ret
  exact hr.out
 | false =>
  cases l with
  | nil =>
   clear hr2
   show Calls _ _ _ _ fun e w' => RRdPost M p ((.int .i64 0)) [] true w e w'
   rw [List.length_nil] at c0
   go_enter Tryz.func131, Tryz.ntmps131
   go_wp2
   go_ret
   exact hr.out
  | cons x r =>
   show Calls _ _ _ _ fun e w' => RRdPost M p (.int .i64 x.toNat) r false w e w'
   obtain ⟨g, off, rfl⟩ := Hs.out.some_ (by simp)
   have hx : w.cell? ⟨g, off, none⟩ = some (.int .u8 x.toNat) := by
    obtain ⟨A', c', he, _, _, hr⟩ := Hs.out
    injection he with h1 h2 h3
    subst h1
    obtain ⟨g', off', e, _, _, hx⟩ := hr (by simp)
    injection e with e
    injection e with e1 e2 _
    subst e1 e2
    exact hx 0 _ rfl
   obtain ⟨n, hn⟩ : ∃ n, n = r.length := ⟨_, rfl⟩
   have hln : (x :: r).length = n + 1 := by rw [hn]; rfl
   rw [hln] at c0 hc
   have hbe := Lib.hid (Hs.out.behind 1 (by simp) (by rw [hln]; exact hc))
   have hnz : (((n + 1 : Nat) : Int) == 0) = false := by simp; omega
   have hcvx : IntKind.i64.wrap (x.toNat : Int) = (x.toNat : Int) := by have := x.toNat_lt; rw [IntKind.wrap_i64]; omega
   clear hr
   by_cases hck : c = 1
   ·subst hck
    obtain rfl : n = 0 := by omega
    obtain rfl : r = [] := List.length_eq_zero_iff.1 hn.symm
    have hp := Lib.hid (hr2.out (.slice (some ⟨g, off, none⟩) 0 0) [] rfl (by simp) ⟨_, 0, rfl, Nat.le_refl _, rfl, fun h => absurd h (by simp)⟩ x)
    clear hr2 hbe Hs hln hn
    go_enter Tryz.func131, Tryz.ntmps131
    go_wp2
    go_ret
    exact hp.out
   ·have hp : Hid (RRdPost M p (.int .i64 x.toNat) r false w (.returned (.int .i64 x.toNat)) (w.setCell ⟨p, 0, none⟩ (.slice (some ⟨g, off + 1, none⟩) n (c - 1)))) :=
     hr2.out _ r rfl (by simp) (by have := hbe.out; rw [hln, Nat.add_sub_cancel, hn] at this; rw [hn]; exact this) x
    have h1c : (1 : Int) ≤ ((n + 1 : Nat) : Int) := by omega
    have h2c : ((n + 1 : Nat) : Int) ≤ (c : Int) := by omega
    clear hr2 hbe Hs hln hn
    go_enter Tryz.func131, Tryz.ntmps131
    go_wp2
    go_ret
    exact hp.out
theorem rrint_any (M : List Nat) (p : Nat) (l : List UInt8) (bad : Bool) (w : World) (h : RRdAt w M p l bad) :
  Calls Tryz.prog 132 #[.pointer (some ⟨p, 0, none⟩)] w fun e w' => RRdPost M p (.int .i64 (intS l bad).1) (intS l bad).2.1 (intS l bad).2.2 w e w' := by
 have hN := Lib.hid (rnum_any M p l bad w h)
 have hlt := numS_lt l bad
 have HI : Hid (intS l bad = if 9223372036854775807 < (numS l bad).1 then (0, (numS l bad).2.1, true) else numS l bad) := rfl
 generalize numS l bad = r at *
 obtain ⟨n, l', b'⟩ := r
 simp only at hN hlt HI
 clear h
 by_cases hbig : 9223372036854775807 < n
 ·have hR : Hid (intS l bad = (0, l', true)) := by show _ = _; rw [HI.out, if_pos hbig]
  rw [hR.out]
  have hbi : (9223372036854775807 : Int) < (n : Int) := by omega
  go_enter Tryz.func132, Tryz.ntmps132
  go_wp2_with fail
  refine hN.out.mono ?_
  rintro e w1 ⟨rfl, hA, hk⟩
  have hp : Hid (RRdPost M p (.int .i64 0) l' true w (.returned (.int .i64 0)) (w1.setCell ⟨p, 1, none⟩ (.bool true))) := ⟨rfl, hA.setBad, hk.setCell (by simp) _⟩
  obtain ⟨_, v, hb, _⟩ := hA
  have c1 := hb.cell 1
  have f1 : w1.frozen? ⟨p, 1, none⟩ = false := hb.frozen 1
  simp only [List.getElem?_toArray, List.getElem?_cons_succ, List.getElem?_cons_zero] at c1
  clear hb hk
  go_wp2
  go_ret
  exact hp.out
 ·have hR : Hid (intS l bad = (n, l', b')) := by show _ = _; rw [HI.out, if_neg hbig]
  rw [hR.out]
  have hbi : decide ((9223372036854775807 : Int) < (n : Int)) = false := decide_eq_false (by omega)
  go_enter Tryz.func132, Tryz.ntmps132
  go_wp2_with fail
  refine hN.out.mono ?_
  rintro e w1 ⟨rfl, hA, hk⟩
  have hp : Hid (RRdPost M p (.int .i64 n) l' b' w (.returned (.int .i64 n)) w1) := ⟨rfl, hA, hk⟩
  clear hA hk
  go_wp2
  go_ret
  exact hp.out
end Go.Proofs.YtinnifhnabncfaaGreatDoor.Vi
end
section
namespace Go.Proofs.YtinnifhnabncfaaGreatDoor.Vi
open Go.RowKit Base Mem
theorem num_bad (l : List UInt8) : numS l true = (0, l, true) := if_pos (.inl rfl)
theorem int_bad (l : List UInt8) : intS l true = (0, l, true) := by unfold intS; rw [num_bad]; rfl
theorem count_bad (l : List UInt8) (m : Nat) : countS l true m = (0, l, true) := by unfold countS; rw [int_bad]; simp
theorem text_bad (l : List UInt8) : textS l true = ([], l, true) := if_pos (.inl rfl)
theorem getDs_bad : ∀ (n : Nat) (l : List UInt8), (getDs n l true).2.2 = true
 | 0, _ => rfl
 | n + 1, l => by simp only [getDs]; rw [text_bad]; simp only []; rw [num_bad]; exact getDs_bad n l
theorem num_ok {l : List UInt8} {b : Bool} (h : (numS l b).2.2 = false) : b = false := by cases b; rfl; rw [num_bad] at h; cases h
theorem int_ok {l : List UInt8} {b : Bool} (h : (intS l b).2.2 = false) : b = false := by cases b; rfl; rw [int_bad] at h; cases h
theorem count_ok {l : List UInt8} {b : Bool} {m : Nat} (h : (countS l b m).2.2 = false) : b = false := by cases b; rfl; rw [count_bad] at h; cases h
theorem text_ok {l : List UInt8} {b : Bool} (h : (textS l b).2.2 = false) : b = false := by cases b; rfl; rw [text_bad] at h; cases h
theorem getDs_ok {n : Nat} {l : List UInt8} {b : Bool} (h : (getDs n l b).2.2 = false) : b = false := by cases b; rfl; rw [getDs_bad] at h; cases h
theorem count_int {l : List UInt8} {b : Bool} {m : Nat} (h : (intS l b).1 ≤ m) : countS l b m = intS l b := if_neg (by omega)
theorem count_int' {l : List UInt8} {b : Bool} {m : Nat} (h : (countS l b m).2.2 = false) : countS l b m = intS l b := by
 unfold countS at h ⊢
 split at h
 ·cases h
 ·rename_i hc; rw [if_neg hc]
theorem int_num {l : List UInt8} {b : Bool} (h : (numS l b).1 ≤ 9223372036854775807) : intS l b = numS l b := if_neg (by omega)
theorem int_num' {l : List UInt8} {b : Bool} (h : (intS l b).2.2 = false) : intS l b = numS l b := by
 unfold intS at h ⊢
 split at h
 ·cases h
 ·rename_i hc; rw [if_neg hc]
/-- So many deltas, till one is not there. -/
def rreadDs : Nat → List UInt8 → Bool → List DeltaD × List UInt8 × Bool
 | 0, l, b => ([], l, b)
 | k + 1, l, b => if b = true then ([], l, b) else
  (⟨⟨(textS l b).1.toArray⟩, (numS (textS l b).2.1 (textS l b).2.2).1⟩ :: (rreadDs k (numS (textS l b).2.1 (textS l b).2.2).2.1 (numS (textS l b).2.1 (textS l b).2.2).2.2).1, (rreadDs k (numS (textS l b).2.1 (textS l b).2.2).2.1 (numS (textS l b).2.1 (textS l b).2.2).2.2).2)
theorem rreadDs_bad (n : Nat) (l : List UInt8) : rreadDs n l true = ([], l, true) := by cases n; rfl; rw [rreadDs, if_pos rfl]
theorem rreadDs_eq : ∀ (n : Nat) (l : List UInt8) (b : Bool), (getDs n l b).2.2 = false ∨ (rreadDs n l b).2.2 = false → rreadDs n l b = getDs n l b
 | 0, _, _, _ => rfl
 | n + 1, l, b, h => by
  have hb : b = false := by
   rcases h with h | h
   ·exact getDs_ok h
   ·cases b
    ·rfl
    ·rw [rreadDs_bad] at h; cases h
  subst hb
  rw [rreadDs, if_neg (by simp)] at h ⊢
  simp only [getDs] at h ⊢
  rw [rreadDs_eq n _ _ h]
theorem rreadDs_len : ∀ (n : Nat) (l : List UInt8) (b : Bool), (rreadDs n l b).2.2 = false → (rreadDs n l b).1.length = n
 | 0, _, _, _ => rfl
 | n + 1, l, b, h => by
  cases b with
  | true => rw [rreadDs_bad] at h; cases h
  | false =>
   rw [rreadDs, if_neg (by simp)] at h ⊢
   simp only [] at h ⊢
   rw [List.length_cons, rreadDs_len n _ _ h]
def rreadX (k fr tag : Nat) (l : List UInt8) (b : Bool) : EntryD × List UInt8 × Bool :=
 if k = 2 then (⟨k, 0, 0, 0, 0, [], ⟨(textS l b).1.toArray⟩, fr, tag⟩, (textS l b).2)
 else if k = 1 then
  let a := intS l b
  let s := intS a.2.1 a.2.2
  let q := intS s.2.1 s.2.2
  let p := intS q.2.1 q.2.2
  let n := numS p.2.1 p.2.2
  let d := rreadDs n.1 n.2.1 n.2.2
  (⟨k, a.1, s.1, q.1, p.1, d.1, ⟨#[]⟩, fr, tag⟩, d.2)
 else (⟨k, 0, 0, 0, 0, [], ⟨#[]⟩, fr, tag⟩, l, b)
def rreadH (b : List UInt8) : EntryD × List UInt8 × Bool :=
 let k := byteS b false
 let f := intS k.2.1 k.2.2
 let t := intS f.2.1 f.2.2
 rreadX k.1.toNat f.1 t.1 t.2.1 t.2.2
def rreadE (b : List UInt8) : EntryD × Nat := if (!(rreadH b).2.2 && (rreadH b).2.1.isEmpty) = true ∧ rightE (rreadH b).1 = 0 then ((rreadH b).1, 0) else (zeroD, 12)
theorem rreadX_tag (k fr tag : Nat) (l : List UInt8) (b : Bool) : (rreadX k fr tag l b).1.kind = k ∧ (rreadX k fr tag l b).1.fr = fr ∧ ((rreadX k fr tag l b).2.2 = false → b = false) := by
 unfold rreadX
 split
 ·exact ⟨rfl, rfl, fun h => text_ok h⟩
 ·split
  ·refine ⟨rfl, rfl, fun h => ?_⟩
   simp only [] at h
   have h1 : (numS (intS (intS (intS (intS l b).2.1 (intS l b).2.2).2.1 (intS (intS l b).2.1 (intS l b).2.2).2.2).2.1 (intS (intS (intS l b).2.1 (intS l b).2.2).2.1 (intS (intS l b).2.1 (intS l b).2.2).2.2).2.2).2.1 (intS (intS (intS (intS l b).2.1 (intS l b).2.2).2.1 (intS (intS l b).2.1 (intS l b).2.2).2.2).2.1 (intS (intS (intS l b).2.1 (intS l b).2.2).2.1 (intS (intS l b).2.1 (intS l b).2.2).2.2).2.2).2.2).2.2 = false := by
    rw [rreadDs_eq _ _ _ (.inr h)] at h
    exact getDs_ok h
   exact int_ok (int_ok (int_ok (int_ok (num_ok h1))))
  ·exact ⟨rfl, rfl, fun h => h⟩
theorem readX_tag (k fr tag : Nat) (l : List UInt8) (b : Bool) : (readX k fr tag l b).1.kind = k ∧ (readX k fr tag l b).1.fr = fr ∧ ((readX k fr tag l b).2.2 = false → b = false) := by
 by_cases hk : k = 2
 ·subst hk
  rw [readX_two]
  exact ⟨rfl, rfl, fun h => text_ok h⟩
 ·obtain ⟨a, s, q, p, n, d, ha, hs, hq, hp, hn, hd, e⟩ := readX_else k fr tag l b hk
  rw [e]
  refine ⟨rfl, rfl, fun h => ?_⟩
  simp only [] at h
  rw [hd] at h
  have h1 := getDs_ok h
  rw [hn] at h1
  have h2 := count_ok h1
  rw [hp] at h2
  have h3 := int_ok h2
  rw [hq] at h3
  have h4 := int_ok h3
  rw [hs] at h4
  have h5 := count_ok h4
  rw [ha] at h5
  exact count_ok h5
theorem kind_12 {e : EntryD} (h : rightE e = 0) : e.kind = 1 ∨ e.kind = 2 := by
 rcases (right_facts h).2 with h | h
 ·exact .inr h
 ·exact .inl h.1
theorem rreadX_eq (k fr tag : Nat) (l : List UInt8) (b : Bool) (h : ((readX k fr tag l b).2.2 = false ∧ rightE (readX k fr tag l b).1 = 0) ∨ ((rreadX k fr tag l b).2.2 = false ∧ rightE (rreadX k fr tag l b).1 = 0)) : rreadX k fr tag l b = readX k fr tag l b := by
 have hkk : k = 1 ∨ k = 2 := by
  rcases h with ⟨_, h⟩ | ⟨_, h⟩
  ·have h1 := (readX_tag k fr tag l b).1
   rcases kind_12 h with h2 | h2 <;> rw [h1] at h2 <;> omega
  ·have h1 := (rreadX_tag k fr tag l b).1
   rcases kind_12 h with h2 | h2 <;> rw [h1] at h2 <;> omega
 rcases hkk with rfl | rfl
 ·obtain ⟨a, s, q, p, n, d, ha, hs, hq, hp, hn, hd, e⟩ := readX_else 1 fr tag l b (by omega)
  have er : rreadX 1 fr tag l b = (let a := intS l b
   let s := intS a.2.1 a.2.2
   let q := intS s.2.1 s.2.2
   let p := intS q.2.1 q.2.2
   let n := numS p.2.1 p.2.2
   let d := rreadDs n.1 n.2.1 n.2.2
   (⟨(1 : Nat), a.1, s.1, q.1, p.1, d.1, ⟨#[]⟩, fr, tag⟩, d.2)) := rfl
  simp only [] at er
  rcases h with ⟨h0, hr⟩ | ⟨h0, hr⟩
  ·rw [e] at h0
   simp only [] at h0
   rw [hd] at h0
   have b1 := getDs_ok h0
   rw [hn] at b1
   have b2 := count_ok b1
   rw [hp] at b2
   have b3 := int_ok b2
   rw [hq] at b3
   have b4 := int_ok b3
   rw [hs] at b4
   have b5 := count_ok b4
   have ea : a = intS l b := by rw [ha] at b5 ⊢; exact count_int' b5
   have es : s = intS a.2.1 a.2.2 := by rw [hs]; exact count_int' b4
   have en : n = numS p.2.1 p.2.2 := by
    have h1 : n = intS p.2.1 p.2.2 := by rw [hn]; exact count_int' b1
    rw [h1]
    refine int_num' ?_
    rw [← h1, hn]; exact b1
   rw [er, e, ← ea, ← es, ← hq, ← hp, ← en, rreadDs_eq _ _ _ (.inl h0), ← hd]
  ·rw [er] at h0 hr
   obtain ⟨⟨f0, f8, _⟩, hx⟩ := right_facts hr
   simp only [] at h0 hx
   have hx := hx.resolve_left (by simp)
   obtain ⟨_, _, x1, _, x2, _, _, x3⟩ := hx
   have hl := rreadDs_len _ _ _ h0
   have ea : a = intS l b := by rw [ha]; exact count_int (by omega)
   rw [← ea] at h0 hr x2 x3 hl er
   have es : s = intS a.2.1 a.2.2 := by rw [hs]; exact count_int (by omega)
   rw [← es, ← hq, ← hp] at h0 hr x3 hl er
   have en : n = numS p.2.1 p.2.2 := by
    have h1 : intS p.2.1 p.2.2 = numS p.2.1 p.2.2 := int_num (by omega)
    rw [hn, count_int (by rw [h1]; omega), h1]
   rw [← en] at h0 er
   rw [er, e, rreadDs_eq _ _ _ (.inr h0), ← hd]
 ·rw [readX_two]; rfl
theorem rreadE_eq (b : List UInt8) : rreadE b = readE b := by
 have key : ((readH b).2.2 = false ∧ rightE (readH b).1 = 0) ∨ ((rreadH b).2.2 = false ∧ rightE (rreadH b).1 = 0) → rreadH b = readH b := by
  intro h
  unfold readH rreadH at h ⊢
  simp only [] at h ⊢
  generalize byteS b false = k at *
  have hf : countS k.2.1 k.2.2 8 = intS k.2.1 k.2.2 := by
   rcases h with ⟨h0, hr⟩ | ⟨h0, hr⟩
   ·exact count_int' (int_ok ((readX_tag _ _ _ _ _).2.2 h0))
   ·have h1 := (right_facts hr).1.2.1
    rw [(rreadX_tag _ _ _ _ _).2.1] at h1
    exact count_int (by omega)
  rw [hf] at h ⊢
  exact rreadX_eq _ _ _ _ _ h
 unfold rreadE readE
 by_cases ho : (readH b).2.2 = false ∧ rightE (readH b).1 = 0
 ·rw [key (.inl ho)]
 ·by_cases hr : (rreadH b).2.2 = false ∧ rightE (rreadH b).1 = 0
  ·rw [key (.inr hr)]
  ·rw [if_neg, if_neg]
   ·rintro ⟨h1, h2⟩
    rw [Bool.and_eq_true] at h1
    exact ho ⟨by simpa using h1.1, h2⟩
   ·rintro ⟨h1, h2⟩
    rw [Bool.and_eq_true] at h1
    exact hr ⟨by simpa using h1.1, h2⟩
end Go.Proofs.YtinnifhnabncfaaGreatDoor.Vi
end
section
namespace Go.Proofs.YtinnifhnabncfaaGreatDoor.Vi
open Go.RowKit Base Mem Go.Shelf
theorem text_less {l : List UInt8} (h : (textS l false).2.2 = false) : (textS l false).2.1.length < l.length := by
 unfold textS at h ⊢
 by_cases hc : (cutL l).2 = 0
 ·rw [if_pos (.inr hc)] at h; cases h
 ·rw [if_neg (by simp [hc])]
  have h1 := (getL_le l).1
  simp only [List.length_drop]
  have h2 : 0 < l.length := by
   rcases Nat.eq_zero_or_pos l.length with hz | hz
   ·exfalso
    apply hc
    unfold cutL
    rw [if_pos (.inl (by omega))]
   ·exact hz
  omega
theorem rreadDs_short : ∀ (n : Nat) (l : List UInt8) (b : Bool), (rreadDs n l b).1.length ≤ l.length + 1 ∧ ∀ d ∈ (rreadDs n l b).1, d.ser.size ≤ l.length
 | 0, l, b => by simp [rreadDs]
 | n + 1, l, b => by
  cases b with
  | true => rw [rreadDs_bad]; simp
  | false =>
   rw [rreadDs, if_neg (by simp)]
   have h1 := textS_len l false
   have h2 := numS_len (textS l false).2.1 (textS l false).2.2
   obtain ⟨h3, h4⟩ := rreadDs_short n (numS (textS l false).2.1 (textS l false).2.2).2.1 (numS (textS l false).2.1 (textS l false).2.2).2.2
   simp only []
   refine ⟨?_, ?_⟩
   ·rw [List.length_cons]
    cases ht : (textS l false).2.2 with
    | true =>
     rw [num_bad, rreadDs_bad]
     simp
    | false =>
     have := text_less ht
     rw [ht] at h3 h2
     omega
   ·intro d hd
    rcases List.mem_cons.1 hd with rfl | hd
    ·have h5 : (textS l false).1.length ≤ l.length := by first | exact h1.1 | exact h1.2 | omega
     simp only []
     exact h5
    ·have := h4 d hd
     omega
def RDsPost (M : List Nat) (p : Nat) (R : List DeltaD × List UInt8 × Bool) (w : World) (e : Ending) (w' : World) : Prop := ∃ v, e = .returned v ∧ w'.ownsRow w.heap.size 86 2 v R.1.length (dCells R.1) ∧ RRdAt w' M p R.2.1 R.2.2 ∧ Keeps [p] w w'
set_option maxRecDepth 100000 in
set_option maxHeartbeats 2000000 in
theorem rreadDs_any (M : List Nat) (p : Nat) (l : List UInt8) (b : Bool) (w : World) (h : RRdAt w M p l b) (hL : l.length < 4294967281) :
  Calls Tryz.prog 134 #[.pointer (some ⟨p, 0, none⟩)] w fun e w' => RDsPost M p (rreadDs (numS l b).1 (numS l b).2.1 (numS l b).2.2) w e w' := by
 have hp0 := h.lt
 obtain ⟨i0, hi0, hz0, hz1, hz2⟩ := info_parts infoDelta2
 have Hi0 := Lib.hid hi0; have Hz0 := Lib.hid hz0; have Hz1 := Lib.hid hz1; have Hz2 := Lib.hid hz2
 have hn := Lib.hid (rnum_any M p l b w h)
 have hnl := numS_len l b
 have hnt := numS_lt l b
 clear h hi0 hz0 hz1 hz2
 generalize numS l b = N at *
 obtain ⟨n0, l0, b0⟩ := N
 simp only [] at hn hnl hnt ⊢
 have hL0 : l0.length < 4294967281 := by first | omega | (have := hnl.2; omega) | (have := hnl.1; omega)
 clear hnl
 obtain ⟨R, hR⟩ : ∃ R, R = rreadDs n0 l0 b0 := ⟨_, rfl⟩
 rw [← hR]
 have HR0 := Lib.hid hR
 clear hR
 go_enter Tryz.func134, Tryz.ntmps134
 go_wp2_with fail
 refine hn.out.mono ?_
 rintro e w1 ⟨rfl, hA1, hk1⟩
 have HA1 := Lib.hid hA1; have Hk1 := Lib.hid hk1
 have hp1 : p < w1.heap.size := hA1.lt
 clear hA1 hk1 hn
 go_wp2_with fail
 go_loopw [3, 4] (fun out n wr => ∃ (k : Nat) (acc : List DeltaD) (lx : List UInt8) (bx : Bool), n = .int .u64 k ∧ k < 18446744073709551616 ∧ Hid (R = (acc ++ (rreadDs k lx bx).1, (rreadDs k lx bx).2)) ∧ Hid (acc.length ≤ l0.length + 1 ∧ (bx = false → acc.length + lx.length ≤ l0.length)) ∧ Hid (wr.ownsRow w1.heap.size 86 2 out acc.length (dCells acc)) ∧ Hid (RRdAt wr (out.ownBlock.toList ++ M) p lx bx) ∧ Hid (Keeps [p] w1 wr)) (fun _ n _ => (intOf n).toNat)
 case atStart => exact ⟨n0, [], l0, b0, rfl, hnt, HR0, (show _ ∧ _ from ⟨by simp, fun _ => by simp⟩), World.ownsRow_nil _ _ _ _, (show RRdAt w1 _ p l0 b0 from HA1.out), Keeps.refl _ _⟩
 case round =>
  obtain ⟨k, acc, lx, bx, rfl, hk, Hg, Hc, Hown, HR, Hk⟩ := hrel
  have hfell : wr.cell? ⟨p, 1, none⟩ = some (.bool bx) := by
   obtain ⟨_, v, hb, _⟩ := HR.out
   exact hb.cell 1
  rcases Nat.eq_zero_or_pos k with hk0 | hk0
  ·obtain rfl : k = 0 := hk0
   have hP : Hid (RDsPost M p R w (.returned u3) wr) := by
    have := Hg.out
    simp only [rreadDs, List.append_nil] at this
    rw [this]
    exact ⟨u3, rfl, own_more Hown.out Hk1.out.size, HR.out.avoid (fun g hg => .inl (List.mem_append_right _ hg)), Hk1.out.trans Hk.out (by simp)⟩
   go_wp2
   go_ret
   exact hP.out
  ·obtain ⟨j, rfl⟩ : ∃ j, k = j + 1 := ⟨k - 1, by omega⟩
   have hkp : (0 : Int) < (j : Int) + 1 := by omega
   cases bx with
   | true =>
    have hP : Hid (RDsPost M p R w (.returned u3) wr) := by
     have := Hg.out
     rw [rreadDs_bad] at this
     simp only [List.append_nil] at this
     rw [this]
     exact ⟨u3, rfl, own_more Hown.out Hk1.out.size, HR.out.avoid (fun g hg => .inl (List.mem_append_right _ hg)), Hk1.out.trans Hk.out (by simp)⟩
    go_wp2
    go_ret
    exact hP.out
   | false =>
    have hwj : IntKind.u64.wrap (j : Int) = (j : Int) := by rw [IntKind.wrap_u64]; omega
    have hwj2 : IntKind.u64.wrap ((j : Int) + 1 - 1) = (j : Int) := by rw [IntKind.wrap_u64]; omega
    have hjj : (j : Int) + 1 - 1 = (j : Int) := by omega
    have Hst : Hid (rreadDs (j + 1) lx false = (⟨⟨(textS lx false).1.toArray⟩, (numS (textS lx false).2.1 (textS lx false).2.2).1⟩ :: (rreadDs j (numS (textS lx false).2.1 (textS lx false).2.2).2.1 (numS (textS lx false).2.1 (textS lx false).2.2).2.2).1, (rreadDs j (numS (textS lx false).2.1 (textS lx false).2.2).2.1 (numS (textS lx false).2.1 (textS lx false).2.2).2.2).2)) := by
     show _ = _
     rw [rreadDs, if_neg (by simp)]
    have ht := Lib.hid (rstr_any (u3.ownBlock.toList ++ M) p lx false wr HR.out)
    have htl := Lib.hid (fun h => text_less (l := lx) h)
    generalize textS lx false = t at *
    obtain ⟨t1, t2, t3⟩ := t
    simp only [] at ht Hst htl
    go_wp2_with fail
    refine ht.out.mono ?_
    rintro e w3 ⟨rfl, hA3, hk3⟩
    have hu := Lib.hid (rnum_any (u3.ownBlock.toList ++ M) p t2 t3 w3 hA3)
    have hul := Lib.hid (numS_len t2 t3)
    have hub := Lib.hid (fun (h : (numS t2 t3).2.2 = false) => num_ok h)
    have Hk3 := Lib.hid hk3
    generalize numS t2 t3 = u at *
    obtain ⟨u1, u2', u3'⟩ := u
    simp only [] at hu Hst hul hub
    clear hA3 hk3 ht
    go_wp2_with fail
    refine hu.out.mono ?_
    rintro e w4 ⟨rfl, hA4, hk4⟩
    have HA4 := Lib.hid hA4
    have Hk4 : Hid (Keeps [p] wr w4) := Hk3.out.trans hk4 (by simp)
    clear hA4 hk4 hu
    have hown4 := own_keep Hown.out Hk4.out (by simp; exact hp1)
    have Hown5 := Lib.hid (hown4.alloc (.cells #[.string ⟨t1.toArray⟩, .int .u64 u1] 86))
    have hlt0 := Lib.hid Hown.out.lt
    have hz4 : w1.heap.size ≤ w4.heap.size := Nat.le_trans Hk.out.size Hk4.out.size
    have hac : acc.length ≤ 4294967281 := by have := Hc.out.2 (by first | rfl | trivial); omega
    clear hown4
    go_wp2_with (at_builtin; refine wpList_append_any _ rfl (.tmp 21) (.tmp 26) _ rfl w1.heap.size 86 i0 _ 2 24 Tryz.underlying24 Hi0.out Hz0.out Hz1.out Hz2.out rfl (by omega) u3 acc.length (dCells acc) rfl Hown5.out (w4.heap.size + 1) (some ⟨w4.heap.size, 0, none⟩) 1 1 (dCell ⟨⟨t1.toArray⟩, u1⟩) rfl (reads_new _ _ _ _ _ rfl) (by intro u hu; simp [dCell] at hu; rcases hu with rfl | rfl <;> rfl) (by unfold maxLen; omega) (by omega) (by simp; omega) ?_)
    intro v6 w6 hown6 hg6 hat6
    have hpo : p ∉ u3.ownBlock.toList := fun hm => by have := (hlt0.out p (by simpa using hm)).1; omega
    have kg : Keeps u3.ownBlock.toList (w4.alloc (.cells #[.string ⟨t1.toArray⟩, .int .u64 u1] 86)) w6 := (Keeps.refl _ _).grown hg6 (fun g hg => .inl (by simpa using hg))
    have h1 := HA4.out.keep (M' := []) ((Keeps.refl _ _).alloc (.cells #[.string ⟨t1.toArray⟩, .int .u64 u1] 86)) (by simp) (by simp)
    have h2 := h1.avoid (M' := v6.ownBlock.toList ++ (u3.ownBlock.toList ++ M)) (fun g hg => by
     rcases List.mem_append.1 hg with h | h
     ·rcases hat6 with h5 | h5
      ·exact .inl (List.mem_append_left _ (by rw [h5] at h; exact h))
      ·rw [h5] at h; simp at h; exact .inr (by simp; omega)
     ·exact .inl h)
    have H6 := Lib.hid ((h2.keep kg (fun g hg => .inl (List.mem_append_right _ (List.mem_append_left _ hg))) hpo).avoid (M' := v6.ownBlock.toList ++ M) (fun g hg => by
     rcases List.mem_append.1 hg with h | h
     ·exact .inl (List.mem_append_left _ h)
     ·exact .inl (List.mem_append_right _ (List.mem_append_right _ h))))
    have Hk6 : Hid (Keeps [p] w1 w6) := ((Hk.out.trans Hk4.out (by simp)).alloc _).grown hg6 (fun g hg => .inr (hlt0.out g hg).1)
    have Hown6 : Hid (w6.ownsRow w1.heap.size 86 2 v6 (acc ++ [(⟨⟨t1.toArray⟩, u1⟩ : DeltaD)]).length (dCells (acc ++ [⟨⟨t1.toArray⟩, u1⟩]))) := by
     show World.ownsRow _ _ _ _ _ _ _
     unfold dCells at hown6 ⊢
     rw [List.flatMap_append, List.length_append]
     simpa using hown6
    have Hg6 : Hid (R = ((acc ++ [⟨⟨t1.toArray⟩, u1⟩]) ++ (rreadDs j u2' u3').1, (rreadDs j u2' u3').2)) := by
     show _ = _
     rw [Hg.out, Hst.out]; simp
    have Hc6 : Hid ((acc ++ [(⟨⟨t1.toArray⟩, u1⟩ : DeltaD)]).length ≤ l0.length + 1 ∧ (u3' = false → (acc ++ [(⟨⟨t1.toArray⟩, u1⟩ : DeltaD)]).length + u2'.length ≤ l0.length)) := by
     show _ ∧ _
     have h3 := Hc.out.2 (by first | rfl | trivial)
     have h4 := hul.out
     rw [List.length_append, List.length_singleton]
     refine ⟨by omega, fun h => ?_⟩
     have h5 := htl.out (hub.out h)
     omega
    clear hown6 hg6 hat6 kg h1 h2 hpo htl hul hub
    go_wp2
    go_roundw
    case rel => exact ⟨j, acc ++ [⟨⟨t1.toArray⟩, u1⟩], u2', u3', rfl, by omega, Hg6, Hc6, Hown6, H6, Hk6⟩
    case measure => simp [intOf] <;> omega
end Go.Proofs.YtinnifhnabncfaaGreatDoor.Vi
end
section
namespace Go.Proofs.YtinnifhnabncfaaGreatDoor.Vi
open Go.RowKit Base Mem Go.Shelf
structure ReR (w0 w : World) (p g0 g5 : Nat) (l : List UInt8) (bad : Bool) (c : Array Value) : Prop where
 rd : RRdAt w [g5] p l bad
 keeps : Below w0.heap.size w0 w
 b0 : Blk w g0 26 zeroA
 b5 : Blk w g5 26 c
 o0 : w0.heap.size ≤ g0
 o1 : g0 < p
 o2 : p < g5
theorem ReR.step {w0 w w' : World} {p g0 g5 : Nat} {l l' : List UInt8} {bad bad' : Bool} {c : Array Value} (h : ReR w0 w p g0 g5 l bad c) (hr : RRdAt w' [g5] p l' bad') (hk : Keeps [p] w w') : ReR w0 w' p g0 g5 l' bad' c := by
 have h0 := h.o0; have h1 := h.o1; have h2 := h.o2
 exact ⟨hr, ((Keeps.of_below (M := []) h.keeps).trans hk (by intro g hg; simp at hg; right; omega)).below, hk.blk h.b0 (by simp; omega), hk.blk h.b5 (by simp; omega), h0, h1, h2⟩
theorem ReR.set {w0 w : World} {p g0 g5 : Nat} {l : List UInt8} {bad : Bool} {c : Array Value} (h : ReR w0 w p g0 g5 l bad c) (i : Nat) (v : Value) : ReR w0 (w.setCell ⟨g5, i, none⟩ v) p g0 g5 l bad (c.setIfInBounds i v) := by
 have h0 := h.o0; have h1 := h.o1; have h2 := h.o2
 have hk : Keeps [g5] w (w.setCell ⟨g5, i, none⟩ v) := (Keeps.refl _ _).setCell (by simp) v
 exact ⟨h.rd.keep hk (by simp) (by simp; omega), ((Keeps.of_below (M := []) h.keeps).trans hk (by intro g hg; simp at hg; right; omega)).below, hk.blk h.b0 (by simp; omega), h.b5.set_ i v, h0, h1, h2⟩
def ReRCut (w wx : World) (p g5 : Nat) (RH : EntryD × List UInt8 × Bool) : Prop := ∃ dv, ReR w wx p w.heap.size g5 RH.2.1 RH.2.2 (eCell (RH.1, dv)).toArray ∧ ∀ M, (∀ g ∈ M, g ≤ w.heap.size) → Ds wx M dv RH.1.ds
theorem rreadX_two (fr tag : Nat) (l : List UInt8) (b : Bool) : rreadX 2 fr tag l b = (⟨(2 : Nat), 0, 0, 0, 0, [], ⟨(textS l b).1.toArray⟩, fr, tag⟩, (textS l b).2) := rfl
theorem rreadX_one (fr tag : Nat) (l : List UInt8) (b : Bool) : ∃ a s q p d, a = intS l b ∧ s = intS a.2.1 a.2.2 ∧ q = intS s.2.1 s.2.2 ∧ p = intS q.2.1 q.2.2 ∧ d = rreadDs (numS p.2.1 p.2.2).1 (numS p.2.1 p.2.2).2.1 (numS p.2.1 p.2.2).2.2 ∧ rreadX 1 fr tag l b = (⟨(1 : Nat), a.1, s.1, q.1, p.1, d.1, ⟨#[]⟩, fr, tag⟩, d.2) := ⟨_, _, _, _, _, rfl, rfl, rfl, rfl, rfl, rfl⟩
theorem rreadX_no {k : Nat} (fr tag : Nat) (l : List UInt8) (b : Bool) (h2 : k ≠ 2) (h1 : k ≠ 1) : rreadX k fr tag l b = (⟨k, 0, 0, 0, 0, [], ⟨#[]⟩, fr, tag⟩, l, b) := by
 unfold rreadX; rw [if_neg h2, if_neg h1]
theorem rreadX_short (k fr tag : Nat) (l : List UInt8) (b : Bool) (h : l.length < 4294967281) : Short (rreadX k fr tag l b).1 := by
 by_cases h2 : k = 2
 ·subst h2
  rw [rreadX_two]
  refine ⟨?_, by simp, by simp⟩
  have := (textS_len l b).2
  show (textS l b).1.length < _
  omega
 ·by_cases h1 : k = 1
  ·subst h1
   obtain ⟨a, s, q, p, d, ha, hs, hq, hp, hd, e⟩ := rreadX_one fr tag l b
   rw [e]
   have e1 := intS_len l b
   have e2 := intS_len a.2.1 a.2.2
   have e3 := intS_len s.2.1 s.2.2
   have e4 := intS_len q.2.1 q.2.2
   have e5 := numS_len p.2.1 p.2.2
   obtain ⟨e6, e7⟩ := rreadDs_short (numS p.2.1 p.2.2).1 (numS p.2.1 p.2.2).2.1 (numS p.2.1 p.2.2).2.2
   rw [← ha] at e1; rw [← hs] at e2; rw [← hq] at e3; rw [← hp] at e4; rw [← hd] at e6 e7
   refine ⟨by show (0 : Nat) < _; omega, fun x hx => ?_, ?_⟩
   ·have := e7 x hx; omega
   ·show d.1.length ≤ _; omega
  ·rw [rreadX_no fr tag l b h2 h1]
   exact ⟨by show (0 : Nat) < _; omega, by simp, by simp⟩
theorem rreadH_short (l : List UInt8) (h : l.length < 4294967281) : Short (rreadH l).1 := by
 have e1 := byteS_len l false
 have e2 := intS_len (byteS l false).2.1 (byteS l false).2.2
 have e3 := intS_len (intS (byteS l false).2.1 (byteS l false).2.2).2.1 (intS (byteS l false).2.1 (byteS l false).2.2).2.2
 unfold rreadH
 exact rreadX_short _ _ _ _ _ (by omega)
set_option maxRecDepth 100000 in
set_option maxHeartbeats 4000000 in
theorem rreadE_any (v : Value) (l : List UInt8) (w : World) (h : Bs w [] v l) (hl : l.length < 4294967281) :
  Calls Tryz.prog 71 #[v] w fun e w' => ReadPost (rreadE l) w e w' := by
 have hsh := Lib.hid (rreadH_short l hl)
 have HE : Hid (rreadE l = if (!(rreadH l).2.2 && (rreadH l).2.1.isEmpty) = true ∧ rightE (rreadH l).1 = 0 then ((rreadH l).1, 0) else (zeroD, 12)) := rfl
 obtain ⟨kt, ft, tt, hk, hf, ht, hH⟩ : ∃ k f t, k = byteS l false ∧ f = intS k.2.1 k.2.2 ∧ t = intS f.2.1 f.2.2 ∧ rreadH l = rreadX k.1.toNat f.1 t.1 t.2.1 t.2.2 := ⟨_, _, _, rfl, rfl, rfl, rfl⟩
 have hlt : tt.2.1.length < 4294967281 := by
  have e1 := byteS_len l false
  have e2 := intS_len kt.2.1 kt.2.2
  have e3 := intS_len ft.2.1 ft.2.2
  rw [← hk] at e1; rw [← hf] at e2; rw [← ht] at e3
  omega
 generalize rreadE l = RE at *
 generalize rreadH l = RH at *
 obtain ⟨A, c, rfl, hc⟩ := h.len
 have Hh := Lib.hid h
 have Hk := Lib.hid hk; have Hf := Lib.hid hf; have Ht := Lib.hid ht; have HH := Lib.hid hH
 clear h hk hf ht hH
 go_enter Tryz.func71, Tryz.ntmps71
 go_upto_region 2 with (fail)
 have hB0 : Blk ((w.alloc (.cells zeroA 26)).alloc (.cells #[.slice A l.length c, .bool false] 175)) w.heap.size 26 zeroA := (Blk.new w 26 zeroA).below (B := w.heap.size + 1) (((Below.refl _ _)).alloc (by simp) _) (by omega)
 have hrd : RRdAt ((w.alloc (.cells zeroA 26)).alloc (.cells #[.slice A l.length c, .bool false] 175)) [] (w.heap.size + 1) l false := by
  refine ⟨by omega, .slice A l.length c, ?_, ?_⟩
  ·have := Blk.new (w.alloc (.cells zeroA 26)) 175 #[.slice A l.length c, .bool false]
   rwa [World.size_alloc] at this
  ·exact (Hh.out.avoid (M' := [w.heap.size + 1]) (by intro g hg; simp at hg; right; omega)).keep (M' := []) (((Keeps.refl _ _).alloc _).alloc _) (by simp)
 have hbw : Below w.heap.size w ((w.alloc (.cells zeroA 26)).alloc (.cells #[.slice A l.length c, .bool false] 175)) := ((Below.refl _ _).alloc (Nat.le_refl _) _).alloc (by simp) _
 unfold zeroA at hB0 hrd hbw
 generalize hw1 : (w.alloc _).alloc _ = w1 at *
 clear hw1
 obtain ⟨p, hp⟩ : ∃ p, p = w.heap.size + 1 := ⟨_, rfl⟩
 rw [← hp] at hrd ⊢
 have Hrd := Lib.hid hrd; have HB0 : Hid (Blk w1 w.heap.size 26 zeroA) := hB0; have Hbw := Lib.hid hbw
 have hpw : w.heap.size < p := by omega
 have hpw1 : p < w1.heap.size := hrd.lt
 clear hrd hB0 hbw hp
 go_wp2_with fail
 have hby := Lib.hid (rbyte_any [] p l false w1 Hrd.out)
 rw [← Hk.out] at hby
 obtain ⟨k1, k2, k3⟩ := kt
 simp only [] at hby Hf HH
 refine hby.out.mono ?_
 rintro e w2 ⟨rfl, hrd2, hk2⟩
 have HB2 := Lib.hid (hk2.blk HB0.out (by simp; omega))
 have Hbw2 := Lib.hid ((Keeps.of_below (M := []) Hbw.out).trans hk2 (by intro g hg; simp at hg; right; omega)).below
 have Hrd2 := Lib.hid hrd2
 have hp2 : p < w2.heap.size := hrd2.lt
 generalize k1.toNat = k at *
 clear hrd2 hk2 hby Hbw HB0 Hrd Hk
 go_wp2_with fail
 have hst : ReR w (w2.alloc (.cells #[.int .i64 k, .int .i64 0, .int .i64 0, .int .i64 0, .int .i64 0, .slice none 0 0, .string ⟨#[]⟩, .int .i64 0, .int .i64 0] 26)) p w.heap.size w2.heap.size k2 k3 #[.int .i64 k, .int .i64 0, .int .i64 0, .int .i64 0, .int .i64 0, .slice none 0 0, .string ⟨#[]⟩, .int .i64 0, .int .i64 0] :=
  ⟨(Hrd2.out.avoid (M' := [w2.heap.size]) (by intro g hg; simp at hg; right; omega)).keep (M' := []) ((Keeps.refl _ _).alloc _) (by simp) (by simp), Hbw2.out.alloc (by omega) _, HB2.out.below (below_new' w2 _) (by omega), Blk.new w2 _ _, Nat.le_refl _, hpw, hp2⟩
 have H3 := Lib.hid hst
 clear hst HB2 Hbw2 Hrd2
 generalize hw3 : w2.alloc _ = w3 at *
 generalize w2.heap.size = g5 at *
 clear hw3
 have hct := Lib.hid (rrint_any [g5] p k2 k3 w3 H3.out.rd)
 rw [← Hf.out] at hct
 obtain ⟨f1, f2, f3⟩ := ft
 simp only [] at hct Ht HH
 refine hct.out.mono ?_
 rintro e wz1 ⟨rfl, hA, hk⟩
 have Hz1 := Lib.hid (H3.out.step hA hk)
 clear hA hk H3 hct Hf
 obtain ⟨q0, q1, q2, q3, q4, q5, q6, q7, q8, qf⟩ := blk9 Hz1.out.b5
 have Hy1 : Hid (ReR w (wz1.setCell ⟨g5, 7, none⟩ (.int .i64 f1)) p w.heap.size g5 f2 f3 #[.int .i64 k, .int .i64 0, .int .i64 0, .int .i64 0, .int .i64 0, .slice none 0 0, .string ⟨#[]⟩, .int .i64 f1, .int .i64 0]) := (by simpa using Hz1.out.set 7 (.int .i64 f1) : ReR w _ p w.heap.size g5 f2 f3 _)
 clear Hz1
 go_wp2_with fail
 generalize hgw : wz1.setCell ⟨g5, 7, none⟩ (.int .i64 f1) = wy1 at *
 clear hgw q0 q1 q2 q3 q4 q5 q6 q7 q8 qf
 have hct := Lib.hid (rrint_any [g5] p f2 f3 wy1 Hy1.out.rd)
 rw [← Ht.out] at hct
 obtain ⟨t1, t2, t3⟩ := tt
 simp only [] at hct HH hlt
 refine hct.out.mono ?_
 rintro e wz2 ⟨rfl, hA, hk⟩
 have Hz2 := Lib.hid (Hy1.out.step hA hk)
 clear hA hk Hy1 hct Ht
 obtain ⟨q0, q1, q2, q3, q4, q5, q6, q7, q8, qf⟩ := blk9 Hz2.out.b5
 have Hy2 : Hid (ReR w (wz2.setCell ⟨g5, 8, none⟩ (.int .i64 t1)) p w.heap.size g5 t2 t3 #[.int .i64 k, .int .i64 0, .int .i64 0, .int .i64 0, .int .i64 0, .slice none 0 0, .string ⟨#[]⟩, .int .i64 f1, .int .i64 t1]) := (by simpa using Hz2.out.set 8 (.int .i64 t1) : ReR w _ p w.heap.size g5 t2 t3 _)
 clear Hz2
 go_upto_region 5 with (fail)
 generalize hgw : wz2.setCell ⟨g5, 8, none⟩ (.int .i64 t1) = wy2 at *
 clear hgw q0 q1 q2 q3 q4 q5 q6 q7 q8 qf
 by_cases hk2 : k = 2
 ·subst hk2
  have HH2 : Hid (RH = (⟨(2 : Nat), 0, 0, 0, 0, [], ⟨(textS t2 t3).1.toArray⟩, f1, t1⟩, (textS t2 t3).2)) := by show _ = _; rw [HH.out, rreadX_two]
  clear HH
  obtain ⟨tx, htx⟩ : ∃ tx, tx = textS t2 t3 := ⟨_, rfl⟩
  rw [← htx] at HH2
  have Htx := Lib.hid htx
  clear htx
  obtain ⟨q0, q1, q2, q3, q4, q5, q6, q7, q8, qf⟩ := blk9 Hy2.out.b5
  go_wp2_with fail
  clear q0 q1 q2 q3 q4 q5 q6 q7 q8 qf
  have hct := Lib.hid (rstr_any [g5] p t2 t3 wy2 Hy2.out.rd)
  rw [← Htx.out] at hct
  obtain ⟨s1, s2, s3⟩ := tx
  simp only [] at hct HH2
  refine hct.out.mono ?_
  rintro e wz3 ⟨rfl, hA, hk⟩
  have Hz3 := Lib.hid (Hy2.out.step hA hk)
  clear hA hk Hy2 hct Htx
  obtain ⟨q0, q1, q2, q3, q4, q5, q6, q7, q8, qf⟩ := blk9 Hz3.out.b5
  have Hy3 : Hid (ReR w (wz3.setCell ⟨g5, 6, none⟩ (.string ⟨s1.toArray⟩)) p w.heap.size g5 s2 s3 #[.int .i64 (2 : Nat), .int .i64 0, .int .i64 0, .int .i64 0, .int .i64 0, .slice none 0 0, .string ⟨s1.toArray⟩, .int .i64 f1, .int .i64 t1]) := (by simpa using Hz3.out.set 6 (.string ⟨s1.toArray⟩) : ReR w _ p w.heap.size g5 s2 s3 _)
  clear Hz3
  have HC0 : Hid (ReRCut w (wz3.setCell ⟨g5, 6, none⟩ (.string ⟨s1.toArray⟩)) p g5 RH) := by
   show ReRCut _ _ _ _ _
   rw [HH2.out]
   exact ⟨.slice none 0 0, by simpa [eCell] using Hy3.out, fun M _ => Ds.nil _ _⟩
  clear Hy3 HH2
  go_upto_region 14 with (fail)
  generalize hgw : wz3.setCell ⟨g5, 6, none⟩ (.string ⟨s1.toArray⟩) = wc at *
  clear hgw q0 q1 q2 q3 q4 q5 q6 q7 q8 qf
  have HC := HC0
  clear HC0
  have hcut := HC.out
  obtain ⟨dv, hRe, hDs⟩ := hcut
  have HRe := Lib.hid hRe; have HDs := Lib.hid hDs
  clear hRe hDs HC
  obtain ⟨e, lx, bx⟩ := RH
  simp only [] at hsh HE HRe HDs
  obtain ⟨Ad, cd, rfl, hcd⟩ := (HDs.out [] (by simp)).len
  have hdw := Lib.hid (rdone_any [g5] p lx bx _ HRe.out.rd)
  obtain ⟨r0, r1, r2, r3, r4, r5, r6, r7, r8, rf⟩ := blk9 HRe.out.b0
  have ho0 := HRe.out.o0; have ho1 := HRe.out.o1
  cases hdone : (!bx && lx.isEmpty) with
  | false =>
   obtain rfl : RE = (zeroD, 12) := by rw [HE.out, hdone, if_neg (by simp)]
   rw [hdone] at hdw
   clear hdone HE
   go_wp2_with fail
   refine hdw.out.mono ?_
   rintro r w' ⟨rfl, rfl⟩
   go_wp2
   refine bodyPost_ret (v := .tuple #[.agg zeroA, .int .i64 12]) (by simp [results, Tryz.results71, go_sem, zeroA, r0, r1, r2, r3, r4, r5, r6, r7, r8]) rfl ?_
   refine ⟨.slice none 0 0, rfl, fun M _ => Ds.nil _ _, ?_⟩
   repeat (first | (with_reducible exact HRe.out.keeps) | (with_reducible refine Below.setCell ?_ (by simp) _))
  | true =>
   rw [hdone] at hdw
   have hri := Lib.hid (rrightE_any e _ wc (HDs.out [] (by simp)) hsh.out)
   have HR : Hid (RE = if rightE e = 0 then (e, 0) else (zeroD, 12)) := by show _ = _; rw [HE.out, hdone]; simp
   clear hdone HE
   generalize rightE e = rr at *
   obtain ⟨kind, ag, sh, seq, ep, ds, ser, fr, tag⟩ := e
   simp only [eCell] at hri HRe HDs HR hcd
   obtain ⟨q0, q1, q2, q3, q4, q5, q6, q7, q8, qf⟩ := blk9 HRe.out.b5
   have ho2 := HRe.out.o2
   have hg5 : g5 < wc.heap.size := HRe.out.b5.lt
   have hwc : w.heap.size < wc.heap.size := HRe.out.b0.lt
   go_wp2_with fail
   refine hdw.out.mono ?_
   rintro r w' ⟨rfl, rfl⟩
   go_wp2_with fail
   refine hri.out.mono ?_
   rintro r w9 ⟨rfl, hb9⟩
   have H9 := Lib.hid (HRe.out.keeps.trans (hb9.mono HRe.out.keeps.size))
   have HB0 := Lib.hid (HRe.out.b0.below hb9 hwc)
   have HB5 := Lib.hid (HRe.out.b5.below hb9 hg5)
   have HD9 : Hid (∀ M, (∀ g ∈ M, g ≤ w.heap.size) → Ds w9 M (.slice Ad ds.length cd) ds) := fun M hM => (HDs.out M hM).keep (Keeps.of_below (M := []) hb9) (by simp)
   clear hb9 hri hdw r0 r1 r2 r3 r4 r5 r6 r7 r8 rf q0 q1 q2 q3 q4 q5 q6 q7 q8 qf
   obtain ⟨r0, r1, r2, r3, r4, r5, r6, r7, r8, rf⟩ := blk9 HB0.out
   obtain ⟨q0, q1, q2, q3, q4, q5, q6, q7, q8, qf⟩ := blk9 HB5.out
   by_cases hrr : rr = 0
   ·obtain rfl : RE = (⟨kind, ag, sh, seq, ep, ds, ser, fr, tag⟩, 0) := by rw [HR.out, if_pos hrr]
    subst hrr
    clear HR
    go_wp2
    refine bodyPost_ret (v := .tuple #[.agg #[.int .i64 kind, .int .i64 ag, .int .i64 sh, .int .i64 seq, .int .i64 ep, .slice Ad ds.length cd, .string ser, .int .i64 fr, .int .i64 tag], .int .i64 0]) (by simp [results, Tryz.results71, go_sem, r0, r1, r2, r3, r4, r5, r6, r7, r8]) rfl ?_
    refine ⟨.slice Ad ds.length cd, rfl, fun M hM => ?_, ?_⟩
    ·have h1 := HD9.out (w.heap.size :: M) (by intro g hg; rcases List.mem_cons.1 hg with rfl | hg; exact Nat.le_refl _; exact Nat.le_of_lt (hM g hg))
     refine Rd.more (h1.keep (M' := [w.heap.size]) ?_ (by simp))
     repeat (first | (with_reducible exact Keeps.refl _ _) | (with_reducible refine Keeps.setCell ?_ (by simp) _))
    ·repeat (first | (with_reducible exact H9.out) | (with_reducible refine Below.setCell ?_ (by simp) _))
   ·obtain rfl : RE = (zeroD, 12) := by rw [HR.out, if_neg hrr]
    have hne : ((rr : Int) != 0) = true := by simpa using hrr
    clear HR hrr
    go_wp2
    refine bodyPost_ret (v := .tuple #[.agg zeroA, .int .i64 12]) (by simp [results, Tryz.results71, go_sem, zeroA, r0, r1, r2, r3, r4, r5, r6, r7, r8]) rfl ?_
    refine ⟨.slice none 0 0, rfl, fun M _ => Ds.nil _ _, ?_⟩
    repeat (first | (with_reducible exact H9.out) | (with_reducible refine Below.setCell ?_ (by simp) _))
 ·have hkb : ((k : Int) == 2) = false := by rw [beq_eq_false_iff_ne]; omega
  by_cases hk1 : k = 1
  ·subst hk1
   obtain ⟨a, s, u, pp, d, ha, hs, hq, hpp, hd, he⟩ := rreadX_one f1 t1 t2 t3
   have hlp : pp.2.1.length < 4294967281 := by
    have e1 := intS_len t2 t3
    have e2 := intS_len a.2.1 a.2.2
    have e3 := intS_len s.2.1 s.2.2
    have e4 := intS_len u.2.1 u.2.2
    rw [← ha] at e1; rw [← hs] at e2; rw [← hq] at e3; rw [← hpp] at e4
    omega
   have HH2 := Lib.hid (HH.out.trans he)
   have Ha := Lib.hid ha; have Hs := Lib.hid hs; have Hq := Lib.hid hq; have Hpp := Lib.hid hpp; have Hd := Lib.hid hd
   clear HH ha hs hq hpp hd he
   obtain ⟨q0, q1, q2, q3, q4, q5, q6, q7, q8, qf⟩ := blk9 Hy2.out.b5
   go_wp2_with fail
   clear q0 q1 q2 q3 q4 q5 q6 q7 q8 qf
   have hct := Lib.hid (rrint_any [g5] p t2 t3 wy2 Hy2.out.rd)
   rw [← Ha.out] at hct
   obtain ⟨a1, a2, a3⟩ := a
   simp only [] at hct Hs HH2
   refine hct.out.mono ?_
   rintro e wz4 ⟨rfl, hA, hk⟩
   have Hz4 := Lib.hid (Hy2.out.step hA hk)
   clear hA hk Hy2 hct Ha
   obtain ⟨q0, q1, q2, q3, q4, q5, q6, q7, q8, qf⟩ := blk9 Hz4.out.b5
   have Hy4 : Hid (ReR w (wz4.setCell ⟨g5, 1, none⟩ (.int .i64 a1)) p w.heap.size g5 a2 a3 #[.int .i64 (1 : Nat), .int .i64 a1, .int .i64 0, .int .i64 0, .int .i64 0, .slice none 0 0, .string ⟨#[]⟩, .int .i64 f1, .int .i64 t1]) := (by simpa using Hz4.out.set 1 (.int .i64 a1) : ReR w _ p w.heap.size g5 a2 a3 _)
   clear Hz4
   go_wp2_with fail
   generalize hgw : wz4.setCell ⟨g5, 1, none⟩ (.int .i64 a1) = wy4 at *
   clear hgw q0 q1 q2 q3 q4 q5 q6 q7 q8 qf
   have hct := Lib.hid (rrint_any [g5] p a2 a3 wy4 Hy4.out.rd)
   rw [← Hs.out] at hct
   obtain ⟨s1, s2, s3⟩ := s
   simp only [] at hct Hq HH2
   refine hct.out.mono ?_
   rintro e wz5 ⟨rfl, hA, hk⟩
   have Hz5 := Lib.hid (Hy4.out.step hA hk)
   clear hA hk Hy4 hct Hs
   obtain ⟨q0, q1, q2, q3, q4, q5, q6, q7, q8, qf⟩ := blk9 Hz5.out.b5
   have Hy5 : Hid (ReR w (wz5.setCell ⟨g5, 2, none⟩ (.int .i64 s1)) p w.heap.size g5 s2 s3 #[.int .i64 (1 : Nat), .int .i64 a1, .int .i64 s1, .int .i64 0, .int .i64 0, .slice none 0 0, .string ⟨#[]⟩, .int .i64 f1, .int .i64 t1]) := (by simpa using Hz5.out.set 2 (.int .i64 s1) : ReR w _ p w.heap.size g5 s2 s3 _)
   clear Hz5
   go_wp2_with fail
   generalize hgw : wz5.setCell ⟨g5, 2, none⟩ (.int .i64 s1) = wy5 at *
   clear hgw q0 q1 q2 q3 q4 q5 q6 q7 q8 qf
   have hct := Lib.hid (rrint_any [g5] p s2 s3 wy5 Hy5.out.rd)
   rw [← Hq.out] at hct
   obtain ⟨u1, u2, u3⟩ := u
   simp only [] at hct Hpp HH2
   refine hct.out.mono ?_
   rintro e wz6 ⟨rfl, hA, hk⟩
   have Hz6 := Lib.hid (Hy5.out.step hA hk)
   clear hA hk Hy5 hct Hq
   obtain ⟨q0, q1, q2, q3, q4, q5, q6, q7, q8, qf⟩ := blk9 Hz6.out.b5
   have Hy6 : Hid (ReR w (wz6.setCell ⟨g5, 3, none⟩ (.int .i64 u1)) p w.heap.size g5 u2 u3 #[.int .i64 (1 : Nat), .int .i64 a1, .int .i64 s1, .int .i64 u1, .int .i64 0, .slice none 0 0, .string ⟨#[]⟩, .int .i64 f1, .int .i64 t1]) := (by simpa using Hz6.out.set 3 (.int .i64 u1) : ReR w _ p w.heap.size g5 u2 u3 _)
   clear Hz6
   go_wp2_with fail
   generalize hgw : wz6.setCell ⟨g5, 3, none⟩ (.int .i64 u1) = wy6 at *
   clear hgw q0 q1 q2 q3 q4 q5 q6 q7 q8 qf
   have hct := Lib.hid (rrint_any [g5] p u2 u3 wy6 Hy6.out.rd)
   rw [← Hpp.out] at hct
   obtain ⟨pp1, pp2, pp3⟩ := pp
   simp only [] at hct Hd HH2 hlp
   refine hct.out.mono ?_
   rintro e wz7 ⟨rfl, hA, hk⟩
   have Hz7 := Lib.hid (Hy6.out.step hA hk)
   clear hA hk Hy6 hct Hpp
   obtain ⟨q0, q1, q2, q3, q4, q5, q6, q7, q8, qf⟩ := blk9 Hz7.out.b5
   have Hy7 : Hid (ReR w (wz7.setCell ⟨g5, 4, none⟩ (.int .i64 pp1)) p w.heap.size g5 pp2 pp3 #[.int .i64 (1 : Nat), .int .i64 a1, .int .i64 s1, .int .i64 u1, .int .i64 pp1, .slice none 0 0, .string ⟨#[]⟩, .int .i64 f1, .int .i64 t1]) := (by simpa using Hz7.out.set 4 (.int .i64 pp1) : ReR w _ p w.heap.size g5 pp2 pp3 _)
   clear Hz7
   go_wp2_with fail
   generalize hgw : wz7.setCell ⟨g5, 4, none⟩ (.int .i64 pp1) = wy7 at *
   clear hgw q0 q1 q2 q3 q4 q5 q6 q7 q8 qf
   have hct := Lib.hid (rreadDs_any [g5] p pp2 pp3 wy7 Hy7.out.rd hlp)
   unfold RDsPost at hct
   rw [← Hd.out] at hct
   obtain ⟨d1, d2, d3⟩ := d
   simp only [] at hct HH2
   refine hct.out.mono ?_
   rintro e wi ⟨dv, rfl, hown, hA, hk⟩
   have hgh : g5 < wy7.heap.size := Hy7.out.b5.lt
   have hgw : w.heap.size < wy7.heap.size := Hy7.out.b0.lt
   have HI6 := Lib.hid (Hy7.out.step hA hk)
   have HD : Hid (∀ M, (∀ g ∈ M, g ≤ w.heap.size) → Ds wi (g5 :: M) dv d1) := fun M hM => Rd.of_own hown (by intro g hg; rcases List.mem_cons.1 hg with rfl | hg; exact hgh; have := hM g hg; omega)
   obtain ⟨Ad, cd, rfl, hcd⟩ := (HD.out [] (by simp)).len
   clear hA hk Hy7 hct Hd hown
   obtain ⟨q0, q1, q2, q3, q4, q5, q6, q7, q8, qf⟩ := blk9 HI6.out.b5
   have HC0 : Hid (ReRCut w (wi.setCell ⟨g5, 5, none⟩ (.slice Ad d1.length cd)) p g5 RH) := by
    show ReRCut _ _ _ _ _
    rw [HH2.out]
    exact ⟨.slice Ad d1.length cd, by simpa [eCell] using HI6.out.set 5 (.slice Ad d1.length cd), fun M hM => Rd.more ((HD.out M hM).keep (M' := [g5]) ((Keeps.refl _ _).setCell (by simp) _) (by simp))⟩
   clear HI6 HD HH2
   go_upto_region 14 with (fail)
   generalize hgx : wi.setCell ⟨g5, 5, none⟩ (.slice Ad d1.length cd) = wc at *
   clear hgx hgh hgw hcd q0 q1 q2 q3 q4 q5 q6 q7 q8 qf
   have HC := HC0
   clear HC0
   have hcut := HC.out
   obtain ⟨dv, hRe, hDs⟩ := hcut
   have HRe := Lib.hid hRe; have HDs := Lib.hid hDs
   clear hRe hDs HC
   obtain ⟨e, lx, bx⟩ := RH
   simp only [] at hsh HE HRe HDs
   obtain ⟨Ae, ce, rfl, hcd⟩ := (HDs.out [] (by simp)).len
   have hdw := Lib.hid (rdone_any [g5] p lx bx _ HRe.out.rd)
   obtain ⟨r0, r1, r2, r3, r4, r5, r6, r7, r8, rf⟩ := blk9 HRe.out.b0
   have ho0 := HRe.out.o0; have ho1 := HRe.out.o1
   cases hdone : (!bx && lx.isEmpty) with
   | false =>
    obtain rfl : RE = (zeroD, 12) := by rw [HE.out, hdone, if_neg (by simp)]
    rw [hdone] at hdw
    clear hdone HE
    go_wp2_with fail
    refine hdw.out.mono ?_
    rintro r w' ⟨rfl, rfl⟩
    go_wp2
    refine bodyPost_ret (v := .tuple #[.agg zeroA, .int .i64 12]) (by simp [results, Tryz.results71, go_sem, zeroA, r0, r1, r2, r3, r4, r5, r6, r7, r8]) rfl ?_
    refine ⟨.slice none 0 0, rfl, fun M _ => Ds.nil _ _, ?_⟩
    repeat (first | (with_reducible exact HRe.out.keeps) | (with_reducible refine Below.setCell ?_ (by simp) _))
   | true =>
    rw [hdone] at hdw
    have hri := Lib.hid (rrightE_any e _ wc (HDs.out [] (by simp)) hsh.out)
    have HR : Hid (RE = if rightE e = 0 then (e, 0) else (zeroD, 12)) := by show _ = _; rw [HE.out, hdone]; simp
    clear hdone HE
    generalize rightE e = rr at *
    obtain ⟨kind, ag, sh, seq, ep, ds, ser, fr, tag⟩ := e
    simp only [eCell] at hri HRe HDs HR hcd
    obtain ⟨q0, q1, q2, q3, q4, q5, q6, q7, q8, qf⟩ := blk9 HRe.out.b5
    have ho2 := HRe.out.o2
    have hg5 : g5 < wc.heap.size := HRe.out.b5.lt
    have hwc : w.heap.size < wc.heap.size := HRe.out.b0.lt
    go_wp2_with fail
    refine hdw.out.mono ?_
    rintro r w' ⟨rfl, rfl⟩
    go_wp2_with fail
    refine hri.out.mono ?_
    rintro r w9 ⟨rfl, hb9⟩
    have H9 := Lib.hid (HRe.out.keeps.trans (hb9.mono HRe.out.keeps.size))
    have HB0 := Lib.hid (HRe.out.b0.below hb9 hwc)
    have HB5 := Lib.hid (HRe.out.b5.below hb9 hg5)
    have HD9 : Hid (∀ M, (∀ g ∈ M, g ≤ w.heap.size) → Ds w9 M (.slice Ae ds.length ce) ds) := fun M hM => (HDs.out M hM).keep (Keeps.of_below (M := []) hb9) (by simp)
    clear hb9 hri hdw r0 r1 r2 r3 r4 r5 r6 r7 r8 rf q0 q1 q2 q3 q4 q5 q6 q7 q8 qf
    obtain ⟨r0, r1, r2, r3, r4, r5, r6, r7, r8, rf⟩ := blk9 HB0.out
    obtain ⟨q0, q1, q2, q3, q4, q5, q6, q7, q8, qf⟩ := blk9 HB5.out
    by_cases hrr : rr = 0
    ·obtain rfl : RE = (⟨kind, ag, sh, seq, ep, ds, ser, fr, tag⟩, 0) := by rw [HR.out, if_pos hrr]
     subst hrr
     clear HR
     go_wp2
     refine bodyPost_ret (v := .tuple #[.agg #[.int .i64 kind, .int .i64 ag, .int .i64 sh, .int .i64 seq, .int .i64 ep, .slice Ae ds.length ce, .string ser, .int .i64 fr, .int .i64 tag], .int .i64 0]) (by simp [results, Tryz.results71, go_sem, r0, r1, r2, r3, r4, r5, r6, r7, r8]) rfl ?_
     refine ⟨.slice Ae ds.length ce, rfl, fun M hM => ?_, ?_⟩
     ·have h1 := HD9.out (w.heap.size :: M) (by intro g hg; rcases List.mem_cons.1 hg with rfl | hg; exact Nat.le_refl _; exact Nat.le_of_lt (hM g hg))
      refine Rd.more (h1.keep (M' := [w.heap.size]) ?_ (by simp))
      repeat (first | (with_reducible exact Keeps.refl _ _) | (with_reducible refine Keeps.setCell ?_ (by simp) _))
     ·repeat (first | (with_reducible exact H9.out) | (with_reducible refine Below.setCell ?_ (by simp) _))
    ·obtain rfl : RE = (zeroD, 12) := by rw [HR.out, if_neg hrr]
     have hne : ((rr : Int) != 0) = true := by simpa using hrr
     clear HR hrr
     go_wp2
     refine bodyPost_ret (v := .tuple #[.agg zeroA, .int .i64 12]) (by simp [results, Tryz.results71, go_sem, zeroA, r0, r1, r2, r3, r4, r5, r6, r7, r8]) rfl ?_
     refine ⟨.slice none 0 0, rfl, fun M _ => Ds.nil _ _, ?_⟩
     repeat (first | (with_reducible exact H9.out) | (with_reducible refine Below.setCell ?_ (by simp) _))
  ·have hkc : ((k : Int) == 1) = false := by rw [beq_eq_false_iff_ne]; omega
   have HC : Hid (ReRCut w wy2 p g5 RH) := by
    show ReRCut _ _ _ _ _
    rw [HH.out, rreadX_no f1 t1 t2 t3 hk2 hk1]
    exact ⟨.slice none 0 0, by simpa [eCell] using Hy2.out, fun M _ => Ds.nil _ _⟩
   obtain ⟨q0, q1, q2, q3, q4, q5, q6, q7, q8, qf⟩ := blk9 Hy2.out.b5
   clear HH Hy2 hk2 hk1
   go_upto_region 14 with (fail)
   clear q0 q1 q2 q3 q4 q5 q6 q7 q8 qf
   generalize wy2 = wc at *
   have hcut := HC.out
   obtain ⟨dv, hRe, hDs⟩ := hcut
   have HRe := Lib.hid hRe; have HDs := Lib.hid hDs
   clear hRe hDs HC
   obtain ⟨e, lx, bx⟩ := RH
   simp only [] at hsh HE HRe HDs
   obtain ⟨Ad, cd, rfl, hcd⟩ := (HDs.out [] (by simp)).len
   have hdw := Lib.hid (rdone_any [g5] p lx bx _ HRe.out.rd)
   obtain ⟨r0, r1, r2, r3, r4, r5, r6, r7, r8, rf⟩ := blk9 HRe.out.b0
   have ho0 := HRe.out.o0; have ho1 := HRe.out.o1
   cases hdone : (!bx && lx.isEmpty) with
   | false =>
    obtain rfl : RE = (zeroD, 12) := by rw [HE.out, hdone, if_neg (by simp)]
    rw [hdone] at hdw
    clear hdone HE
    go_wp2_with fail
    refine hdw.out.mono ?_
    rintro r w' ⟨rfl, rfl⟩
    go_wp2
    refine bodyPost_ret (v := .tuple #[.agg zeroA, .int .i64 12]) (by simp [results, Tryz.results71, go_sem, zeroA, r0, r1, r2, r3, r4, r5, r6, r7, r8]) rfl ?_
    refine ⟨.slice none 0 0, rfl, fun M _ => Ds.nil _ _, ?_⟩
    repeat (first | (with_reducible exact HRe.out.keeps) | (with_reducible refine Below.setCell ?_ (by simp) _))
   | true =>
    rw [hdone] at hdw
    have hri := Lib.hid (rrightE_any e _ wc (HDs.out [] (by simp)) hsh.out)
    have HR : Hid (RE = if rightE e = 0 then (e, 0) else (zeroD, 12)) := by show _ = _; rw [HE.out, hdone]; simp
    clear hdone HE
    generalize rightE e = rr at *
    obtain ⟨kind, ag, sh, seq, ep, ds, ser, fr, tag⟩ := e
    simp only [eCell] at hri HRe HDs HR hcd
    obtain ⟨q0, q1, q2, q3, q4, q5, q6, q7, q8, qf⟩ := blk9 HRe.out.b5
    have ho2 := HRe.out.o2
    have hg5 : g5 < wc.heap.size := HRe.out.b5.lt
    have hwc : w.heap.size < wc.heap.size := HRe.out.b0.lt
    go_wp2_with fail
    refine hdw.out.mono ?_
    rintro r w' ⟨rfl, rfl⟩
    go_wp2_with fail
    refine hri.out.mono ?_
    rintro r w9 ⟨rfl, hb9⟩
    have H9 := Lib.hid (HRe.out.keeps.trans (hb9.mono HRe.out.keeps.size))
    have HB0 := Lib.hid (HRe.out.b0.below hb9 hwc)
    have HB5 := Lib.hid (HRe.out.b5.below hb9 hg5)
    have HD9 : Hid (∀ M, (∀ g ∈ M, g ≤ w.heap.size) → Ds w9 M (.slice Ad ds.length cd) ds) := fun M hM => (HDs.out M hM).keep (Keeps.of_below (M := []) hb9) (by simp)
    clear hb9 hri hdw r0 r1 r2 r3 r4 r5 r6 r7 r8 rf q0 q1 q2 q3 q4 q5 q6 q7 q8 qf
    obtain ⟨r0, r1, r2, r3, r4, r5, r6, r7, r8, rf⟩ := blk9 HB0.out
    obtain ⟨q0, q1, q2, q3, q4, q5, q6, q7, q8, qf⟩ := blk9 HB5.out
    by_cases hrr : rr = 0
    ·obtain rfl : RE = (⟨kind, ag, sh, seq, ep, ds, ser, fr, tag⟩, 0) := by rw [HR.out, if_pos hrr]
     subst hrr
     clear HR
     go_wp2
     refine bodyPost_ret (v := .tuple #[.agg #[.int .i64 kind, .int .i64 ag, .int .i64 sh, .int .i64 seq, .int .i64 ep, .slice Ad ds.length cd, .string ser, .int .i64 fr, .int .i64 tag], .int .i64 0]) (by simp [results, Tryz.results71, go_sem, r0, r1, r2, r3, r4, r5, r6, r7, r8]) rfl ?_
     refine ⟨.slice Ad ds.length cd, rfl, fun M hM => ?_, ?_⟩
     ·have h1 := HD9.out (w.heap.size :: M) (by intro g hg; rcases List.mem_cons.1 hg with rfl | hg; exact Nat.le_refl _; exact Nat.le_of_lt (hM g hg))
      refine Rd.more (h1.keep (M' := [w.heap.size]) ?_ (by simp))
      repeat (first | (with_reducible exact Keeps.refl _ _) | (with_reducible refine Keeps.setCell ?_ (by simp) _))
     ·repeat (first | (with_reducible exact H9.out) | (with_reducible refine Below.setCell ?_ (by simp) _))
    ·obtain rfl : RE = (zeroD, 12) := by rw [HR.out, if_neg hrr]
     have hne : ((rr : Int) != 0) = true := by simpa using hrr
     clear HR hrr
     go_wp2
     refine bodyPost_ret (v := .tuple #[.agg zeroA, .int .i64 12]) (by simp [results, Tryz.results71, go_sem, zeroA, r0, r1, r2, r3, r4, r5, r6, r7, r8]) rfl ?_
     refine ⟨.slice none 0 0, rfl, fun M _ => Ds.nil _ _, ?_⟩
     repeat (first | (with_reducible exact H9.out) | (with_reducible refine Below.setCell ?_ (by simp) _))
end Go.Proofs.YtinnifhnabncfaaGreatDoor.Vi
end
