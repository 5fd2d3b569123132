/- Texts put together: MoN. -/
import Derived.Test.YtinnifhnabncfaaGreatDoorMN14
set_option linter.unusedVariables false
set_option linter.unusedSimpArgs false
section
namespace Go.Proofs.YtinnifhnabncfaaGreatDoor.Vi
open Go.RowKit Base Mem Tape Go.Shelf
set_option maxRecDepth 100000 in
set_option maxHeartbeats 16000000 in
theorem mnumbers_walk (mx : Int) (w : World) (hm : w.cell? ⟨0, 0, none⟩ = some (.int .i64 mx)) :
  Calls Tryz.prog 9 #[] w fun e w' => SamePost true w e w' := by
 have hw0 : 0 < w.heap.size := by
  have := World.block_lt_of_cell? w _ hm
  simpa using this
 have Hm : Hid (∀ W, Below w.heap.size w W → W.cell? ⟨0, 0, none⟩ = some (.int .i64 mx)) := fun W hb => (hb.cell (p := ⟨0, 0, none⟩) hw0).trans hm
 obtain ⟨i0, hi0, hz0, hz1, hz2⟩ := info_parts infoU8
 have Hi0 := Lib.hid hi0; have Hz0 := Lib.hid hz0; have Hz1 := Lib.hid hz1; have Hz2 := Lib.hid hz2
 clear hm hi0 hz0 hz1 hz2
 go_enter Tryz.func9, Tryz.ntmps9
 go_wp2_with fail
 go_loopw [1] (fun i wr => ∃ x : Nat, i = .int .i64 x ∧ x ≤ 60 ∧ Hid (Below w.heap.size w wr)) (fun i _ => 60 - (intOf i).toNat)
 case atStart => exact ⟨0, rfl, by omega, Below.refl _ _⟩
 case round =>
  obtain ⟨x, rfl, hx, Hb⟩ := hrel
  by_cases hlt : x < 60
  ·have hlti : (x : Int) < 60 := by omega
   go_wp2_with fail
   refine (tape6_any x wr (by omega)).mono ?_
   rintro e w1 ⟨v, l, rfl, hl, hown, hb1⟩
   rw [← hl] at hown
   obtain ⟨At, ct, rfl, hnums⟩ := nums_own hown
   have Hb1 := Lib.hid (below_then Hb.out hb1)
   have Hen := Lib.hid (tmsg_any hnums (Below.refl _ w1))
   have hz1 : w.heap.size ≤ w1.heap.size := Hb1.out.size
   clear hown hnums hb1
   rw [hl] at Hen
   go_wp2_with fail
   refine Hen.out.mono ?_
   rintro e w2 ⟨m, dv, lv, rfl, hok, hD, hb2⟩
   have Hb2 := Lib.hid (below_then Hb1.out hb2)
   have HD2 := Lib.hid (hD [] (by simp))
   have Hok := Lib.hid hok
   obtain ⟨Ad, nd, rfl, _⟩ := HD2.out.1.len
   obtain ⟨Bd, kd, rfl, _⟩ := HD2.out.2.len
   clear hok hD hb2 Hen Hb1 hl
   go_upto_region 5 with (refine wpList_store_blk rfl 68 (.tmp 2) (.tmp 21) rfl w2.heap.size 0 68 zeroR (mCell m (.slice Ad m.en.ds.length nd) (.slice Bd m.log.length kd)).toArray (mCell m (.slice Ad m.en.ds.length nd) (.slice Bd m.log.length kd)).toArray rfl rfl (Blk.new w2 _ _) (by show 0 + 18 ≤ 18; omega) rfl (by kernel_rfl) rfl ?_; intro w3 hk3 hB3; have HB3 := Lib.hid hB3; have HK3 : Hid (Keeps [] w2 w3) := ((Keeps.refl _ _).alloc _).trans hk3 (by intro q hq; simp at hq; right; omega); clear hk3 hB3)
   have HD3 := Lib.hid (HD2.out.keep HK3.out (by simp))
   have Hb3 := Lib.hid (((Keeps.of_below (M := []) Hb2.out).trans HK3.out (by simp)).below)
   have hg3 : w2.heap.size < w3.heap.size := HB3.out.lt
   have HQ := Lib.hid (mok_know Hok.out _ _ mx _ w3 HD3.out HB3.out (Hm.out w3 Hb3.out))
   have hbl := msg_body Hok.out
   clear HD3 HB3 HK3 HD2 Hb2 Hok
   obtain ⟨LM, hLM⟩ : ∃ LM, LM = mCell m (.slice Ad m.en.ds.length nd) (.slice Bd m.log.length kd) := ⟨_, rfl⟩
   have hla : LM.length = 18 := by rw [hLM]; rfl
   try simp only [← hLM] at HQ ⊢
   clear hLM
   generalize bodyL m = bd at *
   generalize w2.heap.size = g3 at *
   have HRD : Hid (∀ (q : List UInt8) v W, q.length ≤ 1000000 → Bs W [] v q → Below w3.heap.size w3 W → Calls Tryz.prog 48 #[v] W fun e w' => SamePost true W e w') := fun q v W hq hv hb => reads6_any v q mx W hv (by omega) (HQ.out.hm W hb)
   obtain ⟨hfl0, hfl1⟩ := frameL_bd bd hbl
   have HRF := Lib.hid (readF_put bd [] hbl)
   rw [List.append_nil] at HRF
   go_wp2_with (refine wpList_load_mid rfl 68 (.tmp 2) rfl g3 0 rfl _ _ (HQ.out.range w3 (Below.refl _ _)) Tryz.underlying68 rfl (by rw [hla]; kernel_rfl) ?_)
   refine (HQ.out.same _ (Below.refl _ _)).mono ?_
   rintro r w4 ⟨rfl, hb4⟩
   have Hb4 := Lib.hid hb4
   clear hb4
   go_wp2_with fail
   go_loopw [3] (fun i wr => ∃ y : Nat, i = .int .i64 y ∧ y ≤ 11 ∧ Hid (Below w3.heap.size w3 wr)) (fun i _ => 11 - (intOf i).toNat)
   case atStart => exact ⟨0, rfl, by omega, Hb4.out⟩
   case round =>
    obtain ⟨y, rfl, hy, Hbq⟩ := hrel
    by_cases hyl : y < 11
    ·have hyli : (y : Int) < 11 := by omega
     have hBn := Blk.new wr 2 #[.int .i64 (-1), .int .i64 0, .int .i64 1, .int .i64 6, .int .i64 7, .int .i64 128, .int .i64 129, .int .i64 255, .int .i64 256, .int .i64 9223372036854775807]
     have Hbq2 := Lib.hid (Hbq.out.alloc Hbq.out.size (.cells #[.int .i64 (-1), .int .i64 0, .int .i64 1, .int .i64 6, .int .i64 7, .int .i64 128, .int .i64 129, .int .i64 255, .int .i64 256, .int .i64 9223372036854775807] 2))
     have hgn : wr.heap.size < (wr.alloc (.cells #[.int .i64 (-1), .int .i64 0, .int .i64 1, .int .i64 6, .int .i64 7, .int .i64 128, .int .i64 129, .int .i64 255, .int .i64 256, .int .i64 9223372036854775807] 2)).heap.size := hBn.lt
     have HBn := Lib.hid hBn
     clear hBn
     go_wp2_with fail
     generalize wr.alloc (.cells #[.int .i64 (-1), .int .i64 0, .int .i64 1, .int .i64 6, .int .i64 7, .int .i64 128, .int .i64 129, .int .i64 255, .int .i64 256, .int .i64 9223372036854775807] 2) = wn at *
     generalize wr.heap.size = gn at *
     go_loopw [31] (fun i wr => ∃ z : Nat, i = .int .i64 z ∧ z ≤ 10 ∧ Hid (Below wn.heap.size wn wr)) (fun i _ => 10 - (intOf i).toNat)
     case atStart => exact ⟨0, rfl, by omega, Below.refl _ _⟩
     case round =>
      obtain ⟨z, rfl, hz, Hbz⟩ := hrel
      have Hbz3 := Lib.hid (Hbq2.out.trans (Hbz.out.mono Hbq2.out.size))
      by_cases hzl : z < 10
      ·have hzli : (z : Int) < 10 := by omega
       have hnl : z < numL6.length := hzl
       have cn : wr.cell? ⟨gn, z, none⟩ = some (.int .i64 numL6[z]) := by
        have h1 := (HBn.out.below Hbz.out hgn).cell z
        rw [show (#[.int .i64 (-1), .int .i64 0, .int .i64 1, .int .i64 6, .int .i64 7, .int .i64 128, .int .i64 129, .int .i64 255, .int .i64 256, .int .i64 9223372036854775807] : Array Value) = (numL6.map (Value.int .i64)).toArray from rfl, List.getElem?_toArray, List.getElem?_map, List.getElem?_eq_getElem hnl] at h1
        exact h1
       have hnb : numL6[z] ≤ 9223372036854775807 := by
        have : ∀ q ∈ numL6, q ≤ (9223372036854775807 : Int) := by decide
        exact this _ (List.getElem_mem _)
       generalize numL6[z] = nz at *
       clear hnl
       by_cases hy10 : y < 10
       ·have hy10i : (y : Int) < 10 := by omega
        have Ho := Lib.hid (HQ.out.odd wr y nz hnb (within10 y nz (by omega) (.inl hy10)) Hbz3.out)
        go_wp2_with (refine wpList_load_g rfl 68 (.tmp 2) rfl g3 0 rfl _ _ (HQ.out.range wr Hbz3.out) Tryz.underlying68 rfl (by rw [hla]; kernel_rfl) ?_)
        refine Ho.out.mono ?_
        rintro r w6 ⟨m', dv', lv', rfl, hd', hw', hb6⟩
        have Hb6 := Lib.hid (Hbz3.out.trans (hb6.mono Hbz3.out.size))
        have Hb6n := Lib.hid (below_then Hbz.out hb6)
        have Hs6 := Lib.hid (lawsame6_any m' dv' lv' mx w6 hd' hw'.short hw'.wf (HQ.out.hm w6 Hb6.out))
        clear hd' hw' hb6 Ho cn
        go_wp2_with fail
        refine Hs6.out.mono ?_
        rintro r w7 ⟨rfl, hb7⟩
        have Hb7 := Lib.hid (below_then Hb6n.out hb7)
        clear hb7 Hs6
        go_wp2
        go_roundw
        case rel => exact ⟨z + 1, by go_num, by omega, Hb7⟩
        case measure => simp [intOf] <;> omega
       ·have hy10i : decide ((y : Int) < 10) = false := decide_eq_false (by omega)
        by_cases h128 : nz = 128
        ·subst h128
         have Ho := Lib.hid (HQ.out.odd wr y 128 hnb (within10 y 128 (by omega) (.inr (.inl rfl))) Hbz3.out)
         go_wp2_with (refine wpList_load_g rfl 68 (.tmp 2) rfl g3 0 rfl _ _ (HQ.out.range wr Hbz3.out) Tryz.underlying68 rfl (by rw [hla]; kernel_rfl) ?_)
         refine Ho.out.mono ?_
         rintro r w6 ⟨m', dv', lv', rfl, hd', hw', hb6⟩
         have Hb6 := Lib.hid (Hbz3.out.trans (hb6.mono Hbz3.out.size))
         have Hb6n := Lib.hid (below_then Hbz.out hb6)
         have Hs6 := Lib.hid (lawsame6_any m' dv' lv' mx w6 hd' hw'.short hw'.wf (HQ.out.hm w6 Hb6.out))
         clear hd' hw' hb6 Ho cn
         go_wp2_with fail
         refine Hs6.out.mono ?_
         rintro r w7 ⟨rfl, hb7⟩
         have Hb7 := Lib.hid (below_then Hb6n.out hb7)
         clear hb7 Hs6
         go_wp2
         go_roundw
         case rel => exact ⟨z + 1, by go_num, by omega, Hb7⟩
         case measure => simp [intOf] <;> omega
        ·by_cases h129 : nz = 129
         ·subst h129
          have Ho := Lib.hid (HQ.out.odd wr y 129 hnb (within10 y 129 (by omega) (.inr (.inr rfl))) Hbz3.out)
          go_wp2_with (refine wpList_load_g rfl 68 (.tmp 2) rfl g3 0 rfl _ _ (HQ.out.range wr Hbz3.out) Tryz.underlying68 rfl (by rw [hla]; kernel_rfl) ?_)
          refine Ho.out.mono ?_
          rintro r w6 ⟨m', dv', lv', rfl, hd', hw', hb6⟩
          have Hb6 := Lib.hid (Hbz3.out.trans (hb6.mono Hbz3.out.size))
          have Hb6n := Lib.hid (below_then Hbz.out hb6)
          have Hs6 := Lib.hid (lawsame6_any m' dv' lv' mx w6 hd' hw'.short hw'.wf (HQ.out.hm w6 Hb6.out))
          clear hd' hw' hb6 Ho cn
          go_wp2_with fail
          refine Hs6.out.mono ?_
          rintro r w7 ⟨rfl, hb7⟩
          have Hb7 := Lib.hid (below_then Hb6n.out hb7)
          clear hb7 Hs6
          go_wp2
          go_roundw
          case rel => exact ⟨z + 1, by go_num, by omega, Hb7⟩
          case measure => simp [intOf] <;> omega
         ·have q1 : (nz == (128 : Int)) = false := by simp [h128]
          have q2 : (nz == (129 : Int)) = false := by simp [h129]
          have q3 : decide (nz = (128 : Int)) = false := decide_eq_false h128
          have q4 : decide (nz = (129 : Int)) = false := decide_eq_false h129
          go_wp2
          go_roundw
          case rel => exact ⟨z + 1, by go_num, by omega, Hbz⟩
          case measure => simp [intOf] <;> omega
      ·obtain rfl : z = 10 := by omega
       go_wp2
       go_roundw
       case rel => exact ⟨y + 1, by go_num, by omega, Hbz3⟩
       case measure => simp [intOf] <;> omega
    ·obtain rfl : y = 11 := by omega
     go_wp2_with (refine wpList_load_mid rfl 68 (.tmp 2) rfl g3 0 rfl _ _ (HQ.out.range wr Hbq.out) Tryz.underlying68 rfl (by rw [hla]; kernel_rfl) ?_)
     refine (HQ.out.bytes wr Hbq.out).mono ?_
     rintro r w8 ⟨Ab, cb, rfl, hvb, hb8⟩
     have Hb8 := Lib.hid (Hbq.out.trans (hb8.mono Hbq.out.size))
     have HBb := Lib.hid (hvb [] (by simp))
     obtain ⟨A', c', he, hcb, _⟩ := HBb.out
     obtain ⟨rfl, rfl⟩ : Ab = A' ∧ cb = c' := by injection he with h1 _ h3; exact ⟨h1, h3⟩
     clear hvb hb8 he
     have hrr := rread_any _ _ w8 HBb.out (by show (frameL bd).length ≤ _; omega)
     unfold RReadP at hrr
     simp only [] at hrr
     rw [HRF.out] at hrr
     have HRR := Lib.hid hrr
     clear hrr HRF
     simp only [] at hcb HBb HRR ⊢
     generalize frameL bd = fb at *
     go_wp2_with fail
     refine HRR.out.mono ?_
     rintro r w9 ⟨vx, rfl, hownx, hb9⟩
     have Hb9 := Lib.hid (below_then Hb8.out hb9)
     have HBb9 := Lib.hid (HBb.out.keep (M' := []) (Keeps.of_below hb9) (by simp))
     have Hbs := Lib.hid (own_bs hownx)
     obtain ⟨Ax, cx, rfl, hcx⟩ := Hbs.out.len
     clear hownx hb9 HRR HBb Hb8
     go_wp2_with fail
     go_loopw [11] (fun i wr => ∃ z : Nat, i = .int .i64 z ∧ z ≤ bd.length + 1 ∧ Hid (Below w9.heap.size w9 wr)) (fun i _ => bd.length + 1 - (intOf i).toNat)
     case atStart => exact ⟨0, rfl, by omega, Below.refl _ _⟩
     case round =>
      obtain ⟨z, rfl, hz, Hbz⟩ := hrel
      have Hbz3 := Lib.hid (Hb9.out.trans (Hbz.out.mono Hb9.out.size))
      by_cases hin : z ≤ bd.length ∧ x < 12
      ·obtain ⟨hzl, h12⟩ := hin
       have hzli : (z : Int) ≤ (bd.length : Int) := by omega
       have h12i : (x : Int) < 12 := by omega
       have hzc : (z : Int) ≤ (cx : Int) := by omega
       have hzc2 : (z : Int) ≤ (cb : Int) := by omega
       have Hq : Hid (Bs wr [] (.slice Ax z cx) (bd.take z)) := (Hbs.out.keep (M' := []) (Keeps.of_below Hbz.out) (by simp)).headG z hzl
       have hqlen : Hid ((bd.take z).length = z) := List.length_take_of_le hzl
       have HF1 := Lib.hid (rframe_any _ _ wr Hq.out (by rw [hqlen.out]; omega))
       obtain ⟨_, hqf⟩ := frameL_bd (bd.take z) (by rw [hqlen.out]; omega)
       go_wp2_with fail
       refine HF1.out.mono ?_
       rintro r wA ⟨vA, rfl, hoA, hbA⟩
       have HbA := Lib.hid (Hbz3.out.trans (hbA.mono Hbz3.out.size))
       have HbA8 := Lib.hid (below_then Hbz.out hbA)
       have HR1 := Lib.hid (HRD.out _ _ wA (by omega) (own_bs hoA) HbA.out)
       clear hoA hbA HF1 Hq hqf
       go_wp2_with fail
       refine HR1.out.mono ?_
       rintro r wB ⟨rfl, hbB⟩
       have HbB := Lib.hid (HbA.out.trans (hbB.mono HbA.out.size))
       have HbB8 := Lib.hid (below_then HbA8.out hbB)
       have Hq2 : Hid (Bs wB [] (.slice Ab z cb) (fb.take z)) := (HBb9.out.keep (M' := []) (Keeps.of_below HbB8.out) (by simp)).headG z (by omega)
       have hql2 : Hid ((fb.take z).length = z) := List.length_take_of_le (by omega)
       have HR2 := Lib.hid (HRD.out _ _ wB (by rw [hql2.out]; omega) Hq2.out HbB.out)
       have hzf : (z : Int) ≤ (fb.length : Int) := by omega
       have hmn : min (z : Int) (fb.length : Int) = (z : Int) := Int.min_eq_left hzf
       clear hbB HR1 Hq2 hql2 HbA HbA8
       generalize bd.take z = q1 at *
       generalize fb.take z = q2 at *
       go_wp2_with fail
       refine HR2.out.mono ?_
       rintro r wC ⟨rfl, hbC⟩
       have HbC := Lib.hid (HbB.out.trans (hbC.mono HbB.out.size))
       have HbC8 := Lib.hid (below_then HbB8.out hbC)
       clear hbC HR2 HbB HbB8 hmn
       by_cases hzl2 : z < bd.length
       ·have hzi2 : (z : Int) < (bd.length : Int) := by omega
        have HRb : Hid (Reads wC wC.heap.size 1 Ax bd.length (bd.map bV)) := bs_reads (Hbs.out.keep (M' := []) (Keeps.of_below HbC8.out) (by simp))
        go_wp2_with (at_builtin; refine wpList_append_any _ rfl (.tmp 95) (.tmp 96) _ rfl wC.heap.size 5 i0 _ 1 1 Tryz.underlying36 Hi0.out Hz0.out Hz1.out Hz2.out rfl (by omega) (.slice (some ⟨wC.heap.size, 0, none⟩) 0 0) 0 [] rfl (World.ownsRow_made wC #[] 0 (Nat.le_refl _) (by unfold maxLen; omega) rfl) wC.heap.size Ax bd.length cx (bd.map bV) rfl (HRb.out.alloc (Nat.le_refl _) _) (bV_one bd) (by unfold maxLen; omega) (by omega) (by simp) ?_)
        intro v9 w10 ho hg hat
        have hown9 : w10.ownsRow wC.heap.size 5 1 v9 bd.length (bd.map bV) := by simpa using ho
        have Hb10 : Hid (Below wC.heap.size wC w10) := grown_empty hg
        clear ho hg hat HRb
        obtain ⟨g9, cap9, rfl, hg9, hgl9⟩ := hown9.form (by omega)
        have hcell9 : w10.cell? ⟨g9, z, none⟩ = some (.int .u8 bd[z].toNat) := by
         obtain ⟨A', c', he, _, _, hx⟩ := Rd.of_own (M := []) hown9 (by simp)
         obtain ⟨g', off', rfl, _, _, hcc⟩ := hx (by omega)
         injection he with h1 _ _
         injection h1 with h1
         injection h1 with h1 h2 _
         subst h1 h2
         have := hcc z (bV bd[z]) (by rw [List.getElem?_map, List.getElem?_eq_getElem hzl2]; rfl)
         rwa [Nat.zero_add] at this
        have hfz9 : w10.frozen? ⟨g9, z, none⟩ = false := by
         rcases hown9.2 with ⟨h, _⟩ | ⟨g', cap', cur, hv, _, hg, _⟩
         ·cases h
         ·injection hv with h1 _ _
          injection h1 with h1
          injection h1 with h1 _ _
          subst h1
          exact Base.Blk.frozen hg _
        obtain ⟨yy, hyy⟩ := u8_xor_some bd[z] (2 ^ (x % 8) % 256) (Nat.mod_lt _ (by omega))
        have Hown9 := Lib.hid hown9
        clear hown9
        go_wp2_with fail
        have hyy2 : bits .xor .u8 (bd[z].toNat : Int) (2 ^ (x % 8) % 256) = (yy.toNat : Int) := by
         have h := hyy
         rw [Int.natCast_emod, Int.natCast_pow] at h
         exact h
        rw [hyy2]
        have hownX : (w10.setCell ⟨g9, z, none⟩ (.int .u8 yy.toNat)).ownsRow wC.heap.size 5 1 (.slice (some ⟨g9, 0, none⟩) bd.length cap9) (bd.set z yy).length ((bd.set z yy).map bV) := by
         have := own_set Hown9.out z (bV yy) (by omega)
         rw [List.length_set, List.map_set]
         exact this
        have hb9x : Below wC.heap.size wC (w10.setCell ⟨g9, z, none⟩ (.int .u8 yy.toNat)) := Hb10.out.setCell hg9 _
        have HF9 := rframe_any _ _ _ (own_bs hownX) (by rw [List.length_set]; omega)
        obtain ⟨_, hqf⟩ := frameL_bd (bd.set z yy) (by rw [List.length_set]; omega)
        have Hb9x := Lib.hid (below_then HbC8.out hb9x)
        have Hb9y := Lib.hid (HbC.out.trans (hb9x.mono HbC.out.size))
        clear hyy hyy2 hownX hb9x hcell9 hfz9
        refine HF9.mono ?_
        rintro r wD ⟨vD, rfl, hoD, hbD⟩
        have HbD := Lib.hid (Hb9y.out.trans (hbD.mono Hb9y.out.size))
        have HbD8 := Lib.hid (below_then Hb9x.out hbD)
        have HR9 := Lib.hid (HRD.out _ _ wD (by omega) (own_bs hoD) HbD.out)
        clear hoD hbD HF9 hqf Hb9x Hb9y Hb10 Hown9
        go_wp2_with fail
        refine HR9.out.mono ?_
        rintro r wE ⟨rfl, hbE⟩
        have HbE := Lib.hid (below_then HbD8.out hbE)
        clear hbE HR9
        go_wp2
        go_roundw
        case rel => exact ⟨z + 1, by go_num, by omega, HbE⟩
        case measure => simp [intOf] <;> omega
       ·have hzi2 : decide ((z : Int) < (bd.length : Int)) = false := decide_eq_false (by omega)
        go_wp2
        go_roundw
        case rel => exact ⟨z + 1, by go_num, by omega, HbC8⟩
        case measure => simp [intOf] <;> omega
      ·have HRb : Hid (Reads wr wr.heap.size 1 Ab fb.length (fb.map bV)) := bs_reads (HBb9.out.keep (M' := []) (Keeps.of_below Hbz.out) (by simp))
       by_cases hzl : z ≤ bd.length
       ·have hzli : (z : Int) ≤ (bd.length : Int) := by omega
        have h12i : decide ((x : Int) < 12) = false := decide_eq_false (by omega)
        go_wp2_with (at_builtin; go_must (refine wpList_append_g _ (by rfl) (.tmp 112) (.tmp 113) _ rfl wr.heap.size 5 i0 _ 1 1 Tryz.underlying36 Hi0.out Hz0.out Hz1.out Hz2.out rfl (by omega) (.slice (some ⟨wr.heap.size, 0, none⟩) 0 0) 0 [] rfl (World.ownsRow_made wr #[] 0 (Nat.le_refl _) (by unfold maxLen; omega) rfl) wr.heap.size Ab fb.length cb (fb.map bV) rfl (HRb.out.alloc (Nat.le_refl _) _) (bV_one fb) (by unfold maxLen; omega) (by omega) (by simp) ?_))
        intro v11 w11 ho hg hat
        have Hown11 : Hid (w11.ownsRow wr.heap.size 5 1 v11 fb.length (fb.map bV)) := (show World.ownsRow _ _ _ _ _ _ _ by simpa using ho)
        have Hb11 : Hid (Below wr.heap.size wr w11) := grown_empty hg
        have hzsw11 : wr.heap.size ≤ w11.heap.size := Hb11.out.size
        clear ho hg hat HRb
        have Hown12 := Lib.hid (Hown11.out.alloc (.cells #[.int .u8 0] 5))
        have Hb12 := Lib.hid (Hb11.out.alloc hzsw11 (.cells #[.int .u8 0] 5))
        go_wp2_with (at_builtin; refine wpList_append_g _ (by rfl) (.tmp 114) (.tmp 115) _ rfl wr.heap.size 5 i0 _ 1 1 Tryz.underlying36 Hi0.out Hz0.out Hz1.out Hz2.out rfl (by omega) v11 fb.length (fb.map bV) rfl Hown12.out (w11.heap.size + 1) (some ⟨w11.heap.size, 0, none⟩) 1 1 [.int .u8 0] rfl (reads_new w11 _ _ _ _ rfl) (by intro u hu; simp at hu; subst hu; rfl) (by unfold maxLen; omega) (by omega) (by simp; omega) ?_)
        intro v13 w13 ho hg hat
        have hq13 : (fb ++ [(0 : UInt8)]).length = fb.length + 1 := by rw [List.length_append]; rfl
        have Hown13 : Hid (w13.ownsRow wr.heap.size 5 1 v13 (fb ++ [(0 : UInt8)]).length ((fb ++ [(0 : UInt8)]).map bV)) := by
         show World.ownsRow _ _ _ _ _ _ _
         rw [hq13, List.map_append]
         exact ho
        have Hb13 : Hid (Below wr.heap.size wr w13) := Hb12.out.grown hg Hb12.out.size (fun g hg => (Hown11.out.lt g hg).1)
        have Hb133 := Lib.hid (Hbz3.out.trans (Hb13.out.mono Hbz3.out.size))
        have HR13 := Lib.hid (HRD.out _ v13 w13 (by rw [hq13]; omega) (own_bs Hown13.out) Hb133.out)
        clear ho hg hat Hown12 Hb12 Hown13 hq13
        go_wp2_with fail
        refine HR13.out.mono ?_
        rintro r w14 ⟨rfl, hb14⟩
        have Hb14 := Lib.hid (Hb133.out.trans (hb14.mono Hb133.out.size))
        have HBb14 := Lib.hid (HBb9.out.keep (M' := []) (Keeps.of_below (below_then (below_then Hbz.out Hb13.out) hb14)) (by simp))
        have HRc : Hid (Reads w14 w14.heap.size 1 Ab fb.length (fb.map bV)) := bs_reads HBb14.out
        clear hb14 HR13 Hb133 Hb13 Hb11 Hown11 hzsw11
        go_wp2_with (at_builtin; go_must (refine wpList_append_g _ (by rfl) (.tmp 120) (.tmp 121) _ rfl w14.heap.size 5 i0 _ 1 1 Tryz.underlying36 Hi0.out Hz0.out Hz1.out Hz2.out rfl (by omega) (.slice (some ⟨w14.heap.size, 0, none⟩) 0 0) 0 [] rfl (World.ownsRow_made w14 #[] 0 (Nat.le_refl _) (by unfold maxLen; omega) rfl) w14.heap.size Ab fb.length cb (fb.map bV) rfl (HRc.out.alloc (Nat.le_refl _) _) (bV_one fb) (by unfold maxLen; omega) (by omega) (by simp) ?_))
        intro v15 w15 ho hg hat
        have Hown15 : Hid (w15.ownsRow w14.heap.size 5 1 v15 fb.length (fb.map bV)) := (show World.ownsRow _ _ _ _ _ _ _ by simpa using ho)
        have Hb15 : Hid (Below w14.heap.size w14 w15) := grown_empty hg
        have hzsw15 : w14.heap.size ≤ w15.heap.size := Hb15.out.size
        clear ho hg hat HRc
        have HRe : Hid (Reads w15 w14.heap.size 1 Ab fb.length (fb.map bV)) := (bs_reads HBb14.out).below Hb15.out
        go_wp2_with (at_builtin; refine wpList_append_g _ (by rfl) (.tmp 122) (.tmp 123) _ rfl w14.heap.size 5 i0 _ 1 1 Tryz.underlying36 Hi0.out Hz0.out Hz1.out Hz2.out rfl (by omega) v15 fb.length (fb.map bV) rfl Hown15.out w14.heap.size Ab fb.length cb (fb.map bV) rfl HRe.out (bV_one fb) (by unfold maxLen; omega) (by omega) (by omega) ?_)
        intro v17 w17 ho hg hat
        have hq17 : (fb ++ fb).length = fb.length + fb.length := by rw [List.length_append]
        have Hown17 : Hid (w17.ownsRow w14.heap.size 5 1 v17 (fb ++ fb).length ((fb ++ fb).map bV)) := by
         show World.ownsRow _ _ _ _ _ _ _
         rw [hq17, List.map_append]
         exact ho
        have Hb17 : Hid (Below w14.heap.size w14 w17) := Hb15.out.grown hg hzsw15 (fun g hg => (Hown15.out.lt g hg).1)
        have Hb173 := Lib.hid (Hb14.out.trans (Hb17.out.mono Hb14.out.size))
        have HR17 := Lib.hid (HRD.out _ v17 w17 (by rw [hq17]; omega) (own_bs Hown17.out) Hb173.out)
        clear ho hg hat Hown17 hq17 HRe
        go_wp2_with fail
        refine HR17.out.mono ?_
        rintro r w18 ⟨rfl, hb18⟩
        have Hb18 := Lib.hid (below_then Hb3.out (Hb173.out.trans (hb18.mono Hb173.out.size)))
        clear hb18 HR17
        go_wp2
        go_roundw
        case rel => exact ⟨x + 1, by go_num, by omega, Hb18⟩
        case measure => simp [intOf] <;> omega
       ·have hzli : decide ((z : Int) ≤ (bd.length : Int)) = false := decide_eq_false (by omega)
        go_wp2_with (at_builtin; go_must (refine wpList_append_g _ (by rfl) (.tmp 112) (.tmp 113) _ rfl wr.heap.size 5 i0 _ 1 1 Tryz.underlying36 Hi0.out Hz0.out Hz1.out Hz2.out rfl (by omega) (.slice (some ⟨wr.heap.size, 0, none⟩) 0 0) 0 [] rfl (World.ownsRow_made wr #[] 0 (Nat.le_refl _) (by unfold maxLen; omega) rfl) wr.heap.size Ab fb.length cb (fb.map bV) rfl (HRb.out.alloc (Nat.le_refl _) _) (bV_one fb) (by unfold maxLen; omega) (by omega) (by simp) ?_))
        intro v11 w11 ho hg hat
        have Hown11 : Hid (w11.ownsRow wr.heap.size 5 1 v11 fb.length (fb.map bV)) := (show World.ownsRow _ _ _ _ _ _ _ by simpa using ho)
        have Hb11 : Hid (Below wr.heap.size wr w11) := grown_empty hg
        have hzsw11 : wr.heap.size ≤ w11.heap.size := Hb11.out.size
        clear ho hg hat HRb
        have Hown12 := Lib.hid (Hown11.out.alloc (.cells #[.int .u8 0] 5))
        have Hb12 := Lib.hid (Hb11.out.alloc hzsw11 (.cells #[.int .u8 0] 5))
        go_wp2_with (at_builtin; refine wpList_append_g _ (by rfl) (.tmp 114) (.tmp 115) _ rfl wr.heap.size 5 i0 _ 1 1 Tryz.underlying36 Hi0.out Hz0.out Hz1.out Hz2.out rfl (by omega) v11 fb.length (fb.map bV) rfl Hown12.out (w11.heap.size + 1) (some ⟨w11.heap.size, 0, none⟩) 1 1 [.int .u8 0] rfl (reads_new w11 _ _ _ _ rfl) (by intro u hu; simp at hu; subst hu; rfl) (by unfold maxLen; omega) (by omega) (by simp; omega) ?_)
        intro v13 w13 ho hg hat
        have hq13 : (fb ++ [(0 : UInt8)]).length = fb.length + 1 := by rw [List.length_append]; rfl
        have Hown13 : Hid (w13.ownsRow wr.heap.size 5 1 v13 (fb ++ [(0 : UInt8)]).length ((fb ++ [(0 : UInt8)]).map bV)) := by
         show World.ownsRow _ _ _ _ _ _ _
         rw [hq13, List.map_append]
         exact ho
        have Hb13 : Hid (Below wr.heap.size wr w13) := Hb12.out.grown hg Hb12.out.size (fun g hg => (Hown11.out.lt g hg).1)
        have Hb133 := Lib.hid (Hbz3.out.trans (Hb13.out.mono Hbz3.out.size))
        have HR13 := Lib.hid (HRD.out _ v13 w13 (by rw [hq13]; omega) (own_bs Hown13.out) Hb133.out)
        clear ho hg hat Hown12 Hb12 Hown13 hq13
        go_wp2_with fail
        refine HR13.out.mono ?_
        rintro r w14 ⟨rfl, hb14⟩
        have Hb14 := Lib.hid (Hb133.out.trans (hb14.mono Hb133.out.size))
        have HBb14 := Lib.hid (HBb9.out.keep (M' := []) (Keeps.of_below (below_then (below_then Hbz.out Hb13.out) hb14)) (by simp))
        have HRc : Hid (Reads w14 w14.heap.size 1 Ab fb.length (fb.map bV)) := bs_reads HBb14.out
        clear hb14 HR13 Hb133 Hb13 Hb11 Hown11 hzsw11
        go_wp2_with (at_builtin; go_must (refine wpList_append_g _ (by rfl) (.tmp 120) (.tmp 121) _ rfl w14.heap.size 5 i0 _ 1 1 Tryz.underlying36 Hi0.out Hz0.out Hz1.out Hz2.out rfl (by omega) (.slice (some ⟨w14.heap.size, 0, none⟩) 0 0) 0 [] rfl (World.ownsRow_made w14 #[] 0 (Nat.le_refl _) (by unfold maxLen; omega) rfl) w14.heap.size Ab fb.length cb (fb.map bV) rfl (HRc.out.alloc (Nat.le_refl _) _) (bV_one fb) (by unfold maxLen; omega) (by omega) (by simp) ?_))
        intro v15 w15 ho hg hat
        have Hown15 : Hid (w15.ownsRow w14.heap.size 5 1 v15 fb.length (fb.map bV)) := (show World.ownsRow _ _ _ _ _ _ _ by simpa using ho)
        have Hb15 : Hid (Below w14.heap.size w14 w15) := grown_empty hg
        have hzsw15 : w14.heap.size ≤ w15.heap.size := Hb15.out.size
        clear ho hg hat HRc
        have HRe : Hid (Reads w15 w14.heap.size 1 Ab fb.length (fb.map bV)) := (bs_reads HBb14.out).below Hb15.out
        go_wp2_with (at_builtin; refine wpList_append_g _ (by rfl) (.tmp 122) (.tmp 123) _ rfl w14.heap.size 5 i0 _ 1 1 Tryz.underlying36 Hi0.out Hz0.out Hz1.out Hz2.out rfl (by omega) v15 fb.length (fb.map bV) rfl Hown15.out w14.heap.size Ab fb.length cb (fb.map bV) rfl HRe.out (bV_one fb) (by unfold maxLen; omega) (by omega) (by omega) ?_)
        intro v17 w17 ho hg hat
        have hq17 : (fb ++ fb).length = fb.length + fb.length := by rw [List.length_append]
        have Hown17 : Hid (w17.ownsRow w14.heap.size 5 1 v17 (fb ++ fb).length ((fb ++ fb).map bV)) := by
         show World.ownsRow _ _ _ _ _ _ _
         rw [hq17, List.map_append]
         exact ho
        have Hb17 : Hid (Below w14.heap.size w14 w17) := Hb15.out.grown hg hzsw15 (fun g hg => (Hown15.out.lt g hg).1)
        have Hb173 := Lib.hid (Hb14.out.trans (Hb17.out.mono Hb14.out.size))
        have HR17 := Lib.hid (HRD.out _ v17 w17 (by rw [hq17]; omega) (own_bs Hown17.out) Hb173.out)
        clear ho hg hat Hown17 hq17 HRe
        go_wp2_with fail
        refine HR17.out.mono ?_
        rintro r w18 ⟨rfl, hb18⟩
        have Hb18 := Lib.hid (below_then Hb3.out (Hb173.out.trans (hb18.mono Hb173.out.size)))
        clear hb18 HR17
        go_wp2
        go_roundw
        case rel => exact ⟨x + 1, by go_num, by omega, Hb18⟩
        case measure => simp [intOf] <;> omega
  ·obtain rfl : x = 60 := by omega
   go_wp2_with fail
   refine (mknown_any mx wr (Hm.out wr Hb.out)).mono ?_
   rintro r w9 ⟨rfl, hb9⟩
   have Hb9 := Lib.hid (below_then Hb.out hb9)
   clear hb9
   go_wp2
   go_ret
   exact ⟨rfl, Hb9.out⟩
end Go.Proofs.YtinnifhnabncfaaGreatDoor.Vi
end
