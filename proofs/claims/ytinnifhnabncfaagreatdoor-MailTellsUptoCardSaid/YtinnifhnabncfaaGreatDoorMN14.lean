/- Texts put together: MoC, MoD, Kn6, MoW. -/
import Derived.Test.YtinnifhnabncfaaGreatDoorMN1
import Derived.Test.YtinnifhnabncfaaGreatDoorMN3
import Derived.Test.YtinnifhnabncfaaGreatDoorMN5
import Derived.Test.YtinnifhnabncfaaGreatDoorMN6
import Derived.Test.YtinnifhnabncfaaGreatDoorMN7
import Derived.Test.YtinnifhnabncfaaGreatDoorMN8
import Derived.Test.YtinnifhnabncfaaGreatDoorMN11
import Derived.Test.YtinnifhnabncfaaGreatDoorMN12
import Derived.Test.YtinnifhnabncfaaGreatDoorMN13
set_option linter.unusedVariables false
set_option linter.unusedSimpArgs false
section
namespace Go.Proofs.YtinnifhnabncfaaGreatDoor.Vi
open Go.RowKit Base Mem Go.Shelf
theorem mbytes_fit (m : MsgD) : (mbytesS m).1.length ≤ 4611686018427387000 := by
 unfold mbytesS
 split
 ·split
  ·exact Nat.zero_le _
  ·have h := frameL_len (bodyL m)
   have u := Lib.uvarint_length64 (x := (bodyL m).length) (by omega)
   show (frameL (bodyL m)).length ≤ _
   omega
 ·exact Nat.zero_le _
set_option maxRecDepth 100000 in
set_option maxHeartbeats 16000000 in
theorem lawsame6_any (m : MsgD) (dv lv : Value) (mx : Int) (w : World) (h : MsgAt w [] m dv lv) (hs : MShort m) (hwf : MWf m) (hm : w.cell? ⟨0, 0, none⟩ = some (.int .i64 mx)) :
  Calls Tryz.prog 44 #[.agg (mCell m dv lv).toArray] w fun r w' => SamePost true w r w' := by
 have hw0 : 0 < w.heap.size := by
  have := World.block_lt_of_cell? w _ hm
  simpa using this
 have Hm : Hid (∀ W, Keeps [] w W → W.cell? ⟨0, 0, none⟩ = some (.int .i64 mx)) := fun W hk => (hk.cell (p := ⟨0, 0, none⟩) hw0 (by simp)).trans hm
 have HRi := Lib.hid (fun W (hk : Keeps [] w W) => mright_any m dv lv mx W (h.keep hk (by simp)) hs (Hm.out W hk))
 have HRr := Lib.hid (fun W (hk : Keeps [] w W) => rmright_any m dv lv mx W (h.keep hk (by simp)) hs (Hm.out W hk))
 have HSa := Lib.hid (fun W (hk : Keeps [] w W) => msame_any m m dv lv dv lv W (h.keep hk (by simp)) (h.keep hk (by simp)) hs.cnt hs.cnt)
 rw [(sameM_iff m m).2 rfl] at HSa
 have HBy := Lib.hid (fun W (hk : Keeps [] w W) => mbytes_any m dv lv mx W (h.keep hk (by simp)) hs hwf (Hm.out W hk))
 have HRy := Lib.hid (fun W (hk : Keeps [] w W) => rmbytes_any m dv lv mx W (h.keep hk (by simp)) hs hwf (Hm.out W hk))
 have hbl := mbytes_fit m
 have HRd := Lib.hid (fun (be : List UInt8) (hb : be.length ≤ 4611686018427387000) v W (hv : Bs W [] v be) (hk : Keeps [] w W) => reads6_any v be mx W hv hb (Hm.out W hk))
 obtain ⟨LM, hLM⟩ : ∃ LM, LM = mCell m dv lv := ⟨_, rfl⟩
 have hla : LM.length = 18 := by rw [hLM]; rfl
 rw [← hLM] at HRi HRr HSa HBy HRy ⊢
 clear h hs hwf hm hLM
 generalize mrightS m = rr at *
 generalize mbytesS m = R at *
 obtain ⟨bs, cd⟩ := R
 unfold MBPost at HBy HRy
 simp only [] at HBy HRy hbl
 obtain ⟨w2, hw2⟩ : ∃ w2, w2 = w.alloc (.cells LM.toArray 68) := ⟨_, rfl⟩
 have hB : Blk w2 w.heap.size 68 LM.toArray := by rw [hw2]; exact Blk.new w _ _
 have hk2 : Keeps [] w w2 := by rw [hw2]; exact (Keeps.refl _ _).alloc _
 have HB2 := Lib.hid hB; have Hk2 := Lib.hid hk2; have Hw2 := Lib.hid hw2
 have hg1 : w.heap.size < w2.heap.size := hB.lt
 clear hw2 hB hk2
 go_enter Tryz.func44, Tryz.ntmps44
 go_upto_region 1 with (fail)
 rw [← Hw2.out]
 clear Hw2
 go_wp2_with (refine wpList_load_mid rfl 68 (.tmp 1) rfl w.heap.size 0 rfl _ _ (blk_range HB2.out) Tryz.underlying68 rfl (by rw [hla]; kernel_rfl) ?_)
 refine (HBy.out w2 Hk2.out).mono ?_
 rintro r w3 ⟨Ab, cb, rfl, hv3, hb3⟩
 have Hv3 := Lib.hid (hv3 [] (by simp)); have Hk3 := Lib.hid (Hk2.out.trans (Keeps.of_below (M := []) hb3) (by simp))
 have HB3 := Lib.hid (HB2.out.below hb3 HB2.out.lt)
 clear hv3 hb3 HB2 Hk2 HBy
 simp only []
 go_wp2_with (refine wpList_load_mid rfl 68 (.tmp 1) rfl w.heap.size 0 rfl _ _ (blk_range HB3.out) Tryz.underlying68 rfl (by rw [hla]; kernel_rfl) ?_)
 refine (HRy.out w3 Hk3.out).mono ?_
 rintro r w4 ⟨Ac, cc, rfl, hv4, hb4⟩
 have Hv4 := Lib.hid (hv4 [] (by simp)); have Hk4 := Lib.hid (Hk3.out.trans (Keeps.of_below (M := []) hb4) (by simp))
 have Hw3 := Lib.hid (Hv3.out.keep (M' := []) (Keeps.of_below hb4) (by simp))
 have HB4 := Lib.hid (HB3.out.below hb4 HB3.out.lt)
 clear hv4 hb4 HB3 Hk3 HRy Hv3
 simp only []
 obtain ⟨tA, htA⟩ : ∃ tA : ByteArray, tA = ⟨bs.toArray⟩ := ⟨_, rfl⟩
 have HSC : Hid (∀ W, Below w4.heap.size w4 W → W.rangeAt w.heap.size 0 LM ∧ (convert 36 9 (.slice Ab bs.length cb)).run Tryz.prog W = .ok (.string tA) W ∧ (convert 36 9 (.slice Ac bs.length cc)).run Tryz.prog W = .ok (.string tA) W) := fun W hb => by
  rw [htA]
  have hk : Keeps [] w4 W := Keeps.of_below (M := []) hb
  exact ⟨blk_range (hk.blk HB4.out (by simp)), conv_bytes (Hw3.out.keep hk (by simp)), conv_bytes (Hv4.out.keep hk (by simp))⟩
 have HKB : Hid (∀ W, Below w4.heap.size w4 W → Keeps [] w W) := fun W hb => Hk4.out.trans (Keeps.of_below (M := []) hb) (by simp)
 have HbW : Hid (∀ W, Below w4.heap.size w4 W → Bs W [] (.slice Ab bs.length cb) bs) := fun W hb => Hw3.out.keep (M' := []) (Keeps.of_below hb) (by simp)
 clear HB4 Hw3 Hv4 htA Hm Hk4
 have Hq0 : Hid (Below w4.heap.size w4 w4.drew) := bdrewG (Below.refl _ w4)
 go_upto_region 3 with (fail)
 by_cases hc : cd = 0
 ·subst hc
  refine wp_region_held_drew (S := (fun W => W.rangeAt w.heap.size 0 LM ∧ (convert 36 9 (.slice Ab bs.length cb)).run Tryz.prog W = .ok (.string tA) W ∧ (convert 36 9 (.slice Ac bs.length cc)).run Tryz.prog W = .ok (.string tA) W)) (by kernel_rfl) (HSC.out _ Hq0.out) (fun hHeld => ?_)
  refine wpAnyH_take (i := 0) (oi := _) (v := .agg LM.toArray) rfl (by kernel_rfl) (by kernel_rfl) (by kernel_rfl) (fun _ _ _ h => h) (yieldsIf_load_mid (by rfl) _ _ rfl _ _ rfl LM _ (fun w hSw => hSw.1) Tryz.underlying68 rfl (by rw [hla]; kernel_rfl)) (by assumption) ?_
  try simp only [List.getElem_toArray, List.getElem_cons_succ, List.getElem_cons_zero, Act.put, List.setIfInBounds_toArray, List.set_cons_zero, List.set_cons_succ]
  refine wpAnyH_take (i := 2) (oi := _) (v := .agg LM.toArray) rfl (by kernel_rfl) (by kernel_rfl) (by kernel_rfl) (fun _ _ _ h => h) (yieldsIf_load_mid (by rfl) _ _ rfl _ _ rfl LM _ (fun w hSw => hSw.1) Tryz.underlying68 rfl (by rw [hla]; kernel_rfl)) (by assumption) ?_
  try simp only [List.getElem_toArray, List.getElem_cons_succ, List.getElem_cons_zero, Act.put, List.setIfInBounds_toArray, List.set_cons_zero, List.set_cons_succ]
  refine wpAnyH_ready (rs := [1]) (by kernel_rfl) (by simp) ?_
  refine AllReadyH.cons (o := _) rfl (fun K hK => ?_) AllReadyH.nil
  go_simp
  refine (HRi.out _ (HKB.out _ Hq0.out)).mono ?_
  rintro r v5 ⟨rfl, hbz⟩
  have Hq5 := Lib.hid (bthenG Hq0.out hbz)
  clear hbz
  refine hK.out _ _ (HSC.out _ Hq5.out) (fun hHeld2 => ?_)
  clear hK K hHeld
  have hHeld := hHeld2
  clear hHeld2
  try simp only [List.getElem_toArray, List.getElem_cons_succ, List.getElem_cons_zero, Act.put, List.setIfInBounds_toArray, List.set_cons_zero, List.set_cons_succ]
  refine wpAnyH_ready (rs := [3]) (by kernel_rfl) (by simp) ?_
  refine AllReadyH.cons (o := _) rfl (fun K hK => ?_) AllReadyH.nil
  go_simp
  refine (HRr.out _ (HKB.out _ Hq5.out)).mono ?_
  rintro r v6 ⟨rfl, hbz⟩
  have Hq6 := Lib.hid (bthenG Hq5.out hbz)
  clear hbz
  refine hK.out _ _ (HSC.out _ Hq6.out) (fun hHeld2 => ?_)
  clear hK K hHeld
  have hHeld := hHeld2
  clear hHeld2
  try simp only [List.getElem_toArray, List.getElem_cons_succ, List.getElem_cons_zero, Act.put, List.setIfInBounds_toArray, List.set_cons_zero, List.set_cons_succ]
  refine wpAnyH_take (i := 4) (oi := _) (v := ?v4z) rfl (by kernel_rfl) (by kernel_rfl) (by kernel_rfl) (fun _ _ _ h => h) (Or.inl ⟨by rfl, ?y4z⟩) (by assumption) ?r4z
  case y4z => (intro w hSw; (obtain ⟨hS0, hS1, hS2⟩ := hSw); go_simp <;> with_reducible rfl)
  try simp only [List.getElem_toArray, List.getElem_cons_succ, List.getElem_cons_zero, Act.put, List.setIfInBounds_toArray, List.set_cons_zero, List.set_cons_succ]
  refine wpAnyH_take (i := 5) (oi := _) (v := ?v5z) rfl (by kernel_rfl) (by kernel_rfl) (by kernel_rfl) (fun _ _ _ h => h) (Or.inl ⟨by rfl, ?y5z⟩) (by assumption) ?r5z
  case y5z => (intro w hSw; (obtain ⟨hS0, hS1, hS2⟩ := hSw); go_simp <;> with_reducible rfl)
  try simp only [List.getElem_toArray, List.getElem_cons_succ, List.getElem_cons_zero, Act.put, List.setIfInBounds_toArray, List.set_cons_zero, List.set_cons_succ]
  refine wpAnyH_take (i := 6) (oi := _) (v := ?v6z) rfl (by kernel_rfl) (by kernel_rfl) (by kernel_rfl) (fun _ _ _ h => h) (Or.inl ⟨by rfl, ?y6z⟩) (by assumption) ?r6z
  case y6z => (intro w hSw; (obtain ⟨hS0, hS1, hS2⟩ := hSw); go_simp <;> with_reducible rfl)
  try simp only [List.getElem_toArray, List.getElem_cons_succ, List.getElem_cons_zero, Act.put, List.setIfInBounds_toArray, List.set_cons_zero, List.set_cons_succ]
  refine wpAnyH_take (i := 7) (oi := _) (v := ?v7z) rfl (by kernel_rfl) (by kernel_rfl) (by kernel_rfl) (fun _ _ _ h => h) (Or.inl ⟨by rfl, ?y7z⟩) (by assumption) ?r7z
  case y7z => (intro w hSw; (obtain ⟨hS0, hS1, hS2⟩ := hSw); go_simp <;> with_reducible rfl)
  try simp only [List.getElem_toArray, List.getElem_cons_succ, List.getElem_cons_zero, Act.put, List.setIfInBounds_toArray, List.set_cons_zero, List.set_cons_succ]
  refine wpAnyH_take (i := 8) (oi := _) (v := ?v8z) rfl (by kernel_rfl) (by kernel_rfl) (by kernel_rfl) (fun _ _ _ h => h) (Or.inl ⟨by rfl, ?y8z⟩) (by assumption) ?r8z
  case y8z => (intro w hSw; (obtain ⟨hS0, hS1, hS2⟩ := hSw); go_simp <;> with_reducible rfl)
  try simp only [List.getElem_toArray, List.getElem_cons_succ, List.getElem_cons_zero, Act.put, List.setIfInBounds_toArray, List.set_cons_zero, List.set_cons_succ]
  refine wpAnyH_take (i := 9) (oi := _) (v := ?v9z) rfl (by kernel_rfl) (by kernel_rfl) (by kernel_rfl) (fun _ _ _ h => h) (Or.inl ⟨by rfl, ?y9z⟩) (by assumption) ?r9z
  case y9z => (intro w hSw; (obtain ⟨hS0, hS1, hS2⟩ := hSw); go_simp <;> with_reducible rfl)
  try simp only [List.getElem_toArray, List.getElem_cons_succ, List.getElem_cons_zero, Act.put, List.setIfInBounds_toArray, List.set_cons_zero, List.set_cons_succ]
  refine wpAnyH_take (i := 10) (oi := _) (v := ?v10z) rfl (by kernel_rfl) (by kernel_rfl) (by kernel_rfl) (fun _ _ _ h => h) (Or.inl ⟨by rfl, ?y10z⟩) (by assumption) ?r10z
  case y10z => (intro w hSw; (obtain ⟨hS0, hS1, hS2⟩ := hSw); go_simp <;> with_reducible rfl)
  try simp only [List.getElem_toArray, List.getElem_cons_succ, List.getElem_cons_zero, Act.put, List.setIfInBounds_toArray, List.set_cons_zero, List.set_cons_succ]
  refine wpAnyH_take (i := 11) (oi := _) (v := ?v11z) rfl (by kernel_rfl) (by kernel_rfl) (by kernel_rfl) (fun _ _ _ h => h) (Or.inl ⟨by rfl, ?y11z⟩) (by assumption) ?r11z
  case y11z => (intro w hSw; (obtain ⟨hS0, hS1, hS2⟩ := hSw); go_simp <;> with_reducible rfl)
  try simp only [List.getElem_toArray, List.getElem_cons_succ, List.getElem_cons_zero, Act.put, List.setIfInBounds_toArray, List.set_cons_zero, List.set_cons_succ]
  refine wpAnyH_take (i := 13) (oi := _) (v := ?v13z) rfl (by kernel_rfl) (by kernel_rfl) (by kernel_rfl) (fun _ _ _ h => h) (Or.inl ⟨by rfl, ?y13z⟩) (by assumption) ?r13z
  case y13z => (intro w hSw; (obtain ⟨hS0, hS1, hS2⟩ := hSw); go_simp <;> with_reducible rfl)
  try simp only [List.getElem_toArray, List.getElem_cons_succ, List.getElem_cons_zero, Act.put, List.setIfInBounds_toArray, List.set_cons_zero, List.set_cons_succ]
  refine wpAnyH_take (i := 12) (oi := _) (v := ?v12z) rfl (by kernel_rfl) (by kernel_rfl) (by kernel_rfl) (fun _ _ _ h => h) (Or.inl ⟨by rfl, ?y12z⟩) (by assumption) ?r12z
  case y12z => (intro w hSw; (obtain ⟨hS0, hS1, hS2⟩ := hSw); go_simp <;> with_reducible rfl)
  try simp only [List.getElem_toArray, List.getElem_cons_succ, List.getElem_cons_zero, Act.put, List.setIfInBounds_toArray, List.set_cons_zero, List.set_cons_succ]
  refine wpAnyH_take (i := 14) (oi := _) (v := ?v14z) rfl (by kernel_rfl) (by kernel_rfl) (by kernel_rfl) (fun _ _ _ h => h) (Or.inl ⟨by rfl, ?y14z⟩) (by assumption) ?r14z
  case y14z => (intro w hSw; (obtain ⟨hS0, hS1, hS2⟩ := hSw); go_simp <;> with_reducible rfl)
  try simp only [List.getElem_toArray, List.getElem_cons_succ, List.getElem_cons_zero, Act.put, List.setIfInBounds_toArray, List.set_cons_zero, List.set_cons_succ]
  refine wpAnyH_take (i := 15) (oi := _) (v := ?v15z) rfl (by kernel_rfl) (by kernel_rfl) (by kernel_rfl) (fun _ _ _ h => h) (Or.inl ⟨by rfl, ?y15z⟩) (by assumption) ?r15z
  case y15z => (intro w hSw; (obtain ⟨hS0, hS1, hS2⟩ := hSw); go_simp <;> with_reducible rfl)
  try simp only [List.getElem_toArray, List.getElem_cons_succ, List.getElem_cons_zero, Act.put, List.setIfInBounds_toArray, List.set_cons_zero, List.set_cons_succ]
  refine wpAnyH_take (i := 16) (oi := _) (v := ?v16z) rfl (by kernel_rfl) (by kernel_rfl) (by kernel_rfl) (fun _ _ _ h => h) (Or.inl ⟨by rfl, ?y16z⟩) (by assumption) ?r16z
  case y16z => (intro w hSw; (obtain ⟨hS0, hS1, hS2⟩ := hSw); go_simp <;> with_reducible rfl)
  try simp only [List.getElem_toArray, List.getElem_cons_succ, List.getElem_cons_zero, Act.put, List.setIfInBounds_toArray, List.set_cons_zero, List.set_cons_succ]
  refine wpAnyH_take (i := 17) (oi := _) (v := ?v17z) rfl (by kernel_rfl) (by kernel_rfl) (by kernel_rfl) (fun _ _ _ h => h) (Or.inl ⟨by rfl, ?y17z⟩) (by assumption) ?r17z
  case y17z => (intro w hSw; (obtain ⟨hS0, hS1, hS2⟩ := hSw); go_simp <;> with_reducible rfl)
  try simp only [List.getElem_toArray, List.getElem_cons_succ, List.getElem_cons_zero, Act.put, List.setIfInBounds_toArray, List.set_cons_zero, List.set_cons_succ]
  refine wpAnyH_take (i := 18) (oi := _) (v := .agg LM.toArray) rfl (by kernel_rfl) (by kernel_rfl) (by kernel_rfl) (fun _ _ _ h => h) (yieldsIf_load_mid (by rfl) _ _ rfl _ _ rfl LM _ (fun w hSw => hSw.1) Tryz.underlying68 rfl (by rw [hla]; kernel_rfl)) (by assumption) ?_
  try simp only [List.getElem_toArray, List.getElem_cons_succ, List.getElem_cons_zero, Act.put, List.setIfInBounds_toArray, List.set_cons_zero, List.set_cons_succ]
  refine wpAnyH_take (i := 19) (oi := _) (v := .agg LM.toArray) rfl (by kernel_rfl) (by kernel_rfl) (by kernel_rfl) (fun _ _ _ h => h) (yieldsIf_load_mid (by rfl) _ _ rfl _ _ rfl LM _ (fun w hSw => hSw.1) Tryz.underlying68 rfl (by rw [hla]; kernel_rfl)) (by assumption) ?_
  try simp only [List.getElem_toArray, List.getElem_cons_succ, List.getElem_cons_zero, Act.put, List.setIfInBounds_toArray, List.set_cons_zero, List.set_cons_succ]
  refine wpAnyH_ready (rs := [20]) (by kernel_rfl) (by simp) ?_
  refine AllReadyH.cons (o := _) rfl (fun K hK => ?_) AllReadyH.nil
  go_simp
  refine (HSa.out _ (HKB.out _ Hq6.out)).mono ?_
  rintro r v7 ⟨rfl, hbz⟩
  have Hq7 := Lib.hid (bthenG Hq6.out hbz)
  clear hbz
  refine hK.out _ _ (HSC.out _ Hq7.out) (fun hHeld2 => ?_)
  clear hK K hHeld
  have hHeld := hHeld2
  clear hHeld2
  try simp only [List.getElem_toArray, List.getElem_cons_succ, List.getElem_cons_zero, Act.put, List.setIfInBounds_toArray, List.set_cons_zero, List.set_cons_succ]
  refine wpAnyH_take (i := 21) (oi := _) (v := ?v21z) rfl (by kernel_rfl) (by kernel_rfl) (by kernel_rfl) (fun _ _ _ h => h) (Or.inl ⟨by rfl, ?y21z⟩) (by assumption) ?r21z
  case y21z => (intro w hSw; (obtain ⟨hS0, hS1, hS2⟩ := hSw); go_simp <;> with_reducible rfl)
  try simp only [List.getElem_toArray, List.getElem_cons_succ, List.getElem_cons_zero, Act.put, List.setIfInBounds_toArray, List.set_cons_zero, List.set_cons_succ]
  refine wpAnyH_take (i := 22) (oi := _) (v := ?v22z) rfl (by kernel_rfl) (by kernel_rfl) (by kernel_rfl) (fun _ _ _ h => h) (Or.inl ⟨by rfl, ?y22z⟩) (by assumption) ?r22z
  case y22z => (intro w hSw; (obtain ⟨hS0, hS1, hS2⟩ := hSw); go_simp <;> with_reducible rfl)
  try simp only [List.getElem_toArray, List.getElem_cons_succ, List.getElem_cons_zero, Act.put, List.setIfInBounds_toArray, List.set_cons_zero, List.set_cons_succ]
  refine wpAnyH_take (i := 23) (oi := _) (v := ?v23z) rfl (by kernel_rfl) (by kernel_rfl) (by kernel_rfl) (fun _ _ _ h => h) (Or.inl ⟨by rfl, ?y23z⟩) (by assumption) ?r23z
  case y23z => (intro w hSw; (obtain ⟨hS0, hS1, hS2⟩ := hSw); go_simp <;> with_reducible rfl)
  try simp only [List.getElem_toArray, List.getElem_cons_succ, List.getElem_cons_zero, Act.put, List.setIfInBounds_toArray, List.set_cons_zero, List.set_cons_succ]
  refine wpAnyH_take (i := 24) (oi := _) (v := ?v24z) rfl (by kernel_rfl) (by kernel_rfl) (by kernel_rfl) (fun _ _ _ h => h) (Or.inl ⟨by rfl, ?y24z⟩) (by assumption) ?r24z
  case y24z => (intro w hSw; (obtain ⟨hS0, hS1, hS2⟩ := hSw); go_simp <;> with_reducible rfl)
  try simp only [List.getElem_toArray, List.getElem_cons_succ, List.getElem_cons_zero, Act.put, List.setIfInBounds_toArray, List.set_cons_zero, List.set_cons_succ]
  refine wpAnyH_take (i := 25) (oi := _) (v := ?v25z) rfl (by kernel_rfl) (by kernel_rfl) (by kernel_rfl) (fun _ _ _ h => h) (Or.inl ⟨by rfl, ?y25z⟩) (by assumption) ?r25z
  case y25z => (intro w hSw; (obtain ⟨hS0, hS1, hS2⟩ := hSw); go_simp <;> with_reducible rfl)
  try simp only [List.getElem_toArray, List.getElem_cons_succ, List.getElem_cons_zero, Act.put, List.setIfInBounds_toArray, List.set_cons_zero, List.set_cons_succ]
  refine wpAnyH_take (i := 26) (oi := _) (v := ?v26z) rfl (by kernel_rfl) (by kernel_rfl) (by kernel_rfl) (fun _ _ _ h => h) (Or.inl ⟨by rfl, ?y26z⟩) (by assumption) ?r26z
  case y26z => (intro w hSw; (obtain ⟨hS0, hS1, hS2⟩ := hSw); go_simp <;> with_reducible rfl)
  try simp only [List.getElem_toArray, List.getElem_cons_succ, List.getElem_cons_zero, Act.put, List.setIfInBounds_toArray, List.set_cons_zero, List.set_cons_succ]
  refine wpAnyH_ready (rs := [27]) (by kernel_rfl) (by simp) ?_
  refine AllReadyH.cons (o := _) rfl (fun K hK => ?_) AllReadyH.nil
  go_simp
  refine (HRd.out bs hbl _ _ (HbW.out _ Hq7.out) (HKB.out _ Hq7.out)).mono ?_
  rintro r v8 ⟨rfl, hbz⟩
  have Hq8 := Lib.hid (bthenG Hq7.out hbz)
  clear hbz
  refine hK.out _ _ (HSC.out _ Hq8.out) (fun hHeld2 => ?_)
  clear hK K hHeld
  have hHeld := hHeld2
  clear hHeld2
  try simp only [List.getElem_toArray, List.getElem_cons_succ, List.getElem_cons_zero, Act.put, List.setIfInBounds_toArray, List.set_cons_zero, List.set_cons_succ]
  refine wpAnyH_take (i := 28) (oi := _) (v := ?v28z) rfl (by kernel_rfl) (by kernel_rfl) (by kernel_rfl) (fun _ _ _ h => h) (Or.inl ⟨by rfl, ?y28z⟩) (by assumption) ?r28z
  case y28z => (intro w hSw; (obtain ⟨hS0, hS1, hS2⟩ := hSw); go_simp <;> with_reducible rfl)
  try simp only [List.getElem_toArray, List.getElem_cons_succ, List.getElem_cons_zero, Act.put, List.setIfInBounds_toArray, List.set_cons_zero, List.set_cons_succ]
  refine wpAnyH_take (i := 29) (oi := _) (v := ?v29z) rfl (by kernel_rfl) (by kernel_rfl) (by kernel_rfl) (fun _ _ _ h => h) (Or.inl ⟨by rfl, ?y29z⟩) (by assumption) ?r29z
  case y29z => (intro w hSw; (obtain ⟨hS0, hS1, hS2⟩ := hSw); go_simp <;> with_reducible rfl)
  try simp only [List.getElem_toArray, List.getElem_cons_succ, List.getElem_cons_zero, Act.put, List.setIfInBounds_toArray, List.set_cons_zero, List.set_cons_succ]
  refine wpAnyH_take (i := 30) (oi := _) (v := ?v30z) rfl (by kernel_rfl) (by kernel_rfl) (by kernel_rfl) (fun _ _ _ h => h) (Or.inl ⟨by rfl, ?y30z⟩) (by assumption) ?r30z
  case y30z => (intro w hSw; (obtain ⟨hS0, hS1, hS2⟩ := hSw); go_simp <;> with_reducible rfl)
  try simp only [List.getElem_toArray, List.getElem_cons_succ, List.getElem_cons_zero, Act.put, List.setIfInBounds_toArray, List.set_cons_zero, List.set_cons_succ]
  refine wpAnyH_done (by kernel_rfl) ?_ _
  have HF := Lib.hid (HKB.out _ Hq8.out).below
  clear hHeld
  go_wp2
  go_ret
  exact ⟨rfl, HF.out⟩
 ·have hcn : ((cd : Int) != 0) = true := by rw [bne_iff_ne]; omega
  clear hc
  refine wp_region_held_drew (S := (fun W => W.rangeAt w.heap.size 0 LM ∧ (convert 36 9 (.slice Ab bs.length cb)).run Tryz.prog W = .ok (.string tA) W ∧ (convert 36 9 (.slice Ac bs.length cc)).run Tryz.prog W = .ok (.string tA) W)) (by kernel_rfl) (HSC.out _ Hq0.out) (fun hHeld => ?_)
  refine wpAnyH_take (i := 0) (oi := _) (v := .agg LM.toArray) rfl (by kernel_rfl) (by kernel_rfl) (by kernel_rfl) (fun _ _ _ h => h) (yieldsIf_load_mid (by rfl) _ _ rfl _ _ rfl LM _ (fun w hSw => hSw.1) Tryz.underlying68 rfl (by rw [hla]; kernel_rfl)) (by assumption) ?_
  try simp only [List.getElem_toArray, List.getElem_cons_succ, List.getElem_cons_zero, Act.put, List.setIfInBounds_toArray, List.set_cons_zero, List.set_cons_succ]
  refine wpAnyH_take (i := 2) (oi := _) (v := .agg LM.toArray) rfl (by kernel_rfl) (by kernel_rfl) (by kernel_rfl) (fun _ _ _ h => h) (yieldsIf_load_mid (by rfl) _ _ rfl _ _ rfl LM _ (fun w hSw => hSw.1) Tryz.underlying68 rfl (by rw [hla]; kernel_rfl)) (by assumption) ?_
  try simp only [List.getElem_toArray, List.getElem_cons_succ, List.getElem_cons_zero, Act.put, List.setIfInBounds_toArray, List.set_cons_zero, List.set_cons_succ]
  refine wpAnyH_ready (rs := [1]) (by kernel_rfl) (by simp) ?_
  refine AllReadyH.cons (o := _) rfl (fun K hK => ?_) AllReadyH.nil
  go_simp
  refine (HRi.out _ (HKB.out _ Hq0.out)).mono ?_
  rintro r v5 ⟨rfl, hbz⟩
  have Hq5 := Lib.hid (bthenG Hq0.out hbz)
  clear hbz
  refine hK.out _ _ (HSC.out _ Hq5.out) (fun hHeld2 => ?_)
  clear hK K hHeld
  have hHeld := hHeld2
  clear hHeld2
  try simp only [List.getElem_toArray, List.getElem_cons_succ, List.getElem_cons_zero, Act.put, List.setIfInBounds_toArray, List.set_cons_zero, List.set_cons_succ]
  refine wpAnyH_ready (rs := [3]) (by kernel_rfl) (by simp) ?_
  refine AllReadyH.cons (o := _) rfl (fun K hK => ?_) AllReadyH.nil
  go_simp
  refine (HRr.out _ (HKB.out _ Hq5.out)).mono ?_
  rintro r v6 ⟨rfl, hbz⟩
  have Hq6 := Lib.hid (bthenG Hq5.out hbz)
  clear hbz
  refine hK.out _ _ (HSC.out _ Hq6.out) (fun hHeld2 => ?_)
  clear hK K hHeld
  have hHeld := hHeld2
  clear hHeld2
  try simp only [List.getElem_toArray, List.getElem_cons_succ, List.getElem_cons_zero, Act.put, List.setIfInBounds_toArray, List.set_cons_zero, List.set_cons_succ]
  refine wpAnyH_take (i := 4) (oi := _) (v := ?v4n) rfl (by kernel_rfl) (by kernel_rfl) (by kernel_rfl) (fun _ _ _ h => h) (Or.inl ⟨by rfl, ?y4n⟩) (by assumption) ?r4n
  case y4n => (intro w hSw; (obtain ⟨hS0, hS1, hS2⟩ := hSw); go_simp <;> with_reducible rfl)
  try simp only [List.getElem_toArray, List.getElem_cons_succ, List.getElem_cons_zero, Act.put, List.setIfInBounds_toArray, List.set_cons_zero, List.set_cons_succ]
  refine wpAnyH_take (i := 5) (oi := _) (v := ?v5n) rfl (by kernel_rfl) (by kernel_rfl) (by kernel_rfl) (fun _ _ _ h => h) (Or.inl ⟨by rfl, ?y5n⟩) (by assumption) ?r5n
  case y5n => (intro w hSw; (obtain ⟨hS0, hS1, hS2⟩ := hSw); go_simp <;> with_reducible rfl)
  try simp only [List.getElem_toArray, List.getElem_cons_succ, List.getElem_cons_zero, Act.put, List.setIfInBounds_toArray, List.set_cons_zero, List.set_cons_succ]
  refine wpAnyH_take (i := 6) (oi := _) (v := ?v6n) rfl (by kernel_rfl) (by kernel_rfl) (by kernel_rfl) (fun _ _ _ h => h) (Or.inl ⟨by rfl, ?y6n⟩) (by assumption) ?r6n
  case y6n => (intro w hSw; (obtain ⟨hS0, hS1, hS2⟩ := hSw); go_simp <;> with_reducible rfl)
  try simp only [List.getElem_toArray, List.getElem_cons_succ, List.getElem_cons_zero, Act.put, List.setIfInBounds_toArray, List.set_cons_zero, List.set_cons_succ]
  refine wpAnyH_take (i := 7) (oi := _) (v := ?v7n) rfl (by kernel_rfl) (by kernel_rfl) (by kernel_rfl) (fun _ _ _ h => h) (Or.inl ⟨by rfl, ?y7n⟩) (by assumption) ?r7n
  case y7n => (intro w hSw; (obtain ⟨hS0, hS1, hS2⟩ := hSw); go_simp <;> with_reducible rfl)
  try simp only [List.getElem_toArray, List.getElem_cons_succ, List.getElem_cons_zero, Act.put, List.setIfInBounds_toArray, List.set_cons_zero, List.set_cons_succ]
  refine wpAnyH_take (i := 8) (oi := _) (v := ?v8n) rfl (by kernel_rfl) (by kernel_rfl) (by kernel_rfl) (fun _ _ _ h => h) (Or.inl ⟨by rfl, ?y8n⟩) (by assumption) ?r8n
  case y8n => (intro w hSw; (obtain ⟨hS0, hS1, hS2⟩ := hSw); go_simp <;> with_reducible rfl)
  try simp only [List.getElem_toArray, List.getElem_cons_succ, List.getElem_cons_zero, Act.put, List.setIfInBounds_toArray, List.set_cons_zero, List.set_cons_succ]
  refine wpAnyH_take (i := 9) (oi := _) (v := ?v9n) rfl (by kernel_rfl) (by kernel_rfl) (by kernel_rfl) (fun _ _ _ h => h) (Or.inl ⟨by rfl, ?y9n⟩) (by assumption) ?r9n
  case y9n => (intro w hSw; (obtain ⟨hS0, hS1, hS2⟩ := hSw); go_simp <;> with_reducible rfl)
  try simp only [List.getElem_toArray, List.getElem_cons_succ, List.getElem_cons_zero, Act.put, List.setIfInBounds_toArray, List.set_cons_zero, List.set_cons_succ]
  refine wpAnyH_take (i := 10) (oi := _) (v := ?v10n) rfl (by kernel_rfl) (by kernel_rfl) (by kernel_rfl) (fun _ _ _ h => h) (Or.inl ⟨by rfl, ?y10n⟩) (by assumption) ?r10n
  case y10n => (intro w hSw; (obtain ⟨hS0, hS1, hS2⟩ := hSw); go_simp <;> with_reducible rfl)
  try simp only [List.getElem_toArray, List.getElem_cons_succ, List.getElem_cons_zero, Act.put, List.setIfInBounds_toArray, List.set_cons_zero, List.set_cons_succ]
  refine wpAnyH_take (i := 11) (oi := _) (v := ?v11n) rfl (by kernel_rfl) (by kernel_rfl) (by kernel_rfl) (fun _ _ _ h => h) (Or.inl ⟨by rfl, ?y11n⟩) (by assumption) ?r11n
  case y11n => (intro w hSw; (obtain ⟨hS0, hS1, hS2⟩ := hSw); go_simp <;> with_reducible rfl)
  try simp only [List.getElem_toArray, List.getElem_cons_succ, List.getElem_cons_zero, Act.put, List.setIfInBounds_toArray, List.set_cons_zero, List.set_cons_succ]
  refine wpAnyH_take (i := 13) (oi := _) (v := ?v13n) rfl (by kernel_rfl) (by kernel_rfl) (by kernel_rfl) (fun _ _ _ h => h) (Or.inl ⟨by rfl, ?y13n⟩) (by assumption) ?r13n
  case y13n => (intro w hSw; (obtain ⟨hS0, hS1, hS2⟩ := hSw); go_simp <;> with_reducible rfl)
  try simp only [List.getElem_toArray, List.getElem_cons_succ, List.getElem_cons_zero, Act.put, List.setIfInBounds_toArray, List.set_cons_zero, List.set_cons_succ]
  refine wpAnyH_take (i := 12) (oi := _) (v := ?v12n) rfl (by kernel_rfl) (by kernel_rfl) (by kernel_rfl) (fun _ _ _ h => h) (Or.inl ⟨by rfl, ?y12n⟩) (by assumption) ?r12n
  case y12n => (intro w hSw; (obtain ⟨hS0, hS1, hS2⟩ := hSw); go_simp <;> with_reducible rfl)
  try simp only [List.getElem_toArray, List.getElem_cons_succ, List.getElem_cons_zero, Act.put, List.setIfInBounds_toArray, List.set_cons_zero, List.set_cons_succ]
  refine wpAnyH_take (i := 14) (oi := _) (v := ?v14n) rfl (by kernel_rfl) (by kernel_rfl) (by kernel_rfl) (fun _ _ _ h => h) (Or.inl ⟨by rfl, ?y14n⟩) (by assumption) ?r14n
  case y14n => (intro w hSw; (obtain ⟨hS0, hS1, hS2⟩ := hSw); go_simp <;> with_reducible rfl)
  try simp only [List.getElem_toArray, List.getElem_cons_succ, List.getElem_cons_zero, Act.put, List.setIfInBounds_toArray, List.set_cons_zero, List.set_cons_succ]
  refine wpAnyH_take (i := 15) (oi := _) (v := ?v15n) rfl (by kernel_rfl) (by kernel_rfl) (by kernel_rfl) (fun _ _ _ h => h) (Or.inl ⟨by rfl, ?y15n⟩) (by assumption) ?r15n
  case y15n => (intro w hSw; (obtain ⟨hS0, hS1, hS2⟩ := hSw); go_simp <;> with_reducible rfl)
  try simp only [List.getElem_toArray, List.getElem_cons_succ, List.getElem_cons_zero, Act.put, List.setIfInBounds_toArray, List.set_cons_zero, List.set_cons_succ]
  refine wpAnyH_take (i := 16) (oi := _) (v := ?v16n) rfl (by kernel_rfl) (by kernel_rfl) (by kernel_rfl) (fun _ _ _ h => h) (Or.inl ⟨by rfl, ?y16n⟩) (by assumption) ?r16n
  case y16n => (intro w hSw; (obtain ⟨hS0, hS1, hS2⟩ := hSw); go_simp <;> with_reducible rfl)
  try simp only [List.getElem_toArray, List.getElem_cons_succ, List.getElem_cons_zero, Act.put, List.setIfInBounds_toArray, List.set_cons_zero, List.set_cons_succ]
  refine wpAnyH_take (i := 17) (oi := _) (v := ?v17n) rfl (by kernel_rfl) (by kernel_rfl) (by kernel_rfl) (fun _ _ _ h => h) (Or.inl ⟨by rfl, ?y17n⟩) (by assumption) ?r17n
  case y17n => (intro w hSw; (obtain ⟨hS0, hS1, hS2⟩ := hSw); go_simp <;> with_reducible rfl)
  try simp only [List.getElem_toArray, List.getElem_cons_succ, List.getElem_cons_zero, Act.put, List.setIfInBounds_toArray, List.set_cons_zero, List.set_cons_succ]
  refine wpAnyH_take (i := 18) (oi := _) (v := .agg LM.toArray) rfl (by kernel_rfl) (by kernel_rfl) (by kernel_rfl) (fun _ _ _ h => h) (yieldsIf_load_mid (by rfl) _ _ rfl _ _ rfl LM _ (fun w hSw => hSw.1) Tryz.underlying68 rfl (by rw [hla]; kernel_rfl)) (by assumption) ?_
  try simp only [List.getElem_toArray, List.getElem_cons_succ, List.getElem_cons_zero, Act.put, List.setIfInBounds_toArray, List.set_cons_zero, List.set_cons_succ]
  refine wpAnyH_take (i := 19) (oi := _) (v := .agg LM.toArray) rfl (by kernel_rfl) (by kernel_rfl) (by kernel_rfl) (fun _ _ _ h => h) (yieldsIf_load_mid (by rfl) _ _ rfl _ _ rfl LM _ (fun w hSw => hSw.1) Tryz.underlying68 rfl (by rw [hla]; kernel_rfl)) (by assumption) ?_
  try simp only [List.getElem_toArray, List.getElem_cons_succ, List.getElem_cons_zero, Act.put, List.setIfInBounds_toArray, List.set_cons_zero, List.set_cons_succ]
  refine wpAnyH_ready (rs := [20]) (by kernel_rfl) (by simp) ?_
  refine AllReadyH.cons (o := _) rfl (fun K hK => ?_) AllReadyH.nil
  go_simp
  refine (HSa.out _ (HKB.out _ Hq6.out)).mono ?_
  rintro r v7 ⟨rfl, hbz⟩
  have Hq7 := Lib.hid (bthenG Hq6.out hbz)
  clear hbz
  refine hK.out _ _ (HSC.out _ Hq7.out) (fun hHeld2 => ?_)
  clear hK K hHeld
  have hHeld := hHeld2
  clear hHeld2
  try simp only [List.getElem_toArray, List.getElem_cons_succ, List.getElem_cons_zero, Act.put, List.setIfInBounds_toArray, List.set_cons_zero, List.set_cons_succ]
  refine wpAnyH_take (i := 21) (oi := _) (v := ?v21n) rfl (by kernel_rfl) (by kernel_rfl) (by kernel_rfl) (fun _ _ _ h => h) (Or.inl ⟨by rfl, ?y21n⟩) (by assumption) ?r21n
  case y21n => (intro w hSw; (obtain ⟨hS0, hS1, hS2⟩ := hSw); go_simp <;> with_reducible rfl)
  try simp only [List.getElem_toArray, List.getElem_cons_succ, List.getElem_cons_zero, Act.put, List.setIfInBounds_toArray, List.set_cons_zero, List.set_cons_succ]
  refine wpAnyH_take (i := 22) (oi := _) (v := ?v22n) rfl (by kernel_rfl) (by kernel_rfl) (by kernel_rfl) (fun _ _ _ h => h) (Or.inl ⟨by rfl, ?y22n⟩) (by assumption) ?r22n
  case y22n => (intro w hSw; (obtain ⟨hS0, hS1, hS2⟩ := hSw); go_simp <;> with_reducible rfl)
  try simp only [List.getElem_toArray, List.getElem_cons_succ, List.getElem_cons_zero, Act.put, List.setIfInBounds_toArray, List.set_cons_zero, List.set_cons_succ]
  refine wpAnyH_take (i := 23) (oi := _) (v := ?v23n) rfl (by kernel_rfl) (by kernel_rfl) (by kernel_rfl) (fun _ _ _ h => h) (Or.inl ⟨by rfl, ?y23n⟩) (by assumption) ?r23n
  case y23n => (intro w hSw; (obtain ⟨hS0, hS1, hS2⟩ := hSw); go_simp <;> with_reducible rfl)
  try simp only [List.getElem_toArray, List.getElem_cons_succ, List.getElem_cons_zero, Act.put, List.setIfInBounds_toArray, List.set_cons_zero, List.set_cons_succ]
  refine wpAnyH_take (i := 24) (oi := _) (v := ?v24n) rfl (by kernel_rfl) (by kernel_rfl) (by kernel_rfl) (fun _ _ _ h => h) (Or.inl ⟨by rfl, ?y24n⟩) (by assumption) ?r24n
  case y24n => (intro w hSw; (obtain ⟨hS0, hS1, hS2⟩ := hSw); go_simp <;> with_reducible rfl)
  try simp only [List.getElem_toArray, List.getElem_cons_succ, List.getElem_cons_zero, Act.put, List.setIfInBounds_toArray, List.set_cons_zero, List.set_cons_succ]
  refine wpAnyH_take (i := 25) (oi := _) (v := ?v25n) rfl (by kernel_rfl) (by kernel_rfl) (by kernel_rfl) (fun _ _ _ h => h) (Or.inl ⟨by rfl, ?y25n⟩) (by assumption) ?r25n
  case y25n => (intro w hSw; (obtain ⟨hS0, hS1, hS2⟩ := hSw); go_simp <;> with_reducible rfl)
  try simp only [List.getElem_toArray, List.getElem_cons_succ, List.getElem_cons_zero, Act.put, List.setIfInBounds_toArray, List.set_cons_zero, List.set_cons_succ]
  refine wpAnyH_take (i := 26) (oi := _) (v := undef) rfl (by kernel_rfl) (by kernel_rfl) (by kernel_rfl) (fun _ _ _ h => h) (Or.inr ⟨by rfl, rfl⟩) (by assumption) ?_
  try simp only [List.getElem_toArray, List.getElem_cons_succ, List.getElem_cons_zero, Act.put, List.setIfInBounds_toArray, List.set_cons_zero, List.set_cons_succ]
  refine wpAnyH_take (i := 27) (oi := _) (v := undef) rfl (by kernel_rfl) (by kernel_rfl) (by kernel_rfl) (fun _ _ _ h => h) (Or.inr ⟨by rfl, rfl⟩) (by assumption) ?_
  try simp only [List.getElem_toArray, List.getElem_cons_succ, List.getElem_cons_zero, Act.put, List.setIfInBounds_toArray, List.set_cons_zero, List.set_cons_succ]
  refine wpAnyH_take (i := 28) (oi := _) (v := ?v28n) rfl (by kernel_rfl) (by kernel_rfl) (by kernel_rfl) (fun _ _ _ h => h) (Or.inl ⟨by rfl, ?y28n⟩) (by assumption) ?r28n
  case y28n => (intro w hSw; (obtain ⟨hS0, hS1, hS2⟩ := hSw); go_simp <;> with_reducible rfl)
  try simp only [List.getElem_toArray, List.getElem_cons_succ, List.getElem_cons_zero, Act.put, List.setIfInBounds_toArray, List.set_cons_zero, List.set_cons_succ]
  refine wpAnyH_take (i := 29) (oi := _) (v := ?v29n) rfl (by kernel_rfl) (by kernel_rfl) (by kernel_rfl) (fun _ _ _ h => h) (Or.inl ⟨by rfl, ?y29n⟩) (by assumption) ?r29n
  case y29n => (intro w hSw; (obtain ⟨hS0, hS1, hS2⟩ := hSw); go_simp <;> with_reducible rfl)
  try simp only [List.getElem_toArray, List.getElem_cons_succ, List.getElem_cons_zero, Act.put, List.setIfInBounds_toArray, List.set_cons_zero, List.set_cons_succ]
  refine wpAnyH_take (i := 30) (oi := _) (v := ?v30n) rfl (by kernel_rfl) (by kernel_rfl) (by kernel_rfl) (fun _ _ _ h => h) (Or.inl ⟨by rfl, ?y30n⟩) (by assumption) ?r30n
  case y30n => (intro w hSw; (obtain ⟨hS0, hS1, hS2⟩ := hSw); go_simp <;> with_reducible rfl)
  try simp only [List.getElem_toArray, List.getElem_cons_succ, List.getElem_cons_zero, Act.put, List.setIfInBounds_toArray, List.set_cons_zero, List.set_cons_succ]
  refine wpAnyH_done (by kernel_rfl) ?_ _
  have HF := Lib.hid (HKB.out _ Hq7.out).below
  clear hHeld
  go_wp2
  go_ret
  exact ⟨rfl, HF.out⟩
end Go.Proofs.YtinnifhnabncfaaGreatDoor.Vi
end
section
namespace Go.Proofs.YtinnifhnabncfaaGreatDoor.Vi
open Go.RowKit Base Mem Go.Shelf Tape
/-- A message of no great size, its numbers within their types. -/
structure MBig (K : Nat) (m : MsgD) : Prop where
 short : MShort m
 wf : MWf m
 len : m.log.length ≤ K
theorem MBig.more {K K' : Nat} {m : MsgD} (h : MBig K m) (hk : K ≤ K') : MBig K' m := ⟨h.short, h.wf, Nat.le_trans h.len hk⟩
theorem eCells_one (l : List (EntryD × Value)) (hl : ∀ p ∈ l, ∃ A n c, p.2 = .slice A n c) : ∀ u ∈ l.flatMap eCell, u.oneCell' = true := by
 intro u hu
 obtain ⟨d, hd, hu⟩ := List.mem_flatMap.1 hu
 obtain ⟨A, n, c, e⟩ := hl d hd
 simp [eCell, e] at hu
 rcases hu with rfl | rfl | rfl | rfl | rfl | rfl | rfl | rfl | rfl <;> rfl
def OddPost6 (K : Nat) (w : World) (r : Ending) (w' : World) : Prop := ∃ (m : MsgD) (dv lv : Value), r = .returned (.agg (mCell m dv lv).toArray) ∧ MsgAt w' [] m dv lv ∧ MBig K m ∧ Below w.heap.size w w'
/-- What stands behind the switch. -/
structure OddM (K g : Nat) (w0 w : World) (m : MsgD) (dv lv : Value) : Prop where
 b3 : Blk w g 68 (mCell m dv lv).toArray
 b6 : Blk w (g + 1) 68 zeroR
 at_ : MsgAt w [g, g + 1] m dv lv
 big : MBig K m
 keeps : Below g w0 w
/-- How many entries stand in the message's block. -/
def logAt (w : World) (g : Nat) : Nat := match w.cell? ⟨g, 15, none⟩ with | some (.slice _ n _) => n | _ => 0
theorem short_a1 (n : Int) : Short ⟨2, 0, 0, 0, 0, [], ⟨#[97, 61, 49]⟩, n, 0⟩ := ⟨(show (3 : Nat) < _ by omega), by simp, by simp⟩
theorem wf_a1 (n : Int) : Wf ⟨2, 0, 0, 0, 0, [], ⟨#[97, 61, 49]⟩, n, 0⟩ := ⟨by simp, by simp, by simp, by simp⟩
set_option maxRecDepth 100000 in
set_option maxHeartbeats 8000000 in
theorem odd6_any (K : Nat) (m : MsgD) (dv lv : Value) (what n : Int) (w : World) (h : MsgAt w [] m dv lv) (hK : K ≤ 1048600) (hwd : MBig K m) (hn : n ≤ 9223372036854775807) (hn10 : withinS what 0 10 = 10 → n = 128 ∨ n = 129) :
  Calls Tryz.prog 45 #[.agg (mCell m dv lv).toArray, .int .i64 what, .int .i64 n] w fun r w' => OddPost6 (K + 130) w r w' := by
 obtain ⟨i0, hi0, hz0, hz1, hz2⟩ := info_parts infoEntry2
 have Hi0 := Lib.hid hi0; have Hz0 := Lib.hid hz0; have Hz1 := Lib.hid hz1; have Hz2 := Lib.hid hz2
 clear hi0 hz0 hz1 hz2
 have hwi := Lib.hid (fun W => within_any what 0 10 W (by omega) (by omega) (by omega))
 obtain ⟨hk0, hk1⟩ := within_bd what 0 10 (by omega)
 generalize withinS what 0 10 = kk at *
 have HD := Lib.hid h
 obtain ⟨A, c, rfl, hc⟩ := h.1.len
 obtain ⟨B, k, rfl, hkb⟩ := h.2.len
 obtain ⟨kd, ⟨kind, ag, sh, seq, ep, ds, ser, fr, etg⟩, tag, code, nn, term, had, log, commit, len⟩ := m
 have HW := Lib.hid hwd
 have hll : log.length ≤ K := hwd.len
 simp only [mCell, eCell, List.cons_append, List.nil_append] at *
 clear h hwd
 obtain ⟨w2, hw2⟩ : ∃ w2, w2 = (w.alloc (.cells #[.int .i64 kd, .int .i64 kind, .int .i64 ag, .int .i64 sh, .int .i64 seq, .int .i64 ep, .slice A ds.length c, .string ser, .int .i64 fr, .int .i64 etg, .int .i64 tag, .int .i64 code, .int .u64 nn, .int .i64 term, .int .i64 had, .slice B log.length k, .int .i64 commit, .int .i64 len] 68)).alloc (.cells zeroR 68) := ⟨_, rfl⟩
 have hS : OddM K w.heap.size w w2 (⟨kd, ⟨kind, ag, sh, seq, ep, ds, ser, fr, etg⟩, tag, code, nn, term, had, log, commit, len⟩ : MsgD) (.slice A ds.length c) (.slice B log.length k) := by
  rw [hw2]
  refine ⟨(Blk.new w 68 #[.int .i64 kd, .int .i64 kind, .int .i64 ag, .int .i64 sh, .int .i64 seq, .int .i64 ep, .slice A ds.length c, .string ser, .int .i64 fr, .int .i64 etg, .int .i64 tag, .int .i64 code, .int .u64 nn, .int .i64 term, .int .i64 had, .slice B log.length k, .int .i64 commit, .int .i64 len]).below (B := w.heap.size + 1) (((Below.refl _ _)).alloc (by simp) _) (by omega), ?_, ?_, HW.out, ((Below.refl _ _).alloc (Nat.le_refl _) _).alloc (by simp) _⟩
  ·have := Blk.new (w.alloc (.cells #[.int .i64 kd, .int .i64 kind, .int .i64 ag, .int .i64 sh, .int .i64 seq, .int .i64 ep, .slice A ds.length c, .string ser, .int .i64 fr, .int .i64 etg, .int .i64 tag, .int .i64 code, .int .u64 nn, .int .i64 term, .int .i64 had, .slice B log.length k, .int .i64 commit, .int .i64 len] 68)) 68 zeroR
   rwa [World.size_alloc] at this
  ·exact (HD.out.avoid (M' := [w.heap.size, w.heap.size + 1]) (by intro g hg; simp at hg; right; omega)).keep (M' := []) (((Keeps.refl _ _).alloc _).alloc _) (by simp)
 have hsz : w.heap.size + 2 ≤ w2.heap.size := by rw [hw2]; simp
 unfold zeroR at hw2
 have HS := Lib.hid hS; have Hw2 := Lib.hid hw2
 clear hS hw2 HD
 go_enter Tryz.func45, Tryz.ntmps45
 go_upto_region 1 with (fail)
 rw [← Hw2.out]
 clear Hw2
 have HF : Hid (∀ m' dv' lv' W, OddM (K + 130) w.heap.size w W m' dv' lv' → ∀ W', Keeps [w.heap.size + 1] W W' → OddPost6 (K + 130) w (.returned (.agg (mCell m' dv' lv').toArray)) W') := fun m' dv' lv' W hS W' hk =>
  ⟨m', dv', lv', rfl, (hS.at_.keep hk (by simp)).avoid (by simp), hS.big, ((Keeps.of_below (M := []) hS.keeps).trans hk (by intro g hg; simp at hg; right; omega)).below⟩
 generalize w.heap.size = g3 at *
 go_wp2_with fail
 refine (hwi.out _).mono ?_
 rintro e w' ⟨rfl, rfl⟩
 clear hwi
 rcases (show kk = 0 ∨ kk = 1 ∨ kk = 2 ∨ kk = 3 ∨ kk = 4 ∨ kk = 5 ∨ kk = 6 ∨ kk = 7 ∨ kk = 8 ∨ kk = 9 ∨ kk = 10 by omega) with rfl | rfl | rfl | rfl | rfl | rfl | rfl | rfl | rfl | rfl | rfl
 ·obtain ⟨q0, q1, q2, q3, q4, q5, q6, q7, q8, q9, qa, qb, qc, qd, qe, qf, qg, qh, qz⟩ := blk18 HS.out.b3
  have HX0 : Hid (OddM (K + 130) g3 w (w2.setCell ⟨g3, 0, none⟩ (.int .i64 n)) (⟨n, ⟨kind, ag, sh, seq, ep, ds, ser, fr, etg⟩, tag, code, nn, term, had, log, commit, len⟩ : MsgD) (.slice A ds.length c) (.slice B log.length k)) := by
   have hk : Keeps [g3] w2 (w2.setCell ⟨g3, 0, none⟩ (.int .i64 n)) := (Keeps.refl _ _).setCell (by simp) _
   exact ⟨by simpa [mCell, eCell] using HS.out.b3.set_ 0 (.int .i64 n), hk.blk HS.out.b6 (by simp), HS.out.at_.keep hk (by simp), ⟨⟨HW.out.short.1, HW.out.short.2.1, HW.out.short.2.2⟩, ⟨HW.out.wf.1, HW.out.wf.2.1, HW.out.wf.2.2.1, HW.out.wf.2.2.2.1, HW.out.wf.2.2.2.2.1, HW.out.wf.2.2.2.2.2.1, HW.out.wf.2.2.2.2.2.2⟩, Nat.le_trans hll (by omega)⟩, HS.out.keeps.setCell (Nat.le_refl _) _⟩
  clear HS
  go_upto_region 24 with (fail)
  generalize w2.setCell ⟨g3, 0, none⟩ (.int .i64 n) = wX at *
  have HX := HX0
  clear HX0 q0 q1 q2 q3 q4 q5 q6 q7 q8 q9 qa qb qc qd qe qf qg qh qz
  have HRx := Lib.hid (blk_range HX.out.b3)
  go_wp2_with (first | (refine wpList_load_mid rfl 68 (.tmp 3) rfl g3 0 rfl _ _ HRx.out Tryz.underlying68 rfl (by kernel_rfl) ?_) | (refine wpList_store_blk rfl 68 (.tmp 6) (.tmp 73) rfl (g3 + 1) 0 68 zeroR #[.int .i64 n, .int .i64 kind, .int .i64 ag, .int .i64 sh, .int .i64 seq, .int .i64 ep, .slice A ds.length c, .string ser, .int .i64 fr, .int .i64 etg, .int .i64 tag, .int .i64 code, .int .u64 nn, .int .i64 term, .int .i64 had, .slice B log.length k, .int .i64 commit, .int .i64 len] #[.int .i64 n, .int .i64 kind, .int .i64 ag, .int .i64 sh, .int .i64 seq, .int .i64 ep, .slice A ds.length c, .string ser, .int .i64 fr, .int .i64 etg, .int .i64 tag, .int .i64 code, .int .u64 nn, .int .i64 term, .int .i64 had, .slice B log.length k, .int .i64 commit, .int .i64 len] rfl rfl HX.out.b6 (by show 0 + 18 ≤ 18; omega) rfl (by kernel_rfl) rfl ?_; intro wz hkz hBz; have Hkz := Lib.hid hkz; have HBz := Lib.hid hBz; clear hkz hBz))
  refine bodyPost_ret (results_cell1 rfl _ _ (g3 + 1) 68 #[.int .i64 n, .int .i64 kind, .int .i64 ag, .int .i64 sh, .int .i64 seq, .int .i64 ep, .slice A ds.length c, .string ser, .int .i64 fr, .int .i64 etg, .int .i64 tag, .int .i64 code, .int .u64 nn, .int .i64 term, .int .i64 had, .slice B log.length k, .int .i64 commit, .int .i64 len] _ rfl HBz.out Tryz.underlying68 rfl (by kernel_rfl)) rfl ?_
  exact HF.out (⟨n, ⟨kind, ag, sh, seq, ep, ds, ser, fr, etg⟩, tag, code, nn, term, had, log, commit, len⟩ : MsgD) (.slice A ds.length c) (.slice B log.length k) _ HX.out _ Hkz.out
 ·obtain ⟨q0, q1, q2, q3, q4, q5, q6, q7, q8, q9, qa, qb, qc, qd, qe, qf, qg, qh, qz⟩ := blk18 HS.out.b3
  have HX0 : Hid (OddM (K + 130) g3 w (w2.setCell ⟨g3, 10, none⟩ (.int .i64 n)) (⟨kd, ⟨kind, ag, sh, seq, ep, ds, ser, fr, etg⟩, n, code, nn, term, had, log, commit, len⟩ : MsgD) (.slice A ds.length c) (.slice B log.length k)) := by
   have hk : Keeps [g3] w2 (w2.setCell ⟨g3, 10, none⟩ (.int .i64 n)) := (Keeps.refl _ _).setCell (by simp) _
   exact ⟨by simpa [mCell, eCell] using HS.out.b3.set_ 10 (.int .i64 n), hk.blk HS.out.b6 (by simp), HS.out.at_.keep hk (by simp), ⟨⟨HW.out.short.1, HW.out.short.2.1, HW.out.short.2.2⟩, ⟨hn, HW.out.wf.2.1, HW.out.wf.2.2.1, HW.out.wf.2.2.2.1, HW.out.wf.2.2.2.2.1, HW.out.wf.2.2.2.2.2.1, HW.out.wf.2.2.2.2.2.2⟩, Nat.le_trans hll (by omega)⟩, HS.out.keeps.setCell (Nat.le_refl _) _⟩
  clear HS
  go_upto_region 24 with (fail)
  generalize w2.setCell ⟨g3, 10, none⟩ (.int .i64 n) = wX at *
  have HX := HX0
  clear HX0 q0 q1 q2 q3 q4 q5 q6 q7 q8 q9 qa qb qc qd qe qf qg qh qz
  have HRx := Lib.hid (blk_range HX.out.b3)
  go_wp2_with (first | (refine wpList_load_mid rfl 68 (.tmp 3) rfl g3 0 rfl _ _ HRx.out Tryz.underlying68 rfl (by kernel_rfl) ?_) | (refine wpList_store_blk rfl 68 (.tmp 6) (.tmp 73) rfl (g3 + 1) 0 68 zeroR #[.int .i64 kd, .int .i64 kind, .int .i64 ag, .int .i64 sh, .int .i64 seq, .int .i64 ep, .slice A ds.length c, .string ser, .int .i64 fr, .int .i64 etg, .int .i64 n, .int .i64 code, .int .u64 nn, .int .i64 term, .int .i64 had, .slice B log.length k, .int .i64 commit, .int .i64 len] #[.int .i64 kd, .int .i64 kind, .int .i64 ag, .int .i64 sh, .int .i64 seq, .int .i64 ep, .slice A ds.length c, .string ser, .int .i64 fr, .int .i64 etg, .int .i64 n, .int .i64 code, .int .u64 nn, .int .i64 term, .int .i64 had, .slice B log.length k, .int .i64 commit, .int .i64 len] rfl rfl HX.out.b6 (by show 0 + 18 ≤ 18; omega) rfl (by kernel_rfl) rfl ?_; intro wz hkz hBz; have Hkz := Lib.hid hkz; have HBz := Lib.hid hBz; clear hkz hBz))
  refine bodyPost_ret (results_cell1 rfl _ _ (g3 + 1) 68 #[.int .i64 kd, .int .i64 kind, .int .i64 ag, .int .i64 sh, .int .i64 seq, .int .i64 ep, .slice A ds.length c, .string ser, .int .i64 fr, .int .i64 etg, .int .i64 n, .int .i64 code, .int .u64 nn, .int .i64 term, .int .i64 had, .slice B log.length k, .int .i64 commit, .int .i64 len] _ rfl HBz.out Tryz.underlying68 rfl (by kernel_rfl)) rfl ?_
  exact HF.out (⟨kd, ⟨kind, ag, sh, seq, ep, ds, ser, fr, etg⟩, n, code, nn, term, had, log, commit, len⟩ : MsgD) (.slice A ds.length c) (.slice B log.length k) _ HX.out _ Hkz.out
 ·obtain ⟨q0, q1, q2, q3, q4, q5, q6, q7, q8, q9, qa, qb, qc, qd, qe, qf, qg, qh, qz⟩ := blk18 HS.out.b3
  have HX0 : Hid (OddM (K + 130) g3 w (w2.setCell ⟨g3, 11, none⟩ (.int .i64 n)) (⟨kd, ⟨kind, ag, sh, seq, ep, ds, ser, fr, etg⟩, tag, n, nn, term, had, log, commit, len⟩ : MsgD) (.slice A ds.length c) (.slice B log.length k)) := by
   have hk : Keeps [g3] w2 (w2.setCell ⟨g3, 11, none⟩ (.int .i64 n)) := (Keeps.refl _ _).setCell (by simp) _
   exact ⟨by simpa [mCell, eCell] using HS.out.b3.set_ 11 (.int .i64 n), hk.blk HS.out.b6 (by simp), HS.out.at_.keep hk (by simp), ⟨⟨HW.out.short.1, HW.out.short.2.1, HW.out.short.2.2⟩, ⟨HW.out.wf.1, HW.out.wf.2.1, HW.out.wf.2.2.1, HW.out.wf.2.2.2.1, HW.out.wf.2.2.2.2.1, HW.out.wf.2.2.2.2.2.1, HW.out.wf.2.2.2.2.2.2⟩, Nat.le_trans hll (by omega)⟩, HS.out.keeps.setCell (Nat.le_refl _) _⟩
  clear HS
  go_upto_region 24 with (fail)
  generalize w2.setCell ⟨g3, 11, none⟩ (.int .i64 n) = wX at *
  have HX := HX0
  clear HX0 q0 q1 q2 q3 q4 q5 q6 q7 q8 q9 qa qb qc qd qe qf qg qh qz
  have HRx := Lib.hid (blk_range HX.out.b3)
  go_wp2_with (first | (refine wpList_load_mid rfl 68 (.tmp 3) rfl g3 0 rfl _ _ HRx.out Tryz.underlying68 rfl (by kernel_rfl) ?_) | (refine wpList_store_blk rfl 68 (.tmp 6) (.tmp 73) rfl (g3 + 1) 0 68 zeroR #[.int .i64 kd, .int .i64 kind, .int .i64 ag, .int .i64 sh, .int .i64 seq, .int .i64 ep, .slice A ds.length c, .string ser, .int .i64 fr, .int .i64 etg, .int .i64 tag, .int .i64 n, .int .u64 nn, .int .i64 term, .int .i64 had, .slice B log.length k, .int .i64 commit, .int .i64 len] #[.int .i64 kd, .int .i64 kind, .int .i64 ag, .int .i64 sh, .int .i64 seq, .int .i64 ep, .slice A ds.length c, .string ser, .int .i64 fr, .int .i64 etg, .int .i64 tag, .int .i64 n, .int .u64 nn, .int .i64 term, .int .i64 had, .slice B log.length k, .int .i64 commit, .int .i64 len] rfl rfl HX.out.b6 (by show 0 + 18 ≤ 18; omega) rfl (by kernel_rfl) rfl ?_; intro wz hkz hBz; have Hkz := Lib.hid hkz; have HBz := Lib.hid hBz; clear hkz hBz))
  refine bodyPost_ret (results_cell1 rfl _ _ (g3 + 1) 68 #[.int .i64 kd, .int .i64 kind, .int .i64 ag, .int .i64 sh, .int .i64 seq, .int .i64 ep, .slice A ds.length c, .string ser, .int .i64 fr, .int .i64 etg, .int .i64 tag, .int .i64 n, .int .u64 nn, .int .i64 term, .int .i64 had, .slice B log.length k, .int .i64 commit, .int .i64 len] _ rfl HBz.out Tryz.underlying68 rfl (by kernel_rfl)) rfl ?_
  exact HF.out (⟨kd, ⟨kind, ag, sh, seq, ep, ds, ser, fr, etg⟩, tag, n, nn, term, had, log, commit, len⟩ : MsgD) (.slice A ds.length c) (.slice B log.length k) _ HX.out _ Hkz.out
 ·obtain ⟨q0, q1, q2, q3, q4, q5, q6, q7, q8, q9, qa, qb, qc, qd, qe, qf, qg, qh, qz⟩ := blk18 HS.out.b3
  have hnu0 : 0 ≤ IntKind.u64.wrap n ∧ IntKind.u64.wrap n < 18446744073709551616 := by rw [IntKind.wrap_u64]; omega
  obtain ⟨nu, hnu⟩ : ∃ nu, nu = IntKind.u64.wrap n := ⟨_, rfl⟩
  rw [← hnu] at hnu0
  have hnw := hnu.symm
  clear hnu
  have HX0 : Hid (OddM (K + 130) g3 w (w2.setCell ⟨g3, 12, none⟩ (.int .u64 nu)) (⟨kd, ⟨kind, ag, sh, seq, ep, ds, ser, fr, etg⟩, tag, code, nu, term, had, log, commit, len⟩ : MsgD) (.slice A ds.length c) (.slice B log.length k)) := by
   have hk : Keeps [g3] w2 (w2.setCell ⟨g3, 12, none⟩ (.int .u64 nu)) := (Keeps.refl _ _).setCell (by simp) _
   exact ⟨by simpa [mCell, eCell] using HS.out.b3.set_ 12 (.int .u64 nu), hk.blk HS.out.b6 (by simp), HS.out.at_.keep hk (by simp), ⟨⟨HW.out.short.1, HW.out.short.2.1, HW.out.short.2.2⟩, ⟨HW.out.wf.1, HW.out.wf.2.1, HW.out.wf.2.2.1, hnu0.1, hnu0.2, HW.out.wf.2.2.2.2.2.1, HW.out.wf.2.2.2.2.2.2⟩, Nat.le_trans hll (by omega)⟩, HS.out.keeps.setCell (Nat.le_refl _) _⟩
  clear HS
  go_upto_region 24 with (fail)
  generalize w2.setCell ⟨g3, 12, none⟩ (.int .u64 nu) = wX at *
  have HX := HX0
  clear HX0 q0 q1 q2 q3 q4 q5 q6 q7 q8 q9 qa qb qc qd qe qf qg qh qz
  have HRx := Lib.hid (blk_range HX.out.b3)
  go_wp2_with (first | (refine wpList_load_mid rfl 68 (.tmp 3) rfl g3 0 rfl _ _ HRx.out Tryz.underlying68 rfl (by kernel_rfl) ?_) | (refine wpList_store_blk rfl 68 (.tmp 6) (.tmp 73) rfl (g3 + 1) 0 68 zeroR #[.int .i64 kd, .int .i64 kind, .int .i64 ag, .int .i64 sh, .int .i64 seq, .int .i64 ep, .slice A ds.length c, .string ser, .int .i64 fr, .int .i64 etg, .int .i64 tag, .int .i64 code, .int .u64 nu, .int .i64 term, .int .i64 had, .slice B log.length k, .int .i64 commit, .int .i64 len] #[.int .i64 kd, .int .i64 kind, .int .i64 ag, .int .i64 sh, .int .i64 seq, .int .i64 ep, .slice A ds.length c, .string ser, .int .i64 fr, .int .i64 etg, .int .i64 tag, .int .i64 code, .int .u64 nu, .int .i64 term, .int .i64 had, .slice B log.length k, .int .i64 commit, .int .i64 len] rfl rfl HX.out.b6 (by show 0 + 18 ≤ 18; omega) rfl (by kernel_rfl) rfl ?_; intro wz hkz hBz; have Hkz := Lib.hid hkz; have HBz := Lib.hid hBz; clear hkz hBz))
  refine bodyPost_ret (results_cell1 rfl _ _ (g3 + 1) 68 #[.int .i64 kd, .int .i64 kind, .int .i64 ag, .int .i64 sh, .int .i64 seq, .int .i64 ep, .slice A ds.length c, .string ser, .int .i64 fr, .int .i64 etg, .int .i64 tag, .int .i64 code, .int .u64 nu, .int .i64 term, .int .i64 had, .slice B log.length k, .int .i64 commit, .int .i64 len] _ rfl HBz.out Tryz.underlying68 rfl (by kernel_rfl)) rfl ?_
  exact HF.out (⟨kd, ⟨kind, ag, sh, seq, ep, ds, ser, fr, etg⟩, tag, code, nu, term, had, log, commit, len⟩ : MsgD) (.slice A ds.length c) (.slice B log.length k) _ HX.out _ Hkz.out
 ·obtain ⟨q0, q1, q2, q3, q4, q5, q6, q7, q8, q9, qa, qb, qc, qd, qe, qf, qg, qh, qz⟩ := blk18 HS.out.b3
  have HX0 : Hid (OddM (K + 130) g3 w (w2.setCell ⟨g3, 13, none⟩ (.int .i64 n)) (⟨kd, ⟨kind, ag, sh, seq, ep, ds, ser, fr, etg⟩, tag, code, nn, n, had, log, commit, len⟩ : MsgD) (.slice A ds.length c) (.slice B log.length k)) := by
   have hk : Keeps [g3] w2 (w2.setCell ⟨g3, 13, none⟩ (.int .i64 n)) := (Keeps.refl _ _).setCell (by simp) _
   exact ⟨by simpa [mCell, eCell] using HS.out.b3.set_ 13 (.int .i64 n), hk.blk HS.out.b6 (by simp), HS.out.at_.keep hk (by simp), ⟨⟨HW.out.short.1, HW.out.short.2.1, HW.out.short.2.2⟩, ⟨HW.out.wf.1, hn, HW.out.wf.2.2.1, HW.out.wf.2.2.2.1, HW.out.wf.2.2.2.2.1, HW.out.wf.2.2.2.2.2.1, HW.out.wf.2.2.2.2.2.2⟩, Nat.le_trans hll (by omega)⟩, HS.out.keeps.setCell (Nat.le_refl _) _⟩
  clear HS
  go_upto_region 24 with (fail)
  generalize w2.setCell ⟨g3, 13, none⟩ (.int .i64 n) = wX at *
  have HX := HX0
  clear HX0 q0 q1 q2 q3 q4 q5 q6 q7 q8 q9 qa qb qc qd qe qf qg qh qz
  have HRx := Lib.hid (blk_range HX.out.b3)
  go_wp2_with (first | (refine wpList_load_mid rfl 68 (.tmp 3) rfl g3 0 rfl _ _ HRx.out Tryz.underlying68 rfl (by kernel_rfl) ?_) | (refine wpList_store_blk rfl 68 (.tmp 6) (.tmp 73) rfl (g3 + 1) 0 68 zeroR #[.int .i64 kd, .int .i64 kind, .int .i64 ag, .int .i64 sh, .int .i64 seq, .int .i64 ep, .slice A ds.length c, .string ser, .int .i64 fr, .int .i64 etg, .int .i64 tag, .int .i64 code, .int .u64 nn, .int .i64 n, .int .i64 had, .slice B log.length k, .int .i64 commit, .int .i64 len] #[.int .i64 kd, .int .i64 kind, .int .i64 ag, .int .i64 sh, .int .i64 seq, .int .i64 ep, .slice A ds.length c, .string ser, .int .i64 fr, .int .i64 etg, .int .i64 tag, .int .i64 code, .int .u64 nn, .int .i64 n, .int .i64 had, .slice B log.length k, .int .i64 commit, .int .i64 len] rfl rfl HX.out.b6 (by show 0 + 18 ≤ 18; omega) rfl (by kernel_rfl) rfl ?_; intro wz hkz hBz; have Hkz := Lib.hid hkz; have HBz := Lib.hid hBz; clear hkz hBz))
  refine bodyPost_ret (results_cell1 rfl _ _ (g3 + 1) 68 #[.int .i64 kd, .int .i64 kind, .int .i64 ag, .int .i64 sh, .int .i64 seq, .int .i64 ep, .slice A ds.length c, .string ser, .int .i64 fr, .int .i64 etg, .int .i64 tag, .int .i64 code, .int .u64 nn, .int .i64 n, .int .i64 had, .slice B log.length k, .int .i64 commit, .int .i64 len] _ rfl HBz.out Tryz.underlying68 rfl (by kernel_rfl)) rfl ?_
  exact HF.out (⟨kd, ⟨kind, ag, sh, seq, ep, ds, ser, fr, etg⟩, tag, code, nn, n, had, log, commit, len⟩ : MsgD) (.slice A ds.length c) (.slice B log.length k) _ HX.out _ Hkz.out
 ·obtain ⟨q0, q1, q2, q3, q4, q5, q6, q7, q8, q9, qa, qb, qc, qd, qe, qf, qg, qh, qz⟩ := blk18 HS.out.b3
  have HX0 : Hid (OddM (K + 130) g3 w (w2.setCell ⟨g3, 14, none⟩ (.int .i64 n)) (⟨kd, ⟨kind, ag, sh, seq, ep, ds, ser, fr, etg⟩, tag, code, nn, term, n, log, commit, len⟩ : MsgD) (.slice A ds.length c) (.slice B log.length k)) := by
   have hk : Keeps [g3] w2 (w2.setCell ⟨g3, 14, none⟩ (.int .i64 n)) := (Keeps.refl _ _).setCell (by simp) _
   exact ⟨by simpa [mCell, eCell] using HS.out.b3.set_ 14 (.int .i64 n), hk.blk HS.out.b6 (by simp), HS.out.at_.keep hk (by simp), ⟨⟨HW.out.short.1, HW.out.short.2.1, HW.out.short.2.2⟩, ⟨HW.out.wf.1, HW.out.wf.2.1, hn, HW.out.wf.2.2.2.1, HW.out.wf.2.2.2.2.1, HW.out.wf.2.2.2.2.2.1, HW.out.wf.2.2.2.2.2.2⟩, Nat.le_trans hll (by omega)⟩, HS.out.keeps.setCell (Nat.le_refl _) _⟩
  clear HS
  go_upto_region 24 with (fail)
  generalize w2.setCell ⟨g3, 14, none⟩ (.int .i64 n) = wX at *
  have HX := HX0
  clear HX0 q0 q1 q2 q3 q4 q5 q6 q7 q8 q9 qa qb qc qd qe qf qg qh qz
  have HRx := Lib.hid (blk_range HX.out.b3)
  go_wp2_with (first | (refine wpList_load_mid rfl 68 (.tmp 3) rfl g3 0 rfl _ _ HRx.out Tryz.underlying68 rfl (by kernel_rfl) ?_) | (refine wpList_store_blk rfl 68 (.tmp 6) (.tmp 73) rfl (g3 + 1) 0 68 zeroR #[.int .i64 kd, .int .i64 kind, .int .i64 ag, .int .i64 sh, .int .i64 seq, .int .i64 ep, .slice A ds.length c, .string ser, .int .i64 fr, .int .i64 etg, .int .i64 tag, .int .i64 code, .int .u64 nn, .int .i64 term, .int .i64 n, .slice B log.length k, .int .i64 commit, .int .i64 len] #[.int .i64 kd, .int .i64 kind, .int .i64 ag, .int .i64 sh, .int .i64 seq, .int .i64 ep, .slice A ds.length c, .string ser, .int .i64 fr, .int .i64 etg, .int .i64 tag, .int .i64 code, .int .u64 nn, .int .i64 term, .int .i64 n, .slice B log.length k, .int .i64 commit, .int .i64 len] rfl rfl HX.out.b6 (by show 0 + 18 ≤ 18; omega) rfl (by kernel_rfl) rfl ?_; intro wz hkz hBz; have Hkz := Lib.hid hkz; have HBz := Lib.hid hBz; clear hkz hBz))
  refine bodyPost_ret (results_cell1 rfl _ _ (g3 + 1) 68 #[.int .i64 kd, .int .i64 kind, .int .i64 ag, .int .i64 sh, .int .i64 seq, .int .i64 ep, .slice A ds.length c, .string ser, .int .i64 fr, .int .i64 etg, .int .i64 tag, .int .i64 code, .int .u64 nn, .int .i64 term, .int .i64 n, .slice B log.length k, .int .i64 commit, .int .i64 len] _ rfl HBz.out Tryz.underlying68 rfl (by kernel_rfl)) rfl ?_
  exact HF.out (⟨kd, ⟨kind, ag, sh, seq, ep, ds, ser, fr, etg⟩, tag, code, nn, term, n, log, commit, len⟩ : MsgD) (.slice A ds.length c) (.slice B log.length k) _ HX.out _ Hkz.out
 ·obtain ⟨q0, q1, q2, q3, q4, q5, q6, q7, q8, q9, qa, qb, qc, qd, qe, qf, qg, qh, qz⟩ := blk18 HS.out.b3
  have HX0 : Hid (OddM (K + 130) g3 w (w2.setCell ⟨g3, 16, none⟩ (.int .i64 n)) (⟨kd, ⟨kind, ag, sh, seq, ep, ds, ser, fr, etg⟩, tag, code, nn, term, had, log, n, len⟩ : MsgD) (.slice A ds.length c) (.slice B log.length k)) := by
   have hk : Keeps [g3] w2 (w2.setCell ⟨g3, 16, none⟩ (.int .i64 n)) := (Keeps.refl _ _).setCell (by simp) _
   exact ⟨by simpa [mCell, eCell] using HS.out.b3.set_ 16 (.int .i64 n), hk.blk HS.out.b6 (by simp), HS.out.at_.keep hk (by simp), ⟨⟨HW.out.short.1, HW.out.short.2.1, HW.out.short.2.2⟩, ⟨HW.out.wf.1, HW.out.wf.2.1, HW.out.wf.2.2.1, HW.out.wf.2.2.2.1, HW.out.wf.2.2.2.2.1, HW.out.wf.2.2.2.2.2.1, HW.out.wf.2.2.2.2.2.2⟩, Nat.le_trans hll (by omega)⟩, HS.out.keeps.setCell (Nat.le_refl _) _⟩
  clear HS
  go_upto_region 24 with (fail)
  generalize w2.setCell ⟨g3, 16, none⟩ (.int .i64 n) = wX at *
  have HX := HX0
  clear HX0 q0 q1 q2 q3 q4 q5 q6 q7 q8 q9 qa qb qc qd qe qf qg qh qz
  have HRx := Lib.hid (blk_range HX.out.b3)
  go_wp2_with (first | (refine wpList_load_mid rfl 68 (.tmp 3) rfl g3 0 rfl _ _ HRx.out Tryz.underlying68 rfl (by kernel_rfl) ?_) | (refine wpList_store_blk rfl 68 (.tmp 6) (.tmp 73) rfl (g3 + 1) 0 68 zeroR #[.int .i64 kd, .int .i64 kind, .int .i64 ag, .int .i64 sh, .int .i64 seq, .int .i64 ep, .slice A ds.length c, .string ser, .int .i64 fr, .int .i64 etg, .int .i64 tag, .int .i64 code, .int .u64 nn, .int .i64 term, .int .i64 had, .slice B log.length k, .int .i64 n, .int .i64 len] #[.int .i64 kd, .int .i64 kind, .int .i64 ag, .int .i64 sh, .int .i64 seq, .int .i64 ep, .slice A ds.length c, .string ser, .int .i64 fr, .int .i64 etg, .int .i64 tag, .int .i64 code, .int .u64 nn, .int .i64 term, .int .i64 had, .slice B log.length k, .int .i64 n, .int .i64 len] rfl rfl HX.out.b6 (by show 0 + 18 ≤ 18; omega) rfl (by kernel_rfl) rfl ?_; intro wz hkz hBz; have Hkz := Lib.hid hkz; have HBz := Lib.hid hBz; clear hkz hBz))
  refine bodyPost_ret (results_cell1 rfl _ _ (g3 + 1) 68 #[.int .i64 kd, .int .i64 kind, .int .i64 ag, .int .i64 sh, .int .i64 seq, .int .i64 ep, .slice A ds.length c, .string ser, .int .i64 fr, .int .i64 etg, .int .i64 tag, .int .i64 code, .int .u64 nn, .int .i64 term, .int .i64 had, .slice B log.length k, .int .i64 n, .int .i64 len] _ rfl HBz.out Tryz.underlying68 rfl (by kernel_rfl)) rfl ?_
  exact HF.out (⟨kd, ⟨kind, ag, sh, seq, ep, ds, ser, fr, etg⟩, tag, code, nn, term, had, log, n, len⟩ : MsgD) (.slice A ds.length c) (.slice B log.length k) _ HX.out _ Hkz.out
 ·obtain ⟨q0, q1, q2, q3, q4, q5, q6, q7, q8, q9, qa, qb, qc, qd, qe, qf, qg, qh, qz⟩ := blk18 HS.out.b3
  have HX0 : Hid (OddM (K + 130) g3 w (w2.setCell ⟨g3, 17, none⟩ (.int .i64 n)) (⟨kd, ⟨kind, ag, sh, seq, ep, ds, ser, fr, etg⟩, tag, code, nn, term, had, log, commit, n⟩ : MsgD) (.slice A ds.length c) (.slice B log.length k)) := by
   have hk : Keeps [g3] w2 (w2.setCell ⟨g3, 17, none⟩ (.int .i64 n)) := (Keeps.refl _ _).setCell (by simp) _
   exact ⟨by simpa [mCell, eCell] using HS.out.b3.set_ 17 (.int .i64 n), hk.blk HS.out.b6 (by simp), HS.out.at_.keep hk (by simp), ⟨⟨HW.out.short.1, HW.out.short.2.1, HW.out.short.2.2⟩, ⟨HW.out.wf.1, HW.out.wf.2.1, HW.out.wf.2.2.1, HW.out.wf.2.2.2.1, HW.out.wf.2.2.2.2.1, HW.out.wf.2.2.2.2.2.1, HW.out.wf.2.2.2.2.2.2⟩, Nat.le_trans hll (by omega)⟩, HS.out.keeps.setCell (Nat.le_refl _) _⟩
  clear HS
  go_upto_region 24 with (fail)
  generalize w2.setCell ⟨g3, 17, none⟩ (.int .i64 n) = wX at *
  have HX := HX0
  clear HX0 q0 q1 q2 q3 q4 q5 q6 q7 q8 q9 qa qb qc qd qe qf qg qh qz
  have HRx := Lib.hid (blk_range HX.out.b3)
  go_wp2_with (first | (refine wpList_load_mid rfl 68 (.tmp 3) rfl g3 0 rfl _ _ HRx.out Tryz.underlying68 rfl (by kernel_rfl) ?_) | (refine wpList_store_blk rfl 68 (.tmp 6) (.tmp 73) rfl (g3 + 1) 0 68 zeroR #[.int .i64 kd, .int .i64 kind, .int .i64 ag, .int .i64 sh, .int .i64 seq, .int .i64 ep, .slice A ds.length c, .string ser, .int .i64 fr, .int .i64 etg, .int .i64 tag, .int .i64 code, .int .u64 nn, .int .i64 term, .int .i64 had, .slice B log.length k, .int .i64 commit, .int .i64 n] #[.int .i64 kd, .int .i64 kind, .int .i64 ag, .int .i64 sh, .int .i64 seq, .int .i64 ep, .slice A ds.length c, .string ser, .int .i64 fr, .int .i64 etg, .int .i64 tag, .int .i64 code, .int .u64 nn, .int .i64 term, .int .i64 had, .slice B log.length k, .int .i64 commit, .int .i64 n] rfl rfl HX.out.b6 (by show 0 + 18 ≤ 18; omega) rfl (by kernel_rfl) rfl ?_; intro wz hkz hBz; have Hkz := Lib.hid hkz; have HBz := Lib.hid hBz; clear hkz hBz))
  refine bodyPost_ret (results_cell1 rfl _ _ (g3 + 1) 68 #[.int .i64 kd, .int .i64 kind, .int .i64 ag, .int .i64 sh, .int .i64 seq, .int .i64 ep, .slice A ds.length c, .string ser, .int .i64 fr, .int .i64 etg, .int .i64 tag, .int .i64 code, .int .u64 nn, .int .i64 term, .int .i64 had, .slice B log.length k, .int .i64 commit, .int .i64 n] _ rfl HBz.out Tryz.underlying68 rfl (by kernel_rfl)) rfl ?_
  exact HF.out (⟨kd, ⟨kind, ag, sh, seq, ep, ds, ser, fr, etg⟩, tag, code, nn, term, had, log, commit, n⟩ : MsgD) (.slice A ds.length c) (.slice B log.length k) _ HX.out _ Hkz.out
 ·obtain ⟨q0, q1, q2, q3, q4, q5, q6, q7, q8, q9, qa, qb, qc, qd, qe, qf, qg, qh, qz⟩ := blk18 HS.out.b3
  obtain ⟨ps, hpl, hrd0, hpd⟩ := HS.out.at_.2
  replace hpl : ps.map (·.1) = log := hpl
  have hpn : ps.length = log.length := by rw [← hpl, List.length_map]
  obtain ⟨Ax, cx, hsl, _, hrd⟩ := hrd0.reads
  rw [hpn] at hsl hrd
  obtain ⟨rfl, rfl⟩ : B = Ax ∧ k = cx := by injection hsl with h1 _ h3; exact ⟨h1, h3⟩
  have Hrd := Lib.hid (hrd.alloc (Nat.le_refl _) (.cells #[] 26))
  have Hone := Lib.hid (eCells_one ps (fun p hp => by obtain ⟨A', c', e, _⟩ := (hpd p hp).len; exact ⟨_, _, _, e⟩))
  have Hpd := Lib.hid hpd; have Hpl := Lib.hid hpl; have Hpn := Lib.hid hpn
  have hl3 := HS.out.b3.lt
  have hl6 := HS.out.b6.lt
  clear hsl hrd hrd0 hpd hpl hpn
  go_wp2_with (at_builtin; go_must (refine wpList_append_any _ rfl (.tmp 59) (.tmp 61) _ rfl w2.heap.size 26 i0 _ 9 96 Tryz.underlying52 Hi0.out Hz0.out Hz1.out Hz2.out rfl (by omega) (.slice (some ⟨w2.heap.size, 0, none⟩) 0 0) 0 [] rfl (World.ownsRow_made w2 #[] 0 (Nat.le_refl _) (by unfold maxLen; omega) rfl) w2.heap.size B log.length k (ps.flatMap eCell) rfl Hrd.out Hone.out (by unfold maxLen; omega) (by omega) (by simp) ?_))
  intro v3 w3 ho hg hat
  have Hown3 : Hid (w3.ownsRow w2.heap.size 26 9 v3 log.length (ps.flatMap eCell)) := (show World.ownsRow _ _ _ _ _ _ _ by simpa using ho)
  have Hb3 : Hid (Below w2.heap.size w2 w3) := grown_empty hg
  have hz3 : w2.heap.size ≤ w3.heap.size := Hb3.out.size
  clear ho hg hat Hrd Hone
  have Hown4 := Lib.hid (Hown3.out.alloc (.cells #[.int .i64 2, .int .i64 0, .int .i64 0, .int .i64 0, .int .i64 0, .slice none 0 0, .string ⟨#[97, 61, 49]⟩, .int .i64 n, .int .i64 0] 26))
  have Hb4 := Lib.hid (Hb3.out.alloc hz3 (.cells #[.int .i64 2, .int .i64 0, .int .i64 0, .int .i64 0, .int .i64 0, .slice none 0 0, .string ⟨#[97, 61, 49]⟩, .int .i64 n, .int .i64 0] 26))
  go_wp2_with (at_builtin; go_must (refine wpList_append_any _ rfl (.tmp 62) (.tmp 65) _ rfl w2.heap.size 26 i0 _ 9 96 Tryz.underlying52 Hi0.out Hz0.out Hz1.out Hz2.out rfl (by omega) v3 log.length (ps.flatMap eCell) rfl Hown4.out (w3.heap.size + 1) (some ⟨w3.heap.size, 0, none⟩) 1 1 (eCell (⟨2, 0, 0, 0, 0, [], ⟨#[97, 61, 49]⟩, n, 0⟩, .slice none 0 0)) rfl (reads_new w3 _ _ _ _ rfl) (by intro u hu; simp [eCell] at hu; rcases hu with rfl | rfl | rfl | rfl | rfl | rfl | rfl | rfl | rfl <;> rfl) (by unfold maxLen; omega) (by omega) (by simp; omega) ?_))
  intro v5 w5 ho hg hat
  have Hown5 : Hid (w5.ownsRow w2.heap.size 26 9 v5 (ps ++ [((⟨2, 0, 0, 0, 0, [], ⟨#[97, 61, 49]⟩, n, 0⟩ : EntryD), Value.slice none 0 0)]).length ((ps ++ [((⟨2, 0, 0, 0, 0, [], ⟨#[97, 61, 49]⟩, n, 0⟩ : EntryD), Value.slice none 0 0)]).flatMap eCell)) := by
   show World.ownsRow _ _ _ _ _ _ _
   rw [List.flatMap_append, List.length_append, Hpn.out]
   simpa using ho
  have Hb5 : Hid (Below w2.heap.size w2 w5) := Hb4.out.grown hg Hb4.out.size (fun g hg => (Hown3.out.lt g hg).1)
  have HS5 : Hid (OddM K g3 w w5 (⟨kd, ⟨kind, ag, sh, seq, ep, ds, ser, fr, etg⟩, tag, code, nn, term, had, log, commit, len⟩ : MsgD) (.slice A ds.length c) (.slice B log.length k)) := ⟨HS.out.b3.below Hb5.out hl3, HS.out.b6.below Hb5.out hl6, HS.out.at_.keep (M' := []) (Keeps.of_below Hb5.out) (by simp), HS.out.big, HS.out.keeps.trans (Hb5.out.mono (by omega))⟩
  have hz5 : w2.heap.size ≤ w5.heap.size := Hb5.out.size
  have hE5 : Ens w5 [g3, g3 + 1] v5 (log ++ [(⟨2, 0, 0, 0, 0, [], ⟨#[97, 61, 49]⟩, n, 0⟩ : EntryD)]) := ⟨_, by rw [List.map_append, Hpl.out]; rfl, Rd.of_own Hown5.out (by intro g hg; simp at hg; omega), fun p hp => by
   rcases List.mem_append.1 hp with hp | hp
   ·exact (Hpd.out p hp).keep (M' := []) (Keeps.of_below Hb5.out) (by simp)
   ·obtain rfl := List.mem_singleton.1 hp; exact Ds.nil _ _⟩
  obtain ⟨A5, c5, rfl, hc5⟩ := hE5.len
  have HE5 := Lib.hid hE5
  have HBl : Hid (MBig (K + 130) (⟨kd, ⟨kind, ag, sh, seq, ep, ds, ser, fr, etg⟩, tag, code, nn, term, had, (log ++ [(⟨2, 0, 0, 0, 0, [], ⟨#[97, 61, 49]⟩, n, 0⟩ : EntryD)]), commit, len⟩ : MsgD)) := ⟨⟨HS5.out.big.short.1, by simp; omega, fun e he => by rcases List.mem_append.1 he with he | he; exact HS5.out.big.short.2.2 e he; (obtain rfl := List.mem_singleton.1 he; exact short_a1 _)⟩, ⟨HS5.out.big.wf.1, HS5.out.big.wf.2.1, HS5.out.big.wf.2.2.1, HS5.out.big.wf.2.2.2.1, HS5.out.big.wf.2.2.2.2.1, HS5.out.big.wf.2.2.2.2.2.1, fun e he => by rcases List.mem_append.1 he with he | he; exact HS5.out.big.wf.2.2.2.2.2.2 e he; (obtain rfl := List.mem_singleton.1 he; exact wf_a1 _)⟩, by simp; omega⟩
  have hdn1 : (log ++ [(⟨2, 0, 0, 0, 0, [], ⟨#[97, 61, 49]⟩, n, 0⟩ : EntryD)]).length = log.length + 1 := by rw [List.length_append]; rfl
  clear ho hg hat Hown3 Hb3 Hown4 Hb4 Hown5 HS hE5 Hpd Hpl Hpn
  generalize log ++ [(⟨2, 0, 0, 0, 0, [], ⟨#[97, 61, 49]⟩, n, 0⟩ : EntryD)] = dn at *
  have Hdn1 := Lib.hid hdn1
  clear hdn1
  have HX0 : Hid (OddM (K + 130) g3 w (w5.setCell ⟨g3, 15, none⟩ (.slice A5 dn.length c5)) (⟨kd, ⟨kind, ag, sh, seq, ep, ds, ser, fr, etg⟩, tag, code, nn, term, had, dn, commit, len⟩ : MsgD) (.slice A ds.length c) (.slice A5 dn.length c5)) := by
   have hk : Keeps [g3] w5 (w5.setCell ⟨g3, 15, none⟩ (.slice A5 dn.length c5)) := (Keeps.refl _ _).setCell (by simp) _
   exact ⟨by simpa [mCell, eCell] using HS5.out.b3.set_ 15 (.slice A5 dn.length c5), hk.blk HS5.out.b6 (by simp), ⟨HS5.out.at_.1.keep hk (by simp), HE5.out.keep hk (by simp)⟩, HBl.out, HS5.out.keeps.setCell (Nat.le_refl _) _⟩
  clear q0 q1 q2 q3 q4 q5 q6 q7 q8 q9 qa qb qc qd qe qf qg qh qz
  obtain ⟨p0, p1, p2, p3, p4, p5, p6, p7, p8, p9, pa, pb, pc, pd, pe, pf, pg, ph, pz⟩ := blk18 HS5.out.b3
  clear HS5 HE5 HBl
  go_upto_region 24 with (fail)
  generalize w5.setCell ⟨g3, 15, none⟩ (.slice A5 dn.length c5) = wX at *
  have HX := HX0
  clear HX0 p0 p1 p2 p3 p4 p5 p6 p7 p8 p9 pa pb pc pd pe pf pg ph pz
  have HRx := Lib.hid (blk_range HX.out.b3)
  go_wp2_with (first | (refine wpList_load_mid rfl 68 (.tmp 3) rfl g3 0 rfl _ _ HRx.out Tryz.underlying68 rfl (by kernel_rfl) ?_) | (refine wpList_store_blk rfl 68 (.tmp 6) (.tmp 73) rfl (g3 + 1) 0 68 zeroR #[.int .i64 kd, .int .i64 kind, .int .i64 ag, .int .i64 sh, .int .i64 seq, .int .i64 ep, .slice A ds.length c, .string ser, .int .i64 fr, .int .i64 etg, .int .i64 tag, .int .i64 code, .int .u64 nn, .int .i64 term, .int .i64 had, .slice A5 dn.length c5, .int .i64 commit, .int .i64 len] #[.int .i64 kd, .int .i64 kind, .int .i64 ag, .int .i64 sh, .int .i64 seq, .int .i64 ep, .slice A ds.length c, .string ser, .int .i64 fr, .int .i64 etg, .int .i64 tag, .int .i64 code, .int .u64 nn, .int .i64 term, .int .i64 had, .slice A5 dn.length c5, .int .i64 commit, .int .i64 len] rfl rfl HX.out.b6 (by show 0 + 18 ≤ 18; omega) rfl (by kernel_rfl) rfl ?_; intro wz hkz hBz; have Hkz := Lib.hid hkz; have HBz := Lib.hid hBz; clear hkz hBz))
  refine bodyPost_ret (results_cell1 rfl _ _ (g3 + 1) 68 #[.int .i64 kd, .int .i64 kind, .int .i64 ag, .int .i64 sh, .int .i64 seq, .int .i64 ep, .slice A ds.length c, .string ser, .int .i64 fr, .int .i64 etg, .int .i64 tag, .int .i64 code, .int .u64 nn, .int .i64 term, .int .i64 had, .slice A5 dn.length c5, .int .i64 commit, .int .i64 len] _ rfl HBz.out Tryz.underlying68 rfl (by kernel_rfl)) rfl ?_
  exact HF.out (⟨kd, ⟨kind, ag, sh, seq, ep, ds, ser, fr, etg⟩, tag, code, nn, term, had, dn, commit, len⟩ : MsgD) (.slice A ds.length c) (.slice A5 dn.length c5) _ HX.out _ Hkz.out
 ·obtain ⟨q0, q1, q2, q3, q4, q5, q6, q7, q8, q9, qa, qb, qc, qd, qe, qf, qg, qh, qz⟩ := blk18 HS.out.b3
  have HX0 : Hid (OddM (K + 130) g3 w (w2.setCell ⟨g3, 9, none⟩ (.int .i64 n)) (⟨kd, ⟨kind, ag, sh, seq, ep, ds, ser, fr, n⟩, tag, code, nn, term, had, log, commit, len⟩ : MsgD) (.slice A ds.length c) (.slice B log.length k)) := by
   have hk : Keeps [g3] w2 (w2.setCell ⟨g3, 9, none⟩ (.int .i64 n)) := (Keeps.refl _ _).setCell (by simp) _
   exact ⟨by simpa [mCell, eCell] using HS.out.b3.set_ 9 (.int .i64 n), hk.blk HS.out.b6 (by simp), HS.out.at_.keep hk (by simp), ⟨⟨⟨HW.out.short.1.1, HW.out.short.1.2.1, HW.out.short.1.2.2⟩, HW.out.short.2.1, HW.out.short.2.2⟩, ⟨HW.out.wf.1, HW.out.wf.2.1, HW.out.wf.2.2.1, HW.out.wf.2.2.2.1, HW.out.wf.2.2.2.2.1, ⟨hn, HW.out.wf.2.2.2.2.2.1.2.1, HW.out.wf.2.2.2.2.2.1.2.2.1, HW.out.wf.2.2.2.2.2.1.2.2.2⟩, HW.out.wf.2.2.2.2.2.2⟩, Nat.le_trans hll (by omega)⟩, HS.out.keeps.setCell (Nat.le_refl _) _⟩
  clear HS
  go_upto_region 24 with (fail)
  generalize w2.setCell ⟨g3, 9, none⟩ (.int .i64 n) = wX at *
  have HX := HX0
  clear HX0 q0 q1 q2 q3 q4 q5 q6 q7 q8 q9 qa qb qc qd qe qf qg qh qz
  have HRx := Lib.hid (blk_range HX.out.b3)
  go_wp2_with (first | (refine wpList_load_mid rfl 68 (.tmp 3) rfl g3 0 rfl _ _ HRx.out Tryz.underlying68 rfl (by kernel_rfl) ?_) | (refine wpList_store_blk rfl 68 (.tmp 6) (.tmp 73) rfl (g3 + 1) 0 68 zeroR #[.int .i64 kd, .int .i64 kind, .int .i64 ag, .int .i64 sh, .int .i64 seq, .int .i64 ep, .slice A ds.length c, .string ser, .int .i64 fr, .int .i64 n, .int .i64 tag, .int .i64 code, .int .u64 nn, .int .i64 term, .int .i64 had, .slice B log.length k, .int .i64 commit, .int .i64 len] #[.int .i64 kd, .int .i64 kind, .int .i64 ag, .int .i64 sh, .int .i64 seq, .int .i64 ep, .slice A ds.length c, .string ser, .int .i64 fr, .int .i64 n, .int .i64 tag, .int .i64 code, .int .u64 nn, .int .i64 term, .int .i64 had, .slice B log.length k, .int .i64 commit, .int .i64 len] rfl rfl HX.out.b6 (by show 0 + 18 ≤ 18; omega) rfl (by kernel_rfl) rfl ?_; intro wz hkz hBz; have Hkz := Lib.hid hkz; have HBz := Lib.hid hBz; clear hkz hBz))
  refine bodyPost_ret (results_cell1 rfl _ _ (g3 + 1) 68 #[.int .i64 kd, .int .i64 kind, .int .i64 ag, .int .i64 sh, .int .i64 seq, .int .i64 ep, .slice A ds.length c, .string ser, .int .i64 fr, .int .i64 n, .int .i64 tag, .int .i64 code, .int .u64 nn, .int .i64 term, .int .i64 had, .slice B log.length k, .int .i64 commit, .int .i64 len] _ rfl HBz.out Tryz.underlying68 rfl (by kernel_rfl)) rfl ?_
  exact HF.out (⟨kd, ⟨kind, ag, sh, seq, ep, ds, ser, fr, n⟩, tag, code, nn, term, had, log, commit, len⟩ : MsgD) (.slice A ds.length c) (.slice B log.length k) _ HX.out _ Hkz.out
 ·obtain ⟨q0, q1, q2, q3, q4, q5, q6, q7, q8, q9, qa, qb, qc, qd, qe, qf, qg, qh, qz⟩ := blk18 HS.out.b3
  rcases hn10 rfl with rfl | rfl
  ·have HS0 : Hid (OddM (K + 130) g3 w w2 (⟨kd, ⟨kind, ag, sh, seq, ep, ds, ser, fr, etg⟩, tag, code, nn, term, had, log, commit, len⟩ : MsgD) (.slice A ds.length c) (.slice B log.length k)) := ⟨HS.out.b3, HS.out.b6, HS.out.at_, HS.out.big.more (by omega), HS.out.keeps⟩
   clear HS
   go_wp2_with fail
   clear q0 q1 q2 q3 q4 q5 q6 q7 q8 q9 qa qb qc qd qe qf qg qh qz
   go_loopw [] (fun wr => ∃ (dl : List EntryD) (Bl : Option Addr) (kl : Nat), Hid (OddM (K + 130) g3 w wr (⟨kd, ⟨kind, ag, sh, seq, ep, ds, ser, fr, etg⟩, tag, code, nn, term, had, dl, commit, len⟩ : MsgD) (.slice A ds.length c) (.slice Bl dl.length kl)) ∧ g3 + 2 ≤ wr.heap.size) (fun wr => 128 - logAt wr g3)
   case atStart => exact ⟨log, B, k, HS0, by omega⟩
   case round =>
    obtain ⟨dl, Bl, kl, HSl, hzl⟩ := hrel
    have hdl2 : dl.length ≤ K + 130 := HSl.out.big.len
    obtain ⟨q0, q1, q2, q3, q4, q5, q6, q7, q8, q9, qa, qb, qc, qd, qe, qf, qg, qh, qz⟩ := blk18 HSl.out.b3
    have hlen0 : logAt wr g3 = dl.length := by unfold logAt; rw [qf]
    by_cases hlt : dl.length < 128
    ·have hlti0 : (dl.length : Int) < 128 := by omega
     have hlti : decide ((dl.length : Int) < wrap64 (128 + bits BinOp.and IntKind.i64 128 1)) = true := by rw [show wrap64 (128 + bits BinOp.and IntKind.i64 128 1) = 128 by decide +kernel]; exact decide_eq_true hlti0
     have hlti2 : (dl.length : Int) < wrap64 (128 + bits BinOp.and IntKind.i64 128 1) := of_decide_eq_true hlti
     obtain ⟨ps, hpl, hrd0, hpd⟩ := HSl.out.at_.2
     replace hpl : ps.map (·.1) = dl := hpl
     have hpn : ps.length = dl.length := by rw [← hpl, List.length_map]
     obtain ⟨Ax, cx, hsl, _, hrd⟩ := hrd0.reads
     rw [hpn] at hsl hrd
     obtain ⟨rfl, rfl⟩ : Bl = Ax ∧ kl = cx := by injection hsl with h1 _ h3; exact ⟨h1, h3⟩
     have Hrd := Lib.hid (hrd.alloc (Nat.le_refl _) (.cells #[] 26))
     have Hone := Lib.hid (eCells_one ps (fun p hp => by obtain ⟨A', c', e, _⟩ := (hpd p hp).len; exact ⟨_, _, _, e⟩))
     have Hpd := Lib.hid hpd; have Hpl := Lib.hid hpl; have Hpn := Lib.hid hpn
     have hl3 := HSl.out.b3.lt
     have hl6 := HSl.out.b6.lt
     clear hsl hrd hrd0 hpd hpl hpn
     go_wp2_with (at_builtin; go_must (refine wpList_append_any _ rfl (.tmp 16) (.tmp 18) _ rfl wr.heap.size 26 i0 _ 9 96 Tryz.underlying52 Hi0.out Hz0.out Hz1.out Hz2.out rfl (by omega) (.slice (some ⟨wr.heap.size, 0, none⟩) 0 0) 0 [] rfl (World.ownsRow_made wr #[] 0 (Nat.le_refl _) (by unfold maxLen; omega) rfl) wr.heap.size Bl dl.length kl (ps.flatMap eCell) rfl Hrd.out Hone.out (by unfold maxLen; omega) (by omega) (by simp) ?_))
     intro v3 w3 ho hg hat
     have Hown3 : Hid (w3.ownsRow wr.heap.size 26 9 v3 dl.length (ps.flatMap eCell)) := (show World.ownsRow _ _ _ _ _ _ _ by simpa using ho)
     have Hb3 : Hid (Below wr.heap.size wr w3) := grown_empty hg
     have hz3 : wr.heap.size ≤ w3.heap.size := Hb3.out.size
     clear ho hg hat Hrd Hone
     have Hown4 := Lib.hid (Hown3.out.alloc (.cells #[.int .i64 2, .int .i64 0, .int .i64 0, .int .i64 0, .int .i64 0, .slice none 0 0, .string ⟨#[97, 61, 49]⟩, .int .i64 0, .int .i64 0] 26))
     have Hb4 := Lib.hid (Hb3.out.alloc hz3 (.cells #[.int .i64 2, .int .i64 0, .int .i64 0, .int .i64 0, .int .i64 0, .slice none 0 0, .string ⟨#[97, 61, 49]⟩, .int .i64 0, .int .i64 0] 26))
     go_wp2_with (at_builtin; go_must (refine wpList_append_any _ rfl (.tmp 19) (.tmp 21) _ rfl wr.heap.size 26 i0 _ 9 96 Tryz.underlying52 Hi0.out Hz0.out Hz1.out Hz2.out rfl (by omega) v3 dl.length (ps.flatMap eCell) rfl Hown4.out (w3.heap.size + 1) (some ⟨w3.heap.size, 0, none⟩) 1 1 (eCell (⟨2, 0, 0, 0, 0, [], ⟨#[97, 61, 49]⟩, 0, 0⟩, .slice none 0 0)) rfl (reads_new w3 _ _ _ _ rfl) (by intro u hu; simp [eCell] at hu; rcases hu with rfl | rfl | rfl | rfl | rfl | rfl | rfl | rfl | rfl <;> rfl) (by unfold maxLen; omega) (by omega) (by simp; omega) ?_))
     intro v5 w5 ho hg hat
     have Hown5 : Hid (w5.ownsRow wr.heap.size 26 9 v5 (ps ++ [((⟨2, 0, 0, 0, 0, [], ⟨#[97, 61, 49]⟩, 0, 0⟩ : EntryD), Value.slice none 0 0)]).length ((ps ++ [((⟨2, 0, 0, 0, 0, [], ⟨#[97, 61, 49]⟩, 0, 0⟩ : EntryD), Value.slice none 0 0)]).flatMap eCell)) := by
      show World.ownsRow _ _ _ _ _ _ _
      rw [List.flatMap_append, List.length_append, Hpn.out]
      simpa using ho
     have Hb5 : Hid (Below wr.heap.size wr w5) := Hb4.out.grown hg Hb4.out.size (fun g hg => (Hown3.out.lt g hg).1)
     have HS5 : Hid (OddM (K + 130) g3 w w5 (⟨kd, ⟨kind, ag, sh, seq, ep, ds, ser, fr, etg⟩, tag, code, nn, term, had, dl, commit, len⟩ : MsgD) (.slice A ds.length c) (.slice Bl dl.length kl)) := ⟨HSl.out.b3.below Hb5.out hl3, HSl.out.b6.below Hb5.out hl6, HSl.out.at_.keep (M' := []) (Keeps.of_below Hb5.out) (by simp), HSl.out.big, HSl.out.keeps.trans (Hb5.out.mono (by omega))⟩
     have hz5 : wr.heap.size ≤ w5.heap.size := Hb5.out.size
     have hE5 : Ens w5 [g3, g3 + 1] v5 (dl ++ [(⟨2, 0, 0, 0, 0, [], ⟨#[97, 61, 49]⟩, 0, 0⟩ : EntryD)]) := ⟨_, by rw [List.map_append, Hpl.out]; rfl, Rd.of_own Hown5.out (by intro g hg; simp at hg; omega), fun p hp => by
      rcases List.mem_append.1 hp with hp | hp
      ·exact (Hpd.out p hp).keep (M' := []) (Keeps.of_below Hb5.out) (by simp)
      ·obtain rfl := List.mem_singleton.1 hp; exact Ds.nil _ _⟩
     obtain ⟨A5, c5, rfl, hc5⟩ := hE5.len
     have HE5 := Lib.hid hE5
     have HBl : Hid (MBig (K + 130) (⟨kd, ⟨kind, ag, sh, seq, ep, ds, ser, fr, etg⟩, tag, code, nn, term, had, (dl ++ [(⟨2, 0, 0, 0, 0, [], ⟨#[97, 61, 49]⟩, 0, 0⟩ : EntryD)]), commit, len⟩ : MsgD)) := ⟨⟨HS5.out.big.short.1, by simp; omega, fun e he => by rcases List.mem_append.1 he with he | he; exact HS5.out.big.short.2.2 e he; (obtain rfl := List.mem_singleton.1 he; exact short_a1 _)⟩, ⟨HS5.out.big.wf.1, HS5.out.big.wf.2.1, HS5.out.big.wf.2.2.1, HS5.out.big.wf.2.2.2.1, HS5.out.big.wf.2.2.2.2.1, HS5.out.big.wf.2.2.2.2.2.1, fun e he => by rcases List.mem_append.1 he with he | he; exact HS5.out.big.wf.2.2.2.2.2.2 e he; (obtain rfl := List.mem_singleton.1 he; exact wf_a1 _)⟩, by simp; omega⟩
     have hdn1 : (dl ++ [(⟨2, 0, 0, 0, 0, [], ⟨#[97, 61, 49]⟩, 0, 0⟩ : EntryD)]).length = dl.length + 1 := by rw [List.length_append]; rfl
     clear ho hg hat Hown3 Hb3 Hown4 Hb4 Hown5 HSl hE5 Hpd Hpl Hpn
     generalize dl ++ [(⟨2, 0, 0, 0, 0, [], ⟨#[97, 61, 49]⟩, 0, 0⟩ : EntryD)] = dn at *
     have Hdn1 := Lib.hid hdn1
     clear hdn1
     have HX0 : Hid (OddM (K + 130) g3 w (w5.setCell ⟨g3, 15, none⟩ (.slice A5 dn.length c5)) (⟨kd, ⟨kind, ag, sh, seq, ep, ds, ser, fr, etg⟩, tag, code, nn, term, had, dn, commit, len⟩ : MsgD) (.slice A ds.length c) (.slice A5 dn.length c5)) := by
      have hk : Keeps [g3] w5 (w5.setCell ⟨g3, 15, none⟩ (.slice A5 dn.length c5)) := (Keeps.refl _ _).setCell (by simp) _
      exact ⟨by simpa [mCell, eCell] using HS5.out.b3.set_ 15 (.slice A5 dn.length c5), hk.blk HS5.out.b6 (by simp), ⟨HS5.out.at_.1.keep hk (by simp), HE5.out.keep hk (by simp)⟩, HBl.out, HS5.out.keeps.setCell (Nat.le_refl _) _⟩
     clear q0 q1 q2 q3 q4 q5 q6 q7 q8 q9 qa qb qc qd qe qf qg qh qz
     obtain ⟨p0, p1, p2, p3, p4, p5, p6, p7, p8, p9, pa, pb, pc, pd, pe, pf, pg, ph, pz⟩ := blk18 HS5.out.b3
     have hlenX : logAt (w5.setCell ⟨g3, 15, none⟩ (.slice A5 dn.length c5)) g3 = dl.length + 1 := by
      have h5 := HX0.out.b3.cell 15
      unfold logAt
      simp only [mCell, eCell, List.cons_append, List.nil_append, List.getElem?_toArray, List.getElem?_cons_succ, List.getElem?_cons_zero] at h5
      rw [h5]
      exact Hdn1.out
     have hzX : g3 + 2 ≤ (w5.setCell ⟨g3, 15, none⟩ (.slice A5 dn.length c5)).heap.size := by simp; omega
     clear HS5 HE5 HBl
     go_wp2
     go_roundw
     case rel => exact ⟨_, A5, c5, HX0, hzX⟩
     case measure => rw [hlenX, hlen0]; omega
    ·have hlti : decide ((dl.length : Int) < wrap64 (128 + bits BinOp.and IntKind.i64 128 1)) = false := by rw [show wrap64 (128 + bits BinOp.and IntKind.i64 128 1) = 128 by decide +kernel]; exact decide_eq_false (by omega)
     have hlti2 : ¬ ((dl.length : Int) < wrap64 (128 + bits BinOp.and IntKind.i64 128 1)) := of_decide_eq_false hlti
     go_upto_region 24 with (fail)
     have HX := HSl
     clear HSl q0 q1 q2 q3 q4 q5 q6 q7 q8 q9 qa qb qc qd qe qf qg qh qz
     have HRx := Lib.hid (blk_range HX.out.b3)
     go_wp2_with (first | (refine wpList_load_mid rfl 68 (.tmp 3) rfl g3 0 rfl _ _ HRx.out Tryz.underlying68 rfl (by kernel_rfl) ?_) | (refine wpList_store_blk rfl 68 (.tmp 6) (.tmp 73) rfl (g3 + 1) 0 68 zeroR #[.int .i64 kd, .int .i64 kind, .int .i64 ag, .int .i64 sh, .int .i64 seq, .int .i64 ep, .slice A ds.length c, .string ser, .int .i64 fr, .int .i64 etg, .int .i64 tag, .int .i64 code, .int .u64 nn, .int .i64 term, .int .i64 had, .slice Bl dl.length kl, .int .i64 commit, .int .i64 len] #[.int .i64 kd, .int .i64 kind, .int .i64 ag, .int .i64 sh, .int .i64 seq, .int .i64 ep, .slice A ds.length c, .string ser, .int .i64 fr, .int .i64 etg, .int .i64 tag, .int .i64 code, .int .u64 nn, .int .i64 term, .int .i64 had, .slice Bl dl.length kl, .int .i64 commit, .int .i64 len] rfl rfl HX.out.b6 (by show 0 + 18 ≤ 18; omega) rfl (by kernel_rfl) rfl ?_; intro wz hkz hBz; have Hkz := Lib.hid hkz; have HBz := Lib.hid hBz; clear hkz hBz))
     refine bodyPost_ret (results_cell1 rfl _ _ (g3 + 1) 68 #[.int .i64 kd, .int .i64 kind, .int .i64 ag, .int .i64 sh, .int .i64 seq, .int .i64 ep, .slice A ds.length c, .string ser, .int .i64 fr, .int .i64 etg, .int .i64 tag, .int .i64 code, .int .u64 nn, .int .i64 term, .int .i64 had, .slice Bl dl.length kl, .int .i64 commit, .int .i64 len] _ rfl HBz.out Tryz.underlying68 rfl (by kernel_rfl)) rfl ?_
     exact HF.out (⟨kd, ⟨kind, ag, sh, seq, ep, ds, ser, fr, etg⟩, tag, code, nn, term, had, dl, commit, len⟩ : MsgD) (.slice A ds.length c) (.slice Bl dl.length kl) _ HX.out _ Hkz.out
  ·have HS0 : Hid (OddM (K + 130) g3 w w2 (⟨kd, ⟨kind, ag, sh, seq, ep, ds, ser, fr, etg⟩, tag, code, nn, term, had, log, commit, len⟩ : MsgD) (.slice A ds.length c) (.slice B log.length k)) := ⟨HS.out.b3, HS.out.b6, HS.out.at_, HS.out.big.more (by omega), HS.out.keeps⟩
   clear HS
   go_wp2_with fail
   clear q0 q1 q2 q3 q4 q5 q6 q7 q8 q9 qa qb qc qd qe qf qg qh qz
   go_loopw [] (fun wr => ∃ (dl : List EntryD) (Bl : Option Addr) (kl : Nat), Hid (OddM (K + 130) g3 w wr (⟨kd, ⟨kind, ag, sh, seq, ep, ds, ser, fr, etg⟩, tag, code, nn, term, had, dl, commit, len⟩ : MsgD) (.slice A ds.length c) (.slice Bl dl.length kl)) ∧ g3 + 2 ≤ wr.heap.size) (fun wr => 129 - logAt wr g3)
   case atStart => exact ⟨log, B, k, HS0, by omega⟩
   case round =>
    obtain ⟨dl, Bl, kl, HSl, hzl⟩ := hrel
    have hdl2 : dl.length ≤ K + 130 := HSl.out.big.len
    obtain ⟨q0, q1, q2, q3, q4, q5, q6, q7, q8, q9, qa, qb, qc, qd, qe, qf, qg, qh, qz⟩ := blk18 HSl.out.b3
    have hlen0 : logAt wr g3 = dl.length := by unfold logAt; rw [qf]
    by_cases hlt : dl.length < 129
    ·have hlti0 : (dl.length : Int) < 129 := by omega
     have hlti : decide ((dl.length : Int) < wrap64 (128 + bits BinOp.and IntKind.i64 129 1)) = true := by rw [show wrap64 (128 + bits BinOp.and IntKind.i64 129 1) = 129 by decide +kernel]; exact decide_eq_true hlti0
     have hlti2 : (dl.length : Int) < wrap64 (128 + bits BinOp.and IntKind.i64 129 1) := of_decide_eq_true hlti
     obtain ⟨ps, hpl, hrd0, hpd⟩ := HSl.out.at_.2
     replace hpl : ps.map (·.1) = dl := hpl
     have hpn : ps.length = dl.length := by rw [← hpl, List.length_map]
     obtain ⟨Ax, cx, hsl, _, hrd⟩ := hrd0.reads
     rw [hpn] at hsl hrd
     obtain ⟨rfl, rfl⟩ : Bl = Ax ∧ kl = cx := by injection hsl with h1 _ h3; exact ⟨h1, h3⟩
     have Hrd := Lib.hid (hrd.alloc (Nat.le_refl _) (.cells #[] 26))
     have Hone := Lib.hid (eCells_one ps (fun p hp => by obtain ⟨A', c', e, _⟩ := (hpd p hp).len; exact ⟨_, _, _, e⟩))
     have Hpd := Lib.hid hpd; have Hpl := Lib.hid hpl; have Hpn := Lib.hid hpn
     have hl3 := HSl.out.b3.lt
     have hl6 := HSl.out.b6.lt
     clear hsl hrd hrd0 hpd hpl hpn
     go_wp2_with (at_builtin; go_must (refine wpList_append_any _ rfl (.tmp 16) (.tmp 18) _ rfl wr.heap.size 26 i0 _ 9 96 Tryz.underlying52 Hi0.out Hz0.out Hz1.out Hz2.out rfl (by omega) (.slice (some ⟨wr.heap.size, 0, none⟩) 0 0) 0 [] rfl (World.ownsRow_made wr #[] 0 (Nat.le_refl _) (by unfold maxLen; omega) rfl) wr.heap.size Bl dl.length kl (ps.flatMap eCell) rfl Hrd.out Hone.out (by unfold maxLen; omega) (by omega) (by simp) ?_))
     intro v3 w3 ho hg hat
     have Hown3 : Hid (w3.ownsRow wr.heap.size 26 9 v3 dl.length (ps.flatMap eCell)) := (show World.ownsRow _ _ _ _ _ _ _ by simpa using ho)
     have Hb3 : Hid (Below wr.heap.size wr w3) := grown_empty hg
     have hz3 : wr.heap.size ≤ w3.heap.size := Hb3.out.size
     clear ho hg hat Hrd Hone
     have Hown4 := Lib.hid (Hown3.out.alloc (.cells #[.int .i64 2, .int .i64 0, .int .i64 0, .int .i64 0, .int .i64 0, .slice none 0 0, .string ⟨#[97, 61, 49]⟩, .int .i64 0, .int .i64 0] 26))
     have Hb4 := Lib.hid (Hb3.out.alloc hz3 (.cells #[.int .i64 2, .int .i64 0, .int .i64 0, .int .i64 0, .int .i64 0, .slice none 0 0, .string ⟨#[97, 61, 49]⟩, .int .i64 0, .int .i64 0] 26))
     go_wp2_with (at_builtin; go_must (refine wpList_append_any _ rfl (.tmp 19) (.tmp 21) _ rfl wr.heap.size 26 i0 _ 9 96 Tryz.underlying52 Hi0.out Hz0.out Hz1.out Hz2.out rfl (by omega) v3 dl.length (ps.flatMap eCell) rfl Hown4.out (w3.heap.size + 1) (some ⟨w3.heap.size, 0, none⟩) 1 1 (eCell (⟨2, 0, 0, 0, 0, [], ⟨#[97, 61, 49]⟩, 0, 0⟩, .slice none 0 0)) rfl (reads_new w3 _ _ _ _ rfl) (by intro u hu; simp [eCell] at hu; rcases hu with rfl | rfl | rfl | rfl | rfl | rfl | rfl | rfl | rfl <;> rfl) (by unfold maxLen; omega) (by omega) (by simp; omega) ?_))
     intro v5 w5 ho hg hat
     have Hown5 : Hid (w5.ownsRow wr.heap.size 26 9 v5 (ps ++ [((⟨2, 0, 0, 0, 0, [], ⟨#[97, 61, 49]⟩, 0, 0⟩ : EntryD), Value.slice none 0 0)]).length ((ps ++ [((⟨2, 0, 0, 0, 0, [], ⟨#[97, 61, 49]⟩, 0, 0⟩ : EntryD), Value.slice none 0 0)]).flatMap eCell)) := by
      show World.ownsRow _ _ _ _ _ _ _
      rw [List.flatMap_append, List.length_append, Hpn.out]
      simpa using ho
     have Hb5 : Hid (Below wr.heap.size wr w5) := Hb4.out.grown hg Hb4.out.size (fun g hg => (Hown3.out.lt g hg).1)
     have HS5 : Hid (OddM (K + 130) g3 w w5 (⟨kd, ⟨kind, ag, sh, seq, ep, ds, ser, fr, etg⟩, tag, code, nn, term, had, dl, commit, len⟩ : MsgD) (.slice A ds.length c) (.slice Bl dl.length kl)) := ⟨HSl.out.b3.below Hb5.out hl3, HSl.out.b6.below Hb5.out hl6, HSl.out.at_.keep (M' := []) (Keeps.of_below Hb5.out) (by simp), HSl.out.big, HSl.out.keeps.trans (Hb5.out.mono (by omega))⟩
     have hz5 : wr.heap.size ≤ w5.heap.size := Hb5.out.size
     have hE5 : Ens w5 [g3, g3 + 1] v5 (dl ++ [(⟨2, 0, 0, 0, 0, [], ⟨#[97, 61, 49]⟩, 0, 0⟩ : EntryD)]) := ⟨_, by rw [List.map_append, Hpl.out]; rfl, Rd.of_own Hown5.out (by intro g hg; simp at hg; omega), fun p hp => by
      rcases List.mem_append.1 hp with hp | hp
      ·exact (Hpd.out p hp).keep (M' := []) (Keeps.of_below Hb5.out) (by simp)
      ·obtain rfl := List.mem_singleton.1 hp; exact Ds.nil _ _⟩
     obtain ⟨A5, c5, rfl, hc5⟩ := hE5.len
     have HE5 := Lib.hid hE5
     have HBl : Hid (MBig (K + 130) (⟨kd, ⟨kind, ag, sh, seq, ep, ds, ser, fr, etg⟩, tag, code, nn, term, had, (dl ++ [(⟨2, 0, 0, 0, 0, [], ⟨#[97, 61, 49]⟩, 0, 0⟩ : EntryD)]), commit, len⟩ : MsgD)) := ⟨⟨HS5.out.big.short.1, by simp; omega, fun e he => by rcases List.mem_append.1 he with he | he; exact HS5.out.big.short.2.2 e he; (obtain rfl := List.mem_singleton.1 he; exact short_a1 _)⟩, ⟨HS5.out.big.wf.1, HS5.out.big.wf.2.1, HS5.out.big.wf.2.2.1, HS5.out.big.wf.2.2.2.1, HS5.out.big.wf.2.2.2.2.1, HS5.out.big.wf.2.2.2.2.2.1, fun e he => by rcases List.mem_append.1 he with he | he; exact HS5.out.big.wf.2.2.2.2.2.2 e he; (obtain rfl := List.mem_singleton.1 he; exact wf_a1 _)⟩, by simp; omega⟩
     have hdn1 : (dl ++ [(⟨2, 0, 0, 0, 0, [], ⟨#[97, 61, 49]⟩, 0, 0⟩ : EntryD)]).length = dl.length + 1 := by rw [List.length_append]; rfl
     clear ho hg hat Hown3 Hb3 Hown4 Hb4 Hown5 HSl hE5 Hpd Hpl Hpn
     generalize dl ++ [(⟨2, 0, 0, 0, 0, [], ⟨#[97, 61, 49]⟩, 0, 0⟩ : EntryD)] = dn at *
     have Hdn1 := Lib.hid hdn1
     clear hdn1
     have HX0 : Hid (OddM (K + 130) g3 w (w5.setCell ⟨g3, 15, none⟩ (.slice A5 dn.length c5)) (⟨kd, ⟨kind, ag, sh, seq, ep, ds, ser, fr, etg⟩, tag, code, nn, term, had, dn, commit, len⟩ : MsgD) (.slice A ds.length c) (.slice A5 dn.length c5)) := by
      have hk : Keeps [g3] w5 (w5.setCell ⟨g3, 15, none⟩ (.slice A5 dn.length c5)) := (Keeps.refl _ _).setCell (by simp) _
      exact ⟨by simpa [mCell, eCell] using HS5.out.b3.set_ 15 (.slice A5 dn.length c5), hk.blk HS5.out.b6 (by simp), ⟨HS5.out.at_.1.keep hk (by simp), HE5.out.keep hk (by simp)⟩, HBl.out, HS5.out.keeps.setCell (Nat.le_refl _) _⟩
     clear q0 q1 q2 q3 q4 q5 q6 q7 q8 q9 qa qb qc qd qe qf qg qh qz
     obtain ⟨p0, p1, p2, p3, p4, p5, p6, p7, p8, p9, pa, pb, pc, pd, pe, pf, pg, ph, pz⟩ := blk18 HS5.out.b3
     have hlenX : logAt (w5.setCell ⟨g3, 15, none⟩ (.slice A5 dn.length c5)) g3 = dl.length + 1 := by
      have h5 := HX0.out.b3.cell 15
      unfold logAt
      simp only [mCell, eCell, List.cons_append, List.nil_append, List.getElem?_toArray, List.getElem?_cons_succ, List.getElem?_cons_zero] at h5
      rw [h5]
      exact Hdn1.out
     have hzX : g3 + 2 ≤ (w5.setCell ⟨g3, 15, none⟩ (.slice A5 dn.length c5)).heap.size := by simp; omega
     clear HS5 HE5 HBl
     go_wp2
     go_roundw
     case rel => exact ⟨_, A5, c5, HX0, hzX⟩
     case measure => rw [hlenX, hlen0]; omega
    ·have hlti : decide ((dl.length : Int) < wrap64 (128 + bits BinOp.and IntKind.i64 129 1)) = false := by rw [show wrap64 (128 + bits BinOp.and IntKind.i64 129 1) = 129 by decide +kernel]; exact decide_eq_false (by omega)
     have hlti2 : ¬ ((dl.length : Int) < wrap64 (128 + bits BinOp.and IntKind.i64 129 1)) := of_decide_eq_false hlti
     go_upto_region 24 with (fail)
     have HX := HSl
     clear HSl q0 q1 q2 q3 q4 q5 q6 q7 q8 q9 qa qb qc qd qe qf qg qh qz
     have HRx := Lib.hid (blk_range HX.out.b3)
     go_wp2_with (first | (refine wpList_load_mid rfl 68 (.tmp 3) rfl g3 0 rfl _ _ HRx.out Tryz.underlying68 rfl (by kernel_rfl) ?_) | (refine wpList_store_blk rfl 68 (.tmp 6) (.tmp 73) rfl (g3 + 1) 0 68 zeroR #[.int .i64 kd, .int .i64 kind, .int .i64 ag, .int .i64 sh, .int .i64 seq, .int .i64 ep, .slice A ds.length c, .string ser, .int .i64 fr, .int .i64 etg, .int .i64 tag, .int .i64 code, .int .u64 nn, .int .i64 term, .int .i64 had, .slice Bl dl.length kl, .int .i64 commit, .int .i64 len] #[.int .i64 kd, .int .i64 kind, .int .i64 ag, .int .i64 sh, .int .i64 seq, .int .i64 ep, .slice A ds.length c, .string ser, .int .i64 fr, .int .i64 etg, .int .i64 tag, .int .i64 code, .int .u64 nn, .int .i64 term, .int .i64 had, .slice Bl dl.length kl, .int .i64 commit, .int .i64 len] rfl rfl HX.out.b6 (by show 0 + 18 ≤ 18; omega) rfl (by kernel_rfl) rfl ?_; intro wz hkz hBz; have Hkz := Lib.hid hkz; have HBz := Lib.hid hBz; clear hkz hBz))
     refine bodyPost_ret (results_cell1 rfl _ _ (g3 + 1) 68 #[.int .i64 kd, .int .i64 kind, .int .i64 ag, .int .i64 sh, .int .i64 seq, .int .i64 ep, .slice A ds.length c, .string ser, .int .i64 fr, .int .i64 etg, .int .i64 tag, .int .i64 code, .int .u64 nn, .int .i64 term, .int .i64 had, .slice Bl dl.length kl, .int .i64 commit, .int .i64 len] _ rfl HBz.out Tryz.underlying68 rfl (by kernel_rfl)) rfl ?_
     exact HF.out (⟨kd, ⟨kind, ag, sh, seq, ep, ds, ser, fr, etg⟩, tag, code, nn, term, had, dl, commit, len⟩ : MsgD) (.slice A ds.length c) (.slice Bl dl.length kl) _ HX.out _ Hkz.out
end Go.Proofs.YtinnifhnabncfaaGreatDoor.Vi
end
section
namespace Go.Proofs.YtinnifhnabncfaaGreatDoor.Vi
open Go.RowKit Base Mem Tape Go.Shelf
def m300 : MsgD := ⟨3, zeroD, 0, 0, 0, 300, 0, [], 0, 0⟩
theorem m300_right : mrightS m300 = 0 := by
 have hz : zeroS m300 = true := zeroS_of rfl
 unfold mrightS
 rw [hz]
 simp [m300, bad2, logRight]
theorem m300_short : MShort m300 := ⟨short_zero, by simp [m300], by simp [m300]⟩
theorem m300_wf : MWf m300 := ⟨by simp [m300], by simp [m300], by simp [m300], by simp [m300], by simp [m300], wf_zero, by simp [m300]⟩
theorem m300_len : (bodyL m300).length ≤ 65536 := by
 have u := Lib.uvarint_length64 (x := 300) (by omega)
 rw [bodyL_rest, List.length_cons, show restL m300 = Lib.uvarint 300 from rfl]
 omega
theorem zero_right : mrightS zeroM = 12 := by unfold mrightS; rw [if_pos (.inl (by simp [zeroM]))]
theorem zero_short : MShort zeroM := ⟨short_zero, by simp [zeroM], by simp [zeroM]⟩
theorem zero_wf : MWf zeroM := ⟨by simp [zeroM], by simp [zeroM], by simp [zeroM], by simp [zeroM], by simp [zeroM], wf_zero, by simp [zeroM]⟩
theorem mRead_nil : mReadS [] = (zeroM, 12) := rfl
set_option maxRecDepth 100000 in
set_option maxHeartbeats 1000000 in
theorem mknown_any (mx : Int) (w : World) (hm : w.cell? ⟨0, 0, none⟩ = some (.int .i64 mx)) :
  Calls Tryz.prog 49 #[] w fun e w' => SamePost true w e w' := by
 have hw0 : 0 < w.heap.size := by
  have := World.block_lt_of_cell? w _ hm
  simpa using this
 have hkeepm : Hid (∀ W, Keeps [] w W → W.cell? ⟨0, 0, none⟩ = some (.int .i64 mx)) := fun W hb => (hb.cell (p := ⟨0, 0, none⟩) hw0 (by simp)).trans hm
 have hb1 : Hid (∀ W, Keeps [] w W → Calls Tryz.prog 52 #[.agg #[.int .i64 3, .int .i64 0, .int .i64 0, .int .i64 0, .int .i64 0, .int .i64 0, .slice none 0 0, .string ⟨#[]⟩, .int .i64 0, .int .i64 0, .int .i64 0, .int .i64 0, .int .u64 0, .int .i64 300, .int .i64 0, .slice none 0 0, .int .i64 0, .int .i64 0]] W fun r w' => MBPost (frameL (bodyL m300), 0) W r w') := fun W hk => by
  have := mbytes_any m300 (.slice none 0 0) (.slice none 0 0) mx W ⟨Ds.nil _ _, Ens.nil _ _⟩ m300_short m300_wf (hkeepm.out W hk)
  rwa [show mbytesS m300 = (frameL (bodyL m300), 0) by unfold mbytesS; rw [if_pos m300_right, if_neg (by have := m300_len; omega)]] at this
 have hb2 : Hid (∀ W, Keeps [] w W → Calls Tryz.prog 52 #[.agg #[.int .i64 0, .int .i64 0, .int .i64 0, .int .i64 0, .int .i64 0, .int .i64 0, .slice none 0 0, .string ⟨#[]⟩, .int .i64 0, .int .i64 0, .int .i64 0, .int .i64 0, .int .u64 0, .int .i64 0, .int .i64 0, .slice none 0 0, .int .i64 0, .int .i64 0]] W fun r w' => MBPost ([], 12) W r w') := fun W hk => by
  have := mbytes_any zeroM (.slice none 0 0) (.slice none 0 0) mx W ⟨Ds.nil _ _, Ens.nil _ _⟩ zero_short zero_wf (hkeepm.out W hk)
  rwa [show mbytesS zeroM = ([], 12) by unfold mbytesS; rw [if_neg (by rw [zero_right]; decide), zero_right]] at this
 have hr1 : Hid (∀ W v, Keeps [] w W → Bs W [] v (frameL (bodyL m300)) → Calls Tryz.prog 53 #[v] W fun r w' => MReadP (m300, 0) W r w') := fun W v hk hB => by
  have := mRead_any v (frameL (bodyL m300)) mx W hB (by rw [frameL_len]; have := m300_len; have := Lib.uvarint_length64 (x := (bodyL m300).length) (by omega); omega) (hkeepm.out W hk)
  rwa [mread_put m300 m300_right m300_short m300_wf m300_len] at this
 have hr2 : Hid (∀ W, Keeps [] w W → Calls Tryz.prog 53 #[.slice none 0 0] W fun r w' => MReadP (zeroM, 12) W r w') := fun W hk => by
  have := mRead_any (.slice none 0 0) [] mx W (Bs.nil _ _) (by simp) (hkeepm.out W hk)
  rwa [mRead_nil] at this
 have hs : Hid (∀ W dv lv, MsgAt W [] m300 dv lv → Calls Tryz.prog 50 #[.agg (mCell m300 dv lv).toArray, .agg #[.int .i64 3, .int .i64 0, .int .i64 0, .int .i64 0, .int .i64 0, .int .i64 0, .slice none 0 0, .string ⟨#[]⟩, .int .i64 0, .int .i64 0, .int .i64 0, .int .i64 0, .int .u64 0, .int .i64 300, .int .i64 0, .slice none 0 0, .int .i64 0, .int .i64 0]] W fun r w' => SamePost true W r w') := fun W dv lv h => by
  have := msame_any m300 m300 dv lv (.slice none 0 0) (.slice none 0 0) W h ⟨Ds.nil _ _, Ens.nil _ _⟩ m300_short.cnt m300_short.cnt
  rwa [(sameM_iff m300 m300).2 rfl] at this
 have hri : Hid (∀ W, Keeps [] w W → Calls Tryz.prog 93 #[.agg #[.int .i64 3, .int .i64 0, .int .i64 0, .int .i64 0, .int .i64 0, .int .i64 0, .slice none 0 0, .string ⟨#[]⟩, .int .i64 0, .int .i64 0, .int .i64 0, .int .i64 0, .int .u64 0, .int .i64 300, .int .i64 0, .slice none 0 0, .int .i64 0, .int .i64 0]] W fun r w' => NumPost 0 W r w') := fun W hk => by
  have := mright_any m300 (.slice none 0 0) (.slice none 0 0) mx W ⟨Ds.nil _ _, Ens.nil _ _⟩ m300_short (hkeepm.out W hk)
  rwa [m300_right] at this
 clear hm
 generalize frameL (bodyL m300) = fb at *
 go_enter Tryz.func49, Tryz.ntmps49
 go_wp2_with (first | (refine wpList_store_blk rfl 68 (.tmp 1) (.tmp 10) rfl w.heap.size 0 68 _ #[.int .i64 3, .int .i64 0, .int .i64 0, .int .i64 0, .int .i64 0, .int .i64 0, .slice none 0 0, .string ⟨#[]⟩, .int .i64 0, .int .i64 0, .int .i64 0, .int .i64 0, .int .u64 0, .int .i64 300, .int .i64 0, .slice none 0 0, .int .i64 0, .int .i64 0] #[.int .i64 3, .int .i64 0, .int .i64 0, .int .i64 0, .int .i64 0, .int .i64 0, .slice none 0 0, .string ⟨#[]⟩, .int .i64 0, .int .i64 0, .int .i64 0, .int .i64 0, .int .u64 0, .int .i64 300, .int .i64 0, .slice none 0 0, .int .i64 0, .int .i64 0] rfl rfl (Blk.new _ _ _) (by show 0 + 18 ≤ 18; omega) rfl (by kernel_rfl) rfl ?_; intro w1 hk hB; have Hk1 : Hid (Keeps [] w w1) := ((Keeps.refl _ _).alloc _).trans hk (by intro q hq; simp at hq; right; omega); have HB1 := Lib.hid hB; clear hk hB) | (refine wpList_load_mid rfl 68 (.tmp 1) rfl w.heap.size 0 rfl _ _ (blk_range HB1.out) Tryz.underlying68 rfl (by kernel_rfl) ?_))
 refine (hb1.out w1 Hk1.out).mono ?_
 rintro e w2 ⟨A2, c2, rfl, hS2, hb⟩
 have HS2 := Lib.hid (hS2 [] (by simp))
 have Hk2 := Lib.hid (Hk1.out.trans (Keeps.of_below (M := []) hb) (by simp)); have HB2 := Lib.hid (HB1.out.below hb HB1.out.lt)
 clear hS2 hb Hk1 HB1 hb1
 simp only []
 go_wp2_with fail
 refine (hr1.out w2 _ Hk2.out HS2.out).mono ?_
 rintro e w3 ⟨dv, lv, rfl, hM, hb⟩
 have HM3 := Lib.hid (hM [] (by simp))
 obtain ⟨Aa, na, rfl, _⟩ := HM3.out.1.len
 obtain ⟨Ba, ka, rfl, _⟩ := HM3.out.2.len
 have Hk3 := Lib.hid (Hk2.out.trans (Keeps.of_below (M := []) hb) (by simp)); have HB3 := Lib.hid (HB2.out.below hb HB2.out.lt)
 clear hM hb Hk2 HB2 HS2 hr1
 simp only []
 go_wp2_with (refine wpList_store_blk rfl 68 (.tmp 4) (.tmp 19) rfl w3.heap.size 0 68 _ (mCell m300 (.slice Aa m300.en.ds.length na) (.slice Ba m300.log.length ka)).toArray (mCell m300 (.slice Aa m300.en.ds.length na) (.slice Ba m300.log.length ka)).toArray rfl rfl (Blk.new _ _ _) (by show 0 + 18 ≤ 18; omega) rfl (by kernel_rfl) rfl ?_; intro w4 hk hB; have Hk4 : Hid (Keeps [] w3 w4) := ((Keeps.refl _ _).alloc _).trans hk (by intro q hq; simp at hq; right; omega); have HB4 := Lib.hid hB; clear hk hB)
 have HM4 := Lib.hid (HM3.out.keep Hk4.out (by simp)); have HK4 := Lib.hid (Hk3.out.trans Hk4.out (by simp)); have HB4a := Lib.hid (Hk4.out.blk HB3.out (by simp))
 clear HM3 HB3 Hk4
 refine (hb2.out w4 HK4.out).mono ?_
 rintro e w5 ⟨A5, c5, rfl, _, hb⟩
 have HK5 := Lib.hid (HK4.out.trans (Keeps.of_below (M := []) hb) (by simp)); have HB5 := Lib.hid (HB4.out.below hb HB4.out.lt); have HB5a := Lib.hid (HB4a.out.below hb HB4a.out.lt)
 have HM5 := Lib.hid (HM4.out.keep (Keeps.of_below (M := []) hb) (by simp))
 clear hb HK4 HB4 HB4a HM4 hb2
 simp only []
 go_wp2_with fail
 refine (hr2.out w5 HK5.out).mono ?_
 rintro e w6 ⟨dz, lz, rfl, hM, hb⟩
 obtain ⟨Az, nz, rfl, _⟩ := (hM [] (by simp)).1.len
 obtain ⟨Bz, kz, rfl, _⟩ := (hM [] (by simp)).2.len
 have HK6 := Lib.hid (HK5.out.trans (Keeps.of_below (M := []) hb) (by simp)); have HB6 := Lib.hid (HB5.out.below hb HB5.out.lt); have HB6a := Lib.hid (HB5a.out.below hb HB5a.out.lt)
 have HM6 := Lib.hid (HM5.out.keep (Keeps.of_below (M := []) hb) (by simp))
 clear hM hb HK5 HB5 HB5a HM5 hr2
 simp only []
 go_wp2_with (first | (refine wpList_store_blk rfl 68 (.tmp 8) (.tmp 28) rfl w6.heap.size 0 68 _ (mCell zeroM (.slice Az zeroM.en.ds.length nz) (.slice Bz zeroM.log.length kz)).toArray (mCell zeroM (.slice Az zeroM.en.ds.length nz) (.slice Bz zeroM.log.length kz)).toArray rfl rfl (Blk.new _ _ _) (by show 0 + 18 ≤ 18; omega) rfl (by kernel_rfl) rfl ?_; intro w7 hk hB; have Hk7 : Hid (Keeps [] w6 w7) := ((Keeps.refl _ _).alloc _).trans hk (by intro q hq; simp at hq; right; omega); have HB7 := Lib.hid hB; clear hk hB) | (refine wpList_load_g rfl 68 (.tmp 4) rfl w3.heap.size 0 rfl _ _ (blk_range (Hk7.out.blk HB6.out (by simp) |> Lib.hid).out) Tryz.underlying68 rfl (by kernel_rfl) ?_) | (refine wpList_load_g rfl 68 (.tmp 1) rfl w.heap.size 0 rfl _ _ (blk_range (Hk7.out.blk HB6a.out (by simp) |> Lib.hid).out) Tryz.underlying68 rfl (by kernel_rfl) ?_))
 refine (hs.out w7 _ _ (HM6.out.keep Hk7.out (by simp))).mono ?_
 rintro e w8 ⟨rfl, hb⟩
 have HK8 := Lib.hid ((HK6.out.trans Hk7.out (by simp)).trans (Keeps.of_below (M := []) hb) (by simp)); have HB8 := Lib.hid ((Hk7.out.blk HB6a.out (by simp) : Blk w7 _ _ _).below hb (Hk7.out.blk HB6a.out (by simp) : Blk w7 _ _ _).lt)
 clear hb
 go_wp2_with (refine wpList_load_g rfl 68 (.tmp 1) rfl w.heap.size 0 rfl _ _ (blk_range HB8.out) Tryz.underlying68 rfl (by kernel_rfl) ?_)
 refine (hri.out w8 HK8.out).mono ?_
 rintro e w9 ⟨rfl, hb⟩
 have HK9 := Lib.hid (HK8.out.trans (Keeps.of_below (M := []) hb) (by simp))
 clear hb
 go_wp2
 go_ret
 exact ⟨rfl, HK9.out.below⟩
end Go.Proofs.YtinnifhnabncfaaGreatDoor.Vi
end
section
namespace Go.Proofs.YtinnifhnabncfaaGreatDoor.Vi
open Go.RowKit Base Mem Tape Go.Shelf
theorem mok_bytes {m : MsgD} (h : MsgOk m) : mbytesS m = (frameL (bodyL m), 0) := by
 unfold mbytesS
 rw [if_pos (msg_right h), if_neg (by have := msg_body h; omega)]
theorem mok_big {m : MsgD} (h : MsgOk m) : MBig 4 m := ⟨msg_short h, msg_wf h, h.2.2.1⟩
theorem frameL_bd (l : List UInt8) (h : l.length ≤ 65536) : l.length ≤ (frameL l).length ∧ (frameL l).length ≤ 65560 := by
 have h1 := frameL_len l
 have u := Lib.uvarint_length64 (x := l.length) (by omega)
 omega
theorem within10 (y : Nat) (n : Int) (hy : y ≤ 10) (h : y < 10 ∨ n = 128 ∨ n = 129) : withinS (y : Int) 0 10 = 10 → n = 128 ∨ n = 129 := by
 unfold withinS
 rw [if_pos ⟨by omega, by omega⟩]
 intro h10
 rcases h with h | h
 ·omega
 ·exact h
def numL6 : List Int := [-1, 0, 1, 6, 7, 128, 129, 255, 256, 9223372036854775807]
/-- What the walk knows of the message that lies in block g, in each world behind w3. -/
structure MoK (mx : Int) (g : Nat) (LM : List Value) (bd : List UInt8) (w3 : World) : Prop where
 hm : ∀ W, Below w3.heap.size w3 W → W.cell? ⟨0, 0, none⟩ = some (.int .i64 mx)
 range : ∀ W, Below w3.heap.size w3 W → W.rangeAt g 0 LM
 same : ∀ W, Below w3.heap.size w3 W → Calls Tryz.prog 44 #[.agg LM.toArray] W fun e w' => SamePost true W e w'
 odd : ∀ W (what n : Int), n ≤ 9223372036854775807 → (withinS what 0 10 = 10 → n = 128 ∨ n = 129) → Below w3.heap.size w3 W → Calls Tryz.prog 45 #[.agg LM.toArray, .int .i64 what, .int .i64 n] W fun e w' => OddPost6 134 W e w'
 bytes : ∀ W, Below w3.heap.size w3 W → Calls Tryz.prog 46 #[.agg LM.toArray] W fun e w' => MBPost (frameL bd, 0) W e w'
theorem mok_know {m : MsgD} (hok : MsgOk m) (dv lv : Value) (mx : Int) (g : Nat) (w3 : World) (hD : MsgAt w3 [] m dv lv) (hB : Blk w3 g 68 (mCell m dv lv).toArray) (hm : w3.cell? ⟨0, 0, none⟩ = some (.int .i64 mx)) :
  MoK mx g (mCell m dv lv) (bodyL m) w3 := by
 have hw0 : 0 < w3.heap.size := by
  have := World.block_lt_of_cell? w3 _ hm
  simpa using this
 have hM : ∀ W, Below w3.heap.size w3 W → W.cell? ⟨0, 0, none⟩ = some (.int .i64 mx) := fun W hb => (hb.cell (p := ⟨0, 0, none⟩) hw0).trans hm
 have hDW : ∀ W, Below w3.heap.size w3 W → MsgAt W [] m dv lv := fun W hb => hD.keep (M' := []) (Keeps.of_below hb) (by simp)
 refine ⟨hM, fun W hb => blk_range (hB.below hb hB.lt), fun W hb => lawsame6_any m dv lv mx W (hDW W hb) (msg_short hok) (msg_wf hok) (hM W hb), fun W what n hn h10 hb => odd6_any 4 m dv lv what n W (hDW W hb) (by omega) (mok_big hok) hn h10, fun W hb => ?_⟩
 have := rmbytes_any m dv lv mx W (hDW W hb) (msg_short hok) (msg_wf hok) (hM W hb)
 rwa [mok_bytes hok] at this
end Go.Proofs.YtinnifhnabncfaaGreatDoor.Vi
end
