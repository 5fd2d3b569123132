/- Texts put together: RefS, RefT, RfM, RefU, RefW. -/
import Derived.Test.YtinnifhnabncfaaGreatDoorMN4
import Derived.Test.YtinnifhnabncfaaGreatDoorMN7
import Derived.Test.YtinnifhnabncfaaGreatDoorMN8
import Derived.Test.YtinnifhnabncfaaGreatDoorMN10
set_option linter.unusedVariables false
set_option linter.unusedSimpArgs false
section
namespace Go.Proofs.YtinnifhnabncfaaGreatDoor.Vi
open Go.RowKit Base Mem Go.Shelf
theorem rows_nil (l : List EntryD) : rowsEq l [] = (l.length == 0) := by
 cases l with
 | nil => rfl
 | cons a l => rfl
theorem zeroD_same : sameE zeroD zeroD = true := (sameE_iff _ _).2 rfl
theorem zeroS_1 (m : MsgD) (h : m.kd = 1) : zeroS m = (m.tag == 0 && (m.code == 0 && (m.nn == 0 && (m.term == 0 && (m.had == 0 && (m.log.length == 0 && (m.commit == 0 && (m.len == 0)))))))) := by
 unfold zeroS clearM
 rw [h]
 simp only [Int.reduceEq, if_true, if_false, sameM, zeroM, zeroD_same, rows_nil, List.length_nil, BEq.rfl, Bool.true_and, Bool.and_true]
 try ac_rfl
theorem zeroS_2 (m : MsgD) (h : m.kd = 2) : zeroS m = (sameE m.en zeroD && (m.term == 0 && (m.had == 0 && (m.log.length == 0 && (m.commit == 0 && (m.len == 0)))))) := by
 unfold zeroS clearM
 rw [h]
 simp only [Int.reduceEq, if_true, if_false, sameM, zeroM, zeroD_same, rows_nil, List.length_nil, BEq.rfl, Bool.true_and, Bool.and_true]
 try ac_rfl
theorem zeroS_3 (m : MsgD) (h : m.kd = 3) : zeroS m = (sameE m.en zeroD && (m.tag == 0 && (m.code == 0 && (m.nn == 0 && (m.had == 0 && (m.log.length == 0 && (m.commit == 0 && (m.len == 0)))))))) := by
 unfold zeroS clearM
 rw [h]
 simp only [Int.reduceEq, if_true, if_false, sameM, zeroM, zeroD_same, rows_nil, List.length_nil, BEq.rfl, Bool.true_and, Bool.and_true]
 try ac_rfl
theorem zeroS_4 (m : MsgD) (h : m.kd = 4) : zeroS m = (sameE m.en zeroD && (m.tag == 0 && (m.code == 0 && (m.nn == 0 && (m.commit == 0 && (m.len == 0)))))) := by
 unfold zeroS clearM
 rw [h]
 simp only [Int.reduceEq, if_true, if_false, sameM, zeroM, zeroD_same, rows_nil, List.length_nil, BEq.rfl, Bool.true_and, Bool.and_true]
 try ac_rfl
theorem zeroS_5 (m : MsgD) (h : m.kd = 5) : zeroS m = (sameE m.en zeroD && (m.tag == 0 && (m.code == 0 && (m.nn == 0 && (m.had == 0 && (m.len == 0)))))) := by
 unfold zeroS clearM
 rw [h]
 simp only [Int.reduceEq, if_true, if_false, sameM, zeroM, zeroD_same, rows_nil, List.length_nil, BEq.rfl, Bool.true_and, Bool.and_true]
 try ac_rfl
theorem zeroS_6 (m : MsgD) (h : m.kd = 6) : zeroS m = (sameE m.en zeroD && (m.tag == 0 && (m.code == 0 && (m.nn == 0 && (m.had == 0 && (m.log.length == 0 && (m.commit == 0))))))) := by
 unfold zeroS clearM
 rw [h]
 simp only [Int.reduceEq, if_true, if_false, sameM, zeroM, zeroD_same, rows_nil, List.length_nil, BEq.rfl, Bool.true_and, Bool.and_true]
 try ac_rfl
set_option maxRecDepth 100000 in
set_option maxHeartbeats 4000000 in
theorem rnone_1 (m : MsgD) (dv lv : Value) (w : World) (ha : MsgAt w [] m dv lv) (ca : MCnt m) (hk0 : m.kd = 1) :
  Calls Tryz.prog 150 #[.agg (mCell m dv lv).toArray] w fun r w' => SamePost (zeroS m) w r w' := by
 have HR := Lib.hid (zeroS_1 m hk0)
 have hse := Lib.hid (fun W (hk : Keeps [] w W) => rsame_any dv (.slice none 0 0) m.en zeroD W (ha.1.keep hk (by simp)) (Ds.nil _ _) ca.1 (by show (0 : Nat) ≤ _; omega))
 obtain ⟨Aa, na, rfl, _⟩ := ha.1.len
 obtain ⟨Ba, ka, rfl, _⟩ := ha.2.len
 generalize zeroS m = R at *
 clear ha ca
 obtain ⟨kd, ⟨kind, ag, sh, seq, ep, ds, ser, fr, etg⟩, tag, code, nn, term, had, log, commit, len⟩ := m
 simp only [] at hk0 HR hse
 subst hk0
 simp only [mCell, eCell, List.cons_append, List.nil_append]
 obtain ⟨EB, hEB⟩ : ∃ EB, EB = sameE ⟨kind, ag, sh, seq, ep, ds, ser, fr, etg⟩ zeroD := ⟨_, rfl⟩
 have hse2 : Hid (∀ W, Keeps [] w W → Calls Tryz.prog 24 #[.agg #[.int .i64 kind, .int .i64 ag, .int .i64 sh, .int .i64 seq, .int .i64 ep, .slice Aa ds.length na, .string ser, .int .i64 fr, .int .i64 etg], .agg #[.int .i64 0, .int .i64 0, .int .i64 0, .int .i64 0, .int .i64 0, .slice none 0 0, .string ⟨#[]⟩, .int .i64 0, .int .i64 0]] W fun r w' => SamePost EB W r w') := fun W hk => by rw [hEB]; exact hse.out W hk
 try rw [← hEB] at HR
 clear hse hEB
 generalize hdn : ds.length = dn at *
 generalize hln : log.length = ln at *
 clear hdn hln
 obtain ⟨w2, hw2⟩ : ∃ w2, w2 = w.alloc (.cells #[.int .i64 1, .int .i64 kind, .int .i64 ag, .int .i64 sh, .int .i64 seq, .int .i64 ep, .slice Aa dn na, .string ser, .int .i64 fr, .int .i64 etg, .int .i64 tag, .int .i64 code, .int .u64 nn, .int .i64 term, .int .i64 had, .slice Ba ln ka, .int .i64 commit, .int .i64 len] 68) := ⟨_, rfl⟩
 have hk2 : Keeps [] w w2 := by rw [hw2]; exact (Keeps.refl _ _).alloc _
 have hBa : Blk w2 w.heap.size 68 #[.int .i64 1, .int .i64 kind, .int .i64 ag, .int .i64 sh, .int .i64 seq, .int .i64 ep, .slice Aa dn na, .string ser, .int .i64 fr, .int .i64 etg, .int .i64 tag, .int .i64 code, .int .u64 nn, .int .i64 term, .int .i64 had, .slice Ba ln ka, .int .i64 commit, .int .i64 len] := by rw [hw2]; exact Blk.new w _ _
 have Hw2 := Lib.hid hw2; have HBa := Lib.hid hBa; have Hk2 := Lib.hid hk2
 have hgw : w.heap.size < w2.heap.size := hBa.lt
 clear hw2 hBa hk2
 show Calls Tryz.prog 150 #[.agg #[.int .i64 1, .int .i64 kind, .int .i64 ag, .int .i64 sh, .int .i64 seq, .int .i64 ep, .slice Aa dn na, .string ser, .int .i64 fr, .int .i64 etg, .int .i64 tag, .int .i64 code, .int .u64 nn, .int .i64 term, .int .i64 had, .slice Ba ln ka, .int .i64 commit, .int .i64 len]] w fun r w' => SamePost R w r w'
 go_enter Tryz.func150, Tryz.ntmps150
 go_upto_region 1 with (fail)
 rw [← Hw2.out]
 clear Hw2
 obtain ⟨q0, q1, q2, q3, q4, q5, q6, q7, q8, q9, qa, qb, qc, qd, qe, qf, qg, qh, qz⟩ := blk18 HBa.out
 cases hcT : (tag == 0) with
 | false =>
  have hbT : (tag != 0) = true := by rw [bne, hcT]; rfl
  have hR : Hid (R = false) := by show _ = _; rw [HR.out, hcT]; rfl
  clear HR
  go_wp2
  go_ret
  exact ⟨by rw [hR.out]; rfl, Hk2.out.below⟩
 | true =>
  have hbT : (tag != 0) = false := by rw [bne, hcT]; rfl
  rw [hcT, Bool.true_and] at HR
  cases hcC : (code == 0) with
  | false =>
   have hbC : (code != 0) = true := by rw [bne, hcC]; rfl
   have hR : Hid (R = false) := by show _ = _; rw [HR.out, hcC]; rfl
   clear HR
   go_wp2
   go_ret
   exact ⟨by rw [hR.out]; rfl, Hk2.out.below⟩
  | true =>
   have hbC : (code != 0) = false := by rw [bne, hcC]; rfl
   rw [hcC, Bool.true_and] at HR
   cases hcN : (nn == 0) with
   | false =>
    have hbN : (nn != 0) = true := by rw [bne, hcN]; rfl
    have hR : Hid (R = false) := by show _ = _; rw [HR.out, hcN]; rfl
    clear HR
    go_wp2
    go_ret
    exact ⟨by rw [hR.out]; rfl, Hk2.out.below⟩
   | true =>
    have hbN : (nn != 0) = false := by rw [bne, hcN]; rfl
    rw [hcN, Bool.true_and] at HR
    cases hcTM : (term == 0) with
    | false =>
     have hbTM : (term != 0) = true := by rw [bne, hcTM]; rfl
     have hR : Hid (R = false) := by show _ = _; rw [HR.out, hcTM]; rfl
     clear HR
     go_wp2
     go_ret
     exact ⟨by rw [hR.out]; rfl, Hk2.out.below⟩
    | true =>
     have hbTM : (term != 0) = false := by rw [bne, hcTM]; rfl
     rw [hcTM, Bool.true_and] at HR
     cases hcH : (had == 0) with
     | false =>
      have hbH : (had != 0) = true := by rw [bne, hcH]; rfl
      have hR : Hid (R = false) := by show _ = _; rw [HR.out, hcH]; rfl
      clear HR
      go_wp2
      go_ret
      exact ⟨by rw [hR.out]; rfl, Hk2.out.below⟩
     | true =>
      have hbH : (had != 0) = false := by rw [bne, hcH]; rfl
      rw [hcH, Bool.true_and] at HR
      cases hcL : (ln == 0) with
      | false =>
       have hb1 : ((ln : Int) == 0) = false := by rw [beq_eq_false_iff_ne] at hcL ⊢; omega
       have hb2 : ((ln : Int) != 0) = true := by rw [bne, hb1]; rfl
       have hR : Hid (R = false) := by show _ = _; rw [HR.out, hcL]; rfl
       clear HR
       go_wp2
       go_ret
       exact ⟨by rw [hR.out]; rfl, Hk2.out.below⟩
      | true =>
       have hb1 : ((ln : Int) == 0) = true := by rw [beq_iff_eq] at hcL ⊢; omega
       have hb2 : ((ln : Int) != 0) = false := by rw [bne, hb1]; rfl
       rw [hcL, Bool.true_and] at HR
       cases hcCM : (commit == 0) with
       | false =>
        have hbCM : (commit != 0) = true := by rw [bne, hcCM]; rfl
        have hR : Hid (R = false) := by show _ = _; rw [HR.out, hcCM]; rfl
        clear HR
        go_wp2
        go_ret
        exact ⟨by rw [hR.out]; rfl, Hk2.out.below⟩
       | true =>
        have hbCM : (commit != 0) = false := by rw [bne, hcCM]; rfl
        rw [hcCM, Bool.true_and] at HR
        cases hcLN : (len == 0) with
        | false =>
         have hbLN : (len != 0) = true := by rw [bne, hcLN]; rfl
         have hR : Hid (R = false) := by show _ = _; rw [HR.out, hcLN]
         clear HR
         go_wp2
         go_ret
         exact ⟨by rw [hR.out]; rfl, Hk2.out.below⟩
        | true =>
         have hbLN : (len != 0) = false := by rw [bne, hcLN]; rfl
         replace HR : Hid (R = true) := by show _ = _; rw [HR.out, hcLN]
         go_wp2
         go_ret
         exact ⟨by rw [HR.out]; rfl, Hk2.out.below⟩
set_option maxRecDepth 100000 in
set_option maxHeartbeats 4000000 in
theorem rnone_2 (m : MsgD) (dv lv : Value) (w : World) (ha : MsgAt w [] m dv lv) (ca : MCnt m) (hk0 : m.kd = 2) :
  Calls Tryz.prog 150 #[.agg (mCell m dv lv).toArray] w fun r w' => SamePost (zeroS m) w r w' := by
 have HR := Lib.hid (zeroS_2 m hk0)
 have hse := Lib.hid (fun W (hk : Keeps [] w W) => rsame_any dv (.slice none 0 0) m.en zeroD W (ha.1.keep hk (by simp)) (Ds.nil _ _) ca.1 (by show (0 : Nat) ≤ _; omega))
 obtain ⟨Aa, na, rfl, _⟩ := ha.1.len
 obtain ⟨Ba, ka, rfl, _⟩ := ha.2.len
 generalize zeroS m = R at *
 clear ha ca
 obtain ⟨kd, ⟨kind, ag, sh, seq, ep, ds, ser, fr, etg⟩, tag, code, nn, term, had, log, commit, len⟩ := m
 simp only [] at hk0 HR hse
 subst hk0
 simp only [mCell, eCell, List.cons_append, List.nil_append]
 obtain ⟨EB, hEB⟩ : ∃ EB, EB = sameE ⟨kind, ag, sh, seq, ep, ds, ser, fr, etg⟩ zeroD := ⟨_, rfl⟩
 have hse2 : Hid (∀ W, Keeps [] w W → Calls Tryz.prog 24 #[.agg #[.int .i64 kind, .int .i64 ag, .int .i64 sh, .int .i64 seq, .int .i64 ep, .slice Aa ds.length na, .string ser, .int .i64 fr, .int .i64 etg], .agg #[.int .i64 0, .int .i64 0, .int .i64 0, .int .i64 0, .int .i64 0, .slice none 0 0, .string ⟨#[]⟩, .int .i64 0, .int .i64 0]] W fun r w' => SamePost EB W r w') := fun W hk => by rw [hEB]; exact hse.out W hk
 try rw [← hEB] at HR
 clear hse hEB
 generalize hdn : ds.length = dn at *
 generalize hln : log.length = ln at *
 clear hdn hln
 obtain ⟨w2, hw2⟩ : ∃ w2, w2 = w.alloc (.cells #[.int .i64 2, .int .i64 kind, .int .i64 ag, .int .i64 sh, .int .i64 seq, .int .i64 ep, .slice Aa dn na, .string ser, .int .i64 fr, .int .i64 etg, .int .i64 tag, .int .i64 code, .int .u64 nn, .int .i64 term, .int .i64 had, .slice Ba ln ka, .int .i64 commit, .int .i64 len] 68) := ⟨_, rfl⟩
 have hk2 : Keeps [] w w2 := by rw [hw2]; exact (Keeps.refl _ _).alloc _
 have hBa : Blk w2 w.heap.size 68 #[.int .i64 2, .int .i64 kind, .int .i64 ag, .int .i64 sh, .int .i64 seq, .int .i64 ep, .slice Aa dn na, .string ser, .int .i64 fr, .int .i64 etg, .int .i64 tag, .int .i64 code, .int .u64 nn, .int .i64 term, .int .i64 had, .slice Ba ln ka, .int .i64 commit, .int .i64 len] := by rw [hw2]; exact Blk.new w _ _
 have Hw2 := Lib.hid hw2; have HBa := Lib.hid hBa; have Hk2 := Lib.hid hk2
 have hgw : w.heap.size < w2.heap.size := hBa.lt
 clear hw2 hBa hk2
 show Calls Tryz.prog 150 #[.agg #[.int .i64 2, .int .i64 kind, .int .i64 ag, .int .i64 sh, .int .i64 seq, .int .i64 ep, .slice Aa dn na, .string ser, .int .i64 fr, .int .i64 etg, .int .i64 tag, .int .i64 code, .int .u64 nn, .int .i64 term, .int .i64 had, .slice Ba ln ka, .int .i64 commit, .int .i64 len]] w fun r w' => SamePost R w r w'
 go_enter Tryz.func150, Tryz.ntmps150
 go_upto_region 1 with (fail)
 rw [← Hw2.out]
 clear Hw2
 obtain ⟨q0, q1, q2, q3, q4, q5, q6, q7, q8, q9, qa, qb, qc, qd, qe, qf, qg, qh, qz⟩ := blk18 HBa.out
 go_wp2_with fail
 refine (hse2.out _ Hk2.out).mono ?_
 rintro r w3 ⟨rfl, hb3⟩
 have HB3 := Lib.hid (HBa.out.below hb3 hgw)
 have Hk3 : Hid (Below w.heap.size w w3) := below_then Hk2.out.below hb3
 clear hb3 q0 q1 q2 q3 q4 q5 q6 q7 q8 q9 qa qb qc qd qe qf qg qh qz hse2
 obtain ⟨q0, q1, q2, q3, q4, q5, q6, q7, q8, q9, qa, qb, qc, qd, qe, qf, qg, qh, qz⟩ := blk18 HB3.out
 cases EB with
 | false =>
  have hR : Hid (R = false) := by show _ = _; rw [HR.out]; rfl
  clear HR
  go_wp2
  go_ret
  exact ⟨by rw [hR.out]; rfl, Hk3.out⟩
 | true =>
  rw [Bool.true_and] at HR
  cases hcTM : (term == 0) with
  | false =>
   have hbTM : (term != 0) = true := by rw [bne, hcTM]; rfl
   have hR : Hid (R = false) := by show _ = _; rw [HR.out, hcTM]; rfl
   clear HR
   go_wp2
   go_ret
   exact ⟨by rw [hR.out]; rfl, Hk3.out⟩
  | true =>
   have hbTM : (term != 0) = false := by rw [bne, hcTM]; rfl
   rw [hcTM, Bool.true_and] at HR
   cases hcH : (had == 0) with
   | false =>
    have hbH : (had != 0) = true := by rw [bne, hcH]; rfl
    have hR : Hid (R = false) := by show _ = _; rw [HR.out, hcH]; rfl
    clear HR
    go_wp2
    go_ret
    exact ⟨by rw [hR.out]; rfl, Hk3.out⟩
   | true =>
    have hbH : (had != 0) = false := by rw [bne, hcH]; rfl
    rw [hcH, Bool.true_and] at HR
    cases hcL : (ln == 0) with
    | false =>
     have hb1 : ((ln : Int) == 0) = false := by rw [beq_eq_false_iff_ne] at hcL ⊢; omega
     have hb2 : ((ln : Int) != 0) = true := by rw [bne, hb1]; rfl
     have hR : Hid (R = false) := by show _ = _; rw [HR.out, hcL]; rfl
     clear HR
     go_wp2
     go_ret
     exact ⟨by rw [hR.out]; rfl, Hk3.out⟩
    | true =>
     have hb1 : ((ln : Int) == 0) = true := by rw [beq_iff_eq] at hcL ⊢; omega
     have hb2 : ((ln : Int) != 0) = false := by rw [bne, hb1]; rfl
     rw [hcL, Bool.true_and] at HR
     cases hcCM : (commit == 0) with
     | false =>
      have hbCM : (commit != 0) = true := by rw [bne, hcCM]; rfl
      have hR : Hid (R = false) := by show _ = _; rw [HR.out, hcCM]; rfl
      clear HR
      go_wp2
      go_ret
      exact ⟨by rw [hR.out]; rfl, Hk3.out⟩
     | true =>
      have hbCM : (commit != 0) = false := by rw [bne, hcCM]; rfl
      rw [hcCM, Bool.true_and] at HR
      cases hcLN : (len == 0) with
      | false =>
       have hbLN : (len != 0) = true := by rw [bne, hcLN]; rfl
       have hR : Hid (R = false) := by show _ = _; rw [HR.out, hcLN]
       clear HR
       go_wp2
       go_ret
       exact ⟨by rw [hR.out]; rfl, Hk3.out⟩
      | true =>
       have hbLN : (len != 0) = false := by rw [bne, hcLN]; rfl
       replace HR : Hid (R = true) := by show _ = _; rw [HR.out, hcLN]
       go_wp2
       go_ret
       exact ⟨by rw [HR.out]; rfl, Hk3.out⟩
set_option maxRecDepth 100000 in
set_option maxHeartbeats 4000000 in
theorem rnone_3 (m : MsgD) (dv lv : Value) (w : World) (ha : MsgAt w [] m dv lv) (ca : MCnt m) (hk0 : m.kd = 3) :
  Calls Tryz.prog 150 #[.agg (mCell m dv lv).toArray] w fun r w' => SamePost (zeroS m) w r w' := by
 have HR := Lib.hid (zeroS_3 m hk0)
 have hse := Lib.hid (fun W (hk : Keeps [] w W) => rsame_any dv (.slice none 0 0) m.en zeroD W (ha.1.keep hk (by simp)) (Ds.nil _ _) ca.1 (by show (0 : Nat) ≤ _; omega))
 obtain ⟨Aa, na, rfl, _⟩ := ha.1.len
 obtain ⟨Ba, ka, rfl, _⟩ := ha.2.len
 generalize zeroS m = R at *
 clear ha ca
 obtain ⟨kd, ⟨kind, ag, sh, seq, ep, ds, ser, fr, etg⟩, tag, code, nn, term, had, log, commit, len⟩ := m
 simp only [] at hk0 HR hse
 subst hk0
 simp only [mCell, eCell, List.cons_append, List.nil_append]
 obtain ⟨EB, hEB⟩ : ∃ EB, EB = sameE ⟨kind, ag, sh, seq, ep, ds, ser, fr, etg⟩ zeroD := ⟨_, rfl⟩
 have hse2 : Hid (∀ W, Keeps [] w W → Calls Tryz.prog 24 #[.agg #[.int .i64 kind, .int .i64 ag, .int .i64 sh, .int .i64 seq, .int .i64 ep, .slice Aa ds.length na, .string ser, .int .i64 fr, .int .i64 etg], .agg #[.int .i64 0, .int .i64 0, .int .i64 0, .int .i64 0, .int .i64 0, .slice none 0 0, .string ⟨#[]⟩, .int .i64 0, .int .i64 0]] W fun r w' => SamePost EB W r w') := fun W hk => by rw [hEB]; exact hse.out W hk
 try rw [← hEB] at HR
 clear hse hEB
 generalize hdn : ds.length = dn at *
 generalize hln : log.length = ln at *
 clear hdn hln
 obtain ⟨w2, hw2⟩ : ∃ w2, w2 = w.alloc (.cells #[.int .i64 3, .int .i64 kind, .int .i64 ag, .int .i64 sh, .int .i64 seq, .int .i64 ep, .slice Aa dn na, .string ser, .int .i64 fr, .int .i64 etg, .int .i64 tag, .int .i64 code, .int .u64 nn, .int .i64 term, .int .i64 had, .slice Ba ln ka, .int .i64 commit, .int .i64 len] 68) := ⟨_, rfl⟩
 have hk2 : Keeps [] w w2 := by rw [hw2]; exact (Keeps.refl _ _).alloc _
 have hBa : Blk w2 w.heap.size 68 #[.int .i64 3, .int .i64 kind, .int .i64 ag, .int .i64 sh, .int .i64 seq, .int .i64 ep, .slice Aa dn na, .string ser, .int .i64 fr, .int .i64 etg, .int .i64 tag, .int .i64 code, .int .u64 nn, .int .i64 term, .int .i64 had, .slice Ba ln ka, .int .i64 commit, .int .i64 len] := by rw [hw2]; exact Blk.new w _ _
 have Hw2 := Lib.hid hw2; have HBa := Lib.hid hBa; have Hk2 := Lib.hid hk2
 have hgw : w.heap.size < w2.heap.size := hBa.lt
 clear hw2 hBa hk2
 show Calls Tryz.prog 150 #[.agg #[.int .i64 3, .int .i64 kind, .int .i64 ag, .int .i64 sh, .int .i64 seq, .int .i64 ep, .slice Aa dn na, .string ser, .int .i64 fr, .int .i64 etg, .int .i64 tag, .int .i64 code, .int .u64 nn, .int .i64 term, .int .i64 had, .slice Ba ln ka, .int .i64 commit, .int .i64 len]] w fun r w' => SamePost R w r w'
 go_enter Tryz.func150, Tryz.ntmps150
 go_upto_region 1 with (fail)
 rw [← Hw2.out]
 clear Hw2
 obtain ⟨q0, q1, q2, q3, q4, q5, q6, q7, q8, q9, qa, qb, qc, qd, qe, qf, qg, qh, qz⟩ := blk18 HBa.out
 go_wp2_with fail
 refine (hse2.out _ Hk2.out).mono ?_
 rintro r w3 ⟨rfl, hb3⟩
 have HB3 := Lib.hid (HBa.out.below hb3 hgw)
 have Hk3 : Hid (Below w.heap.size w w3) := below_then Hk2.out.below hb3
 clear hb3 q0 q1 q2 q3 q4 q5 q6 q7 q8 q9 qa qb qc qd qe qf qg qh qz hse2
 obtain ⟨q0, q1, q2, q3, q4, q5, q6, q7, q8, q9, qa, qb, qc, qd, qe, qf, qg, qh, qz⟩ := blk18 HB3.out
 cases EB with
 | false =>
  have hR : Hid (R = false) := by show _ = _; rw [HR.out]; rfl
  clear HR
  go_wp2
  go_ret
  exact ⟨by rw [hR.out]; rfl, Hk3.out⟩
 | true =>
  rw [Bool.true_and] at HR
  cases hcT : (tag == 0) with
  | false =>
   have hbT : (tag != 0) = true := by rw [bne, hcT]; rfl
   have hR : Hid (R = false) := by show _ = _; rw [HR.out, hcT]; rfl
   clear HR
   go_wp2
   go_ret
   exact ⟨by rw [hR.out]; rfl, Hk3.out⟩
  | true =>
   have hbT : (tag != 0) = false := by rw [bne, hcT]; rfl
   rw [hcT, Bool.true_and] at HR
   cases hcC : (code == 0) with
   | false =>
    have hbC : (code != 0) = true := by rw [bne, hcC]; rfl
    have hR : Hid (R = false) := by show _ = _; rw [HR.out, hcC]; rfl
    clear HR
    go_wp2
    go_ret
    exact ⟨by rw [hR.out]; rfl, Hk3.out⟩
   | true =>
    have hbC : (code != 0) = false := by rw [bne, hcC]; rfl
    rw [hcC, Bool.true_and] at HR
    cases hcN : (nn == 0) with
    | false =>
     have hbN : (nn != 0) = true := by rw [bne, hcN]; rfl
     have hR : Hid (R = false) := by show _ = _; rw [HR.out, hcN]; rfl
     clear HR
     go_wp2
     go_ret
     exact ⟨by rw [hR.out]; rfl, Hk3.out⟩
    | true =>
     have hbN : (nn != 0) = false := by rw [bne, hcN]; rfl
     rw [hcN, Bool.true_and] at HR
     cases hcH : (had == 0) with
     | false =>
      have hbH : (had != 0) = true := by rw [bne, hcH]; rfl
      have hR : Hid (R = false) := by show _ = _; rw [HR.out, hcH]; rfl
      clear HR
      go_wp2
      go_ret
      exact ⟨by rw [hR.out]; rfl, Hk3.out⟩
     | true =>
      have hbH : (had != 0) = false := by rw [bne, hcH]; rfl
      rw [hcH, Bool.true_and] at HR
      cases hcL : (ln == 0) with
      | false =>
       have hb1 : ((ln : Int) == 0) = false := by rw [beq_eq_false_iff_ne] at hcL ⊢; omega
       have hb2 : ((ln : Int) != 0) = true := by rw [bne, hb1]; rfl
       have hR : Hid (R = false) := by show _ = _; rw [HR.out, hcL]; rfl
       clear HR
       go_wp2
       go_ret
       exact ⟨by rw [hR.out]; rfl, Hk3.out⟩
      | true =>
       have hb1 : ((ln : Int) == 0) = true := by rw [beq_iff_eq] at hcL ⊢; omega
       have hb2 : ((ln : Int) != 0) = false := by rw [bne, hb1]; rfl
       rw [hcL, Bool.true_and] at HR
       cases hcCM : (commit == 0) with
       | false =>
        have hbCM : (commit != 0) = true := by rw [bne, hcCM]; rfl
        have hR : Hid (R = false) := by show _ = _; rw [HR.out, hcCM]; rfl
        clear HR
        go_wp2
        go_ret
        exact ⟨by rw [hR.out]; rfl, Hk3.out⟩
       | true =>
        have hbCM : (commit != 0) = false := by rw [bne, hcCM]; rfl
        rw [hcCM, Bool.true_and] at HR
        cases hcLN : (len == 0) with
        | false =>
         have hbLN : (len != 0) = true := by rw [bne, hcLN]; rfl
         have hR : Hid (R = false) := by show _ = _; rw [HR.out, hcLN]
         clear HR
         go_wp2
         go_ret
         exact ⟨by rw [hR.out]; rfl, Hk3.out⟩
        | true =>
         have hbLN : (len != 0) = false := by rw [bne, hcLN]; rfl
         replace HR : Hid (R = true) := by show _ = _; rw [HR.out, hcLN]
         go_wp2
         go_ret
         exact ⟨by rw [HR.out]; rfl, Hk3.out⟩
set_option maxRecDepth 100000 in
set_option maxHeartbeats 4000000 in
theorem rnone_4 (m : MsgD) (dv lv : Value) (w : World) (ha : MsgAt w [] m dv lv) (ca : MCnt m) (hk0 : m.kd = 4) :
  Calls Tryz.prog 150 #[.agg (mCell m dv lv).toArray] w fun r w' => SamePost (zeroS m) w r w' := by
 have HR := Lib.hid (zeroS_4 m hk0)
 have hse := Lib.hid (fun W (hk : Keeps [] w W) => rsame_any dv (.slice none 0 0) m.en zeroD W (ha.1.keep hk (by simp)) (Ds.nil _ _) ca.1 (by show (0 : Nat) ≤ _; omega))
 obtain ⟨Aa, na, rfl, _⟩ := ha.1.len
 obtain ⟨Ba, ka, rfl, _⟩ := ha.2.len
 generalize zeroS m = R at *
 clear ha ca
 obtain ⟨kd, ⟨kind, ag, sh, seq, ep, ds, ser, fr, etg⟩, tag, code, nn, term, had, log, commit, len⟩ := m
 simp only [] at hk0 HR hse
 subst hk0
 simp only [mCell, eCell, List.cons_append, List.nil_append]
 obtain ⟨EB, hEB⟩ : ∃ EB, EB = sameE ⟨kind, ag, sh, seq, ep, ds, ser, fr, etg⟩ zeroD := ⟨_, rfl⟩
 have hse2 : Hid (∀ W, Keeps [] w W → Calls Tryz.prog 24 #[.agg #[.int .i64 kind, .int .i64 ag, .int .i64 sh, .int .i64 seq, .int .i64 ep, .slice Aa ds.length na, .string ser, .int .i64 fr, .int .i64 etg], .agg #[.int .i64 0, .int .i64 0, .int .i64 0, .int .i64 0, .int .i64 0, .slice none 0 0, .string ⟨#[]⟩, .int .i64 0, .int .i64 0]] W fun r w' => SamePost EB W r w') := fun W hk => by rw [hEB]; exact hse.out W hk
 try rw [← hEB] at HR
 clear hse hEB
 generalize hdn : ds.length = dn at *
 generalize hln : log.length = ln at *
 clear hdn hln
 obtain ⟨w2, hw2⟩ : ∃ w2, w2 = w.alloc (.cells #[.int .i64 4, .int .i64 kind, .int .i64 ag, .int .i64 sh, .int .i64 seq, .int .i64 ep, .slice Aa dn na, .string ser, .int .i64 fr, .int .i64 etg, .int .i64 tag, .int .i64 code, .int .u64 nn, .int .i64 term, .int .i64 had, .slice Ba ln ka, .int .i64 commit, .int .i64 len] 68) := ⟨_, rfl⟩
 have hk2 : Keeps [] w w2 := by rw [hw2]; exact (Keeps.refl _ _).alloc _
 have hBa : Blk w2 w.heap.size 68 #[.int .i64 4, .int .i64 kind, .int .i64 ag, .int .i64 sh, .int .i64 seq, .int .i64 ep, .slice Aa dn na, .string ser, .int .i64 fr, .int .i64 etg, .int .i64 tag, .int .i64 code, .int .u64 nn, .int .i64 term, .int .i64 had, .slice Ba ln ka, .int .i64 commit, .int .i64 len] := by rw [hw2]; exact Blk.new w _ _
 have Hw2 := Lib.hid hw2; have HBa := Lib.hid hBa; have Hk2 := Lib.hid hk2
 have hgw : w.heap.size < w2.heap.size := hBa.lt
 clear hw2 hBa hk2
 show Calls Tryz.prog 150 #[.agg #[.int .i64 4, .int .i64 kind, .int .i64 ag, .int .i64 sh, .int .i64 seq, .int .i64 ep, .slice Aa dn na, .string ser, .int .i64 fr, .int .i64 etg, .int .i64 tag, .int .i64 code, .int .u64 nn, .int .i64 term, .int .i64 had, .slice Ba ln ka, .int .i64 commit, .int .i64 len]] w fun r w' => SamePost R w r w'
 go_enter Tryz.func150, Tryz.ntmps150
 go_upto_region 1 with (fail)
 rw [← Hw2.out]
 clear Hw2
 obtain ⟨q0, q1, q2, q3, q4, q5, q6, q7, q8, q9, qa, qb, qc, qd, qe, qf, qg, qh, qz⟩ := blk18 HBa.out
 go_wp2_with fail
 refine (hse2.out _ Hk2.out).mono ?_
 rintro r w3 ⟨rfl, hb3⟩
 have HB3 := Lib.hid (HBa.out.below hb3 hgw)
 have Hk3 : Hid (Below w.heap.size w w3) := below_then Hk2.out.below hb3
 clear hb3 q0 q1 q2 q3 q4 q5 q6 q7 q8 q9 qa qb qc qd qe qf qg qh qz hse2
 obtain ⟨q0, q1, q2, q3, q4, q5, q6, q7, q8, q9, qa, qb, qc, qd, qe, qf, qg, qh, qz⟩ := blk18 HB3.out
 cases EB with
 | false =>
  have hR : Hid (R = false) := by show _ = _; rw [HR.out]; rfl
  clear HR
  go_wp2
  go_ret
  exact ⟨by rw [hR.out]; rfl, Hk3.out⟩
 | true =>
  rw [Bool.true_and] at HR
  cases hcT : (tag == 0) with
  | false =>
   have hbT : (tag != 0) = true := by rw [bne, hcT]; rfl
   have hR : Hid (R = false) := by show _ = _; rw [HR.out, hcT]; rfl
   clear HR
   go_wp2
   go_ret
   exact ⟨by rw [hR.out]; rfl, Hk3.out⟩
  | true =>
   have hbT : (tag != 0) = false := by rw [bne, hcT]; rfl
   rw [hcT, Bool.true_and] at HR
   cases hcC : (code == 0) with
   | false =>
    have hbC : (code != 0) = true := by rw [bne, hcC]; rfl
    have hR : Hid (R = false) := by show _ = _; rw [HR.out, hcC]; rfl
    clear HR
    go_wp2
    go_ret
    exact ⟨by rw [hR.out]; rfl, Hk3.out⟩
   | true =>
    have hbC : (code != 0) = false := by rw [bne, hcC]; rfl
    rw [hcC, Bool.true_and] at HR
    cases hcN : (nn == 0) with
    | false =>
     have hbN : (nn != 0) = true := by rw [bne, hcN]; rfl
     have hR : Hid (R = false) := by show _ = _; rw [HR.out, hcN]; rfl
     clear HR
     go_wp2
     go_ret
     exact ⟨by rw [hR.out]; rfl, Hk3.out⟩
    | true =>
     have hbN : (nn != 0) = false := by rw [bne, hcN]; rfl
     rw [hcN, Bool.true_and] at HR
     cases hcCM : (commit == 0) with
     | false =>
      have hbCM : (commit != 0) = true := by rw [bne, hcCM]; rfl
      have hR : Hid (R = false) := by show _ = _; rw [HR.out, hcCM]; rfl
      clear HR
      go_wp2
      go_ret
      exact ⟨by rw [hR.out]; rfl, Hk3.out⟩
     | true =>
      have hbCM : (commit != 0) = false := by rw [bne, hcCM]; rfl
      rw [hcCM, Bool.true_and] at HR
      cases hcLN : (len == 0) with
      | false =>
       have hbLN : (len != 0) = true := by rw [bne, hcLN]; rfl
       have hR : Hid (R = false) := by show _ = _; rw [HR.out, hcLN]
       clear HR
       go_wp2
       go_ret
       exact ⟨by rw [hR.out]; rfl, Hk3.out⟩
      | true =>
       have hbLN : (len != 0) = false := by rw [bne, hcLN]; rfl
       replace HR : Hid (R = true) := by show _ = _; rw [HR.out, hcLN]
       go_wp2
       go_ret
       exact ⟨by rw [HR.out]; rfl, Hk3.out⟩
set_option maxRecDepth 100000 in
set_option maxHeartbeats 4000000 in
theorem rnone_5 (m : MsgD) (dv lv : Value) (w : World) (ha : MsgAt w [] m dv lv) (ca : MCnt m) (hk0 : m.kd = 5) :
  Calls Tryz.prog 150 #[.agg (mCell m dv lv).toArray] w fun r w' => SamePost (zeroS m) w r w' := by
 have HR := Lib.hid (zeroS_5 m hk0)
 have hse := Lib.hid (fun W (hk : Keeps [] w W) => rsame_any dv (.slice none 0 0) m.en zeroD W (ha.1.keep hk (by simp)) (Ds.nil _ _) ca.1 (by show (0 : Nat) ≤ _; omega))
 obtain ⟨Aa, na, rfl, _⟩ := ha.1.len
 obtain ⟨Ba, ka, rfl, _⟩ := ha.2.len
 generalize zeroS m = R at *
 clear ha ca
 obtain ⟨kd, ⟨kind, ag, sh, seq, ep, ds, ser, fr, etg⟩, tag, code, nn, term, had, log, commit, len⟩ := m
 simp only [] at hk0 HR hse
 subst hk0
 simp only [mCell, eCell, List.cons_append, List.nil_append]
 obtain ⟨EB, hEB⟩ : ∃ EB, EB = sameE ⟨kind, ag, sh, seq, ep, ds, ser, fr, etg⟩ zeroD := ⟨_, rfl⟩
 have hse2 : Hid (∀ W, Keeps [] w W → Calls Tryz.prog 24 #[.agg #[.int .i64 kind, .int .i64 ag, .int .i64 sh, .int .i64 seq, .int .i64 ep, .slice Aa ds.length na, .string ser, .int .i64 fr, .int .i64 etg], .agg #[.int .i64 0, .int .i64 0, .int .i64 0, .int .i64 0, .int .i64 0, .slice none 0 0, .string ⟨#[]⟩, .int .i64 0, .int .i64 0]] W fun r w' => SamePost EB W r w') := fun W hk => by rw [hEB]; exact hse.out W hk
 try rw [← hEB] at HR
 clear hse hEB
 generalize hdn : ds.length = dn at *
 generalize hln : log.length = ln at *
 clear hdn hln
 obtain ⟨w2, hw2⟩ : ∃ w2, w2 = w.alloc (.cells #[.int .i64 5, .int .i64 kind, .int .i64 ag, .int .i64 sh, .int .i64 seq, .int .i64 ep, .slice Aa dn na, .string ser, .int .i64 fr, .int .i64 etg, .int .i64 tag, .int .i64 code, .int .u64 nn, .int .i64 term, .int .i64 had, .slice Ba ln ka, .int .i64 commit, .int .i64 len] 68) := ⟨_, rfl⟩
 have hk2 : Keeps [] w w2 := by rw [hw2]; exact (Keeps.refl _ _).alloc _
 have hBa : Blk w2 w.heap.size 68 #[.int .i64 5, .int .i64 kind, .int .i64 ag, .int .i64 sh, .int .i64 seq, .int .i64 ep, .slice Aa dn na, .string ser, .int .i64 fr, .int .i64 etg, .int .i64 tag, .int .i64 code, .int .u64 nn, .int .i64 term, .int .i64 had, .slice Ba ln ka, .int .i64 commit, .int .i64 len] := by rw [hw2]; exact Blk.new w _ _
 have Hw2 := Lib.hid hw2; have HBa := Lib.hid hBa; have Hk2 := Lib.hid hk2
 have hgw : w.heap.size < w2.heap.size := hBa.lt
 clear hw2 hBa hk2
 show Calls Tryz.prog 150 #[.agg #[.int .i64 5, .int .i64 kind, .int .i64 ag, .int .i64 sh, .int .i64 seq, .int .i64 ep, .slice Aa dn na, .string ser, .int .i64 fr, .int .i64 etg, .int .i64 tag, .int .i64 code, .int .u64 nn, .int .i64 term, .int .i64 had, .slice Ba ln ka, .int .i64 commit, .int .i64 len]] w fun r w' => SamePost R w r w'
 go_enter Tryz.func150, Tryz.ntmps150
 go_upto_region 1 with (fail)
 rw [← Hw2.out]
 clear Hw2
 obtain ⟨q0, q1, q2, q3, q4, q5, q6, q7, q8, q9, qa, qb, qc, qd, qe, qf, qg, qh, qz⟩ := blk18 HBa.out
 go_wp2_with fail
 refine (hse2.out _ Hk2.out).mono ?_
 rintro r w3 ⟨rfl, hb3⟩
 have HB3 := Lib.hid (HBa.out.below hb3 hgw)
 have Hk3 : Hid (Below w.heap.size w w3) := below_then Hk2.out.below hb3
 clear hb3 q0 q1 q2 q3 q4 q5 q6 q7 q8 q9 qa qb qc qd qe qf qg qh qz hse2
 obtain ⟨q0, q1, q2, q3, q4, q5, q6, q7, q8, q9, qa, qb, qc, qd, qe, qf, qg, qh, qz⟩ := blk18 HB3.out
 cases EB with
 | false =>
  have hR : Hid (R = false) := by show _ = _; rw [HR.out]; rfl
  clear HR
  go_wp2
  go_ret
  exact ⟨by rw [hR.out]; rfl, Hk3.out⟩
 | true =>
  rw [Bool.true_and] at HR
  cases hcT : (tag == 0) with
  | false =>
   have hbT : (tag != 0) = true := by rw [bne, hcT]; rfl
   have hR : Hid (R = false) := by show _ = _; rw [HR.out, hcT]; rfl
   clear HR
   go_wp2
   go_ret
   exact ⟨by rw [hR.out]; rfl, Hk3.out⟩
  | true =>
   have hbT : (tag != 0) = false := by rw [bne, hcT]; rfl
   rw [hcT, Bool.true_and] at HR
   cases hcC : (code == 0) with
   | false =>
    have hbC : (code != 0) = true := by rw [bne, hcC]; rfl
    have hR : Hid (R = false) := by show _ = _; rw [HR.out, hcC]; rfl
    clear HR
    go_wp2
    go_ret
    exact ⟨by rw [hR.out]; rfl, Hk3.out⟩
   | true =>
    have hbC : (code != 0) = false := by rw [bne, hcC]; rfl
    rw [hcC, Bool.true_and] at HR
    cases hcN : (nn == 0) with
    | false =>
     have hbN : (nn != 0) = true := by rw [bne, hcN]; rfl
     have hR : Hid (R = false) := by show _ = _; rw [HR.out, hcN]; rfl
     clear HR
     go_wp2
     go_ret
     exact ⟨by rw [hR.out]; rfl, Hk3.out⟩
    | true =>
     have hbN : (nn != 0) = false := by rw [bne, hcN]; rfl
     rw [hcN, Bool.true_and] at HR
     cases hcH : (had == 0) with
     | false =>
      have hbH : (had != 0) = true := by rw [bne, hcH]; rfl
      have hR : Hid (R = false) := by show _ = _; rw [HR.out, hcH]; rfl
      clear HR
      go_wp2
      go_ret
      exact ⟨by rw [hR.out]; rfl, Hk3.out⟩
     | true =>
      have hbH : (had != 0) = false := by rw [bne, hcH]; rfl
      rw [hcH, Bool.true_and] at HR
      cases hcLN : (len == 0) with
      | false =>
       have hbLN : (len != 0) = true := by rw [bne, hcLN]; rfl
       have hR : Hid (R = false) := by show _ = _; rw [HR.out, hcLN]
       clear HR
       go_wp2
       go_ret
       exact ⟨by rw [hR.out]; rfl, Hk3.out⟩
      | true =>
       have hbLN : (len != 0) = false := by rw [bne, hcLN]; rfl
       replace HR : Hid (R = true) := by show _ = _; rw [HR.out, hcLN]
       go_wp2
       go_ret
       exact ⟨by rw [HR.out]; rfl, Hk3.out⟩
set_option maxRecDepth 100000 in
set_option maxHeartbeats 4000000 in
theorem rnone_6 (m : MsgD) (dv lv : Value) (w : World) (ha : MsgAt w [] m dv lv) (ca : MCnt m) (hk0 : m.kd = 6) :
  Calls Tryz.prog 150 #[.agg (mCell m dv lv).toArray] w fun r w' => SamePost (zeroS m) w r w' := by
 have HR := Lib.hid (zeroS_6 m hk0)
 have hse := Lib.hid (fun W (hk : Keeps [] w W) => rsame_any dv (.slice none 0 0) m.en zeroD W (ha.1.keep hk (by simp)) (Ds.nil _ _) ca.1 (by show (0 : Nat) ≤ _; omega))
 obtain ⟨Aa, na, rfl, _⟩ := ha.1.len
 obtain ⟨Ba, ka, rfl, _⟩ := ha.2.len
 generalize zeroS m = R at *
 clear ha ca
 obtain ⟨kd, ⟨kind, ag, sh, seq, ep, ds, ser, fr, etg⟩, tag, code, nn, term, had, log, commit, len⟩ := m
 simp only [] at hk0 HR hse
 subst hk0
 simp only [mCell, eCell, List.cons_append, List.nil_append]
 obtain ⟨EB, hEB⟩ : ∃ EB, EB = sameE ⟨kind, ag, sh, seq, ep, ds, ser, fr, etg⟩ zeroD := ⟨_, rfl⟩
 have hse2 : Hid (∀ W, Keeps [] w W → Calls Tryz.prog 24 #[.agg #[.int .i64 kind, .int .i64 ag, .int .i64 sh, .int .i64 seq, .int .i64 ep, .slice Aa ds.length na, .string ser, .int .i64 fr, .int .i64 etg], .agg #[.int .i64 0, .int .i64 0, .int .i64 0, .int .i64 0, .int .i64 0, .slice none 0 0, .string ⟨#[]⟩, .int .i64 0, .int .i64 0]] W fun r w' => SamePost EB W r w') := fun W hk => by rw [hEB]; exact hse.out W hk
 try rw [← hEB] at HR
 clear hse hEB
 generalize hdn : ds.length = dn at *
 generalize hln : log.length = ln at *
 clear hdn hln
 obtain ⟨w2, hw2⟩ : ∃ w2, w2 = w.alloc (.cells #[.int .i64 6, .int .i64 kind, .int .i64 ag, .int .i64 sh, .int .i64 seq, .int .i64 ep, .slice Aa dn na, .string ser, .int .i64 fr, .int .i64 etg, .int .i64 tag, .int .i64 code, .int .u64 nn, .int .i64 term, .int .i64 had, .slice Ba ln ka, .int .i64 commit, .int .i64 len] 68) := ⟨_, rfl⟩
 have hk2 : Keeps [] w w2 := by rw [hw2]; exact (Keeps.refl _ _).alloc _
 have hBa : Blk w2 w.heap.size 68 #[.int .i64 6, .int .i64 kind, .int .i64 ag, .int .i64 sh, .int .i64 seq, .int .i64 ep, .slice Aa dn na, .string ser, .int .i64 fr, .int .i64 etg, .int .i64 tag, .int .i64 code, .int .u64 nn, .int .i64 term, .int .i64 had, .slice Ba ln ka, .int .i64 commit, .int .i64 len] := by rw [hw2]; exact Blk.new w _ _
 have Hw2 := Lib.hid hw2; have HBa := Lib.hid hBa; have Hk2 := Lib.hid hk2
 have hgw : w.heap.size < w2.heap.size := hBa.lt
 clear hw2 hBa hk2
 show Calls Tryz.prog 150 #[.agg #[.int .i64 6, .int .i64 kind, .int .i64 ag, .int .i64 sh, .int .i64 seq, .int .i64 ep, .slice Aa dn na, .string ser, .int .i64 fr, .int .i64 etg, .int .i64 tag, .int .i64 code, .int .u64 nn, .int .i64 term, .int .i64 had, .slice Ba ln ka, .int .i64 commit, .int .i64 len]] w fun r w' => SamePost R w r w'
 go_enter Tryz.func150, Tryz.ntmps150
 go_upto_region 1 with (fail)
 rw [← Hw2.out]
 clear Hw2
 obtain ⟨q0, q1, q2, q3, q4, q5, q6, q7, q8, q9, qa, qb, qc, qd, qe, qf, qg, qh, qz⟩ := blk18 HBa.out
 go_wp2_with fail
 refine (hse2.out _ Hk2.out).mono ?_
 rintro r w3 ⟨rfl, hb3⟩
 have HB3 := Lib.hid (HBa.out.below hb3 hgw)
 have Hk3 : Hid (Below w.heap.size w w3) := below_then Hk2.out.below hb3
 clear hb3 q0 q1 q2 q3 q4 q5 q6 q7 q8 q9 qa qb qc qd qe qf qg qh qz hse2
 obtain ⟨q0, q1, q2, q3, q4, q5, q6, q7, q8, q9, qa, qb, qc, qd, qe, qf, qg, qh, qz⟩ := blk18 HB3.out
 cases EB with
 | false =>
  have hR : Hid (R = false) := by show _ = _; rw [HR.out]; rfl
  clear HR
  go_wp2
  go_ret
  exact ⟨by rw [hR.out]; rfl, Hk3.out⟩
 | true =>
  rw [Bool.true_and] at HR
  cases hcT : (tag == 0) with
  | false =>
   have hbT : (tag != 0) = true := by rw [bne, hcT]; rfl
   have hR : Hid (R = false) := by show _ = _; rw [HR.out, hcT]; rfl
   clear HR
   go_wp2
   go_ret
   exact ⟨by rw [hR.out]; rfl, Hk3.out⟩
  | true =>
   have hbT : (tag != 0) = false := by rw [bne, hcT]; rfl
   rw [hcT, Bool.true_and] at HR
   cases hcC : (code == 0) with
   | false =>
    have hbC : (code != 0) = true := by rw [bne, hcC]; rfl
    have hR : Hid (R = false) := by show _ = _; rw [HR.out, hcC]; rfl
    clear HR
    go_wp2
    go_ret
    exact ⟨by rw [hR.out]; rfl, Hk3.out⟩
   | true =>
    have hbC : (code != 0) = false := by rw [bne, hcC]; rfl
    rw [hcC, Bool.true_and] at HR
    cases hcN : (nn == 0) with
    | false =>
     have hbN : (nn != 0) = true := by rw [bne, hcN]; rfl
     have hR : Hid (R = false) := by show _ = _; rw [HR.out, hcN]; rfl
     clear HR
     go_wp2
     go_ret
     exact ⟨by rw [hR.out]; rfl, Hk3.out⟩
    | true =>
     have hbN : (nn != 0) = false := by rw [bne, hcN]; rfl
     rw [hcN, Bool.true_and] at HR
     cases hcH : (had == 0) with
     | false =>
      have hbH : (had != 0) = true := by rw [bne, hcH]; rfl
      have hR : Hid (R = false) := by show _ = _; rw [HR.out, hcH]; rfl
      clear HR
      go_wp2
      go_ret
      exact ⟨by rw [hR.out]; rfl, Hk3.out⟩
     | true =>
      have hbH : (had != 0) = false := by rw [bne, hcH]; rfl
      rw [hcH, Bool.true_and] at HR
      cases hcL : (ln == 0) with
      | false =>
       have hb1 : ((ln : Int) == 0) = false := by rw [beq_eq_false_iff_ne] at hcL ⊢; omega
       have hb2 : ((ln : Int) != 0) = true := by rw [bne, hb1]; rfl
       have hR : Hid (R = false) := by show _ = _; rw [HR.out, hcL]; rfl
       clear HR
       go_wp2
       go_ret
       exact ⟨by rw [hR.out]; rfl, Hk3.out⟩
      | true =>
       have hb1 : ((ln : Int) == 0) = true := by rw [beq_iff_eq] at hcL ⊢; omega
       have hb2 : ((ln : Int) != 0) = false := by rw [bne, hb1]; rfl
       rw [hcL, Bool.true_and] at HR
       cases hcCM : (commit == 0) with
       | false =>
        have hbCM : (commit != 0) = true := by rw [bne, hcCM]; rfl
        have hR : Hid (R = false) := by show _ = _; rw [HR.out, hcCM]
        clear HR
        go_wp2
        go_ret
        exact ⟨by rw [hR.out]; rfl, Hk3.out⟩
       | true =>
        have hbCM : (commit != 0) = false := by rw [bne, hcCM]; rfl
        replace HR : Hid (R = true) := by show _ = _; rw [HR.out, hcCM]
        go_wp2
        go_ret
        exact ⟨by rw [HR.out]; rfl, Hk3.out⟩
theorem rnone_any (m : MsgD) (dv lv : Value) (w : World) (ha : MsgAt w [] m dv lv) (ca : MCnt m) (h1 : 1 ≤ m.kd) (h2 : m.kd ≤ 6) :
  Calls Tryz.prog 150 #[.agg (mCell m dv lv).toArray] w fun r w' => SamePost (zeroS m) w r w' := by
 rcases (show m.kd = 1 ∨ m.kd = 2 ∨ m.kd = 3 ∨ m.kd = 4 ∨ m.kd = 5 ∨ m.kd = 6 by omega) with h | h | h | h | h | h
 ·exact rnone_1 m dv lv w ha ca h
 ·exact rnone_2 m dv lv w ha ca h
 ·exact rnone_3 m dv lv w ha ca h
 ·exact rnone_4 m dv lv w ha ca h
 ·exact rnone_5 m dv lv w ha ca h
 ·exact rnone_6 m dv lv w ha ca h
end Go.Proofs.YtinnifhnabncfaaGreatDoor.Vi
end
section
namespace Go.Proofs.YtinnifhnabncfaaGreatDoor.Vi
open Go.RowKit Base Mem Go.Shelf
set_option maxRecDepth 100000 in
set_option maxHeartbeats 2000000 in
theorem rmright_any (m : MsgD) (dv lv : Value) (mx : Int) (w : World) (ha : MsgAt w [] m dv lv) (hs : MShort m) (hm : w.cell? ⟨0, 0, none⟩ = some (.int .i64 mx)) :
  Calls Tryz.prog 94 #[.agg (mCell m dv lv).toArray] w fun r w' => NumPost (mrightS m) w r w' := by
 have hw0 : 0 < w.heap.size := by
  have := World.block_lt_of_cell? w _ hm
  simpa using this
 have hkeepm : Hid (∀ W, Keeps [] w W → W.cell? ⟨0, 0, none⟩ = some (.int .i64 mx)) := fun W hb => (hb.cell (p := ⟨0, 0, none⟩) hw0 (by simp)).trans hm
 have hz := Lib.hid (fun (g1 : 1 ≤ m.kd) (g2 : m.kd ≤ 6) W (hk : Keeps [] w W) => rnone_any m dv lv W (ha.keep hk (by simp)) hs.cnt g1 g2)
 have hri := Lib.hid (fun W (hk : Keeps [] w W) => rrightE_any m.en dv W (ha.1.keep hk (by simp)) hs.1)
 have HM : Hid (mrightS m = if m.kd < 1 ∨ 6 < m.kd ∨ zeroS m = false then 12 else if bad2 m = true then 1 else if 128 < m.log.length then 3 else if m.kd = 1 then rightE m.en else logRight m.log) := rfl
 have HB2 : Hid (bad2 m = (decide (m.tag < 0) || decide (m.term < 0) || decide (m.had < 0) || decide (m.commit < 0) || decide (m.len < 0) || decide (m.code < 0) || decide (255 < m.code) || decide (128 < m.commit) || decide (128 < m.len))) := rfl
 have Hl := Lib.hid ha.2
 have Hsl := Lib.hid hs.2.2
 have hll := hs.2.1
 obtain ⟨Aa, na, rfl, _⟩ := ha.1.len
 obtain ⟨Ba, ka, rfl, _⟩ := ha.2.len
 clear ha hs hm
 generalize mrightS m = R at *
 generalize bad2 m = b2 at *
 generalize zeroS m = z at *
 obtain ⟨kd, ⟨kind, ag, sh, seq, ep, ds, ser, fr, etg⟩, tag, code, nn, term, had, log, commit, len⟩ := m
 simp only [] at HM HB2 Hl Hsl hll hri hz
 simp only [mCell, eCell, List.cons_append, List.nil_append] at hz hri ⊢
 generalize rightE ⟨kind, ag, sh, seq, ep, ds, ser, fr, etg⟩ = re at *
 obtain ⟨w2, hw2⟩ : ∃ w2, w2 = w.alloc (.cells #[.int .i64 kd, .int .i64 kind, .int .i64 ag, .int .i64 sh, .int .i64 seq, .int .i64 ep, .slice Aa ds.length na, .string ser, .int .i64 fr, .int .i64 etg, .int .i64 tag, .int .i64 code, .int .u64 nn, .int .i64 term, .int .i64 had, .slice Ba log.length ka, .int .i64 commit, .int .i64 len] 68) := ⟨_, rfl⟩
 have hk2 : Keeps [] w w2 := by rw [hw2]; exact (Keeps.refl _ _).alloc _
 have hBa : Blk w2 w.heap.size 68 #[.int .i64 kd, .int .i64 kind, .int .i64 ag, .int .i64 sh, .int .i64 seq, .int .i64 ep, .slice Aa ds.length na, .string ser, .int .i64 fr, .int .i64 etg, .int .i64 tag, .int .i64 code, .int .u64 nn, .int .i64 term, .int .i64 had, .slice Ba log.length ka, .int .i64 commit, .int .i64 len] := by rw [hw2]; exact Blk.new w _ _
 have Hw2 := Lib.hid hw2; have HBa := Lib.hid hBa; have Hk2 := Lib.hid hk2
 clear hw2 hBa hk2
 show Calls Tryz.prog 94 #[.agg #[.int .i64 kd, .int .i64 kind, .int .i64 ag, .int .i64 sh, .int .i64 seq, .int .i64 ep, .slice Aa ds.length na, .string ser, .int .i64 fr, .int .i64 etg, .int .i64 tag, .int .i64 code, .int .u64 nn, .int .i64 term, .int .i64 had, .slice Ba log.length ka, .int .i64 commit, .int .i64 len]] w fun r w' => NumPost R w r w'
 go_enter Tryz.func94, Tryz.ntmps94
 go_upto_region 1 with (fail)
 rw [← Hw2.out]
 have hg2 : w.heap.size < w2.heap.size := HBa.out.lt
 generalize hgs : w.heap.size = g at HBa hg2 ⊢
 have Hgs := Lib.hid hgs
 clear Hw2 hgs
 obtain ⟨q0, q1, q2, q3, q4, q5, q6, q7, q8, q9, qa, qb, qc, qd, qe, qf, qg, qh, qz⟩ := blk18 HBa.out
 by_cases h1 : kd < 1
 ·obtain rfl : R = 12 := by rw [HM.out, if_pos (.inl h1)]
  go_wp2
  go_ret
  exact ⟨rfl, Hk2.out.below⟩
 have h1d : decide (kd < 1) = false := decide_eq_false h1
 by_cases h6 : 6 < kd
 ·obtain rfl : R = 12 := by rw [HM.out, if_pos (.inr (.inl h6))]
  go_wp2
  go_ret
  exact ⟨rfl, Hk2.out.below⟩
 have h6d : decide (6 < kd) = false := decide_eq_false h6
 have Hz2 := Lib.hid (hz.out (by omega) (by omega) w2 Hk2.out)
 have HR := Lib.hid (blk_range HBa.out)
 clear q0 q1 q2 q3 q4 q5 q6 q7 q8 q9 qa qb qc qd qe qf qg qh qz
 obtain ⟨q0, _⟩ := blk18 HBa.out
 go_wp2_with (refine wpList_load_g rfl 68 (.tmp 1) rfl g 0 rfl _ _ HR.out Tryz.underlying68 rfl (by kernel_rfl) ?_)
 refine Hz2.out.mono ?_
 rintro e w3 ⟨rfl, hb3⟩
 have HB3 := Lib.hid (HBa.out.below hb3 hg2)
 have Hk3 := Lib.hid (Hk2.out.trans (Keeps.of_below (M := []) hb3) (by simp))
 have hg3 : g < w3.heap.size := HB3.out.lt
 clear hb3 Hz2 hz HBa Hk2 hg2 q0
 obtain ⟨q0, q1, q2, q3, q4, q5, q6, q7, q8, q9, qa, qb, qc, qd, qe, qf, qg, qh, qz⟩ := blk18 HB3.out
 cases z with
 | false =>
  obtain rfl : R = 12 := by rw [HM.out, if_pos (.inr (.inr rfl))]
  go_wp2
  go_ret
  exact ⟨rfl, Hk3.out.below⟩
 | true =>
  have HM2 : Hid (R = if b2 = true then 1 else if 128 < log.length then 3 else if kd = 1 then re else logRight log) := by show _ = _; rw [HM.out, if_neg (by simp; omega)]
  clear HM
  cases c0 : (decide (tag < 0)) with
  | true =>
   obtain rfl : b2 = true := by rw [HB2.out, c0]; simp
   obtain rfl : R = 1 := by rw [HM2.out, if_pos rfl]
   clear HB2
   go_wp2
   go_ret
   exact ⟨rfl, Hk3.out.below⟩
  | false =>
   cases c1 : (decide (term < 0)) with
   | true =>
    obtain rfl : b2 = true := by rw [HB2.out, c0, c1]; simp
    obtain rfl : R = 1 := by rw [HM2.out, if_pos rfl]
    clear HB2
    go_wp2
    go_ret
    exact ⟨rfl, Hk3.out.below⟩
   | false =>
    cases c2 : (decide (had < 0)) with
    | true =>
     obtain rfl : b2 = true := by rw [HB2.out, c0, c1, c2]; simp
     obtain rfl : R = 1 := by rw [HM2.out, if_pos rfl]
     clear HB2
     go_wp2
     go_ret
     exact ⟨rfl, Hk3.out.below⟩
    | false =>
     cases c3 : (decide (commit < 0)) with
     | true =>
      obtain rfl : b2 = true := by rw [HB2.out, c0, c1, c2, c3]; simp
      obtain rfl : R = 1 := by rw [HM2.out, if_pos rfl]
      clear HB2
      go_wp2
      go_ret
      exact ⟨rfl, Hk3.out.below⟩
     | false =>
      cases c4 : (decide (len < 0)) with
      | true =>
       obtain rfl : b2 = true := by rw [HB2.out, c0, c1, c2, c3, c4]; simp
       obtain rfl : R = 1 := by rw [HM2.out, if_pos rfl]
       clear HB2
       go_wp2
       go_ret
       exact ⟨rfl, Hk3.out.below⟩
      | false =>
       cases c5 : (decide (code < 0)) with
       | true =>
        obtain rfl : b2 = true := by rw [HB2.out, c0, c1, c2, c3, c4, c5]; simp
        obtain rfl : R = 1 := by rw [HM2.out, if_pos rfl]
        clear HB2
        go_wp2
        go_ret
        exact ⟨rfl, Hk3.out.below⟩
       | false =>
        cases c6 : (decide (255 < code)) with
        | true =>
         obtain rfl : b2 = true := by rw [HB2.out, c0, c1, c2, c3, c4, c5, c6]; simp
         obtain rfl : R = 1 := by rw [HM2.out, if_pos rfl]
         clear HB2
         go_wp2
         go_ret
         exact ⟨rfl, Hk3.out.below⟩
        | false =>
         cases c7 : (decide (128 < commit)) with
         | true =>
          obtain rfl : b2 = true := by rw [HB2.out, c0, c1, c2, c3, c4, c5, c6, c7]; simp
          obtain rfl : R = 1 := by rw [HM2.out, if_pos rfl]
          clear HB2
          go_wp2
          go_ret
          exact ⟨rfl, Hk3.out.below⟩
         | false =>
          cases c8 : (decide (128 < len)) with
          | true =>
           obtain rfl : b2 = true := by rw [HB2.out, c0, c1, c2, c3, c4, c5, c6, c7, c8]; simp
           obtain rfl : R = 1 := by rw [HM2.out, if_pos rfl]
           clear HB2
           go_wp2
           go_ret
           exact ⟨rfl, Hk3.out.below⟩
          | false =>
           obtain rfl : b2 = false := by rw [HB2.out, c0, c1, c2, c3, c4, c5, c6, c7, c8]; rfl
           clear HB2
           by_cases hL : 128 < log.length
           ·obtain rfl : R = 3 := by rw [HM2.out, if_neg (by simp), if_pos hL]
            have hLi : (128 : Int) < (log.length : Int) := by omega
            clear HM2
            go_wp2
            go_ret
            exact ⟨rfl, Hk3.out.below⟩
           ·have hLi : decide ((128 : Int) < (log.length : Int)) = false := decide_eq_false (by omega)
            have HM3 : Hid (R = if kd = 1 then re else logRight log) := by show _ = _; rw [HM2.out, if_neg (by simp), if_neg hL]
            clear HM2
            by_cases hk1 : kd = 1
            ·obtain rfl : R = re := by rw [HM3.out, if_pos hk1]
             have hkd : (kd == 1) = true := by simpa using hk1
             have Hr := Lib.hid (hri.out w3 Hk3.out)
             clear HM3 hk1 hri
             go_wp2_with fail
             refine Hr.out.mono ?_
             rintro e w4 ⟨rfl, hb4⟩
             have Hb4 := Lib.hid (below_then Hk3.out.below hb4)
             clear hb4
             go_wp2
             go_ret
             exact ⟨rfl, Hb4.out⟩
            ·have hkd : (kd == 1) = false := by simpa using hk1
             have HM4 : Hid (R = logRight (log.drop 0)) := by show _ = _; rw [HM3.out, if_neg hk1]; rfl
             clear HM3 hk1 hri
             go_wp2_with fail
             go_loopw [75] (fun i wr => ∃ x : Nat, i = .int .i64 x ∧ x ≤ log.length ∧ Hid (R = logRight (log.drop x)) ∧ Hid (Keeps [] w wr)) (fun i _ => log.length - (intOf i).toNat)
             case atStart => exact ⟨0, rfl, by omega, HM4, Hk3.out⟩
             case round =>
              obtain ⟨x, rfl, hx, HR, Hkr⟩ := hrel
              by_cases hlt : x < log.length
              ·have hx1 : (x : Int) < (log.length : Int) := by omega
               have HR2 : Hid (R = if rightE log[x] = 0 then logRight (log.drop (x + 1)) else rightE log[x]) := by show _ = _; rw [HR.out, List.drop_eq_getElem_cons hlt]; rfl
               obtain ⟨gl, ol, _, dl, e1, _, _, hDl, hcl⟩ := ens_at (Hl.out.keep Hkr.out (by simp)) hlt
               injection e1 with e1 _ e9
               subst e1
               clear e9
               have hre := Lib.hid (fun W (hk : Keeps [] wr W) => rrightE_any log[x] dl W (hDl.keep hk (by simp)) (Hsl.out _ (List.getElem_mem _)))
               obtain ⟨Dl, nl, rfl, _⟩ := hDl.len
               have a0 := hcl 0 _ rfl; have a1 := hcl 1 _ rfl; have a2 := hcl 2 _ rfl; have a3 := hcl 3 _ rfl; have a4 := hcl 4 _ rfl; have a5 := hcl 5 _ rfl; have a6 := hcl 6 _ rfl; have a7 := hcl 7 _ rfl; have a8 := hcl 8 _ rfl
               rw [Nat.add_zero] at a0
               clear hcl hDl q0 q1 q2 q3 q4 q5 q6 q7 q8 q9 qa qb qc qd qe qf qg qh qz
               generalize log[x] = ee at *
               generalize rightE ee = rr at *
               obtain ⟨kind', ag', sh', seq', ep', ds', ser', fr', etg'⟩ := ee
               simp only [eCell] at hre
               simp only [] at a0 a1 a2 a3 a4 a5 a6 a7 a8
               have Hre := Lib.hid (hre.out (wr.alloc (.cells #[.int .i64 kind', .int .i64 ag', .int .i64 sh', .int .i64 seq', .int .i64 ep', .slice Dl ds'.length nl, .string ser', .int .i64 fr', .int .i64 etg'] 26)) ((Keeps.refl _ _).alloc _))
               have Hka := Lib.hid (Hkr.out.alloc (.cells #[.int .i64 kind', .int .i64 ag', .int .i64 sh', .int .i64 seq', .int .i64 ep', .slice Dl ds'.length nl, .string ser', .int .i64 fr', .int .i64 etg'] 26))
               clear hre
               go_wp2_with fail
               refine Hre.out.mono ?_
               rintro e w4 ⟨rfl, hb4⟩
               have Hk4 := Lib.hid (Hka.out.trans (Keeps.of_below (M := []) hb4) (by simp))
               clear hb4 Hre Hka a0 a1 a2 a3 a4 a5 a6 a7 a8
               by_cases hrr : rr = 0
               ·have HR3 : Hid (R = logRight (log.drop (x + 1))) := by show _ = _; rw [HR2.out, if_pos hrr]
                have hrn : ((rr : Int) != 0) = false := by simp [hrr]
                clear HR2 hrr
                go_wp2
                go_roundw
                case rel => exact ⟨x + 1, by go_num, by omega, HR3, Hk4⟩
                case measure => simp [intOf] <;> omega
               ·obtain rfl : R = rr := by rw [HR2.out, if_neg hrr]
                have hrn : ((R : Int) != 0) = true := by simpa using hrr
                clear HR2 hrr
                go_wp2
                go_ret
                exact ⟨rfl, Hk4.out.below⟩
              ·obtain rfl : x = log.length := by omega
               obtain rfl : R = 0 := by rw [HR.out, List.drop_length]; rfl
               go_wp2
               go_ret
               exact ⟨rfl, Hkr.out.below⟩

end Go.Proofs.YtinnifhnabncfaaGreatDoor.Vi
end
section
namespace Go.Proofs.YtinnifhnabncfaaGreatDoor.Vi
open Go.RowKit Base Mem Tape Go.Shelf
theorem readE_nil : (readE []).2 = 12 := by decide +kernel
theorem text_badnil {l : List UInt8} {b : Bool} (h : (textS l b).2.2 = true) : (textS l b).1 = [] := by
 unfold textS at h ⊢
 split at h
 ·rename_i hc; rw [if_pos hc]
 ·cases h
/-- So many entries, till a text is not there. -/
def rgetEs : Nat → List UInt8 → Bool → Option (List EntryD) × List UInt8 × Bool
 | 0, l, b => (some [], l, b)
 | k + 1, l, b => if b = true then (some [], l, b) else if (rreadE (textS l b).1).2 ≠ 0 then (none, (textS l b).2) else preE [(rreadE (textS l b).1).1] (rgetEs k (textS l b).2.1 (textS l b).2.2)
theorem preE_some (a : List EntryD) (R : Option (List EntryD) × List UInt8 × Bool) : (preE a R).1.isSome = R.1.isSome ∧ (preE a R).2 = R.2 := by
 obtain ⟨_ | es, s⟩ := R <;> exact ⟨rfl, rfl⟩
def SucE (R : Option (List EntryD) × List UInt8 × Bool) : Prop := R.1.isSome = true ∧ R.2.2 = false
theorem SucE.pre {a : List EntryD} {R : Option (List EntryD) × List UInt8 × Bool} (h : SucE (preE a R)) : SucE R := by
 obtain ⟨h1, h2⟩ := h
 rw [(preE_some a R).1] at h1
 rw [(preE_some a R).2] at h2
 exact ⟨h1, h2⟩
theorem rgetEs_eq : ∀ (n : Nat) (l : List UInt8) (b : Bool), SucE (getEs n l b) ∨ SucE (rgetEs n l b) → rgetEs n l b = getEs n l b
 | 0, _, _, _ => rfl
 | n + 1, l, b, h => by
  have hb : b = false := by
   cases b with
   | false => rfl
   | true =>
    rcases h with h | h
    ·have := h.1
     rw [getEs, if_pos (.inl (by rw [text_bad]))] at this
     cases this
    ·have := h.2
     rw [rgetEs, if_pos rfl] at this
     cases this
  subst hb
  rw [rgetEs, if_neg (by simp), rreadE_eq] at h ⊢
  rw [getEs] at h ⊢
  by_cases he : (readE (textS l false).1).2 ≠ 0
  ·rw [if_pos he, if_pos (.inr he)]
  ·have ht : ¬ ((textS l false).2.2 = true) := fun hc => by
    rw [text_badnil hc, readE_nil] at he
    exact he (by omega)
   rw [if_neg he, if_neg (by rintro (h | h); exact ht h; exact he h)] at h ⊢
   rw [rgetEs_eq n _ _ (h.imp SucE.pre SucE.pre)]
theorem getEs_len : ∀ (n : Nat) (l : List UInt8) (b : Bool) (es : List EntryD), (getEs n l b).1 = some es → es.length = n
 | 0, _, _, es, h => by simp [getEs] at h; subst h; rfl
 | n + 1, l, b, es, h => by
  rw [getEs] at h
  split at h
  ·cases h
  ·cases hg : getEs n (textS l b).2.1 (textS l b).2.2 with
   | mk o s =>
    rw [hg] at h
    cases o with
    | none => simp [preE] at h
    | some es' =>
     simp only [preE] at h
     injection h with h
     subst h
     have := getEs_len n _ _ es' (by rw [hg])
     simp; omega
def rmgetS (l : List UInt8) (b : Bool) : Option (List EntryD) × List UInt8 × Bool := rgetEs (numS l b).1 (numS l b).2.1 (numS l b).2.2
theorem getEs_bad {n : Nat} {l : List UInt8} (h : SucE (getEs n l true)) : False := by
 cases n with
 | zero => have := h.2; simp [getEs] at this
 | succ n =>
  have := h.1
  rw [getEs, if_pos (.inl (by rw [text_bad]))] at this
  cases this
theorem mgetS_ok {l : List UInt8} {b : Bool} (h : SucE (mgetS l b)) : b = false ∧ mgetS l b = rmgetS l b := by
 have hc : (countS l b 128).2.2 = false := by
  cases hh : (countS l b 128).2.2 with
  | false => rfl
  | true => unfold mgetS at h; rw [hh] at h; exact (getEs_bad h).elim
 have h1 : countS l b 128 = numS l b := by
  have h2 := count_int' hc
  rw [h2] at hc
  rw [h2, int_num' hc]
 refine ⟨count_ok hc, ?_⟩
 unfold mgetS rmgetS
 unfold mgetS at h
 rw [h1] at h ⊢
 exact (rgetEs_eq _ _ _ (.inl h)).symm
theorem rmgetS_ok {l : List UInt8} {b : Bool} (h : SucE (rmgetS l b)) (hl : ((rmgetS l b).1.getD []).length ≤ 128) : mgetS l b = rmgetS l b := by
 unfold rmgetS at h hl ⊢
 have he := rgetEs_eq _ _ _ (.inr h)
 rw [he] at h hl ⊢
 obtain ⟨es, hes⟩ := Option.isSome_iff_exists.1 h.1
 have hn := getEs_len _ _ _ _ hes
 rw [hes] at hl
 simp only [Option.getD] at hl
 have hc : countS l b 128 = numS l b := by
  have h1 : intS l b = numS l b := int_num (by omega)
  rw [count_int (by rw [h1]; omega), h1]
 unfold mgetS
 rw [hc]
def rmreadS (k : Nat) (l : List UInt8) (b : Bool) : MsgD × Bool × List UInt8 × Bool :=
 if k = 1 then (⟨1, (rreadE (textS l b).1).1, 0, 0, 0, 0, 0, [], 0, 0⟩, decide ((rreadE (textS l b).1).2 = 0), (textS l b).2)
 else if k = 2 then
  let a := intS l b
  let c := intS a.2.1 a.2.2
  let n := numS c.2.1 c.2.2
  (⟨2, ⟨0, 0, 0, 0, 0, [], ⟨#[]⟩, 0, 0⟩, a.1, c.1, n.1, 0, 0, [], 0, 0⟩, true, n.2)
 else if k = 3 then (⟨3, ⟨0, 0, 0, 0, 0, [], ⟨#[]⟩, 0, 0⟩, 0, 0, 0, (intS l b).1, 0, [], 0, 0⟩, true, (intS l b).2)
 else if k = 4 then
  let t := intS l b
  let h := intS t.2.1 t.2.2
  let g := rmgetS h.2.1 h.2.2
  (⟨4, ⟨0, 0, 0, 0, 0, [], ⟨#[]⟩, 0, 0⟩, 0, 0, 0, t.1, h.1, g.1.getD [], 0, 0⟩, g.1.isSome && !g.2.2, g.2)
 else if k = 5 then
  let t := intS l b
  let c := intS t.2.1 t.2.2
  let g := rmgetS c.2.1 c.2.2
  (⟨5, ⟨0, 0, 0, 0, 0, [], ⟨#[]⟩, 0, 0⟩, 0, 0, 0, t.1, 0, g.1.getD [], c.1, 0⟩, g.1.isSome && !g.2.2, g.2)
 else if k = 6 then
  let t := intS l b
  let c := intS t.2.1 t.2.2
  (⟨6, ⟨0, 0, 0, 0, 0, [], ⟨#[]⟩, 0, 0⟩, 0, 0, 0, t.1, 0, [], 0, c.1⟩, true, c.2)
 else (⟨k, ⟨0, 0, 0, 0, 0, [], ⟨#[]⟩, 0, 0⟩, 0, 0, 0, 0, 0, [], 0, 0⟩, true, l, b)
def SucM (R : MsgD × Bool × List UInt8 × Bool) : Prop := R.2.1 = true ∧ R.2.2.2 = false ∧ mrightS R.1 = 0
theorem mright_bd {m : MsgD} (h : mrightS m = 0) : 1 ≤ m.kd ∧ m.kd ≤ 6 ∧ m.code ≤ 255 ∧ m.commit ≤ 128 ∧ m.len ≤ 128 ∧ m.log.length ≤ 128 := by
 unfold mrightS at h
 split at h
 ·cases h
 ·rename_i h1
  split at h
  ·cases h
  ·rename_i h2
   split at h
   ·cases h
   ·rename_i h3
    unfold bad2 at h2
    simp at h2
    omega
theorem sucE_of {g : Option (List EntryD) × List UInt8 × Bool} (h : (g.1.isSome && !g.2.2) = true) : SucE g := by
 rw [Bool.and_eq_true] at h
 exact ⟨h.1, by simpa using h.2⟩
theorem rmreadS_eq (k : Nat) (l : List UInt8) (b : Bool) (h : SucM (mreadS k l b) ∨ SucM (rmreadS k l b)) : rmreadS k l b = mreadS k l b := by
 by_cases h1 : k = 1
 ·subst h1
  unfold rmreadS mreadS
  rw [if_pos rfl, if_pos rfl, rreadE_eq]
 by_cases h2 : k = 2
 ·subst h2
  have er : rmreadS 2 l b = (let a := intS l b
   let c := intS a.2.1 a.2.2
   let n := numS c.2.1 c.2.2
   (⟨2, ⟨0, 0, 0, 0, 0, [], ⟨#[]⟩, 0, 0⟩, a.1, c.1, n.1, 0, 0, [], 0, 0⟩, true, n.2)) := rfl
  have eo : mreadS 2 l b = (let a := intS l b
   let c := countS a.2.1 a.2.2 255
   let n := numS c.2.1 c.2.2
   (⟨2, ⟨0, 0, 0, 0, 0, [], ⟨#[]⟩, 0, 0⟩, a.1, c.1, n.1, 0, 0, [], 0, 0⟩, true, n.2)) := rfl
  have hc : countS (intS l b).2.1 (intS l b).2.2 255 = intS (intS l b).2.1 (intS l b).2.2 := by
   rcases h with ⟨_, h, _⟩ | ⟨_, _, h⟩
   ·rw [eo] at h; exact count_int' (num_ok h)
   ·have := (mright_bd h).2.2.1
    rw [er] at this
    simp only [] at this
    exact count_int (by omega)
  simp only [] at er eo
  rw [er, eo, hc]
 by_cases h3 : k = 3
 ·subst h3; rfl
 by_cases h4 : k = 4
 ·subst h4
  have er : rmreadS 4 l b = (let t := intS l b
   let h := intS t.2.1 t.2.2
   let g := rmgetS h.2.1 h.2.2
   (⟨4, ⟨0, 0, 0, 0, 0, [], ⟨#[]⟩, 0, 0⟩, 0, 0, 0, t.1, h.1, g.1.getD [], 0, 0⟩, g.1.isSome && !g.2.2, g.2)) := rfl
  have eo : mreadS 4 l b = (let t := intS l b
   let h := intS t.2.1 t.2.2
   let g := mgetS h.2.1 h.2.2
   (⟨4, ⟨0, 0, 0, 0, 0, [], ⟨#[]⟩, 0, 0⟩, 0, 0, 0, t.1, h.1, g.1.getD [], 0, 0⟩, g.1.isSome && !g.2.2, g.2)) := rfl
  have hc : mgetS (intS (intS l b).2.1 (intS l b).2.2).2.1 (intS (intS l b).2.1 (intS l b).2.2).2.2 = rmgetS (intS (intS l b).2.1 (intS l b).2.2).2.1 (intS (intS l b).2.1 (intS l b).2.2).2.2 := by
   rcases h with ⟨h, _, _⟩ | ⟨h, _, hr⟩
   ·rw [eo] at h; exact (mgetS_ok (sucE_of h)).2
   ·rw [er] at h hr
    exact rmgetS_ok (sucE_of h) (mright_bd hr).2.2.2.2.2
  simp only [] at er eo
  rw [er, eo, hc]
 by_cases h5 : k = 5
 ·subst h5
  have er : rmreadS 5 l b = (let t := intS l b
   let c := intS t.2.1 t.2.2
   let g := rmgetS c.2.1 c.2.2
   (⟨5, ⟨0, 0, 0, 0, 0, [], ⟨#[]⟩, 0, 0⟩, 0, 0, 0, t.1, 0, g.1.getD [], c.1, 0⟩, g.1.isSome && !g.2.2, g.2)) := rfl
  have eo : mreadS 5 l b = (let t := intS l b
   let c := countS t.2.1 t.2.2 128
   let g := mgetS c.2.1 c.2.2
   (⟨5, ⟨0, 0, 0, 0, 0, [], ⟨#[]⟩, 0, 0⟩, 0, 0, 0, t.1, 0, g.1.getD [], c.1, 0⟩, g.1.isSome && !g.2.2, g.2)) := rfl
  have hc : countS (intS l b).2.1 (intS l b).2.2 128 = intS (intS l b).2.1 (intS l b).2.2 := by
   rcases h with ⟨h, _, _⟩ | ⟨_, _, hr⟩
   ·rw [eo] at h
    exact count_int' (mgetS_ok (sucE_of h)).1
   ·have := (mright_bd hr).2.2.2.1
    rw [er] at this
    simp only [] at this
    exact count_int (by omega)
  simp only [] at er eo
  rw [hc] at eo
  have hc2 : mgetS (intS (intS l b).2.1 (intS l b).2.2).2.1 (intS (intS l b).2.1 (intS l b).2.2).2.2 = rmgetS (intS (intS l b).2.1 (intS l b).2.2).2.1 (intS (intS l b).2.1 (intS l b).2.2).2.2 := by
   rcases h with ⟨h, _, _⟩ | ⟨h, _, hr⟩
   ·rw [eo] at h; exact (mgetS_ok (sucE_of h)).2
   ·rw [er] at h hr
    exact rmgetS_ok (sucE_of h) (mright_bd hr).2.2.2.2.2
  rw [er, eo, hc2]
 by_cases h6 : k = 6
 ·subst h6
  have er : rmreadS 6 l b = (let t := intS l b
   let c := intS t.2.1 t.2.2
   (⟨6, ⟨0, 0, 0, 0, 0, [], ⟨#[]⟩, 0, 0⟩, 0, 0, 0, t.1, 0, [], 0, c.1⟩, true, c.2)) := rfl
  have eo : mreadS 6 l b = (let t := intS l b
   let c := countS t.2.1 t.2.2 128
   (⟨6, ⟨0, 0, 0, 0, 0, [], ⟨#[]⟩, 0, 0⟩, 0, 0, 0, t.1, 0, [], 0, c.1⟩, true, c.2)) := rfl
  have hc : countS (intS l b).2.1 (intS l b).2.2 128 = intS (intS l b).2.1 (intS l b).2.2 := by
   rcases h with ⟨_, h, _⟩ | ⟨_, _, hr⟩
   ·rw [eo] at h; exact count_int' h
   ·have := (mright_bd hr).2.2.2.2.1
    rw [er] at this
    simp only [] at this
    exact count_int (by omega)
  simp only [] at er eo
  rw [er, eo, hc]
 ·exfalso
  have ho : (mreadS k l b).1.kd = k := by
   unfold mreadS
   rw [if_neg h1, if_neg h2, if_neg h4, if_neg h5, if_neg h6]
  have hr : (rmreadS k l b).1.kd = k := by
   unfold rmreadS
   rw [if_neg h1, if_neg h2, if_neg h3, if_neg h4, if_neg h5, if_neg h6]
  rcases h with ⟨_, _, h⟩ | ⟨_, _, h⟩
  ·have := mright_bd h; rw [ho] at this; omega
  ·have := mright_bd h; rw [hr] at this; omega
def rmReadS (l : List UInt8) : MsgD × Nat :=
 match readF l with
 | none => (zeroM, 12)
 | some (x, n) => if n ≠ l.length then (zeroM, 12) else
  if (rmreadS (byteS x false).1.toNat (byteS x false).2.1 (byteS x false).2.2).2.1 = true ∧ (!(rmreadS (byteS x false).1.toNat (byteS x false).2.1 (byteS x false).2.2).2.2.2 && (rmreadS (byteS x false).1.toNat (byteS x false).2.1 (byteS x false).2.2).2.2.1.isEmpty) = true ∧ mrightS (rmreadS (byteS x false).1.toNat (byteS x false).2.1 (byteS x false).2.2).1 = 0
   then ((rmreadS (byteS x false).1.toNat (byteS x false).2.1 (byteS x false).2.2).1, 0) else (zeroM, 12)
theorem rmReadS_eq (l : List UInt8) : rmReadS l = mReadS l := by
 unfold rmReadS mReadS
 cases readF l with
 | none => rfl
 | some p =>
  obtain ⟨x, n⟩ := p
  simp only []
  split
  ·rfl
  ·generalize (byteS x false).1.toNat = k
   generalize (byteS x false).2.1 = y
   generalize (byteS x false).2.2 = z
   have suc : ∀ R : MsgD × Bool × List UInt8 × Bool, (R.2.1 = true ∧ (!R.2.2.2 && R.2.2.1.isEmpty) = true ∧ mrightS R.1 = 0) → SucM R := fun R h => by
    have h2 := h.2.1
    rw [Bool.and_eq_true] at h2
    exact ⟨h.1, by simpa using h2.1, h.2.2⟩
   by_cases ho : SucM (mreadS k y z)
   ·rw [rmreadS_eq k y z (.inl ho)]
   ·by_cases hr : SucM (rmreadS k y z)
    ·rw [rmreadS_eq k y z (.inr hr)]
    ·rw [if_neg (fun h => hr (suc _ h)), if_neg (fun h => ho (suc _ h))]
end Go.Proofs.YtinnifhnabncfaaGreatDoor.Vi
end
section
namespace Go.Proofs.YtinnifhnabncfaaGreatDoor.Vi
open Go.RowKit Base Mem Go.Shelf
def RMGetPost (M : List Nat) (p : Nat) (R : Option (List EntryD) × List UInt8 × Bool) (w : World) (e : Ending) (w' : World) : Prop := match R with
 | (none, _) => e = .returned (.tuple #[.slice none 0 0, .bool false]) ∧ Keeps [p] w w'
 | (some es, l', b') => ∃ v, e = .returned (.tuple #[v, .bool (!b')]) ∧ (∀ M', (∀ g ∈ M', g < w.heap.size) → Ens w' M' v es) ∧ RRdAt w' M p l' b' ∧ Keeps [p] w w'
theorem rreadE_nil2 : (rreadE []).2 = 12 := by rw [rreadE_eq]; exact readE_nil
set_option maxRecDepth 100000 in
set_option maxHeartbeats 2000000 in
theorem rreadlog_any (M : List Nat) (p : Nat) (l : List UInt8) (b : Bool) (w : World) (h : RRdAt w M p l b) (hl : l.length < 4294967281) :
  Calls Tryz.prog 152 #[.pointer (some ⟨p, 0, none⟩)] w fun e w' => RMGetPost M p (rmgetS l b) w e w' := by
 have hn := Lib.hid (rnum_any M p l b w h)
 have hnl := numS_len l b
 have hnt := numS_lt l b
 have HS : Hid (rmgetS l b = rgetEs (numS l b).1 (numS l b).2.1 (numS l b).2.2) := rfl
 obtain ⟨i0, hi0, hz0, hz1, hz2⟩ := info_parts infoEntry2
 have Hi0 := Lib.hid hi0; have Hz0 := Lib.hid hz0; have Hz1 := Lib.hid hz1; have Hz2 := Lib.hid hz2
 clear h hi0 hz0 hz1 hz2
 generalize rmgetS l b = R at *
 generalize numS l b = N at *
 obtain ⟨n0, l0, b0⟩ := N
 simp only [] at hn hnl hnt HS
 have hL0 : l0.length < 4294967281 := by omega
 go_enter Tryz.func152, Tryz.ntmps152
 go_wp2_with fail
 refine hn.out.mono ?_
 rintro e w1 ⟨rfl, hA1, hk1⟩
 have HA1 := Lib.hid hA1; have Hk1 := Lib.hid hk1
 have hpw : p < w1.heap.size := hA1.lt
 have hw1 : w.heap.size ≤ w1.heap.size := hk1.size
 clear hA1 hk1 hn
 go_wp2_with fail
 go_loopw [4, 5] (fun out i wr => ∃ (k : Nat) (qs : List (EntryD × Value)) (lx : List UInt8) (bx : Bool), i = .int .u64 k ∧ k < 18446744073709551616 ∧ qs.length + lx.length ≤ l0.length ∧ Hid (R = preE (qs.map (·.1)) (rgetEs k lx bx)) ∧ Hid (wr.ownsRow w1.heap.size 26 9 out qs.length (qs.flatMap eCell)) ∧ Hid (DsOwn w1 wr out qs) ∧ Hid (RRdAt wr (out.ownBlock.toList ++ M) p lx bx) ∧ Hid (Keeps [p] w1 wr)) (fun _ i _ => (intOf i).toNat)
 case atStart => exact ⟨n0, [], l0, b0, rfl, hnt, by simp, (show R = preE [] _ by rw [preE_nil]; exact HS.out), World.ownsRow_nil _ _ _ _, (show DsOwn _ _ _ _ from by intro q hq; cases hq), (show RRdAt w1 _ p l0 b0 from HA1.out), Keeps.refl _ _⟩
 case round =>
  obtain ⟨k, qs, lx, bx, rfl, hk, hqx, HR, Hown, Hds, HA, Hk⟩ := hrel
  have hfell : wr.cell? ⟨p, 1, none⟩ = some (.bool bx) := by
   obtain ⟨_, v, hb, _⟩ := HA.out
   exact hb.cell 1
  have HFin : Hid (rgetEs k lx bx = (some [], lx, bx) → ∀ n, RMGetPost M p R w (.returned (.tuple #[u4, .bool (!bx)])) (wr.drewN n)) := fun hr n => by
   have h1 := HR.out
   rw [hr] at h1
   rw [h1]
   simp only [preE, List.append_nil]
   exact ⟨u4, rfl, fun M' hM => ⟨qs, rfl, Rd.of_own (w := wr.drewN n) Hown.out (fun g hg => by have := hM g hg; omega), fun q hq => Hds.out q hq M' (fun g hg => .inl (by have := hM g hg; omega))⟩, (HA.out.avoid (fun g hg => .inl (List.mem_append_right _ hg))).keep (M' := []) ((Keeps.refl _ _).drewN n) (by simp) (by simp), (Hk1.out.trans Hk.out (by simp)).drewN n⟩
  rcases Nat.eq_zero_or_pos k with hk0 | hk0
  ·obtain rfl : k = 0 := hk0
   have HF := Lib.hid (HFin.out rfl)
   clear HFin
   go_wp2_with fail
   go_quiet (fail)
   go_wp2
   go_ret2
   exact HF.out _
  ·obtain ⟨j, rfl⟩ : ∃ j, k = j + 1 := ⟨k - 1, by omega⟩
   have hkp : (0 : Int) < (j : Int) + 1 := by omega
   cases bx with
   | true =>
    have HF := Lib.hid (HFin.out (by rw [rgetEs, if_pos rfl]))
    clear HFin
    go_wp2_with fail
    go_quiet (fail)
    go_wp2
    go_ret2
    exact HF.out _
   | false =>
    clear HFin
    have hwj : IntKind.u64.wrap (j : Int) = (j : Int) := by rw [IntKind.wrap_u64]; omega
    have hwj2 : IntKind.u64.wrap ((j : Int) + 1 - 1) = (j : Int) := by rw [IntKind.wrap_u64]; omega
    have hjj : (j : Int) + 1 - 1 = (j : Int) := by omega
    have HST : Hid (R = preE (qs.map (·.1)) (if (rreadE (textS lx false).1).2 ≠ 0 then (none, (textS lx false).2) else preE [(rreadE (textS lx false).1).1] (rgetEs j (textS lx false).2.1 (textS lx false).2.2))) := by
     show _ = _
     rw [HR.out, rgetEs, if_neg (by simp)]
    have htl := textS_len lx false
    have hls := Lib.hid (fun h => text_less (l := lx) h)
    have hbn := Lib.hid (fun h => text_badnil (l := lx) (b := false) h)
    have htx := Lib.hid (rstr_any (u4.ownBlock.toList ++ M) p lx false wr HA.out)
    generalize textS lx false = t at *
    obtain ⟨t1, t2, t3⟩ := t
    simp only [] at HST htl htx hls hbn
    go_wp2_with fail
    refine htx.out.mono ?_
    rintro e w3 ⟨rfl, hA3, hk3⟩
    obtain ⟨cc, w4, cv, hk4, hsz4, hB4⟩ := bytes_of w3 t1
    have HA4 := Lib.hid (hA3.keep hk4 (by simp) (by simp))
    have Hk34 := Lib.hid (hk3.trans hk4 (by simp))
    have HK4 := Lib.hid ((Hk.out.trans hk3 (by simp)).trans hk4 (by simp))
    have hrd := Lib.hid (rreadE_any _ t1 w4 (hB4 [] (by simp)) (by omega))
    have hbn2 : Hid (t3 = true → (rreadE t1).2 ≠ 0) := fun h => by rw [hbn.out h, rreadE_nil2]; decide
    clear hA3 hk3 hk4 hB4 htx hsz4 hbn
    generalize rreadE t1 = r at *
    obtain ⟨re, rn⟩ := r
    simp only [] at HST hrd hbn2
    go_wp2_with fail
    refine hrd.out.mono ?_
    rintro e w5 ⟨dv, rfl, hD5, hb5⟩
    obtain ⟨Ad, cd, rfl, _⟩ := (hD5 [] (by simp)).len
    have HA5 := Lib.hid (HA4.out.keep (Keeps.of_below (M := []) hb5) (by simp) (by simp))
    have HK5 := Lib.hid (HK4.out.trans (Keeps.of_below (M := []) hb5) (by simp))
    have Hk35 := Lib.hid (Hk34.out.trans (Keeps.of_below (M := []) hb5) (by simp))
    have HD5 := Lib.hid (fun M hM => hD5 M (fun g hg => Nat.lt_of_lt_of_le (hM g hg) Hk34.out.size) : ∀ M, (∀ g ∈ M, g < wr.heap.size) → Ds w5 M (.slice Ad re.ds.length cd) re.ds)
    clear hD5 hb5 hrd cv
    obtain ⟨kind, ag, sh, seq, ep, ds, ser, fr, tag⟩ := re
    simp only [eCell] at HD5 ⊢
    by_cases hrn : rn = 0
    ·have ht3 : t3 = false := by
      cases t3 with
      | false => rfl
      | true => exact absurd hrn (hbn2.out rfl)
     subst ht3
     have hlss := hls.out rfl
     have HST2 : Hid (R = preE (qs.map (·.1) ++ [⟨kind, ag, sh, seq, ep, ds, ser, fr, tag⟩]) (rgetEs j t2 false)) := by
      show _ = _
      rw [HST.out, if_neg (by simp [hrn]), preE_pre]
     have hnn : ((rn : Int) != 0) = false := by simp [hrn]
     clear HST hrn hbn2 hls HA4 HK4 Hk34
     go_upto_region 6 with (fail)
     obtain ⟨w6, hw6⟩ : ∃ w6, w6 = w5.alloc (.cells #[.int .i64 kind, .int .i64 ag, .int .i64 sh, .int .i64 seq, .int .i64 ep, .slice Ad ds.length cd, .string ser, .int .i64 fr, .int .i64 tag] 26) := ⟨_, rfl⟩
     rw [← hw6]
     have hk6 : Keeps [] w5 w6 := by rw [hw6]; exact (Keeps.refl _ _).alloc _
     have hB6 : Blk w6 w5.heap.size 26 #[.int .i64 kind, .int .i64 ag, .int .i64 sh, .int .i64 seq, .int .i64 ep, .slice Ad ds.length cd, .string ser, .int .i64 fr, .int .i64 tag] := by rw [hw6]; exact Blk.new w5 _ _
     have HA6 := Lib.hid (HA5.out.keep hk6 (by simp) (by simp)); have HK6 := Lib.hid (HK5.out.trans hk6 (by simp)); have Hk36 := Lib.hid (Hk35.out.trans hk6 (by simp))
     have HD6 : Hid (∀ M, (∀ g ∈ M, g < wr.heap.size) → Ds w6 M (.slice Ad ds.length cd) ds) := fun M hM => (HD5.out M hM).keep hk6 (by simp)
     obtain ⟨q0, q1, q2, q3, q4, q5, q6, q7, q8, qf⟩ := blk9 hB6
     clear hk6 hw6 hB6 HA5 HK5 Hk35 HD5
     have hlt0 := Lib.hid Hown.out.lt
     have Hown6 := Lib.hid ((own_keep (Hown.out) Hk36.out (by simp; exact hpw)).alloc (.cells #[.int .i64 kind, .int .i64 ag, .int .i64 sh, .int .i64 seq, .int .i64 ep, .slice Ad ds.length cd, .string ser, .int .i64 fr, .int .i64 tag] 26))
     have hz6 : w1.heap.size ≤ w6.heap.size := HK6.out.size
     have hm1 : qs.length + 1 ≤ maxLen := by unfold maxLen; omega
     have hm2 : (qs.length + 1) * 96 ≤ 140737488355328 := by omega
     have hb0 : w1.heap.size ≤ (w6.alloc (.cells #[.int .i64 kind, .int .i64 ag, .int .i64 sh, .int .i64 seq, .int .i64 ep, .slice Ad ds.length cd, .string ser, .int .i64 fr, .int .i64 tag] 26)).heap.size := by simp; omega
     have Hm1 := Lib.hid hm1; have Hm2 := Lib.hid hm2; have Hb0 := Lib.hid hb0
     clear hm1 hm2 hb0
     go_wp2_with (at_builtin; go_must (refine wpList_append_any _ rfl (.tmp 30) (.tmp 32) _ rfl w1.heap.size 26 i0 _ 9 96 Tryz.underlying52 Hi0.out Hz0.out Hz1.out Hz2.out rfl (by omega) u4 qs.length (qs.flatMap eCell) rfl Hown6.out (w6.heap.size + 1) (some ⟨w6.heap.size, 0, none⟩) 1 1 [.int .i64 kind, .int .i64 ag, .int .i64 sh, .int .i64 seq, .int .i64 ep, .slice Ad ds.length cd, .string ser, .int .i64 fr, .int .i64 tag] rfl (reads_new _ _ _ _ _ rfl) (by intro u hu; simp at hu; rcases hu with rfl | rfl | rfl | rfl | rfl | rfl | rfl | rfl | rfl <;> rfl) Hm1.out Hm2.out Hb0.out ?_))
     intro v8 w8 hown8 hg8 hat8
     have hpo : p ∉ u4.ownBlock.toList := fun hm => by have := (hlt0.out p (by simpa using hm)).1; omega
     have kg : Keeps u4.ownBlock.toList (w6.alloc (.cells #[.int .i64 kind, .int .i64 ag, .int .i64 sh, .int .i64 seq, .int .i64 ep, .slice Ad ds.length cd, .string ser, .int .i64 fr, .int .i64 tag] 26)) w8 := (Keeps.refl _ _).grown hg8 (fun g hg => .inl (by simpa using hg))
     have h1 := HA6.out.keep (M' := []) ((Keeps.refl _ _).alloc (.cells #[.int .i64 kind, .int .i64 ag, .int .i64 sh, .int .i64 seq, .int .i64 ep, .slice Ad ds.length cd, .string ser, .int .i64 fr, .int .i64 tag] 26)) (by simp) (by simp)
     have h2 := h1.avoid (M' := v8.ownBlock.toList ++ (u4.ownBlock.toList ++ M)) (fun g hg => by
      rcases List.mem_append.1 hg with h | h
      ·rcases hat8 with h5 | h5
       ·exact .inl (List.mem_append_left _ (by rw [h5] at h; exact h))
       ·rw [h5] at h; simp at h; exact .inr (by simp; omega)
      ·exact .inl h)
     have H8 := Lib.hid ((h2.keep kg (fun g hg => .inl (List.mem_append_right _ (List.mem_append_left _ hg))) hpo).avoid (M' := v8.ownBlock.toList ++ M) (fun g hg => by
      rcases List.mem_append.1 hg with h | h
      ·exact .inl (List.mem_append_left _ h)
      ·exact .inl (List.mem_append_right _ (List.mem_append_right _ h))))
     have Hk8 : Hid (Keeps [p] w1 w8) := (HK6.out.alloc _).grown hg8 (fun g hg => .inr (hlt0.out g hg).1)
     have Hds8 : Hid (DsOwn w1 w8 v8 (qs ++ [(⟨kind, ag, sh, seq, ep, ds, ser, fr, tag⟩, .slice Ad ds.length cd)])) :=
      dsOwn_stepK Hds.out Hk36.out (by simp; exact hpw) (fun g hg => (hlt0.out g hg).2) Hk.out.size HD6.out hg8 (by simpa using hat8)
     have Hown8 : Hid (w8.ownsRow w1.heap.size 26 9 v8 (qs ++ [((⟨kind, ag, sh, seq, ep, ds, ser, fr, tag⟩ : EntryD), Value.slice Ad ds.length cd)]).length ((qs ++ [((⟨kind, ag, sh, seq, ep, ds, ser, fr, tag⟩ : EntryD), Value.slice Ad ds.length cd)]).flatMap eCell)) := by
      show World.ownsRow _ _ _ _ _ _ _
      rw [List.length_append, List.flatMap_append]
      simpa [eCell] using hown8
     have HR8 : Hid (R = preE ((qs ++ [((⟨kind, ag, sh, seq, ep, ds, ser, fr, tag⟩ : EntryD), Value.slice Ad ds.length cd)]).map (·.1)) (rgetEs j t2 false)) := by
      show _ = _
      rw [List.map_append]
      exact HST2.out
     clear hown8 hg8 hat8 kg h1 h2 hpo q0 q1 q2 q3 q4 q5 q6 q7 q8 qf
     go_wp2
     go_roundw
     case rel => exact ⟨j, _, t2, false, rfl, by omega, by simp; omega, HR8, Hown8, Hds8, H8, Hk8⟩
     case measure => simp [intOf] <;> omega
    ·have hp : Hid (∀ W, Keeps [] w5 W → RMGetPost M p R w (.returned (.tuple #[.slice none 0 0, .bool false])) W) := fun W hk => by
      rw [HST.out, if_pos hrn]
      exact ⟨rfl, (Hk1.out.trans HK5.out (by simp)).trans hk (by simp)⟩
     have hnn : ((rn : Int) != 0) = true := by simpa using hrn
     clear HST hrn
     go_wp2
     go_ret2
     exact hp.out _ ((Keeps.refl _ _).alloc _)
end Go.Proofs.YtinnifhnabncfaaGreatDoor.Vi
end
section
namespace Go.Proofs.YtinnifhnabncfaaGreatDoor.Vi
open Go.RowKit Base Mem Go.Shelf
theorem rreadE_short (l : List UInt8) (h : l.length < 4294967281) : Short (rreadE l).1 := by
 rw [rreadE_eq]
 exact readE_short l h
theorem rgetEs_short : ∀ (k : Nat) (l : List UInt8) (b : Bool), l.length < 4294967281 → ∀ es, (rgetEs k l b).1 = some es → es.length ≤ l.length ∧ ∀ e ∈ es, Short e
 | 0, l, b, _, es, h => by
  injection h with h; subst h; simp
 | k + 1, l, b, hl, es, h => by
  cases b with
  | true =>
   rw [rgetEs, if_pos rfl] at h
   injection h with h; subst h; simp
  | false =>
   rw [rgetEs, if_neg (by simp)] at h
   by_cases hc : (rreadE (textS l false).1).2 ≠ 0
   ·rw [if_pos hc] at h; cases h
   ·rw [if_neg hc] at h
    have ht3 : (textS l false).2.2 = false := by
     cases ht : (textS l false).2.2 with
     | false => rfl
     | true => exact absurd (by rw [text_badnil ht, rreadE_nil2]; decide) hc
    have h1 := text_less ht3
    have h2 := textS_len l false
    cases hr : rgetEs k (textS l false).2.1 (textS l false).2.2 with
    | mk o s =>
     rw [hr] at h
     cases o with
     | none => cases h
     | some es' =>
      have h3 := rgetEs_short k (textS l false).2.1 (textS l false).2.2 (by omega) es' (by rw [hr])
      injection h with h
      subst h
      refine ⟨by simp only [List.length_append, List.length_singleton]; omega, ?_⟩
      intro e he
      rcases List.mem_append.1 he with he | he
      ·obtain rfl := List.mem_singleton.1 he
       exact rreadE_short _ (by omega)
      ·exact h3.2 e he
theorem rmgetS_short (l : List UInt8) (b : Bool) (hl : l.length < 4294967281) : ((rmgetS l b).1.getD []).length ≤ l.length ∧ ∀ e ∈ (rmgetS l b).1.getD [], Short e := by
 have h1 := numS_len l b
 have h := rgetEs_short (numS l b).1 (numS l b).2.1 (numS l b).2.2 (by omega)
 unfold rmgetS
 cases hr : rgetEs (numS l b).1 (numS l b).2.1 (numS l b).2.2 with
 | mk o s =>
  rw [hr] at h
  cases o with
  | none => exact ⟨Nat.zero_le _, by intro e he; simp at he⟩
  | some es =>
   obtain ⟨h3, h4⟩ := h es rfl
   exact ⟨by show es.length ≤ _; omega, h4⟩
theorem rmreadS_short (k : Nat) (l : List UInt8) (b : Bool) (hl : l.length < 4294967281) : MShort (rmreadS k l b).1 := by
 have ht := textS_len l b
 have hi := intS_len l b
 have hz : MShort ⟨0, ⟨0, 0, 0, 0, 0, [], ⟨#[]⟩, 0, 0⟩, 0, 0, 0, 0, 0, [], 0, 0⟩ := ⟨short_zero, Nat.zero_le _, by intro e he; cases he⟩
 unfold rmreadS
 by_cases h1 : k = 1
 ·rw [if_pos h1]
  exact ⟨rreadE_short _ (by omega), Nat.zero_le _, by intro e he; cases he⟩
 rw [if_neg h1]
 by_cases h2 : k = 2
 ·rw [if_pos h2]; exact hz
 rw [if_neg h2]
 by_cases h3 : k = 3
 ·rw [if_pos h3]; exact hz
 rw [if_neg h3]
 have hj := intS_len (intS l b).2.1 (intS l b).2.2
 have hg := rmgetS_short (intS (intS l b).2.1 (intS l b).2.2).2.1 (intS (intS l b).2.1 (intS l b).2.2).2.2 (by omega)
 by_cases h4 : k = 4
 ·rw [if_pos h4]; exact ⟨short_zero, by show List.length _ ≤ _; exact Nat.le_trans hg.1 (by omega), hg.2⟩
 rw [if_neg h4]
 by_cases h5 : k = 5
 ·rw [if_pos h5]; exact ⟨short_zero, by show List.length _ ≤ _; exact Nat.le_trans hg.1 (by omega), hg.2⟩
 rw [if_neg h5]
 by_cases h6 : k = 6
 ·rw [if_pos h6]; exact hz
 rw [if_neg h6]
 exact hz
end Go.Proofs.YtinnifhnabncfaaGreatDoor.Vi
end
