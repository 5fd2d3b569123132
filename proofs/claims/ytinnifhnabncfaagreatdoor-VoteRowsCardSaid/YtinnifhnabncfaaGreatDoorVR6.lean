/- Texts put together: Msg2, Msg3, Msg4, Msg5. -/
import Derived.Deep.MidRow
import Derived.Deep.RegionHeld3
import Derived.Test.YtinnifhnabncfaaGreatDoorVR2
import Derived.Test.YtinnifhnabncfaaGreatDoorVR5
/- Contract of mail.zero. -/
section
namespace Go.Proofs.YtinnifhnabncfaaGreatDoor.Vi
open Go.RowKit Base Mem Go.Shelf
def zeroM : MsgD := ⟨0, zeroD, 0, 0, 0, 0, 0, [], 0, 0⟩
/-- A message without what its kind has. -/
def clearM (m : MsgD) : MsgD :=
  if m.kd = 1 then { m with kd := 0, en := zeroD }
  else if m.kd = 2 then { m with kd := 0, tag := 0, code := 0, nn := 0 }
  else if m.kd = 3 then { m with kd := 0, term := 0 }
  else if m.kd = 4 then { m with kd := 0, term := 0, had := 0, log := [] }
  else if m.kd = 5 then { m with kd := 0, term := 0, log := [], commit := 0 }
  else if m.kd = 6 then { m with kd := 0, term := 0, len := 0 }
  else { m with kd := 0 }
def zeroS (m : MsgD) : Bool := sameM (clearM m) zeroM
theorem blk_range {w : World} {g : Nat} {T : TypeId} {cs : Array Value} (h : Blk w g T cs) : w.rangeAt g 0 cs.toList := fun j v hj => by
  rw [Nat.zero_add, h.cell j]; simpa using hj
theorem wpList_load_g {P : Program} {ops : Array Oper} {rest : List Oper} {op : Oper} {a : Act} {w : World} {Q : Exit → Act → World → Prop} (hw : Region.wanted op (yielded ops a.tmps) = true) (ty : TypeId) (x : Operand) (ho : op.op = .load ty x)
    (b o : Nat) (hx : a.eval x = .pointer (some ⟨b, o, none⟩)) (cs : List Value) (d : TypeDesc) (hc : w.rangeAt b o cs)
    (hu : P.underlying ty = some d) (hd : d.isRow = true) (hi : (P.info? ty).map (·.size) = some cs.length)
    (h : wpList P ops Q rest (a.put op.dst (.agg cs.toArray)) w) : wpList P ops Q (op :: rest) a w := by
  simp only [wpList]
  rw [if_pos hw]
  exact .inl (wp_load_mid ty x ho b o hx cs d hc hu hd hi h)
theorem cnt_nil : Cnt [] := ⟨by simp, by simp⟩
set_option maxRecDepth 100000 in
set_option maxHeartbeats 2000000 in
theorem mzero_0 (m : MsgD) (dv lv : Value) (w : World) (ha : MsgAt w [] m dv lv) (ca : MCnt m) (g1 : ¬ m.kd = 1) (g2 : ¬ m.kd = 2) (g3 : ¬ m.kd = 3) (g4 : ¬ m.kd = 4) (g5 : ¬ m.kd = 5) (g6 : ¬ m.kd = 6) :
    Calls Tryz.prog 149 #[.agg (mCell m dv lv).toArray] w fun r w' => SamePost (zeroS m) w r w' := by
  have hsm := Lib.hid (fun (m' : MsgD) (d' l' : Value) W (h : MsgAt W [] m' d' l') (c : MCnt m') => msame_any m' zeroM d' l' (.slice none 0 0) (.slice none 0 0) W h ⟨Ds.nil _ _, Ens.nil _ _⟩ c ⟨by simp [zeroM, zeroD], cnt_nil⟩)
  have HZ : Hid (∀ m', m' = clearM m → sameM m' zeroM = zeroS m) := fun m' h => by subst h; rfl
  have hav := ha.avoid (M' := [w.heap.size]) (by simp)
  obtain ⟨Aa, na, rfl, _⟩ := ha.1.len
  obtain ⟨Ba, ka, rfl, _⟩ := ha.2.len
  have Hca := Lib.hid ca
  generalize zeroS m = R at *
  clear ha ca
  obtain ⟨kd, ⟨kind, ag, sh, seq, ep, ds, ser, fr, etg⟩, tag, code, nn, term, had, log, commit, len⟩ := m
  simp only [mCell, eCell, List.cons_append, List.nil_append]
  simp only [MsgAt] at hav
  generalize hdn : ds.length = dn at *
  generalize hln : log.length = ln at *
  have Hdn := Lib.hid hdn; have Hln := Lib.hid hln
  clear hdn hln
  obtain ⟨w2, hw2⟩ : ∃ w2, w2 = w.alloc (.cells #[.int .i64 kd, .int .i64 kind, .int .i64 ag, .int .i64 sh, .int .i64 seq, .int .i64 ep, .slice Aa dn na, .string ser, .int .i64 fr, .int .i64 etg, .int .i64 tag, .int .i64 code, .int .u64 nn, .int .i64 term, .int .i64 had, .slice Ba ln ka, .int .i64 commit, .int .i64 len] 68) := ⟨_, rfl⟩
  have hk2 : Keeps [] w w2 := by rw [hw2]; exact (Keeps.refl _ _).alloc _
  have hBa : Blk w2 w.heap.size 68 #[.int .i64 kd, .int .i64 kind, .int .i64 ag, .int .i64 sh, .int .i64 seq, .int .i64 ep, .slice Aa dn na, .string ser, .int .i64 fr, .int .i64 etg, .int .i64 tag, .int .i64 code, .int .u64 nn, .int .i64 term, .int .i64 had, .slice Ba ln ka, .int .i64 commit, .int .i64 len] := by rw [hw2]; exact Blk.new w _ _
  have Hw2 := Lib.hid hw2; have HBa := Lib.hid hBa; have Hk2 := Lib.hid hk2
  have Hd2 := Lib.hid (hav.1.keep hk2 (by simp)); have Hl2 := Lib.hid (hav.2.keep hk2 (by simp))
  clear hw2 hBa hk2 hav
  show Calls Tryz.prog 149 #[.agg #[.int .i64 kd, .int .i64 kind, .int .i64 ag, .int .i64 sh, .int .i64 seq, .int .i64 ep, .slice Aa dn na, .string ser, .int .i64 fr, .int .i64 etg, .int .i64 tag, .int .i64 code, .int .u64 nn, .int .i64 term, .int .i64 had, .slice Ba ln ka, .int .i64 commit, .int .i64 len]] w fun r w' => SamePost R w r w'
  go_enter Tryz.func149, Tryz.ntmps149
  go_upto_region 1 with (fail)
  rw [← Hw2.out]
  generalize hgs : w.heap.size = g at HBa Hd2 Hl2 ⊢
  have Hgs := Lib.hid hgs
  clear Hw2 hgs
  obtain ⟨q0, q1, q2, q3, q4, q5, q6, q7, q8, q9, qa, qb, qc, qd, qe, qf, qg, qh, qz⟩ := blk18 HBa.out
  simp only [] at g1 g2 g3 g4 g5 g6
  have h1 : (kd == 1) = false := by simpa using g1
  have h2 : (kd == 2) = false := by simpa using g2
  have h3 : (kd == 3) = false := by simpa using g3
  have h4 : (kd == 4) = false := by simpa using g4
  have h5 : (kd == 5) = false := by simpa using g5
  have h6 : (kd == 6) = false := by simpa using g6
  obtain ⟨w5, hw5⟩ : ∃ w5, w5 = (w2.setCell ⟨g, 0, none⟩ (.int .i64 0)) := ⟨_, rfl⟩
  have hk : Keeps [g] w2 w5 := by rw [hw5]; exact (Keeps.refl _ _).setCell (by simp) _
  have hB5 : Blk w5 g 68 #[.int .i64 0, .int .i64 kind, .int .i64 ag, .int .i64 sh, .int .i64 seq, .int .i64 ep, .slice Aa dn na, .string ser, .int .i64 fr, .int .i64 etg, .int .i64 tag, .int .i64 code, .int .u64 nn, .int .i64 term, .int .i64 had, .slice Ba ln ka, .int .i64 commit, .int .i64 len] := by rw [hw5]; exact (by simpa using (HBa.out.set_ 0 (.int .i64 0)) : Blk _ g _ _)
  have hS := hsm.out ⟨0, ⟨kind, ag, sh, seq, ep, ds, ser, fr, etg⟩, tag, code, nn, term, had, log, commit, len⟩ (.slice Aa dn na) (.slice Ba ln ka) w5 ⟨(Hd2.out.keep hk (by simp)).avoid (by simp), (Hl2.out.keep hk (by simp)).avoid (by simp)⟩ ⟨Hca.out.1, Hca.out.2⟩
  rw [HZ.out ⟨0, ⟨kind, ag, sh, seq, ep, ds, ser, fr, etg⟩, tag, code, nn, term, had, log, commit, len⟩ (by simp [clearM, *])] at hS
  simp only [mCell, eCell, zeroM, zeroD, List.cons_append, List.nil_append] at hS
  have HS := Lib.hid (show Calls Tryz.prog 50 #[.agg #[.int .i64 0, .int .i64 kind, .int .i64 ag, .int .i64 sh, .int .i64 seq, .int .i64 ep, .slice Aa dn na, .string ser, .int .i64 fr, .int .i64 etg, .int .i64 tag, .int .i64 code, .int .u64 nn, .int .i64 term, .int .i64 had, .slice Ba ln ka, .int .i64 commit, .int .i64 len], .agg #[.int .i64 0, .int .i64 0, .int .i64 0, .int .i64 0, .int .i64 0, .int .i64 0, .slice none 0 0, .string ⟨#[]⟩, .int .i64 0, .int .i64 0, .int .i64 0, .int .i64 0, .int .u64 0, .int .i64 0, .int .i64 0, .slice none 0 0, .int .i64 0, .int .i64 0]] w5 fun r w' => SamePost R w5 r w' from hS)
  have Hbw := Lib.hid (Hk2.out.trans hk (by intro x hx; simp at hx; right; have := Hgs.out; omega)).below
  have Hw5 := Lib.hid hw5; have HB5 := Lib.hid hB5
  clear hk hw5 hB5 hS hsm HZ
  go_upto_region 15 with (fail)
  rw [← Hw5.out]
  clear q0 q1 q2 q3 q4 q5 q6 q7 q8 q9 qa qb qc qd qe qf qg qh qz
  have HR := Lib.hid (blk_range HB5.out)
  go_wp2_with (refine wpList_load_mid rfl 68 (.tmp 1) rfl g 0 rfl _ _ HR.out Tryz.underlying68 rfl (by kernel_rfl) ?_)
  refine HS.out.mono ?_
  rintro e w6 ⟨rfl, hb6⟩
  have Hb6 := Lib.hid (below_then Hbw.out hb6)
  clear hb6
  go_wp2
  go_ret
  exact ⟨rfl, Hb6.out⟩
set_option maxRecDepth 100000 in
set_option maxHeartbeats 2000000 in
theorem mzero_1 (m : MsgD) (dv lv : Value) (w : World) (ha : MsgAt w [] m dv lv) (ca : MCnt m) (hk0 : m.kd = 1) :
    Calls Tryz.prog 149 #[.agg (mCell m dv lv).toArray] w fun r w' => SamePost (zeroS m) w r w' := by
  have hsm := Lib.hid (fun (m' : MsgD) (d' l' : Value) W (h : MsgAt W [] m' d' l') (c : MCnt m') => msame_any m' zeroM d' l' (.slice none 0 0) (.slice none 0 0) W h ⟨Ds.nil _ _, Ens.nil _ _⟩ c ⟨by simp [zeroM, zeroD], cnt_nil⟩)
  have HZ : Hid (∀ m', m' = clearM m → sameM m' zeroM = zeroS m) := fun m' h => by subst h; rfl
  have hav := ha.avoid (M' := [w.heap.size]) (by simp)
  obtain ⟨Aa, na, rfl, _⟩ := ha.1.len
  obtain ⟨Ba, ka, rfl, _⟩ := ha.2.len
  have Hca := Lib.hid ca
  generalize zeroS m = R at *
  clear ha ca
  obtain ⟨kd, ⟨kind, ag, sh, seq, ep, ds, ser, fr, etg⟩, tag, code, nn, term, had, log, commit, len⟩ := m
  simp only [mCell, eCell, List.cons_append, List.nil_append]
  simp only [MsgAt] at hav
  generalize hdn : ds.length = dn at *
  generalize hln : log.length = ln at *
  have Hdn := Lib.hid hdn; have Hln := Lib.hid hln
  clear hdn hln
  obtain ⟨w2, hw2⟩ : ∃ w2, w2 = w.alloc (.cells #[.int .i64 kd, .int .i64 kind, .int .i64 ag, .int .i64 sh, .int .i64 seq, .int .i64 ep, .slice Aa dn na, .string ser, .int .i64 fr, .int .i64 etg, .int .i64 tag, .int .i64 code, .int .u64 nn, .int .i64 term, .int .i64 had, .slice Ba ln ka, .int .i64 commit, .int .i64 len] 68) := ⟨_, rfl⟩
  have hk2 : Keeps [] w w2 := by rw [hw2]; exact (Keeps.refl _ _).alloc _
  have hBa : Blk w2 w.heap.size 68 #[.int .i64 kd, .int .i64 kind, .int .i64 ag, .int .i64 sh, .int .i64 seq, .int .i64 ep, .slice Aa dn na, .string ser, .int .i64 fr, .int .i64 etg, .int .i64 tag, .int .i64 code, .int .u64 nn, .int .i64 term, .int .i64 had, .slice Ba ln ka, .int .i64 commit, .int .i64 len] := by rw [hw2]; exact Blk.new w _ _
  have Hw2 := Lib.hid hw2; have HBa := Lib.hid hBa; have Hk2 := Lib.hid hk2
  have Hd2 := Lib.hid (hav.1.keep hk2 (by simp)); have Hl2 := Lib.hid (hav.2.keep hk2 (by simp))
  clear hw2 hBa hk2 hav
  show Calls Tryz.prog 149 #[.agg #[.int .i64 kd, .int .i64 kind, .int .i64 ag, .int .i64 sh, .int .i64 seq, .int .i64 ep, .slice Aa dn na, .string ser, .int .i64 fr, .int .i64 etg, .int .i64 tag, .int .i64 code, .int .u64 nn, .int .i64 term, .int .i64 had, .slice Ba ln ka, .int .i64 commit, .int .i64 len]] w fun r w' => SamePost R w r w'
  go_enter Tryz.func149, Tryz.ntmps149
  go_upto_region 1 with (fail)
  rw [← Hw2.out]
  generalize hgs : w.heap.size = g at HBa Hd2 Hl2 ⊢
  have Hgs := Lib.hid hgs
  clear Hw2 hgs
  obtain ⟨q0, q1, q2, q3, q4, q5, q6, q7, q8, q9, qa, qb, qc, qd, qe, qf, qg, qh, qz⟩ := blk18 HBa.out
  simp only [] at hk0
  subst hk0
  obtain ⟨w5, hw5⟩ : ∃ w5, w5 = ((((((((((w2.setCell ⟨g, 1, none⟩ (.int .i64 0)).setCell ⟨g, 2, none⟩ (.int .i64 0)).setCell ⟨g, 3, none⟩ (.int .i64 0)).setCell ⟨g, 4, none⟩ (.int .i64 0)).setCell ⟨g, 5, none⟩ (.int .i64 0)).setCell ⟨g, 6, none⟩ (.slice none 0 0)).setCell ⟨g, 7, none⟩ (.string ⟨#[]⟩)).setCell ⟨g, 8, none⟩ (.int .i64 0)).setCell ⟨g, 9, none⟩ (.int .i64 0)).setCell ⟨g, 0, none⟩ (.int .i64 0)) := ⟨_, rfl⟩
  have hk : Keeps [g] w2 w5 := by rw [hw5]; exact ((((((((((Keeps.refl _ _).setCell (by simp) _).setCell (by simp) _).setCell (by simp) _).setCell (by simp) _).setCell (by simp) _).setCell (by simp) _).setCell (by simp) _).setCell (by simp) _).setCell (by simp) _).setCell (by simp) _
  have hB5 : Blk w5 g 68 #[.int .i64 0, .int .i64 0, .int .i64 0, .int .i64 0, .int .i64 0, .int .i64 0, .slice none 0 0, .string ⟨#[]⟩, .int .i64 0, .int .i64 0, .int .i64 tag, .int .i64 code, .int .u64 nn, .int .i64 term, .int .i64 had, .slice Ba ln ka, .int .i64 commit, .int .i64 len] := by rw [hw5]; exact (by simpa using ((((((((((HBa.out.set_ 1 (.int .i64 0)).set_ 2 (.int .i64 0)).set_ 3 (.int .i64 0)).set_ 4 (.int .i64 0)).set_ 5 (.int .i64 0)).set_ 6 (.slice none 0 0)).set_ 7 (.string ⟨#[]⟩)).set_ 8 (.int .i64 0)).set_ 9 (.int .i64 0)).set_ 0 (.int .i64 0)) : Blk _ g _ _)
  have hS := hsm.out ⟨0, zeroD, tag, code, nn, term, had, log, commit, len⟩ (.slice none 0 0) (.slice Ba ln ka) w5 ⟨Ds.nil _ _, (Hl2.out.keep hk (by simp)).avoid (by simp)⟩ ⟨by simp [zeroD], Hca.out.2⟩
  rw [HZ.out ⟨0, zeroD, tag, code, nn, term, had, log, commit, len⟩ (by simp [clearM])] at hS
  simp only [mCell, eCell, zeroM, zeroD, List.cons_append, List.nil_append] at hS
  have HS := Lib.hid (show Calls Tryz.prog 50 #[.agg #[.int .i64 0, .int .i64 0, .int .i64 0, .int .i64 0, .int .i64 0, .int .i64 0, .slice none 0 0, .string ⟨#[]⟩, .int .i64 0, .int .i64 0, .int .i64 tag, .int .i64 code, .int .u64 nn, .int .i64 term, .int .i64 had, .slice Ba ln ka, .int .i64 commit, .int .i64 len], .agg #[.int .i64 0, .int .i64 0, .int .i64 0, .int .i64 0, .int .i64 0, .int .i64 0, .slice none 0 0, .string ⟨#[]⟩, .int .i64 0, .int .i64 0, .int .i64 0, .int .i64 0, .int .u64 0, .int .i64 0, .int .i64 0, .slice none 0 0, .int .i64 0, .int .i64 0]] w5 fun r w' => SamePost R w5 r w' from hS)
  have Hbw := Lib.hid (Hk2.out.trans hk (by intro x hx; simp at hx; right; have := Hgs.out; omega)).below
  have Hw5 := Lib.hid hw5; have HB5 := Lib.hid hB5
  clear hk hw5 hB5 hS hsm HZ
  go_upto_region 15 with (fail)
  rw [← Hw5.out]
  clear q0 q1 q2 q3 q4 q5 q6 q7 q8 q9 qa qb qc qd qe qf qg qh qz
  have HR := Lib.hid (blk_range HB5.out)
  go_wp2_with (refine wpList_load_mid rfl 68 (.tmp 1) rfl g 0 rfl _ _ HR.out Tryz.underlying68 rfl (by kernel_rfl) ?_)
  refine HS.out.mono ?_
  rintro e w6 ⟨rfl, hb6⟩
  have Hb6 := Lib.hid (below_then Hbw.out hb6)
  clear hb6
  go_wp2
  go_ret
  exact ⟨rfl, Hb6.out⟩
set_option maxRecDepth 100000 in
set_option maxHeartbeats 2000000 in
theorem mzero_2 (m : MsgD) (dv lv : Value) (w : World) (ha : MsgAt w [] m dv lv) (ca : MCnt m) (hk0 : m.kd = 2) :
    Calls Tryz.prog 149 #[.agg (mCell m dv lv).toArray] w fun r w' => SamePost (zeroS m) w r w' := by
  have hsm := Lib.hid (fun (m' : MsgD) (d' l' : Value) W (h : MsgAt W [] m' d' l') (c : MCnt m') => msame_any m' zeroM d' l' (.slice none 0 0) (.slice none 0 0) W h ⟨Ds.nil _ _, Ens.nil _ _⟩ c ⟨by simp [zeroM, zeroD], cnt_nil⟩)
  have HZ : Hid (∀ m', m' = clearM m → sameM m' zeroM = zeroS m) := fun m' h => by subst h; rfl
  have hav := ha.avoid (M' := [w.heap.size]) (by simp)
  obtain ⟨Aa, na, rfl, _⟩ := ha.1.len
  obtain ⟨Ba, ka, rfl, _⟩ := ha.2.len
  have Hca := Lib.hid ca
  generalize zeroS m = R at *
  clear ha ca
  obtain ⟨kd, ⟨kind, ag, sh, seq, ep, ds, ser, fr, etg⟩, tag, code, nn, term, had, log, commit, len⟩ := m
  simp only [mCell, eCell, List.cons_append, List.nil_append]
  simp only [MsgAt] at hav
  generalize hdn : ds.length = dn at *
  generalize hln : log.length = ln at *
  have Hdn := Lib.hid hdn; have Hln := Lib.hid hln
  clear hdn hln
  obtain ⟨w2, hw2⟩ : ∃ w2, w2 = w.alloc (.cells #[.int .i64 kd, .int .i64 kind, .int .i64 ag, .int .i64 sh, .int .i64 seq, .int .i64 ep, .slice Aa dn na, .string ser, .int .i64 fr, .int .i64 etg, .int .i64 tag, .int .i64 code, .int .u64 nn, .int .i64 term, .int .i64 had, .slice Ba ln ka, .int .i64 commit, .int .i64 len] 68) := ⟨_, rfl⟩
  have hk2 : Keeps [] w w2 := by rw [hw2]; exact (Keeps.refl _ _).alloc _
  have hBa : Blk w2 w.heap.size 68 #[.int .i64 kd, .int .i64 kind, .int .i64 ag, .int .i64 sh, .int .i64 seq, .int .i64 ep, .slice Aa dn na, .string ser, .int .i64 fr, .int .i64 etg, .int .i64 tag, .int .i64 code, .int .u64 nn, .int .i64 term, .int .i64 had, .slice Ba ln ka, .int .i64 commit, .int .i64 len] := by rw [hw2]; exact Blk.new w _ _
  have Hw2 := Lib.hid hw2; have HBa := Lib.hid hBa; have Hk2 := Lib.hid hk2
  have Hd2 := Lib.hid (hav.1.keep hk2 (by simp)); have Hl2 := Lib.hid (hav.2.keep hk2 (by simp))
  clear hw2 hBa hk2 hav
  show Calls Tryz.prog 149 #[.agg #[.int .i64 kd, .int .i64 kind, .int .i64 ag, .int .i64 sh, .int .i64 seq, .int .i64 ep, .slice Aa dn na, .string ser, .int .i64 fr, .int .i64 etg, .int .i64 tag, .int .i64 code, .int .u64 nn, .int .i64 term, .int .i64 had, .slice Ba ln ka, .int .i64 commit, .int .i64 len]] w fun r w' => SamePost R w r w'
  go_enter Tryz.func149, Tryz.ntmps149
  go_upto_region 1 with (fail)
  rw [← Hw2.out]
  generalize hgs : w.heap.size = g at HBa Hd2 Hl2 ⊢
  have Hgs := Lib.hid hgs
  clear Hw2 hgs
  obtain ⟨q0, q1, q2, q3, q4, q5, q6, q7, q8, q9, qa, qb, qc, qd, qe, qf, qg, qh, qz⟩ := blk18 HBa.out
  simp only [] at hk0
  subst hk0
  obtain ⟨w5, hw5⟩ : ∃ w5, w5 = ((((w2.setCell ⟨g, 10, none⟩ (.int .i64 0)).setCell ⟨g, 11, none⟩ (.int .i64 0)).setCell ⟨g, 12, none⟩ (.int .u64 0)).setCell ⟨g, 0, none⟩ (.int .i64 0)) := ⟨_, rfl⟩
  have hk : Keeps [g] w2 w5 := by rw [hw5]; exact ((((Keeps.refl _ _).setCell (by simp) _).setCell (by simp) _).setCell (by simp) _).setCell (by simp) _
  have hB5 : Blk w5 g 68 #[.int .i64 0, .int .i64 kind, .int .i64 ag, .int .i64 sh, .int .i64 seq, .int .i64 ep, .slice Aa dn na, .string ser, .int .i64 fr, .int .i64 etg, .int .i64 0, .int .i64 0, .int .u64 0, .int .i64 term, .int .i64 had, .slice Ba ln ka, .int .i64 commit, .int .i64 len] := by rw [hw5]; exact (by simpa using ((((HBa.out.set_ 10 (.int .i64 0)).set_ 11 (.int .i64 0)).set_ 12 (.int .u64 0)).set_ 0 (.int .i64 0)) : Blk _ g _ _)
  have hS := hsm.out ⟨0, ⟨kind, ag, sh, seq, ep, ds, ser, fr, etg⟩, 0, 0, 0, term, had, log, commit, len⟩ (.slice Aa dn na) (.slice Ba ln ka) w5 ⟨(Hd2.out.keep hk (by simp)).avoid (by simp), (Hl2.out.keep hk (by simp)).avoid (by simp)⟩ ⟨Hca.out.1, Hca.out.2⟩
  rw [HZ.out ⟨0, ⟨kind, ag, sh, seq, ep, ds, ser, fr, etg⟩, 0, 0, 0, term, had, log, commit, len⟩ (by simp [clearM])] at hS
  simp only [mCell, eCell, zeroM, zeroD, List.cons_append, List.nil_append] at hS
  have HS := Lib.hid (show Calls Tryz.prog 50 #[.agg #[.int .i64 0, .int .i64 kind, .int .i64 ag, .int .i64 sh, .int .i64 seq, .int .i64 ep, .slice Aa dn na, .string ser, .int .i64 fr, .int .i64 etg, .int .i64 0, .int .i64 0, .int .u64 0, .int .i64 term, .int .i64 had, .slice Ba ln ka, .int .i64 commit, .int .i64 len], .agg #[.int .i64 0, .int .i64 0, .int .i64 0, .int .i64 0, .int .i64 0, .int .i64 0, .slice none 0 0, .string ⟨#[]⟩, .int .i64 0, .int .i64 0, .int .i64 0, .int .i64 0, .int .u64 0, .int .i64 0, .int .i64 0, .slice none 0 0, .int .i64 0, .int .i64 0]] w5 fun r w' => SamePost R w5 r w' from hS)
  have Hbw := Lib.hid (Hk2.out.trans hk (by intro x hx; simp at hx; right; have := Hgs.out; omega)).below
  have Hw5 := Lib.hid hw5; have HB5 := Lib.hid hB5
  clear hk hw5 hB5 hS hsm HZ
  go_upto_region 15 with (fail)
  rw [← Hw5.out]
  clear q0 q1 q2 q3 q4 q5 q6 q7 q8 q9 qa qb qc qd qe qf qg qh qz
  have HR := Lib.hid (blk_range HB5.out)
  go_wp2_with (refine wpList_load_mid rfl 68 (.tmp 1) rfl g 0 rfl _ _ HR.out Tryz.underlying68 rfl (by kernel_rfl) ?_)
  refine HS.out.mono ?_
  rintro e w6 ⟨rfl, hb6⟩
  have Hb6 := Lib.hid (below_then Hbw.out hb6)
  clear hb6
  go_wp2
  go_ret
  exact ⟨rfl, Hb6.out⟩
set_option maxRecDepth 100000 in
set_option maxHeartbeats 2000000 in
theorem mzero_3 (m : MsgD) (dv lv : Value) (w : World) (ha : MsgAt w [] m dv lv) (ca : MCnt m) (hk0 : m.kd = 3) :
    Calls Tryz.prog 149 #[.agg (mCell m dv lv).toArray] w fun r w' => SamePost (zeroS m) w r w' := by
  have hsm := Lib.hid (fun (m' : MsgD) (d' l' : Value) W (h : MsgAt W [] m' d' l') (c : MCnt m') => msame_any m' zeroM d' l' (.slice none 0 0) (.slice none 0 0) W h ⟨Ds.nil _ _, Ens.nil _ _⟩ c ⟨by simp [zeroM, zeroD], cnt_nil⟩)
  have HZ : Hid (∀ m', m' = clearM m → sameM m' zeroM = zeroS m) := fun m' h => by subst h; rfl
  have hav := ha.avoid (M' := [w.heap.size]) (by simp)
  obtain ⟨Aa, na, rfl, _⟩ := ha.1.len
  obtain ⟨Ba, ka, rfl, _⟩ := ha.2.len
  have Hca := Lib.hid ca
  generalize zeroS m = R at *
  clear ha ca
  obtain ⟨kd, ⟨kind, ag, sh, seq, ep, ds, ser, fr, etg⟩, tag, code, nn, term, had, log, commit, len⟩ := m
  simp only [mCell, eCell, List.cons_append, List.nil_append]
  simp only [MsgAt] at hav
  generalize hdn : ds.length = dn at *
  generalize hln : log.length = ln at *
  have Hdn := Lib.hid hdn; have Hln := Lib.hid hln
  clear hdn hln
  obtain ⟨w2, hw2⟩ : ∃ w2, w2 = w.alloc (.cells #[.int .i64 kd, .int .i64 kind, .int .i64 ag, .int .i64 sh, .int .i64 seq, .int .i64 ep, .slice Aa dn na, .string ser, .int .i64 fr, .int .i64 etg, .int .i64 tag, .int .i64 code, .int .u64 nn, .int .i64 term, .int .i64 had, .slice Ba ln ka, .int .i64 commit, .int .i64 len] 68) := ⟨_, rfl⟩
  have hk2 : Keeps [] w w2 := by rw [hw2]; exact (Keeps.refl _ _).alloc _
  have hBa : Blk w2 w.heap.size 68 #[.int .i64 kd, .int .i64 kind, .int .i64 ag, .int .i64 sh, .int .i64 seq, .int .i64 ep, .slice Aa dn na, .string ser, .int .i64 fr, .int .i64 etg, .int .i64 tag, .int .i64 code, .int .u64 nn, .int .i64 term, .int .i64 had, .slice Ba ln ka, .int .i64 commit, .int .i64 len] := by rw [hw2]; exact Blk.new w _ _
  have Hw2 := Lib.hid hw2; have HBa := Lib.hid hBa; have Hk2 := Lib.hid hk2
  have Hd2 := Lib.hid (hav.1.keep hk2 (by simp)); have Hl2 := Lib.hid (hav.2.keep hk2 (by simp))
  clear hw2 hBa hk2 hav
  show Calls Tryz.prog 149 #[.agg #[.int .i64 kd, .int .i64 kind, .int .i64 ag, .int .i64 sh, .int .i64 seq, .int .i64 ep, .slice Aa dn na, .string ser, .int .i64 fr, .int .i64 etg, .int .i64 tag, .int .i64 code, .int .u64 nn, .int .i64 term, .int .i64 had, .slice Ba ln ka, .int .i64 commit, .int .i64 len]] w fun r w' => SamePost R w r w'
  go_enter Tryz.func149, Tryz.ntmps149
  go_upto_region 1 with (fail)
  rw [← Hw2.out]
  generalize hgs : w.heap.size = g at HBa Hd2 Hl2 ⊢
  have Hgs := Lib.hid hgs
  clear Hw2 hgs
  obtain ⟨q0, q1, q2, q3, q4, q5, q6, q7, q8, q9, qa, qb, qc, qd, qe, qf, qg, qh, qz⟩ := blk18 HBa.out
  simp only [] at hk0
  subst hk0
  obtain ⟨w5, hw5⟩ : ∃ w5, w5 = ((w2.setCell ⟨g, 13, none⟩ (.int .i64 0)).setCell ⟨g, 0, none⟩ (.int .i64 0)) := ⟨_, rfl⟩
  have hk : Keeps [g] w2 w5 := by rw [hw5]; exact ((Keeps.refl _ _).setCell (by simp) _).setCell (by simp) _
  have hB5 : Blk w5 g 68 #[.int .i64 0, .int .i64 kind, .int .i64 ag, .int .i64 sh, .int .i64 seq, .int .i64 ep, .slice Aa dn na, .string ser, .int .i64 fr, .int .i64 etg, .int .i64 tag, .int .i64 code, .int .u64 nn, .int .i64 0, .int .i64 had, .slice Ba ln ka, .int .i64 commit, .int .i64 len] := by rw [hw5]; exact (by simpa using ((HBa.out.set_ 13 (.int .i64 0)).set_ 0 (.int .i64 0)) : Blk _ g _ _)
  have hS := hsm.out ⟨0, ⟨kind, ag, sh, seq, ep, ds, ser, fr, etg⟩, tag, code, nn, 0, had, log, commit, len⟩ (.slice Aa dn na) (.slice Ba ln ka) w5 ⟨(Hd2.out.keep hk (by simp)).avoid (by simp), (Hl2.out.keep hk (by simp)).avoid (by simp)⟩ ⟨Hca.out.1, Hca.out.2⟩
  rw [HZ.out ⟨0, ⟨kind, ag, sh, seq, ep, ds, ser, fr, etg⟩, tag, code, nn, 0, had, log, commit, len⟩ (by simp [clearM])] at hS
  simp only [mCell, eCell, zeroM, zeroD, List.cons_append, List.nil_append] at hS
  have HS := Lib.hid (show Calls Tryz.prog 50 #[.agg #[.int .i64 0, .int .i64 kind, .int .i64 ag, .int .i64 sh, .int .i64 seq, .int .i64 ep, .slice Aa dn na, .string ser, .int .i64 fr, .int .i64 etg, .int .i64 tag, .int .i64 code, .int .u64 nn, .int .i64 0, .int .i64 had, .slice Ba ln ka, .int .i64 commit, .int .i64 len], .agg #[.int .i64 0, .int .i64 0, .int .i64 0, .int .i64 0, .int .i64 0, .int .i64 0, .slice none 0 0, .string ⟨#[]⟩, .int .i64 0, .int .i64 0, .int .i64 0, .int .i64 0, .int .u64 0, .int .i64 0, .int .i64 0, .slice none 0 0, .int .i64 0, .int .i64 0]] w5 fun r w' => SamePost R w5 r w' from hS)
  have Hbw := Lib.hid (Hk2.out.trans hk (by intro x hx; simp at hx; right; have := Hgs.out; omega)).below
  have Hw5 := Lib.hid hw5; have HB5 := Lib.hid hB5
  clear hk hw5 hB5 hS hsm HZ
  go_upto_region 15 with (fail)
  rw [← Hw5.out]
  clear q0 q1 q2 q3 q4 q5 q6 q7 q8 q9 qa qb qc qd qe qf qg qh qz
  have HR := Lib.hid (blk_range HB5.out)
  go_wp2_with (refine wpList_load_mid rfl 68 (.tmp 1) rfl g 0 rfl _ _ HR.out Tryz.underlying68 rfl (by kernel_rfl) ?_)
  refine HS.out.mono ?_
  rintro e w6 ⟨rfl, hb6⟩
  have Hb6 := Lib.hid (below_then Hbw.out hb6)
  clear hb6
  go_wp2
  go_ret
  exact ⟨rfl, Hb6.out⟩
set_option maxRecDepth 100000 in
set_option maxHeartbeats 2000000 in
theorem mzero_4 (m : MsgD) (dv lv : Value) (w : World) (ha : MsgAt w [] m dv lv) (ca : MCnt m) (hk0 : m.kd = 4) :
    Calls Tryz.prog 149 #[.agg (mCell m dv lv).toArray] w fun r w' => SamePost (zeroS m) w r w' := by
  have hsm := Lib.hid (fun (m' : MsgD) (d' l' : Value) W (h : MsgAt W [] m' d' l') (c : MCnt m') => msame_any m' zeroM d' l' (.slice none 0 0) (.slice none 0 0) W h ⟨Ds.nil _ _, Ens.nil _ _⟩ c ⟨by simp [zeroM, zeroD], cnt_nil⟩)
  have HZ : Hid (∀ m', m' = clearM m → sameM m' zeroM = zeroS m) := fun m' h => by subst h; rfl
  have hav := ha.avoid (M' := [w.heap.size]) (by simp)
  obtain ⟨Aa, na, rfl, _⟩ := ha.1.len
  obtain ⟨Ba, ka, rfl, _⟩ := ha.2.len
  have Hca := Lib.hid ca
  generalize zeroS m = R at *
  clear ha ca
  obtain ⟨kd, ⟨kind, ag, sh, seq, ep, ds, ser, fr, etg⟩, tag, code, nn, term, had, log, commit, len⟩ := m
  simp only [mCell, eCell, List.cons_append, List.nil_append]
  simp only [MsgAt] at hav
  generalize hdn : ds.length = dn at *
  generalize hln : log.length = ln at *
  have Hdn := Lib.hid hdn; have Hln := Lib.hid hln
  clear hdn hln
  obtain ⟨w2, hw2⟩ : ∃ w2, w2 = w.alloc (.cells #[.int .i64 kd, .int .i64 kind, .int .i64 ag, .int .i64 sh, .int .i64 seq, .int .i64 ep, .slice Aa dn na, .string ser, .int .i64 fr, .int .i64 etg, .int .i64 tag, .int .i64 code, .int .u64 nn, .int .i64 term, .int .i64 had, .slice Ba ln ka, .int .i64 commit, .int .i64 len] 68) := ⟨_, rfl⟩
  have hk2 : Keeps [] w w2 := by rw [hw2]; exact (Keeps.refl _ _).alloc _
  have hBa : Blk w2 w.heap.size 68 #[.int .i64 kd, .int .i64 kind, .int .i64 ag, .int .i64 sh, .int .i64 seq, .int .i64 ep, .slice Aa dn na, .string ser, .int .i64 fr, .int .i64 etg, .int .i64 tag, .int .i64 code, .int .u64 nn, .int .i64 term, .int .i64 had, .slice Ba ln ka, .int .i64 commit, .int .i64 len] := by rw [hw2]; exact Blk.new w _ _
  have Hw2 := Lib.hid hw2; have HBa := Lib.hid hBa; have Hk2 := Lib.hid hk2
  have Hd2 := Lib.hid (hav.1.keep hk2 (by simp)); have Hl2 := Lib.hid (hav.2.keep hk2 (by simp))
  clear hw2 hBa hk2 hav
  show Calls Tryz.prog 149 #[.agg #[.int .i64 kd, .int .i64 kind, .int .i64 ag, .int .i64 sh, .int .i64 seq, .int .i64 ep, .slice Aa dn na, .string ser, .int .i64 fr, .int .i64 etg, .int .i64 tag, .int .i64 code, .int .u64 nn, .int .i64 term, .int .i64 had, .slice Ba ln ka, .int .i64 commit, .int .i64 len]] w fun r w' => SamePost R w r w'
  go_enter Tryz.func149, Tryz.ntmps149
  go_upto_region 1 with (fail)
  rw [← Hw2.out]
  generalize hgs : w.heap.size = g at HBa Hd2 Hl2 ⊢
  have Hgs := Lib.hid hgs
  clear Hw2 hgs
  obtain ⟨q0, q1, q2, q3, q4, q5, q6, q7, q8, q9, qa, qb, qc, qd, qe, qf, qg, qh, qz⟩ := blk18 HBa.out
  simp only [] at hk0
  subst hk0
  obtain ⟨w5, hw5⟩ : ∃ w5, w5 = ((((w2.setCell ⟨g, 13, none⟩ (.int .i64 0)).setCell ⟨g, 14, none⟩ (.int .i64 0)).setCell ⟨g, 15, none⟩ (.slice none 0 0)).setCell ⟨g, 0, none⟩ (.int .i64 0)) := ⟨_, rfl⟩
  have hk : Keeps [g] w2 w5 := by rw [hw5]; exact ((((Keeps.refl _ _).setCell (by simp) _).setCell (by simp) _).setCell (by simp) _).setCell (by simp) _
  have hB5 : Blk w5 g 68 #[.int .i64 0, .int .i64 kind, .int .i64 ag, .int .i64 sh, .int .i64 seq, .int .i64 ep, .slice Aa dn na, .string ser, .int .i64 fr, .int .i64 etg, .int .i64 tag, .int .i64 code, .int .u64 nn, .int .i64 0, .int .i64 0, .slice none 0 0, .int .i64 commit, .int .i64 len] := by rw [hw5]; exact (by simpa using ((((HBa.out.set_ 13 (.int .i64 0)).set_ 14 (.int .i64 0)).set_ 15 (.slice none 0 0)).set_ 0 (.int .i64 0)) : Blk _ g _ _)
  have hS := hsm.out ⟨0, ⟨kind, ag, sh, seq, ep, ds, ser, fr, etg⟩, tag, code, nn, 0, 0, [], commit, len⟩ (.slice Aa dn na) (.slice none 0 0) w5 ⟨(Hd2.out.keep hk (by simp)).avoid (by simp), Ens.nil _ _⟩ ⟨Hca.out.1, cnt_nil⟩
  rw [HZ.out ⟨0, ⟨kind, ag, sh, seq, ep, ds, ser, fr, etg⟩, tag, code, nn, 0, 0, [], commit, len⟩ (by simp [clearM])] at hS
  simp only [mCell, eCell, zeroM, zeroD, List.cons_append, List.nil_append] at hS
  have HS := Lib.hid (show Calls Tryz.prog 50 #[.agg #[.int .i64 0, .int .i64 kind, .int .i64 ag, .int .i64 sh, .int .i64 seq, .int .i64 ep, .slice Aa dn na, .string ser, .int .i64 fr, .int .i64 etg, .int .i64 tag, .int .i64 code, .int .u64 nn, .int .i64 0, .int .i64 0, .slice none 0 0, .int .i64 commit, .int .i64 len], .agg #[.int .i64 0, .int .i64 0, .int .i64 0, .int .i64 0, .int .i64 0, .int .i64 0, .slice none 0 0, .string ⟨#[]⟩, .int .i64 0, .int .i64 0, .int .i64 0, .int .i64 0, .int .u64 0, .int .i64 0, .int .i64 0, .slice none 0 0, .int .i64 0, .int .i64 0]] w5 fun r w' => SamePost R w5 r w' from hS)
  have Hbw := Lib.hid (Hk2.out.trans hk (by intro x hx; simp at hx; right; have := Hgs.out; omega)).below
  have Hw5 := Lib.hid hw5; have HB5 := Lib.hid hB5
  clear hk hw5 hB5 hS hsm HZ
  go_upto_region 15 with (fail)
  rw [← Hw5.out]
  clear q0 q1 q2 q3 q4 q5 q6 q7 q8 q9 qa qb qc qd qe qf qg qh qz
  have HR := Lib.hid (blk_range HB5.out)
  go_wp2_with (refine wpList_load_mid rfl 68 (.tmp 1) rfl g 0 rfl _ _ HR.out Tryz.underlying68 rfl (by kernel_rfl) ?_)
  refine HS.out.mono ?_
  rintro e w6 ⟨rfl, hb6⟩
  have Hb6 := Lib.hid (below_then Hbw.out hb6)
  clear hb6
  go_wp2
  go_ret
  exact ⟨rfl, Hb6.out⟩
set_option maxRecDepth 100000 in
set_option maxHeartbeats 2000000 in
theorem mzero_5 (m : MsgD) (dv lv : Value) (w : World) (ha : MsgAt w [] m dv lv) (ca : MCnt m) (hk0 : m.kd = 5) :
    Calls Tryz.prog 149 #[.agg (mCell m dv lv).toArray] w fun r w' => SamePost (zeroS m) w r w' := by
  have hsm := Lib.hid (fun (m' : MsgD) (d' l' : Value) W (h : MsgAt W [] m' d' l') (c : MCnt m') => msame_any m' zeroM d' l' (.slice none 0 0) (.slice none 0 0) W h ⟨Ds.nil _ _, Ens.nil _ _⟩ c ⟨by simp [zeroM, zeroD], cnt_nil⟩)
  have HZ : Hid (∀ m', m' = clearM m → sameM m' zeroM = zeroS m) := fun m' h => by subst h; rfl
  have hav := ha.avoid (M' := [w.heap.size]) (by simp)
  obtain ⟨Aa, na, rfl, _⟩ := ha.1.len
  obtain ⟨Ba, ka, rfl, _⟩ := ha.2.len
  have Hca := Lib.hid ca
  generalize zeroS m = R at *
  clear ha ca
  obtain ⟨kd, ⟨kind, ag, sh, seq, ep, ds, ser, fr, etg⟩, tag, code, nn, term, had, log, commit, len⟩ := m
  simp only [mCell, eCell, List.cons_append, List.nil_append]
  simp only [MsgAt] at hav
  generalize hdn : ds.length = dn at *
  generalize hln : log.length = ln at *
  have Hdn := Lib.hid hdn; have Hln := Lib.hid hln
  clear hdn hln
  obtain ⟨w2, hw2⟩ : ∃ w2, w2 = w.alloc (.cells #[.int .i64 kd, .int .i64 kind, .int .i64 ag, .int .i64 sh, .int .i64 seq, .int .i64 ep, .slice Aa dn na, .string ser, .int .i64 fr, .int .i64 etg, .int .i64 tag, .int .i64 code, .int .u64 nn, .int .i64 term, .int .i64 had, .slice Ba ln ka, .int .i64 commit, .int .i64 len] 68) := ⟨_, rfl⟩
  have hk2 : Keeps [] w w2 := by rw [hw2]; exact (Keeps.refl _ _).alloc _
  have hBa : Blk w2 w.heap.size 68 #[.int .i64 kd, .int .i64 kind, .int .i64 ag, .int .i64 sh, .int .i64 seq, .int .i64 ep, .slice Aa dn na, .string ser, .int .i64 fr, .int .i64 etg, .int .i64 tag, .int .i64 code, .int .u64 nn, .int .i64 term, .int .i64 had, .slice Ba ln ka, .int .i64 commit, .int .i64 len] := by rw [hw2]; exact Blk.new w _ _
  have Hw2 := Lib.hid hw2; have HBa := Lib.hid hBa; have Hk2 := Lib.hid hk2
  have Hd2 := Lib.hid (hav.1.keep hk2 (by simp)); have Hl2 := Lib.hid (hav.2.keep hk2 (by simp))
  clear hw2 hBa hk2 hav
  show Calls Tryz.prog 149 #[.agg #[.int .i64 kd, .int .i64 kind, .int .i64 ag, .int .i64 sh, .int .i64 seq, .int .i64 ep, .slice Aa dn na, .string ser, .int .i64 fr, .int .i64 etg, .int .i64 tag, .int .i64 code, .int .u64 nn, .int .i64 term, .int .i64 had, .slice Ba ln ka, .int .i64 commit, .int .i64 len]] w fun r w' => SamePost R w r w'
  go_enter Tryz.func149, Tryz.ntmps149
  go_upto_region 1 with (fail)
  rw [← Hw2.out]
  generalize hgs : w.heap.size = g at HBa Hd2 Hl2 ⊢
  have Hgs := Lib.hid hgs
  clear Hw2 hgs
  obtain ⟨q0, q1, q2, q3, q4, q5, q6, q7, q8, q9, qa, qb, qc, qd, qe, qf, qg, qh, qz⟩ := blk18 HBa.out
  simp only [] at hk0
  subst hk0
  obtain ⟨w5, hw5⟩ : ∃ w5, w5 = ((((w2.setCell ⟨g, 13, none⟩ (.int .i64 0)).setCell ⟨g, 15, none⟩ (.slice none 0 0)).setCell ⟨g, 16, none⟩ (.int .i64 0)).setCell ⟨g, 0, none⟩ (.int .i64 0)) := ⟨_, rfl⟩
  have hk : Keeps [g] w2 w5 := by rw [hw5]; exact ((((Keeps.refl _ _).setCell (by simp) _).setCell (by simp) _).setCell (by simp) _).setCell (by simp) _
  have hB5 : Blk w5 g 68 #[.int .i64 0, .int .i64 kind, .int .i64 ag, .int .i64 sh, .int .i64 seq, .int .i64 ep, .slice Aa dn na, .string ser, .int .i64 fr, .int .i64 etg, .int .i64 tag, .int .i64 code, .int .u64 nn, .int .i64 0, .int .i64 had, .slice none 0 0, .int .i64 0, .int .i64 len] := by rw [hw5]; exact (by simpa using ((((HBa.out.set_ 13 (.int .i64 0)).set_ 15 (.slice none 0 0)).set_ 16 (.int .i64 0)).set_ 0 (.int .i64 0)) : Blk _ g _ _)
  have hS := hsm.out ⟨0, ⟨kind, ag, sh, seq, ep, ds, ser, fr, etg⟩, tag, code, nn, 0, had, [], 0, len⟩ (.slice Aa dn na) (.slice none 0 0) w5 ⟨(Hd2.out.keep hk (by simp)).avoid (by simp), Ens.nil _ _⟩ ⟨Hca.out.1, cnt_nil⟩
  rw [HZ.out ⟨0, ⟨kind, ag, sh, seq, ep, ds, ser, fr, etg⟩, tag, code, nn, 0, had, [], 0, len⟩ (by simp [clearM])] at hS
  simp only [mCell, eCell, zeroM, zeroD, List.cons_append, List.nil_append] at hS
  have HS := Lib.hid (show Calls Tryz.prog 50 #[.agg #[.int .i64 0, .int .i64 kind, .int .i64 ag, .int .i64 sh, .int .i64 seq, .int .i64 ep, .slice Aa dn na, .string ser, .int .i64 fr, .int .i64 etg, .int .i64 tag, .int .i64 code, .int .u64 nn, .int .i64 0, .int .i64 had, .slice none 0 0, .int .i64 0, .int .i64 len], .agg #[.int .i64 0, .int .i64 0, .int .i64 0, .int .i64 0, .int .i64 0, .int .i64 0, .slice none 0 0, .string ⟨#[]⟩, .int .i64 0, .int .i64 0, .int .i64 0, .int .i64 0, .int .u64 0, .int .i64 0, .int .i64 0, .slice none 0 0, .int .i64 0, .int .i64 0]] w5 fun r w' => SamePost R w5 r w' from hS)
  have Hbw := Lib.hid (Hk2.out.trans hk (by intro x hx; simp at hx; right; have := Hgs.out; omega)).below
  have Hw5 := Lib.hid hw5; have HB5 := Lib.hid hB5
  clear hk hw5 hB5 hS hsm HZ
  go_upto_region 15 with (fail)
  rw [← Hw5.out]
  clear q0 q1 q2 q3 q4 q5 q6 q7 q8 q9 qa qb qc qd qe qf qg qh qz
  have HR := Lib.hid (blk_range HB5.out)
  go_wp2_with (refine wpList_load_mid rfl 68 (.tmp 1) rfl g 0 rfl _ _ HR.out Tryz.underlying68 rfl (by kernel_rfl) ?_)
  refine HS.out.mono ?_
  rintro e w6 ⟨rfl, hb6⟩
  have Hb6 := Lib.hid (below_then Hbw.out hb6)
  clear hb6
  go_wp2
  go_ret
  exact ⟨rfl, Hb6.out⟩
set_option maxRecDepth 100000 in
set_option maxHeartbeats 2000000 in
theorem mzero_6 (m : MsgD) (dv lv : Value) (w : World) (ha : MsgAt w [] m dv lv) (ca : MCnt m) (hk0 : m.kd = 6) :
    Calls Tryz.prog 149 #[.agg (mCell m dv lv).toArray] w fun r w' => SamePost (zeroS m) w r w' := by
  have hsm := Lib.hid (fun (m' : MsgD) (d' l' : Value) W (h : MsgAt W [] m' d' l') (c : MCnt m') => msame_any m' zeroM d' l' (.slice none 0 0) (.slice none 0 0) W h ⟨Ds.nil _ _, Ens.nil _ _⟩ c ⟨by simp [zeroM, zeroD], cnt_nil⟩)
  have HZ : Hid (∀ m', m' = clearM m → sameM m' zeroM = zeroS m) := fun m' h => by subst h; rfl
  have hav := ha.avoid (M' := [w.heap.size]) (by simp)
  obtain ⟨Aa, na, rfl, _⟩ := ha.1.len
  obtain ⟨Ba, ka, rfl, _⟩ := ha.2.len
  have Hca := Lib.hid ca
  generalize zeroS m = R at *
  clear ha ca
  obtain ⟨kd, ⟨kind, ag, sh, seq, ep, ds, ser, fr, etg⟩, tag, code, nn, term, had, log, commit, len⟩ := m
  simp only [mCell, eCell, List.cons_append, List.nil_append]
  simp only [MsgAt] at hav
  generalize hdn : ds.length = dn at *
  generalize hln : log.length = ln at *
  have Hdn := Lib.hid hdn; have Hln := Lib.hid hln
  clear hdn hln
  obtain ⟨w2, hw2⟩ : ∃ w2, w2 = w.alloc (.cells #[.int .i64 kd, .int .i64 kind, .int .i64 ag, .int .i64 sh, .int .i64 seq, .int .i64 ep, .slice Aa dn na, .string ser, .int .i64 fr, .int .i64 etg, .int .i64 tag, .int .i64 code, .int .u64 nn, .int .i64 term, .int .i64 had, .slice Ba ln ka, .int .i64 commit, .int .i64 len] 68) := ⟨_, rfl⟩
  have hk2 : Keeps [] w w2 := by rw [hw2]; exact (Keeps.refl _ _).alloc _
  have hBa : Blk w2 w.heap.size 68 #[.int .i64 kd, .int .i64 kind, .int .i64 ag, .int .i64 sh, .int .i64 seq, .int .i64 ep, .slice Aa dn na, .string ser, .int .i64 fr, .int .i64 etg, .int .i64 tag, .int .i64 code, .int .u64 nn, .int .i64 term, .int .i64 had, .slice Ba ln ka, .int .i64 commit, .int .i64 len] := by rw [hw2]; exact Blk.new w _ _
  have Hw2 := Lib.hid hw2; have HBa := Lib.hid hBa; have Hk2 := Lib.hid hk2
  have Hd2 := Lib.hid (hav.1.keep hk2 (by simp)); have Hl2 := Lib.hid (hav.2.keep hk2 (by simp))
  clear hw2 hBa hk2 hav
  show Calls Tryz.prog 149 #[.agg #[.int .i64 kd, .int .i64 kind, .int .i64 ag, .int .i64 sh, .int .i64 seq, .int .i64 ep, .slice Aa dn na, .string ser, .int .i64 fr, .int .i64 etg, .int .i64 tag, .int .i64 code, .int .u64 nn, .int .i64 term, .int .i64 had, .slice Ba ln ka, .int .i64 commit, .int .i64 len]] w fun r w' => SamePost R w r w'
  go_enter Tryz.func149, Tryz.ntmps149
  go_upto_region 1 with (fail)
  rw [← Hw2.out]
  generalize hgs : w.heap.size = g at HBa Hd2 Hl2 ⊢
  have Hgs := Lib.hid hgs
  clear Hw2 hgs
  obtain ⟨q0, q1, q2, q3, q4, q5, q6, q7, q8, q9, qa, qb, qc, qd, qe, qf, qg, qh, qz⟩ := blk18 HBa.out
  simp only [] at hk0
  subst hk0
  obtain ⟨w5, hw5⟩ : ∃ w5, w5 = (((w2.setCell ⟨g, 13, none⟩ (.int .i64 0)).setCell ⟨g, 17, none⟩ (.int .i64 0)).setCell ⟨g, 0, none⟩ (.int .i64 0)) := ⟨_, rfl⟩
  have hk : Keeps [g] w2 w5 := by rw [hw5]; exact (((Keeps.refl _ _).setCell (by simp) _).setCell (by simp) _).setCell (by simp) _
  have hB5 : Blk w5 g 68 #[.int .i64 0, .int .i64 kind, .int .i64 ag, .int .i64 sh, .int .i64 seq, .int .i64 ep, .slice Aa dn na, .string ser, .int .i64 fr, .int .i64 etg, .int .i64 tag, .int .i64 code, .int .u64 nn, .int .i64 0, .int .i64 had, .slice Ba ln ka, .int .i64 commit, .int .i64 0] := by rw [hw5]; exact (by simpa using (((HBa.out.set_ 13 (.int .i64 0)).set_ 17 (.int .i64 0)).set_ 0 (.int .i64 0)) : Blk _ g _ _)
  have hS := hsm.out ⟨0, ⟨kind, ag, sh, seq, ep, ds, ser, fr, etg⟩, tag, code, nn, 0, had, log, commit, 0⟩ (.slice Aa dn na) (.slice Ba ln ka) w5 ⟨(Hd2.out.keep hk (by simp)).avoid (by simp), (Hl2.out.keep hk (by simp)).avoid (by simp)⟩ ⟨Hca.out.1, Hca.out.2⟩
  rw [HZ.out ⟨0, ⟨kind, ag, sh, seq, ep, ds, ser, fr, etg⟩, tag, code, nn, 0, had, log, commit, 0⟩ (by simp [clearM])] at hS
  simp only [mCell, eCell, zeroM, zeroD, List.cons_append, List.nil_append] at hS
  have HS := Lib.hid (show Calls Tryz.prog 50 #[.agg #[.int .i64 0, .int .i64 kind, .int .i64 ag, .int .i64 sh, .int .i64 seq, .int .i64 ep, .slice Aa dn na, .string ser, .int .i64 fr, .int .i64 etg, .int .i64 tag, .int .i64 code, .int .u64 nn, .int .i64 0, .int .i64 had, .slice Ba ln ka, .int .i64 commit, .int .i64 0], .agg #[.int .i64 0, .int .i64 0, .int .i64 0, .int .i64 0, .int .i64 0, .int .i64 0, .slice none 0 0, .string ⟨#[]⟩, .int .i64 0, .int .i64 0, .int .i64 0, .int .i64 0, .int .u64 0, .int .i64 0, .int .i64 0, .slice none 0 0, .int .i64 0, .int .i64 0]] w5 fun r w' => SamePost R w5 r w' from hS)
  have Hbw := Lib.hid (Hk2.out.trans hk (by intro x hx; simp at hx; right; have := Hgs.out; omega)).below
  have Hw5 := Lib.hid hw5; have HB5 := Lib.hid hB5
  clear hk hw5 hB5 hS hsm HZ
  go_upto_region 15 with (fail)
  rw [← Hw5.out]
  clear q0 q1 q2 q3 q4 q5 q6 q7 q8 q9 qa qb qc qd qe qf qg qh qz
  have HR := Lib.hid (blk_range HB5.out)
  go_wp2_with (refine wpList_load_mid rfl 68 (.tmp 1) rfl g 0 rfl _ _ HR.out Tryz.underlying68 rfl (by kernel_rfl) ?_)
  refine HS.out.mono ?_
  rintro e w6 ⟨rfl, hb6⟩
  have Hb6 := Lib.hid (below_then Hbw.out hb6)
  clear hb6
  go_wp2
  go_ret
  exact ⟨rfl, Hb6.out⟩
theorem mzero_any (m : MsgD) (dv lv : Value) (w : World) (ha : MsgAt w [] m dv lv) (ca : MCnt m) :
    Calls Tryz.prog 149 #[.agg (mCell m dv lv).toArray] w fun r w' => SamePost (zeroS m) w r w' := by
  by_cases g1 : m.kd = 1
  · exact mzero_1 m dv lv w ha ca g1
  by_cases g2 : m.kd = 2
  · exact mzero_2 m dv lv w ha ca g2
  by_cases g3 : m.kd = 3
  · exact mzero_3 m dv lv w ha ca g3
  by_cases g4 : m.kd = 4
  · exact mzero_4 m dv lv w ha ca g4
  by_cases g5 : m.kd = 5
  · exact mzero_5 m dv lv w ha ca g5
  by_cases g6 : m.kd = 6
  · exact mzero_6 m dv lv w ha ca g6
  exact mzero_0 m dv lv w ha ca g1 g2 g3 g4 g5 g6
end Go.Proofs.YtinnifhnabncfaaGreatDoor.Vi
end
/- Contract of mail.Right. -/
section
namespace Go.Proofs.YtinnifhnabncfaaGreatDoor.Vi
open Go.RowKit Base Mem Go.Shelf
def bad2 (m : MsgD) : Bool := decide (m.tag < 0) || decide (m.term < 0) || decide (m.had < 0) || decide (m.commit < 0) || decide (m.len < 0) || decide (m.code < 0) || decide (255 < m.code) || decide (128 < m.commit) || decide (128 < m.len)
/-- Why a row of entries may not be. -/
def logRight : List EntryD → Nat
  | [] => 0
  | e :: r => if rightE e = 0 then logRight r else rightE e
def mrightS (m : MsgD) : Nat :=
  if m.kd < 1 ∨ 6 < m.kd ∨ zeroS m = false then 12
  else if bad2 m = true then 1
  else if 128 < m.log.length then 3
  else if m.kd = 1 then rightE m.en else logRight m.log
/-- Its texts are short. -/
def MShort (m : MsgD) : Prop := Short m.en ∧ m.log.length ≤ 4611686018427387904 ∧ ∀ e ∈ m.log, Short e
theorem MShort.cnt {m : MsgD} (h : MShort m) : MCnt m := ⟨h.1.2.2, h.2.1, fun e he => (h.2.2 e he).2.2⟩
set_option maxRecDepth 100000 in
set_option maxHeartbeats 2000000 in
theorem mright_any (m : MsgD) (dv lv : Value) (mx : Int) (w : World) (ha : MsgAt w [] m dv lv) (hs : MShort m) (hm : w.cell? ⟨0, 0, none⟩ = some (.int .i64 mx)) :
    Calls Tryz.prog 93 #[.agg (mCell m dv lv).toArray] w fun r w' => NumPost (mrightS m) w r w' := by
  have hw0 : 0 < w.heap.size := by
    have := World.block_lt_of_cell? w _ hm
    simpa using this
  have hkeepm : Hid (∀ W, Keeps [] w W → W.cell? ⟨0, 0, none⟩ = some (.int .i64 mx)) := fun W hb => (hb.cell (p := ⟨0, 0, none⟩) hw0 (by simp)).trans hm
  have hz := Lib.hid (fun W (hk : Keeps [] w W) => mzero_any m dv lv W (ha.keep hk (by simp)) hs.cnt)
  have hri := Lib.hid (fun W (hk : Keeps [] w W) => eright_any m.en dv mx W (ha.1.keep hk (by simp)) hs.1 (hkeepm.out W hk))
  have HM : Hid (mrightS m = if m.kd < 1 ∨ 6 < m.kd ∨ zeroS m = false then 12 else if bad2 m = true then 1 else if 128 < m.log.length then 3 else if m.kd = 1 then rightE m.en else logRight m.log) := rfl
  have HB2 : Hid (bad2 m = (decide (m.tag < 0) || decide (m.term < 0) || decide (m.had < 0) || decide (m.commit < 0) || decide (m.len < 0) || decide (m.code < 0) || decide (255 < m.code) || decide (128 < m.commit) || decide (128 < m.len))) := rfl
  have Hl := Lib.hid ha.2
  have Hsl := Lib.hid hs.2.2
  have hll := hs.2.1
  obtain ⟨Aa, na, rfl, _⟩ := ha.1.len
  obtain ⟨Ba, ka, rfl, _⟩ := ha.2.len
  clear ha hs hm
  generalize mrightS m = R at *
  generalize bad2 m = b2 at *
  generalize zeroS m = z at *
  obtain ⟨kd, ⟨kind, ag, sh, seq, ep, ds, ser, fr, etg⟩, tag, code, nn, term, had, log, commit, len⟩ := m
  simp only [] at HM HB2 Hl Hsl hll hri
  simp only [mCell, eCell, List.cons_append, List.nil_append] at hz hri ⊢
  generalize rightE ⟨kind, ag, sh, seq, ep, ds, ser, fr, etg⟩ = re at *
  obtain ⟨w2, hw2⟩ : ∃ w2, w2 = w.alloc (.cells #[.int .i64 kd, .int .i64 kind, .int .i64 ag, .int .i64 sh, .int .i64 seq, .int .i64 ep, .slice Aa ds.length na, .string ser, .int .i64 fr, .int .i64 etg, .int .i64 tag, .int .i64 code, .int .u64 nn, .int .i64 term, .int .i64 had, .slice Ba log.length ka, .int .i64 commit, .int .i64 len] 68) := ⟨_, rfl⟩
  have hk2 : Keeps [] w w2 := by rw [hw2]; exact (Keeps.refl _ _).alloc _
  have hBa : Blk w2 w.heap.size 68 #[.int .i64 kd, .int .i64 kind, .int .i64 ag, .int .i64 sh, .int .i64 seq, .int .i64 ep, .slice Aa ds.length na, .string ser, .int .i64 fr, .int .i64 etg, .int .i64 tag, .int .i64 code, .int .u64 nn, .int .i64 term, .int .i64 had, .slice Ba log.length ka, .int .i64 commit, .int .i64 len] := by rw [hw2]; exact Blk.new w _ _
  have Hw2 := Lib.hid hw2; have HBa := Lib.hid hBa; have Hk2 := Lib.hid hk2
  clear hw2 hBa hk2
  show Calls Tryz.prog 93 #[.agg #[.int .i64 kd, .int .i64 kind, .int .i64 ag, .int .i64 sh, .int .i64 seq, .int .i64 ep, .slice Aa ds.length na, .string ser, .int .i64 fr, .int .i64 etg, .int .i64 tag, .int .i64 code, .int .u64 nn, .int .i64 term, .int .i64 had, .slice Ba log.length ka, .int .i64 commit, .int .i64 len]] w fun r w' => NumPost R w r w'
  go_enter Tryz.func93, Tryz.ntmps93
  go_upto_region 1 with (fail)
  rw [← Hw2.out]
  have hg2 : w.heap.size < w2.heap.size := HBa.out.lt
  generalize hgs : w.heap.size = g at HBa hg2 ⊢
  have Hgs := Lib.hid hgs
  clear Hw2 hgs
  obtain ⟨q0, q1, q2, q3, q4, q5, q6, q7, q8, q9, qa, qb, qc, qd, qe, qf, qg, qh, qz⟩ := blk18 HBa.out
  by_cases h1 : kd < 1
  · obtain rfl : R = 12 := by rw [HM.out, if_pos (.inl h1)]
    go_wp2
    go_ret
    exact ⟨rfl, Hk2.out.below⟩
  have h1d : decide (kd < 1) = false := decide_eq_false h1
  by_cases h6 : 6 < kd
  · obtain rfl : R = 12 := by rw [HM.out, if_pos (.inr (.inl h6))]
    go_wp2
    go_ret
    exact ⟨rfl, Hk2.out.below⟩
  have h6d : decide (6 < kd) = false := decide_eq_false h6
  have Hz2 := Lib.hid (hz.out w2 Hk2.out)
  have HR := Lib.hid (blk_range HBa.out)
  clear q0 q1 q2 q3 q4 q5 q6 q7 q8 q9 qa qb qc qd qe qf qg qh qz
  obtain ⟨q0, _⟩ := blk18 HBa.out
  go_wp2_with (refine wpList_load_g rfl 68 (.tmp 1) rfl g 0 rfl _ _ HR.out Tryz.underlying68 rfl (by kernel_rfl) ?_)
  refine Hz2.out.mono ?_
  rintro e w3 ⟨rfl, hb3⟩
  have HB3 := Lib.hid (HBa.out.below hb3 hg2)
  have Hk3 := Lib.hid (Hk2.out.trans (Keeps.of_below (M := []) hb3) (by simp))
  have hg3 : g < w3.heap.size := HB3.out.lt
  clear hb3 Hz2 hz HBa Hk2 hg2 q0
  obtain ⟨q0, q1, q2, q3, q4, q5, q6, q7, q8, q9, qa, qb, qc, qd, qe, qf, qg, qh, qz⟩ := blk18 HB3.out
  cases z with
  | false =>
    obtain rfl : R = 12 := by rw [HM.out, if_pos (.inr (.inr rfl))]
    go_wp2
    go_ret
    exact ⟨rfl, Hk3.out.below⟩
  | true =>
    have HM2 : Hid (R = if b2 = true then 1 else if 128 < log.length then 3 else if kd = 1 then re else logRight log) := by show _ = _; rw [HM.out, if_neg (by simp; omega)]
    clear HM
    go_upto_region 3 with (fail)
    go_cut [20] (fun s wx => s = .bool b2 ∧ wx = w3)
    case first =>
      clear hri Hl Hsl hkeepm HM2 hll
      cases c0 : (decide (tag < 0)) with
      | true =>
        obtain rfl : b2 = true := by rw [HB2.out, c0]; simp
        clear HB2
        go_wp2_with fail
        go_meet
        exact ⟨rfl, rfl⟩
      | false =>
        cases c1 : (decide (term < 0)) with
        | true =>
          obtain rfl : b2 = true := by rw [HB2.out, c0, c1]; simp
          clear HB2
          go_wp2_with fail
          go_meet
          exact ⟨rfl, rfl⟩
        | false =>
          cases c2 : (decide (had < 0)) with
          | true =>
            obtain rfl : b2 = true := by rw [HB2.out, c0, c1, c2]; simp
            clear HB2
            go_wp2_with fail
            go_meet
            exact ⟨rfl, rfl⟩
          | false =>
            cases c3 : (decide (commit < 0)) with
            | true =>
              obtain rfl : b2 = true := by rw [HB2.out, c0, c1, c2, c3]; simp
              clear HB2
              go_wp2_with fail
              go_meet
              exact ⟨rfl, rfl⟩
            | false =>
              cases c4 : (decide (len < 0)) with
              | true =>
                obtain rfl : b2 = true := by rw [HB2.out, c0, c1, c2, c3, c4]; simp
                clear HB2
                go_wp2_with fail
                go_meet
                exact ⟨rfl, rfl⟩
              | false =>
                cases c5 : (decide (code < 0)) with
                | true =>
                  obtain rfl : b2 = true := by rw [HB2.out, c0, c1, c2, c3, c4, c5]; simp
                  clear HB2
                  go_wp2_with fail
                  go_meet
                  exact ⟨rfl, rfl⟩
                | false =>
                  cases c6 : (decide (255 < code)) with
                  | true =>
                    obtain rfl : b2 = true := by rw [HB2.out, c0, c1, c2, c3, c4, c5, c6]; simp
                    clear HB2
                    go_wp2_with fail
                    go_meet
                    exact ⟨rfl, rfl⟩
                  | false =>
                    cases c7 : (decide (128 < commit)) with
                    | true =>
                      obtain rfl : b2 = true := by rw [HB2.out, c0, c1, c2, c3, c4, c5, c6, c7]; simp
                      clear HB2
                      go_wp2_with fail
                      go_meet
                      exact ⟨rfl, rfl⟩
                    | false =>
                      cases c8 : (decide (128 < len)) with
                      | true =>
                        obtain rfl : b2 = true := by rw [HB2.out, c0, c1, c2, c3, c4, c5, c6, c7, c8]; simp
                        clear HB2
                        go_wp2_with fail
                        go_meet
                        exact ⟨rfl, rfl⟩
                      | false =>
                        obtain rfl : b2 = false := by rw [HB2.out, c0, c1, c2, c3, c4, c5, c6, c7, c8]; rfl
                        clear HB2
                        go_wp2_with fail
                        go_meet
                        exact ⟨rfl, rfl⟩
    case rest =>
      obtain ⟨rfl, rfl⟩ := hcut
      clear HB2
      cases b2 with
      | true =>
        obtain rfl : R = 1 := by rw [HM2.out, if_pos rfl]
        go_wp2
        go_ret
        exact ⟨rfl, Hk3.out.below⟩
      | false =>
        by_cases hL : 128 < log.length
        · obtain rfl : R = 3 := by rw [HM2.out, if_neg (by simp), if_pos hL]
          have hLi : (128 : Int) < (log.length : Int) := by omega
          clear HM2
          go_wp2
          go_ret
          exact ⟨rfl, Hk3.out.below⟩
        · have hLi : decide ((128 : Int) < (log.length : Int)) = false := decide_eq_false (by omega)
          have HM3 : Hid (R = if kd = 1 then re else logRight log) := by show _ = _; rw [HM2.out, if_neg (by simp), if_neg hL]
          clear HM2
          by_cases hk1 : kd = 1
          · obtain rfl : R = re := by rw [HM3.out, if_pos hk1]
            have hkd : (kd == 1) = true := by simpa using hk1
            have Hr := Lib.hid (hri.out wc Hk3.out)
            clear HM3 hk1 hri
            go_wp2_with fail
            refine Hr.out.mono ?_
            rintro e w4 ⟨rfl, hb4⟩
            have Hb4 := Lib.hid (below_then Hk3.out.below hb4)
            clear hb4
            go_wp2
            go_ret
            exact ⟨rfl, Hb4.out⟩
          · have hkd : (kd == 1) = false := by simpa using hk1
            have HM4 : Hid (R = logRight (log.drop 0)) := by show _ = _; rw [HM3.out, if_neg hk1]; rfl
            clear HM3 hk1 hri
            go_wp2_with fail
            go_loopw [79] (fun i wr => ∃ x : Nat, i = .int .i64 x ∧ x ≤ log.length ∧ Hid (R = logRight (log.drop x)) ∧ Hid (Keeps [] w wr)) (fun i _ => log.length - (intOf i).toNat)
            case atStart => exact ⟨0, rfl, by omega, HM4, Hk3.out⟩
            case round =>
              obtain ⟨x, rfl, hx, HR, Hkr⟩ := hrel
              by_cases hlt : x < log.length
              · have hx1 : (x : Int) < (log.length : Int) := by omega
                have HR2 : Hid (R = if rightE log[x] = 0 then logRight (log.drop (x + 1)) else rightE log[x]) := by show _ = _; rw [HR.out, List.drop_eq_getElem_cons hlt]; rfl
                obtain ⟨gl, ol, _, dl, e1, _, _, hDl, hcl⟩ := ens_at (Hl.out.keep Hkr.out (by simp)) hlt
                injection e1 with e1 _ e9
                subst e1
                clear e9
                have hre := Lib.hid (fun W (hk : Keeps [] wr W) => eright_any log[x] dl mx W (hDl.keep hk (by simp)) (Hsl.out _ (List.getElem_mem _)) (hkeepm.out W (Hkr.out.trans hk (by simp))))
                obtain ⟨Dl, nl, rfl, _⟩ := hDl.len
                have a0 := hcl 0 _ rfl; have a1 := hcl 1 _ rfl; have a2 := hcl 2 _ rfl; have a3 := hcl 3 _ rfl; have a4 := hcl 4 _ rfl; have a5 := hcl 5 _ rfl; have a6 := hcl 6 _ rfl; have a7 := hcl 7 _ rfl; have a8 := hcl 8 _ rfl
                rw [Nat.add_zero] at a0
                clear hcl hDl q0 q1 q2 q3 q4 q5 q6 q7 q8 q9 qa qb qc qd qe qf qg qh qz
                generalize log[x] = ee at *
                generalize rightE ee = rr at *
                obtain ⟨kind', ag', sh', seq', ep', ds', ser', fr', etg'⟩ := ee
                simp only [eCell] at hre
                simp only [] at a0 a1 a2 a3 a4 a5 a6 a7 a8
                have Hre := Lib.hid (hre.out (wr.alloc (.cells #[.int .i64 kind', .int .i64 ag', .int .i64 sh', .int .i64 seq', .int .i64 ep', .slice Dl ds'.length nl, .string ser', .int .i64 fr', .int .i64 etg'] 26)) ((Keeps.refl _ _).alloc _))
                have Hka := Lib.hid (Hkr.out.alloc (.cells #[.int .i64 kind', .int .i64 ag', .int .i64 sh', .int .i64 seq', .int .i64 ep', .slice Dl ds'.length nl, .string ser', .int .i64 fr', .int .i64 etg'] 26))
                clear hre
                go_wp2_with fail
                refine Hre.out.mono ?_
                rintro e w4 ⟨rfl, hb4⟩
                have Hk4 := Lib.hid (Hka.out.trans (Keeps.of_below (M := []) hb4) (by simp))
                clear hb4 Hre Hka a0 a1 a2 a3 a4 a5 a6 a7 a8
                by_cases hrr : rr = 0
                · have HR3 : Hid (R = logRight (log.drop (x + 1))) := by show _ = _; rw [HR2.out, if_pos hrr]
                  have hrn : ((rr : Int) != 0) = false := by simp [hrr]
                  clear HR2 hrr
                  go_wp2
                  go_roundw
                  case rel => exact ⟨x + 1, by go_num, by omega, HR3, Hk4⟩
                  case measure => simp [intOf] <;> omega
                · obtain rfl : R = rr := by rw [HR2.out, if_neg hrr]
                  have hrn : ((R : Int) != 0) = true := by simpa using hrr
                  clear HR2 hrr
                  go_wp2
                  go_ret
                  exact ⟨rfl, Hk4.out.below⟩
              · obtain rfl : x = log.length := by omega
                obtain rfl : R = 0 := by rw [HR.out, List.drop_length]; rfl
                go_wp2
                go_ret
                exact ⟨rfl, Hkr.out.below⟩
end Go.Proofs.YtinnifhnabncfaaGreatDoor.Vi
end
/- Contract of mail.body. -/
section
namespace Go.Proofs.YtinnifhnabncfaaGreatDoor.Vi
open Go.RowKit Base Mem Go.Shelf
def bodyL (m : MsgD) : List UInt8 :=
  [UInt8.ofNat m.kd.toNat] ++ (if m.kd = 1 then eBlob m.en
  else if m.kd = 2 then Lib.uvarint m.tag.toNat ++ Lib.uvarint m.code.toNat ++ Lib.uvarint m.nn.toNat
  else if m.kd = 4 then Lib.uvarint m.term.toNat ++ Lib.uvarint m.had.toNat ++ putLog m.log
  else if m.kd = 5 then Lib.uvarint m.term.toNat ++ Lib.uvarint m.commit.toNat ++ putLog m.log
  else if m.kd = 6 then Lib.uvarint m.term.toNat ++ Lib.uvarint m.len.toNat
  else Lib.uvarint m.term.toNat)
/-- Its numbers go into their types. -/
def MWf (m : MsgD) : Prop := m.tag ≤ 9223372036854775807 ∧ m.term ≤ 9223372036854775807 ∧ m.had ≤ 9223372036854775807 ∧ 0 ≤ m.nn ∧ m.nn < 18446744073709551616 ∧ Wf m.en ∧ ∀ e ∈ m.log, Wf e
theorem logRight_all {l : List EntryD} (h : logRight l = 0) : ∀ e ∈ l, rightE e = 0 := by
  induction l with
  | nil => simp
  | cons e l ih =>
    unfold logRight at h
    intro x hx
    by_cases he : rightE e = 0
    · rw [if_pos he] at h
      rcases List.mem_cons.1 hx with rfl | hx
      · exact he
      · exact ih h x hx
    · rw [if_neg he] at h; exact absurd h he
structure MOk (m : MsgD) : Prop where
  k1 : 1 ≤ m.kd
  k6 : m.kd ≤ 6
  zero : zeroS m = true
  tag0 : 0 ≤ m.tag
  term0 : 0 ≤ m.term
  had0 : 0 ≤ m.had
  com0 : 0 ≤ m.commit
  len0 : 0 ≤ m.len
  code0 : 0 ≤ m.code
  code1 : m.code ≤ 255
  com1 : m.commit ≤ 128
  len1 : m.len ≤ 128
  logl : m.log.length ≤ 128
  ask : m.kd = 1 → rightE m.en = 0
  logs : m.kd ≠ 1 → ∀ e ∈ m.log, rightE e = 0
theorem mright_ok {m : MsgD} (h : mrightS m = 0) : MOk m := by
  unfold mrightS at h
  by_cases h1 : m.kd < 1 ∨ 6 < m.kd ∨ zeroS m = false
  · rw [if_pos h1] at h; cases h
  rw [if_neg h1] at h
  have hz : zeroS m = true := by
    cases hz : zeroS m with
    | true => rfl
    | false => exact absurd (.inr (.inr hz)) h1
  have hb : bad2 m = false := by
    cases hb : bad2 m with
    | false => rfl
    | true => rw [hb] at h; cases h
  rw [hb, if_neg (by simp)] at h
  unfold bad2 at hb
  simp at hb
  by_cases hl : 128 < m.log.length
  · rw [if_pos hl] at h; cases h
  rw [if_neg hl] at h
  refine ⟨by omega, by omega, hz, by omega, by omega, by omega, by omega, by omega, by omega, by omega, by omega, by omega, by omega, fun hk => ?_, fun hk => ?_⟩
  · rwa [if_pos hk] at h
  · rw [if_neg hk] at h; exact logRight_all h
set_option maxRecDepth 100000 in
set_option maxHeartbeats 2000000 in
theorem mbody_1 (m : MsgD) (dv lv : Value) (mx : Int) (w : World) (hk : m.kd = 1) (ha : MsgAt w [] m dv lv) (hok : MOk m) (hs : MShort m) (hwf : MWf m) (hm : w.cell? ⟨0, 0, none⟩ = some (.int .i64 mx)) :
    Calls Tryz.prog 100 #[.agg (mCell m dv lv).toArray] w fun r w' => BsPost (bodyL m) w r w' := by
  have hw0 : 0 < w.heap.size := by
    have := World.block_lt_of_cell? w _ hm
    simpa using this
  have hkeepm : Hid (∀ W, Keeps [] w W → W.cell? ⟨0, 0, none⟩ = some (.int .i64 mx)) := fun W hb => (hb.cell (p := ⟨0, 0, none⟩) hw0 (by simp)).trans hm
  have hby := Lib.hid (fun W (hk' : Keeps [] w W) => ebytes_ok m.en dv mx W (hok.ask hk) (ha.1.keep hk' (by simp)) hs.1 hwf.2.2.2.2.2.1 (hkeepm.out W hk'))
  have hbig := bytesE_big (show EOk m.en from ⟨hok.ask hk, hs.1, hwf.2.2.2.2.2.1⟩)
  have HB : Hid (bodyL m = [UInt8.ofNat 1] ++ (eBlob m.en)) := by show _ = _; unfold bodyL; rw [hk]; rfl
  have hnn0 := hwf.2.2.2.1; have hnn1 := hwf.2.2.2.2.1; have hw1 := hwf.1; have hw2 := hwf.2.1; have hw3 := hwf.2.2.1
  have o1 := hok.tag0; have o2 := hok.term0; have o3 := hok.had0; have o4 := hok.com0; have o5 := hok.len0; have o6 := hok.code0; have o7 := hok.code1; have o8 := hok.com1; have o9 := hok.len1
  obtain ⟨Aa, na, rfl, _⟩ := ha.1.len
  obtain ⟨Ba, ka, rfl, _⟩ := ha.2.len
  clear ha hok hs hwf hm
  generalize bodyL m = bo at *
  obtain ⟨kd, ⟨kind, ag, sh, seq, ep, ds, ser, fr, etg⟩, tag, code, nn, term, had, log, commit, len⟩ := m
  simp only [] at HB hnn0 hnn1 hw1 hw2 hw3 o1 o2 o3 o4 o5 o6 o7 o8 o9 hk hbig
  subst hk
  simp only [eCell] at hby
  have hw_k : IntKind.u8.wrap 1 = 1 := by decide
  simp only [mCell, eCell, List.cons_append, List.nil_append]
  obtain ⟨w2, hw2⟩ : ∃ w2, w2 = w.alloc (.cells #[.int .i64 1, .int .i64 kind, .int .i64 ag, .int .i64 sh, .int .i64 seq, .int .i64 ep, .slice Aa ds.length na, .string ser, .int .i64 fr, .int .i64 etg, .int .i64 tag, .int .i64 code, .int .u64 nn, .int .i64 term, .int .i64 had, .slice Ba log.length ka, .int .i64 commit, .int .i64 len] 68) := ⟨_, rfl⟩
  obtain ⟨w3, hw3⟩ : ∃ w3, w3 = w2.alloc (.cells #[.int .u8 1] 5) := ⟨_, rfl⟩
  have hk2 : Keeps [] w w2 := by rw [hw2]; exact (Keeps.refl _ _).alloc _
  have hk3 : Keeps [] w w3 := by rw [hw3]; exact hk2.alloc _
  have hBa2 : Blk w2 w.heap.size 68 #[.int .i64 1, .int .i64 kind, .int .i64 ag, .int .i64 sh, .int .i64 seq, .int .i64 ep, .slice Aa ds.length na, .string ser, .int .i64 fr, .int .i64 etg, .int .i64 tag, .int .i64 code, .int .u64 nn, .int .i64 term, .int .i64 had, .slice Ba log.length ka, .int .i64 commit, .int .i64 len] := by rw [hw2]; exact Blk.new w _ _
  have hBa : Blk w3 w.heap.size 68 #[.int .i64 1, .int .i64 kind, .int .i64 ag, .int .i64 sh, .int .i64 seq, .int .i64 ep, .slice Aa ds.length na, .string ser, .int .i64 fr, .int .i64 etg, .int .i64 tag, .int .i64 code, .int .u64 nn, .int .i64 term, .int .i64 had, .slice Ba log.length ka, .int .i64 commit, .int .i64 len] := by rw [hw3]; exact hBa2.below (below_new' _ _) hBa2.lt
  have hBb : Blk w3 w2.heap.size 5 #[.int .u8 1] := by rw [hw3]; exact Blk.new w2 _ _
  have hb8 : ∀ M, (∀ g ∈ M, g < w.heap.size) → Bs w3 M (.slice (some ⟨w2.heap.size, 0, none⟩) 1 1) [UInt8.ofNat 1] := fun M hM => ⟨_, _, rfl, Nat.le_refl _, rfl, fun _ => ⟨w2.heap.size, 0, rfl, hBb.lt, fun hm => by have := hM _ hm; have := hBa2.lt; omega, fun j u hu => by
    rw [Nat.zero_add, hBb.cell j]
    cases j with
    | zero => exact hu
    | succ j => cases hu⟩⟩
  have Hw2 := Lib.hid hw2; have Hw3 := Lib.hid hw3; have HBa2 := Lib.hid hBa2; have HBa := Lib.hid hBa; have Hk3 := Lib.hid hk3; have Hb8 := Lib.hid hb8
  clear hw2 hw3 hk2 hk3 hBa2 hBa hBb hb8
  show Calls Tryz.prog 100 #[.agg #[.int .i64 1, .int .i64 kind, .int .i64 ag, .int .i64 sh, .int .i64 seq, .int .i64 ep, .slice Aa ds.length na, .string ser, .int .i64 fr, .int .i64 etg, .int .i64 tag, .int .i64 code, .int .u64 nn, .int .i64 term, .int .i64 had, .slice Ba log.length ka, .int .i64 commit, .int .i64 len]] w fun r w' => BsPost bo w r w'
  go_enter Tryz.func100, Tryz.ntmps100
  go_upto_region 1 with (fail)
  rw [← Hw2.out]
  have hg3 : w.heap.size < w3.heap.size := HBa.out.lt
  obtain ⟨q0, q1, q2, q3, q4, q5, q6, q7, q8, q9, qa, qb, qc, qd, qe, qf, qg, qh, qz⟩ := blk18 HBa2.out
  generalize hgs : w.heap.size = g at HBa HBa2 Hb8 hg3 q0 q1 q2 q3 q4 q5 q6 q7 q8 q9 qa qb qc qd qe qf qg qh qz ⊢
  have Hgs := Lib.hid hgs
  clear Hw2 hgs
  go_upto_region 2 with (fail)
  rw [← Hw3.out]
  generalize w2.heap.size = g3 at *
  clear Hw3 q0 q1 q2 q3 q4 q5 q6 q7 q8 q9 qa qb qc qd qe qf qg qh qz
  obtain ⟨q0, q1, q2, q3, q4, q5, q6, q7, q8, q9, qa, qb, qc, qd, qe, qf, qg, qh, qz⟩ := blk18 HBa.out
  have Hby := Lib.hid (hby.out w3 Hk3.out)
  go_wp2_with fail
  refine Hby.out.mono ?_
  rintro e w4 ⟨A4, rfl, hS4, hb4⟩
  have HS4 := Lib.hid (hS4 [] (by simp))
  have Hk4 := Lib.hid (Hk3.out.trans (Keeps.of_below (M := []) hb4) (by simp))
  have H84 : Hid (∀ M, (∀ x ∈ M, x < g) → Bs w4 M (.slice (some ⟨g3, 0, none⟩) 1 1) [UInt8.ofNat 1]) := fun M hM => (Hb8.out M hM).keep (Keeps.of_below (M := []) hb4) (by simp)
  have cv := conv_bytes HS4.out
  have Htx := text_any (.slice (some ⟨g3, 0, none⟩) 1 1) [UInt8.ofNat 1] ⟨(bytesE ⟨kind, ag, sh, seq, ep, ds, ser, fr, etg⟩).toArray⟩ w4 (H84.out [] (by simp)) (by show 1 + (List.toArray _).size ≤ _; rw [List.size_toArray]; omega)
  rw [show (⟨(bytesE ⟨kind, ag, sh, seq, ep, ds, ser, fr, etg⟩).toArray⟩ : ByteArray).size = (bytesE ⟨kind, ag, sh, seq, ep, ds, ser, fr, etg⟩).length from List.size_toArray .., show sB ⟨(bytesE ⟨kind, ag, sh, seq, ep, ds, ser, fr, etg⟩).toArray⟩ = bytesE ⟨kind, ag, sh, seq, ep, ds, ser, fr, etg⟩ from rfl] at Htx
  have HTx := Lib.hid Htx
  have HLX : Hid (bo = [UInt8.ofNat 1] ++ Lib.uvarint (bytesE ⟨kind, ag, sh, seq, ep, ds, ser, fr, etg⟩).length ++ bytesE ⟨kind, ag, sh, seq, ep, ds, ser, fr, etg⟩) := by show _ = _; rw [HB.out]; rfl
  rw [← HLX.out] at HTx
  generalize bytesE ⟨kind, ag, sh, seq, ep, ds, ser, fr, etg⟩ = bx at *
  clear hS4 hb4 Hby hby Htx HLX HB
  go_wp2_with fail
  refine HTx.out.mono ?_
  rintro e w5 ⟨A5, rfl, hS5, hb5⟩
  have hp : Hid (BsPost bo w (.returned (.slice A5 bo.length bo.length)) w5) := ⟨A5, rfl, fun M hM => hS5 M (fun x hx => Nat.lt_of_lt_of_le (hM x hx) Hk4.out.size), (Hk4.out.trans (Keeps.of_below (M := []) hb5) (by simp)).below⟩
  clear hS5 hb5 HTx
  go_wp2
  go_ret
  exact hp.out
set_option maxRecDepth 100000 in
set_option maxHeartbeats 2000000 in
theorem mbody_2 (m : MsgD) (dv lv : Value) (mx : Int) (w : World) (hk : m.kd = 2) (ha : MsgAt w [] m dv lv) (hok : MOk m) (hs : MShort m) (hwf : MWf m) (hm : w.cell? ⟨0, 0, none⟩ = some (.int .i64 mx)) :
    Calls Tryz.prog 100 #[.agg (mCell m dv lv).toArray] w fun r w' => BsPost (bodyL m) w r w' := by
  have hw0 : 0 < w.heap.size := by
    have := World.block_lt_of_cell? w _ hm
    simpa using this
  have hkeepm : Hid (∀ W, Keeps [] w W → W.cell? ⟨0, 0, none⟩ = some (.int .i64 mx)) := fun W hb => (hb.cell (p := ⟨0, 0, none⟩) hw0 (by simp)).trans hm
  have _ := hs
  have HB : Hid (bodyL m = [UInt8.ofNat 2] ++ (Lib.uvarint m.tag.toNat ++ Lib.uvarint m.code.toNat ++ Lib.uvarint m.nn.toNat)) := by show _ = _; unfold bodyL; rw [hk]; rfl
  have hnn0 := hwf.2.2.2.1; have hnn1 := hwf.2.2.2.2.1; have hw1 := hwf.1; have hw2 := hwf.2.1; have hw3 := hwf.2.2.1
  have o1 := hok.tag0; have o2 := hok.term0; have o3 := hok.had0; have o4 := hok.com0; have o5 := hok.len0; have o6 := hok.code0; have o7 := hok.code1; have o8 := hok.com1; have o9 := hok.len1
  obtain ⟨Aa, na, rfl, _⟩ := ha.1.len
  obtain ⟨Ba, ka, rfl, _⟩ := ha.2.len
  clear ha hok hs hwf hm
  generalize bodyL m = bo at *
  obtain ⟨kd, ⟨kind, ag, sh, seq, ep, ds, ser, fr, etg⟩, tag, code, nn, term, had, log, commit, len⟩ := m
  simp only [] at HB hnn0 hnn1 hw1 hw2 hw3 o1 o2 o3 o4 o5 o6 o7 o8 o9 hk
  subst hk
  obtain ⟨tag, rfl⟩ := Int.eq_ofNat_of_zero_le (show 0 ≤ tag by omega)
  obtain ⟨code, rfl⟩ := Int.eq_ofNat_of_zero_le (show 0 ≤ code by omega)
  obtain ⟨nn, rfl⟩ := Int.eq_ofNat_of_zero_le (show 0 ≤ nn by omega)
  simp only [Int.toNat_natCast] at HB
  have hw_tag : IntKind.u64.wrap (tag : Int) = (tag : Int) := by rw [IntKind.wrap_u64]; omega
  have hu_tag := Lib.uvarint_length64 (x := tag) (by omega)
  have hw_code : IntKind.u64.wrap (code : Int) = (code : Int) := by rw [IntKind.wrap_u64]; omega
  have hu_code := Lib.uvarint_length64 (x := code) (by omega)
  have hu_nn := Lib.uvarint_length64 (x := nn) (by omega)
  have hw_k : IntKind.u8.wrap 2 = 2 := by decide
  simp only [mCell, eCell, List.cons_append, List.nil_append]
  obtain ⟨w2, hw2⟩ : ∃ w2, w2 = w.alloc (.cells #[.int .i64 2, .int .i64 kind, .int .i64 ag, .int .i64 sh, .int .i64 seq, .int .i64 ep, .slice Aa ds.length na, .string ser, .int .i64 fr, .int .i64 etg, .int .i64 tag, .int .i64 code, .int .u64 nn, .int .i64 term, .int .i64 had, .slice Ba log.length ka, .int .i64 commit, .int .i64 len] 68) := ⟨_, rfl⟩
  obtain ⟨w3, hw3⟩ : ∃ w3, w3 = w2.alloc (.cells #[.int .u8 2] 5) := ⟨_, rfl⟩
  have hk2 : Keeps [] w w2 := by rw [hw2]; exact (Keeps.refl _ _).alloc _
  have hk3 : Keeps [] w w3 := by rw [hw3]; exact hk2.alloc _
  have hBa2 : Blk w2 w.heap.size 68 #[.int .i64 2, .int .i64 kind, .int .i64 ag, .int .i64 sh, .int .i64 seq, .int .i64 ep, .slice Aa ds.length na, .string ser, .int .i64 fr, .int .i64 etg, .int .i64 tag, .int .i64 code, .int .u64 nn, .int .i64 term, .int .i64 had, .slice Ba log.length ka, .int .i64 commit, .int .i64 len] := by rw [hw2]; exact Blk.new w _ _
  have hBa : Blk w3 w.heap.size 68 #[.int .i64 2, .int .i64 kind, .int .i64 ag, .int .i64 sh, .int .i64 seq, .int .i64 ep, .slice Aa ds.length na, .string ser, .int .i64 fr, .int .i64 etg, .int .i64 tag, .int .i64 code, .int .u64 nn, .int .i64 term, .int .i64 had, .slice Ba log.length ka, .int .i64 commit, .int .i64 len] := by rw [hw3]; exact hBa2.below (below_new' _ _) hBa2.lt
  have hBb : Blk w3 w2.heap.size 5 #[.int .u8 2] := by rw [hw3]; exact Blk.new w2 _ _
  have hb8 : ∀ M, (∀ g ∈ M, g < w.heap.size) → Bs w3 M (.slice (some ⟨w2.heap.size, 0, none⟩) 1 1) [UInt8.ofNat 2] := fun M hM => ⟨_, _, rfl, Nat.le_refl _, rfl, fun _ => ⟨w2.heap.size, 0, rfl, hBb.lt, fun hm => by have := hM _ hm; have := hBa2.lt; omega, fun j u hu => by
    rw [Nat.zero_add, hBb.cell j]
    cases j with
    | zero => exact hu
    | succ j => cases hu⟩⟩
  have Hw2 := Lib.hid hw2; have Hw3 := Lib.hid hw3; have HBa2 := Lib.hid hBa2; have HBa := Lib.hid hBa; have Hk3 := Lib.hid hk3; have Hb8 := Lib.hid hb8
  clear hw2 hw3 hk2 hk3 hBa2 hBa hBb hb8
  show Calls Tryz.prog 100 #[.agg #[.int .i64 2, .int .i64 kind, .int .i64 ag, .int .i64 sh, .int .i64 seq, .int .i64 ep, .slice Aa ds.length na, .string ser, .int .i64 fr, .int .i64 etg, .int .i64 tag, .int .i64 code, .int .u64 nn, .int .i64 term, .int .i64 had, .slice Ba log.length ka, .int .i64 commit, .int .i64 len]] w fun r w' => BsPost bo w r w'
  go_enter Tryz.func100, Tryz.ntmps100
  go_upto_region 1 with (fail)
  rw [← Hw2.out]
  have hg3 : w.heap.size < w3.heap.size := HBa.out.lt
  obtain ⟨q0, q1, q2, q3, q4, q5, q6, q7, q8, q9, qa, qb, qc, qd, qe, qf, qg, qh, qz⟩ := blk18 HBa2.out
  generalize hgs : w.heap.size = g at HBa HBa2 Hb8 hg3 q0 q1 q2 q3 q4 q5 q6 q7 q8 q9 qa qb qc qd qe qf qg qh qz ⊢
  have Hgs := Lib.hid hgs
  clear Hw2 hgs
  go_upto_region 2 with (fail)
  rw [← Hw3.out]
  generalize w2.heap.size = g3 at *
  clear Hw3 q0 q1 q2 q3 q4 q5 q6 q7 q8 q9 qa qb qc qd qe qf qg qh qz
  obtain ⟨q0, q1, q2, q3, q4, q5, q6, q7, q8, q9, qa, qb, qc, qd, qe, qf, qg, qh, qz⟩ := blk18 HBa.out
  have hput1 := put_any (.slice (some ⟨g3, 0, none⟩) 1 1) [UInt8.ofNat 2] tag w3.drew ((Hb8.out [] (by simp)).keep (M' := []) ((Keeps.refl _ _).drew) (by simp)) (by omega) (by simp)
  obtain ⟨L1, hL1⟩ : ∃ L1, L1 = [UInt8.ofNat 2] ++ Lib.uvarint tag := ⟨_, rfl⟩
  rw [← hL1] at hput1
  have hL1l : L1.length ≤ 11 := by rw [hL1, List.length_append]; simp; omega
  have HP1 := Lib.hid hput1
  have HP2 := Lib.hid (fun W A (h : Bs W [] (.slice A L1.length L1.length) L1) => put_any (.slice A L1.length L1.length) L1 code W h (by omega) (by omega))
  obtain ⟨L2, hL2⟩ : ∃ L2, L2 = L1 ++ Lib.uvarint code := ⟨_, rfl⟩
  rw [← hL2] at HP2
  have hL2l : L2.length ≤ 21 := by rw [hL2, List.length_append]; omega
  have HP3 := Lib.hid (fun W A (h : Bs W [] (.slice A L2.length L2.length) L2) => put_any (.slice A L2.length L2.length) L2 nn W h (by omega) (by omega))
  have HLX : Hid (bo = L2 ++ Lib.uvarint nn) := by show _ = _; rw [HB.out, hL2, hL1]; simp
  rw [← HLX.out] at HP3
  clear hput1 hL1 hL2
  go_wp2_with fail
  go_region_held3 (fun w' => w'.cell? ⟨g, 10, none⟩ = some (.int .i64 tag) ∧ w'.cell? ⟨g, 11, none⟩ = some (.int .i64 code) ∧ w'.cell? ⟨g, 12, none⟩ = some (.int .u64 nn)) (first | exact ⟨v0, v1, v2⟩ | exact ⟨u0, u1, u2⟩ | exact ⟨s0, s1, s2⟩ | exact ⟨qa, qb, qc⟩) (first
    | (go_at_call_of 118 (Value.slice (some ⟨g3, 0, none⟩) 1 1)
       with_reducible refine HP1.out.mono ?_
       rintro e w5 ⟨A5, rfl, hS, hb⟩
       have HS5 := Lib.hid (hS [] (by simp))
       have Hk5 := Lib.hid (Hk3.out.drew.trans (Keeps.of_below (M := []) hb) (by simp))
       have s0 : w5.cell? ⟨g, 10, none⟩ = some (.int .i64 tag) := (hb.cell (p := ⟨g, 10, none⟩) hg3).trans qa
       have s1 : w5.cell? ⟨g, 11, none⟩ = some (.int .i64 code) := (hb.cell (p := ⟨g, 11, none⟩) hg3).trans qb
       have s2 : w5.cell? ⟨g, 12, none⟩ = some (.int .u64 nn) := (hb.cell (p := ⟨g, 12, none⟩) hg3).trans qc
       have hg5 : g < w5.heap.size := Nat.lt_of_lt_of_le hg3 hb.size
       clear hS hb)
    | (go_at_call_of 118 (Value.slice A5 L1.length L1.length)
       with_reducible refine (HP2.out _ A5 HS5.out).mono ?_
       rintro e w6 ⟨A6, rfl, hS, hb⟩
       have HS6 := Lib.hid (hS [] (by simp))
       have Hk6 := Lib.hid (Hk5.out.trans (Keeps.of_below (M := []) hb) (by simp))
       have u0 : w6.cell? ⟨g, 10, none⟩ = some (.int .i64 tag) := (hb.cell (p := ⟨g, 10, none⟩) hg5).trans s0
       have u1 : w6.cell? ⟨g, 11, none⟩ = some (.int .i64 code) := (hb.cell (p := ⟨g, 11, none⟩) hg5).trans s1
       have u2 : w6.cell? ⟨g, 12, none⟩ = some (.int .u64 nn) := (hb.cell (p := ⟨g, 12, none⟩) hg5).trans s2
       have hg6 : g < w6.heap.size := Nat.lt_of_lt_of_le hg5 hb.size
       clear hS hb)
    | (go_at_call 118
       with_reducible refine (HP3.out _ A6 HS6.out).mono ?_
       rintro e w7 ⟨A7, rfl, hS, hb⟩
       have v0 : w7.cell? ⟨g, 10, none⟩ = some (.int .i64 tag) := (hb.cell (p := ⟨g, 10, none⟩) hg6).trans u0
       have v1 : w7.cell? ⟨g, 11, none⟩ = some (.int .i64 code) := (hb.cell (p := ⟨g, 11, none⟩) hg6).trans u1
       have v2 : w7.cell? ⟨g, 12, none⟩ = some (.int .u64 nn) := (hb.cell (p := ⟨g, 12, none⟩) hg6).trans u2
       have hp : Hid (BsPost bo w (.returned (.slice A7 bo.length bo.length)) w7) := ⟨A7, rfl, fun M hM => hS M (fun x hx => Nat.lt_of_lt_of_le (hM x hx) Hk6.out.size), (Hk6.out.trans (Keeps.of_below (M := []) hb) (by simp)).below⟩
       clear hS hb))
  all_goals
    go_wp2
    go_ret
    exact hp.out
set_option maxRecDepth 100000 in
set_option maxHeartbeats 2000000 in
theorem mbody_3 (m : MsgD) (dv lv : Value) (mx : Int) (w : World) (hk : m.kd = 3) (ha : MsgAt w [] m dv lv) (hok : MOk m) (hs : MShort m) (hwf : MWf m) (hm : w.cell? ⟨0, 0, none⟩ = some (.int .i64 mx)) :
    Calls Tryz.prog 100 #[.agg (mCell m dv lv).toArray] w fun r w' => BsPost (bodyL m) w r w' := by
  have hw0 : 0 < w.heap.size := by
    have := World.block_lt_of_cell? w _ hm
    simpa using this
  have hkeepm : Hid (∀ W, Keeps [] w W → W.cell? ⟨0, 0, none⟩ = some (.int .i64 mx)) := fun W hb => (hb.cell (p := ⟨0, 0, none⟩) hw0 (by simp)).trans hm
  have _ := hs
  have HB : Hid (bodyL m = [UInt8.ofNat 3] ++ (Lib.uvarint m.term.toNat)) := by show _ = _; unfold bodyL; rw [hk]; rfl
  have hnn0 := hwf.2.2.2.1; have hnn1 := hwf.2.2.2.2.1; have hw1 := hwf.1; have hw2 := hwf.2.1; have hw3 := hwf.2.2.1
  have o1 := hok.tag0; have o2 := hok.term0; have o3 := hok.had0; have o4 := hok.com0; have o5 := hok.len0; have o6 := hok.code0; have o7 := hok.code1; have o8 := hok.com1; have o9 := hok.len1
  obtain ⟨Aa, na, rfl, _⟩ := ha.1.len
  obtain ⟨Ba, ka, rfl, _⟩ := ha.2.len
  clear ha hok hs hwf hm
  generalize bodyL m = bo at *
  obtain ⟨kd, ⟨kind, ag, sh, seq, ep, ds, ser, fr, etg⟩, tag, code, nn, term, had, log, commit, len⟩ := m
  simp only [] at HB hnn0 hnn1 hw1 hw2 hw3 o1 o2 o3 o4 o5 o6 o7 o8 o9 hk
  subst hk
  obtain ⟨term, rfl⟩ := Int.eq_ofNat_of_zero_le (show 0 ≤ term by omega)
  simp only [Int.toNat_natCast] at HB
  have hw_term : IntKind.u64.wrap (term : Int) = (term : Int) := by rw [IntKind.wrap_u64]; omega
  have hu_term := Lib.uvarint_length64 (x := term) (by omega)
  have hw_k : IntKind.u8.wrap 3 = 3 := by decide
  simp only [mCell, eCell, List.cons_append, List.nil_append]
  obtain ⟨w2, hw2⟩ : ∃ w2, w2 = w.alloc (.cells #[.int .i64 3, .int .i64 kind, .int .i64 ag, .int .i64 sh, .int .i64 seq, .int .i64 ep, .slice Aa ds.length na, .string ser, .int .i64 fr, .int .i64 etg, .int .i64 tag, .int .i64 code, .int .u64 nn, .int .i64 term, .int .i64 had, .slice Ba log.length ka, .int .i64 commit, .int .i64 len] 68) := ⟨_, rfl⟩
  obtain ⟨w3, hw3⟩ : ∃ w3, w3 = w2.alloc (.cells #[.int .u8 3] 5) := ⟨_, rfl⟩
  have hk2 : Keeps [] w w2 := by rw [hw2]; exact (Keeps.refl _ _).alloc _
  have hk3 : Keeps [] w w3 := by rw [hw3]; exact hk2.alloc _
  have hBa2 : Blk w2 w.heap.size 68 #[.int .i64 3, .int .i64 kind, .int .i64 ag, .int .i64 sh, .int .i64 seq, .int .i64 ep, .slice Aa ds.length na, .string ser, .int .i64 fr, .int .i64 etg, .int .i64 tag, .int .i64 code, .int .u64 nn, .int .i64 term, .int .i64 had, .slice Ba log.length ka, .int .i64 commit, .int .i64 len] := by rw [hw2]; exact Blk.new w _ _
  have hBa : Blk w3 w.heap.size 68 #[.int .i64 3, .int .i64 kind, .int .i64 ag, .int .i64 sh, .int .i64 seq, .int .i64 ep, .slice Aa ds.length na, .string ser, .int .i64 fr, .int .i64 etg, .int .i64 tag, .int .i64 code, .int .u64 nn, .int .i64 term, .int .i64 had, .slice Ba log.length ka, .int .i64 commit, .int .i64 len] := by rw [hw3]; exact hBa2.below (below_new' _ _) hBa2.lt
  have hBb : Blk w3 w2.heap.size 5 #[.int .u8 3] := by rw [hw3]; exact Blk.new w2 _ _
  have hb8 : ∀ M, (∀ g ∈ M, g < w.heap.size) → Bs w3 M (.slice (some ⟨w2.heap.size, 0, none⟩) 1 1) [UInt8.ofNat 3] := fun M hM => ⟨_, _, rfl, Nat.le_refl _, rfl, fun _ => ⟨w2.heap.size, 0, rfl, hBb.lt, fun hm => by have := hM _ hm; have := hBa2.lt; omega, fun j u hu => by
    rw [Nat.zero_add, hBb.cell j]
    cases j with
    | zero => exact hu
    | succ j => cases hu⟩⟩
  have Hw2 := Lib.hid hw2; have Hw3 := Lib.hid hw3; have HBa2 := Lib.hid hBa2; have HBa := Lib.hid hBa; have Hk3 := Lib.hid hk3; have Hb8 := Lib.hid hb8
  clear hw2 hw3 hk2 hk3 hBa2 hBa hBb hb8
  show Calls Tryz.prog 100 #[.agg #[.int .i64 3, .int .i64 kind, .int .i64 ag, .int .i64 sh, .int .i64 seq, .int .i64 ep, .slice Aa ds.length na, .string ser, .int .i64 fr, .int .i64 etg, .int .i64 tag, .int .i64 code, .int .u64 nn, .int .i64 term, .int .i64 had, .slice Ba log.length ka, .int .i64 commit, .int .i64 len]] w fun r w' => BsPost bo w r w'
  go_enter Tryz.func100, Tryz.ntmps100
  go_upto_region 1 with (fail)
  rw [← Hw2.out]
  have hg3 : w.heap.size < w3.heap.size := HBa.out.lt
  obtain ⟨q0, q1, q2, q3, q4, q5, q6, q7, q8, q9, qa, qb, qc, qd, qe, qf, qg, qh, qz⟩ := blk18 HBa2.out
  generalize hgs : w.heap.size = g at HBa HBa2 Hb8 hg3 q0 q1 q2 q3 q4 q5 q6 q7 q8 q9 qa qb qc qd qe qf qg qh qz ⊢
  have Hgs := Lib.hid hgs
  clear Hw2 hgs
  go_upto_region 2 with (fail)
  rw [← Hw3.out]
  generalize w2.heap.size = g3 at *
  clear Hw3 q0 q1 q2 q3 q4 q5 q6 q7 q8 q9 qa qb qc qd qe qf qg qh qz
  obtain ⟨q0, q1, q2, q3, q4, q5, q6, q7, q8, q9, qa, qb, qc, qd, qe, qf, qg, qh, qz⟩ := blk18 HBa.out
  have hput := put_any (.slice (some ⟨g3, 0, none⟩) 1 1) ([UInt8.ofNat 3]) term w3 (Hb8.out [] (by simp)) (by omega) (by simp)
  generalize hL4 : [UInt8.ofNat 3] ++ Lib.uvarint term = L4 at hput
  have HL4 := Lib.hid hL4; have Hput := Lib.hid hput
  clear hL4 hput
  go_wp2_with fail
  refine Hput.out.mono ?_
  rintro e w4 ⟨A4, rfl, hS, hb⟩
  have HS4 : Hid (∀ M, (∀ x ∈ M, x < g) → Bs w4 M (.slice A4 L4.length L4.length) L4) := fun M hM => hS M (fun x hx => by have := hM x hx; have := hg3; omega)
  have Hk4 := Lib.hid (Hk3.out.trans (Keeps.of_below (M := []) hb) (by simp))
  have HBa4 := Lib.hid (HBa.out.below hb (hg3))
  have hg4 : g < w4.heap.size := HBa4.out.lt
  clear hS hb Hput q0 q1 q2 q3 q4 q5 q6 q7 q8 q9 qa qb qc qd qe qf qg qh qz
  obtain ⟨q0, q1, q2, q3, q4, q5, q6, q7, q8, q9, qa, qb, qc, qd, qe, qf, qg, qh, qz⟩ := blk18 HBa4.out
  obtain rfl : bo = L4 := by rw [HB.out, ← HL4.out]
  have hp : Hid (BsPost bo w (.returned (.slice A4 bo.length bo.length)) w4) := ⟨A4, rfl, fun M hM => HS4.out M (by rw [← Hgs.out]; exact hM), Hk4.out.below⟩
  clear HB
  go_wp2
  go_ret
  exact hp.out
set_option maxRecDepth 100000 in
set_option maxHeartbeats 2000000 in
theorem mbody_4 (m : MsgD) (dv lv : Value) (mx : Int) (w : World) (hk : m.kd = 4) (ha : MsgAt w [] m dv lv) (hok : MOk m) (hs : MShort m) (hwf : MWf m) (hm : w.cell? ⟨0, 0, none⟩ = some (.int .i64 mx)) :
    Calls Tryz.prog 100 #[.agg (mCell m dv lv).toArray] w fun r w' => BsPost (bodyL m) w r w' := by
  have hw0 : 0 < w.heap.size := by
    have := World.block_lt_of_cell? w _ hm
    simpa using this
  have hkeepm : Hid (∀ W, Keeps [] w W → W.cell? ⟨0, 0, none⟩ = some (.int .i64 mx)) := fun W hb => (hb.cell (p := ⟨0, 0, none⟩) hw0 (by simp)).trans hm
  have hmp := Lib.hid (fun W (hk' : Keeps [] w W) v lb (hB : Bs W [] v lb) (hlb : lb.length ≤ 1000000000) => mput_any v lb lv m.log mx W hB (ha.2.keep hk' (by simp)) (fun e he => ⟨hok.logs (by omega) e he, hs.2.2 e he, hwf.2.2.2.2.2.2 e he⟩) hok.logl hlb (hkeepm.out W hk'))
  have HB : Hid (bodyL m = [UInt8.ofNat 4] ++ (Lib.uvarint m.term.toNat ++ Lib.uvarint m.had.toNat ++ putLog m.log)) := by show _ = _; unfold bodyL; rw [hk]; rfl
  have hnn0 := hwf.2.2.2.1; have hnn1 := hwf.2.2.2.2.1; have hw1 := hwf.1; have hw2 := hwf.2.1; have hw3 := hwf.2.2.1
  have o1 := hok.tag0; have o2 := hok.term0; have o3 := hok.had0; have o4 := hok.com0; have o5 := hok.len0; have o6 := hok.code0; have o7 := hok.code1; have o8 := hok.com1; have o9 := hok.len1
  obtain ⟨Aa, na, rfl, _⟩ := ha.1.len
  obtain ⟨Ba, ka, rfl, _⟩ := ha.2.len
  clear ha hok hs hwf hm
  generalize bodyL m = bo at *
  obtain ⟨kd, ⟨kind, ag, sh, seq, ep, ds, ser, fr, etg⟩, tag, code, nn, term, had, log, commit, len⟩ := m
  simp only [] at HB hnn0 hnn1 hw1 hw2 hw3 o1 o2 o3 o4 o5 o6 o7 o8 o9 hk hmp
  subst hk
  obtain ⟨term, rfl⟩ := Int.eq_ofNat_of_zero_le (show 0 ≤ term by omega)
  obtain ⟨had, rfl⟩ := Int.eq_ofNat_of_zero_le (show 0 ≤ had by omega)
  simp only [Int.toNat_natCast] at HB
  have hw_term : IntKind.u64.wrap (term : Int) = (term : Int) := by rw [IntKind.wrap_u64]; omega
  have hu_term := Lib.uvarint_length64 (x := term) (by omega)
  have hw_had : IntKind.u64.wrap (had : Int) = (had : Int) := by rw [IntKind.wrap_u64]; omega
  have hu_had := Lib.uvarint_length64 (x := had) (by omega)
  have hw_k : IntKind.u8.wrap 4 = 4 := by decide
  simp only [mCell, eCell, List.cons_append, List.nil_append]
  obtain ⟨w2, hw2⟩ : ∃ w2, w2 = w.alloc (.cells #[.int .i64 4, .int .i64 kind, .int .i64 ag, .int .i64 sh, .int .i64 seq, .int .i64 ep, .slice Aa ds.length na, .string ser, .int .i64 fr, .int .i64 etg, .int .i64 tag, .int .i64 code, .int .u64 nn, .int .i64 term, .int .i64 had, .slice Ba log.length ka, .int .i64 commit, .int .i64 len] 68) := ⟨_, rfl⟩
  obtain ⟨w3, hw3⟩ : ∃ w3, w3 = w2.alloc (.cells #[.int .u8 4] 5) := ⟨_, rfl⟩
  have hk2 : Keeps [] w w2 := by rw [hw2]; exact (Keeps.refl _ _).alloc _
  have hk3 : Keeps [] w w3 := by rw [hw3]; exact hk2.alloc _
  have hBa2 : Blk w2 w.heap.size 68 #[.int .i64 4, .int .i64 kind, .int .i64 ag, .int .i64 sh, .int .i64 seq, .int .i64 ep, .slice Aa ds.length na, .string ser, .int .i64 fr, .int .i64 etg, .int .i64 tag, .int .i64 code, .int .u64 nn, .int .i64 term, .int .i64 had, .slice Ba log.length ka, .int .i64 commit, .int .i64 len] := by rw [hw2]; exact Blk.new w _ _
  have hBa : Blk w3 w.heap.size 68 #[.int .i64 4, .int .i64 kind, .int .i64 ag, .int .i64 sh, .int .i64 seq, .int .i64 ep, .slice Aa ds.length na, .string ser, .int .i64 fr, .int .i64 etg, .int .i64 tag, .int .i64 code, .int .u64 nn, .int .i64 term, .int .i64 had, .slice Ba log.length ka, .int .i64 commit, .int .i64 len] := by rw [hw3]; exact hBa2.below (below_new' _ _) hBa2.lt
  have hBb : Blk w3 w2.heap.size 5 #[.int .u8 4] := by rw [hw3]; exact Blk.new w2 _ _
  have hb8 : ∀ M, (∀ g ∈ M, g < w.heap.size) → Bs w3 M (.slice (some ⟨w2.heap.size, 0, none⟩) 1 1) [UInt8.ofNat 4] := fun M hM => ⟨_, _, rfl, Nat.le_refl _, rfl, fun _ => ⟨w2.heap.size, 0, rfl, hBb.lt, fun hm => by have := hM _ hm; have := hBa2.lt; omega, fun j u hu => by
    rw [Nat.zero_add, hBb.cell j]
    cases j with
    | zero => exact hu
    | succ j => cases hu⟩⟩
  have Hw2 := Lib.hid hw2; have Hw3 := Lib.hid hw3; have HBa2 := Lib.hid hBa2; have HBa := Lib.hid hBa; have Hk3 := Lib.hid hk3; have Hb8 := Lib.hid hb8
  clear hw2 hw3 hk2 hk3 hBa2 hBa hBb hb8
  show Calls Tryz.prog 100 #[.agg #[.int .i64 4, .int .i64 kind, .int .i64 ag, .int .i64 sh, .int .i64 seq, .int .i64 ep, .slice Aa ds.length na, .string ser, .int .i64 fr, .int .i64 etg, .int .i64 tag, .int .i64 code, .int .u64 nn, .int .i64 term, .int .i64 had, .slice Ba log.length ka, .int .i64 commit, .int .i64 len]] w fun r w' => BsPost bo w r w'
  go_enter Tryz.func100, Tryz.ntmps100
  go_upto_region 1 with (fail)
  rw [← Hw2.out]
  have hg3 : w.heap.size < w3.heap.size := HBa.out.lt
  obtain ⟨q0, q1, q2, q3, q4, q5, q6, q7, q8, q9, qa, qb, qc, qd, qe, qf, qg, qh, qz⟩ := blk18 HBa2.out
  generalize hgs : w.heap.size = g at HBa HBa2 Hb8 hg3 q0 q1 q2 q3 q4 q5 q6 q7 q8 q9 qa qb qc qd qe qf qg qh qz ⊢
  have Hgs := Lib.hid hgs
  clear Hw2 hgs
  go_upto_region 2 with (fail)
  rw [← Hw3.out]
  generalize w2.heap.size = g3 at *
  clear Hw3 q0 q1 q2 q3 q4 q5 q6 q7 q8 q9 qa qb qc qd qe qf qg qh qz
  obtain ⟨q0, q1, q2, q3, q4, q5, q6, q7, q8, q9, qa, qb, qc, qd, qe, qf, qg, qh, qz⟩ := blk18 HBa.out
  have hput := put_any (.slice (some ⟨g3, 0, none⟩) 1 1) ([UInt8.ofNat 4]) term w3 (Hb8.out [] (by simp)) (by omega) (by simp)
  generalize hL4 : [UInt8.ofNat 4] ++ Lib.uvarint term = L4 at hput
  have HL4 := Lib.hid hL4; have Hput := Lib.hid hput
  clear hL4 hput
  go_wp2_with fail
  refine Hput.out.mono ?_
  rintro e w4 ⟨A4, rfl, hS, hb⟩
  have HS4 : Hid (∀ M, (∀ x ∈ M, x < g) → Bs w4 M (.slice A4 L4.length L4.length) L4) := fun M hM => hS M (fun x hx => by have := hM x hx; have := hg3; omega)
  have Hk4 := Lib.hid (Hk3.out.trans (Keeps.of_below (M := []) hb) (by simp))
  have HBa4 := Lib.hid (HBa.out.below hb (hg3))
  have hg4 : g < w4.heap.size := HBa4.out.lt
  clear hS hb Hput q0 q1 q2 q3 q4 q5 q6 q7 q8 q9 qa qb qc qd qe qf qg qh qz
  obtain ⟨q0, q1, q2, q3, q4, q5, q6, q7, q8, q9, qa, qb, qc, qd, qe, qf, qg, qh, qz⟩ := blk18 HBa4.out
  have hL4l : L4.length ≤ 11 := by have := congrArg List.length HL4.out; rw [List.length_append] at this; simp at this; omega
  have hput := put_any (.slice A4 L4.length L4.length) L4 had w4.drew ((HS4.out [] (by simp)).keep (M' := []) ((Keeps.refl _ _).drew) (by simp)) (by omega) (by omega)
  generalize hL5 : L4 ++ Lib.uvarint had = L5 at hput
  have hL5l : L5.length ≤ 21 := by rw [← hL5, List.length_append]; omega
  have HL5 := Lib.hid hL5; have Hput := Lib.hid hput
  have HLX : Hid (bo = L5 ++ putLog log) := by show _ = _; rw [HB.out, ← HL5.out, ← HL4.out]; simp
  clear hL5 hput
  go_wp2_with fail
  go_region_held3 (fun w' => w'.cell? ⟨g, 14, none⟩ = some (.int .i64 had) ∧ w'.cell? ⟨g, 15, none⟩ = some (.slice Ba log.length ka)) (first | exact ⟨u0, u1⟩ | exact ⟨s0, s1⟩ | exact ⟨qe, qf⟩) (first
    | (go_at_call 118
       with_reducible refine Hput.out.mono ?_
       rintro e w5 ⟨A5, rfl, hS, hb⟩
       have HS5 := Lib.hid (hS [] (by simp))
       have Hk5 := Lib.hid (Hk4.out.drew.trans (Keeps.of_below (M := []) hb) (by simp))
       have s0 : w5.cell? ⟨g, 14, none⟩ = some (.int .i64 had) := (hb.cell (p := ⟨g, 14, none⟩) hg4).trans qe
       have s1 : w5.cell? ⟨g, 15, none⟩ = some (.slice Ba log.length ka) := (hb.cell (p := ⟨g, 15, none⟩) hg4).trans qf
       have hg5 : g < w5.heap.size := Nat.lt_of_lt_of_le hg4 hb.size
       have hmp5 := hmp.out w5 Hk5.out (.slice A5 L5.length L5.length) L5 HS5.out (by omega)
       rw [← HLX.out] at hmp5
       have Hmp5 := Lib.hid hmp5
       clear hS hb hmp5)
    | (go_at_call 140
       with_reducible refine Hmp5.out.mono ?_
       rintro e w6 ⟨A6, rfl, hS, hb⟩
       have u0 : w6.cell? ⟨g, 14, none⟩ = some (.int .i64 had) := (hb.cell (p := ⟨g, 14, none⟩) hg5).trans s0
       have u1 : w6.cell? ⟨g, 15, none⟩ = some (.slice Ba log.length ka) := (hb.cell (p := ⟨g, 15, none⟩) hg5).trans s1
       have hp : Hid (BsPost bo w (.returned (.slice A6 bo.length bo.length)) w6) := ⟨A6, rfl, fun M hM => hS M (fun x hx => Nat.lt_of_lt_of_le (hM x hx) Hk5.out.size), (Hk5.out.trans (Keeps.of_below (M := []) hb) (by simp)).below⟩
       clear hS hb))
  all_goals
    go_wp2
    go_ret
    exact hp.out
set_option maxRecDepth 100000 in
set_option maxHeartbeats 2000000 in
theorem mbody_5 (m : MsgD) (dv lv : Value) (mx : Int) (w : World) (hk : m.kd = 5) (ha : MsgAt w [] m dv lv) (hok : MOk m) (hs : MShort m) (hwf : MWf m) (hm : w.cell? ⟨0, 0, none⟩ = some (.int .i64 mx)) :
    Calls Tryz.prog 100 #[.agg (mCell m dv lv).toArray] w fun r w' => BsPost (bodyL m) w r w' := by
  have hw0 : 0 < w.heap.size := by
    have := World.block_lt_of_cell? w _ hm
    simpa using this
  have hkeepm : Hid (∀ W, Keeps [] w W → W.cell? ⟨0, 0, none⟩ = some (.int .i64 mx)) := fun W hb => (hb.cell (p := ⟨0, 0, none⟩) hw0 (by simp)).trans hm
  have hmp := Lib.hid (fun W (hk' : Keeps [] w W) v lb (hB : Bs W [] v lb) (hlb : lb.length ≤ 1000000000) => mput_any v lb lv m.log mx W hB (ha.2.keep hk' (by simp)) (fun e he => ⟨hok.logs (by omega) e he, hs.2.2 e he, hwf.2.2.2.2.2.2 e he⟩) hok.logl hlb (hkeepm.out W hk'))
  have HB : Hid (bodyL m = [UInt8.ofNat 5] ++ (Lib.uvarint m.term.toNat ++ Lib.uvarint m.commit.toNat ++ putLog m.log)) := by show _ = _; unfold bodyL; rw [hk]; rfl
  have hnn0 := hwf.2.2.2.1; have hnn1 := hwf.2.2.2.2.1; have hw1 := hwf.1; have hw2 := hwf.2.1; have hw3 := hwf.2.2.1
  have o1 := hok.tag0; have o2 := hok.term0; have o3 := hok.had0; have o4 := hok.com0; have o5 := hok.len0; have o6 := hok.code0; have o7 := hok.code1; have o8 := hok.com1; have o9 := hok.len1
  obtain ⟨Aa, na, rfl, _⟩ := ha.1.len
  obtain ⟨Ba, ka, rfl, _⟩ := ha.2.len
  clear ha hok hs hwf hm
  generalize bodyL m = bo at *
  obtain ⟨kd, ⟨kind, ag, sh, seq, ep, ds, ser, fr, etg⟩, tag, code, nn, term, had, log, commit, len⟩ := m
  simp only [] at HB hnn0 hnn1 hw1 hw2 hw3 o1 o2 o3 o4 o5 o6 o7 o8 o9 hk hmp
  subst hk
  obtain ⟨term, rfl⟩ := Int.eq_ofNat_of_zero_le (show 0 ≤ term by omega)
  obtain ⟨commit, rfl⟩ := Int.eq_ofNat_of_zero_le (show 0 ≤ commit by omega)
  simp only [Int.toNat_natCast] at HB
  have hw_term : IntKind.u64.wrap (term : Int) = (term : Int) := by rw [IntKind.wrap_u64]; omega
  have hu_term := Lib.uvarint_length64 (x := term) (by omega)
  have hw_commit : IntKind.u64.wrap (commit : Int) = (commit : Int) := by rw [IntKind.wrap_u64]; omega
  have hu_commit := Lib.uvarint_length64 (x := commit) (by omega)
  have hw_k : IntKind.u8.wrap 5 = 5 := by decide
  simp only [mCell, eCell, List.cons_append, List.nil_append]
  obtain ⟨w2, hw2⟩ : ∃ w2, w2 = w.alloc (.cells #[.int .i64 5, .int .i64 kind, .int .i64 ag, .int .i64 sh, .int .i64 seq, .int .i64 ep, .slice Aa ds.length na, .string ser, .int .i64 fr, .int .i64 etg, .int .i64 tag, .int .i64 code, .int .u64 nn, .int .i64 term, .int .i64 had, .slice Ba log.length ka, .int .i64 commit, .int .i64 len] 68) := ⟨_, rfl⟩
  obtain ⟨w3, hw3⟩ : ∃ w3, w3 = w2.alloc (.cells #[.int .u8 5] 5) := ⟨_, rfl⟩
  have hk2 : Keeps [] w w2 := by rw [hw2]; exact (Keeps.refl _ _).alloc _
  have hk3 : Keeps [] w w3 := by rw [hw3]; exact hk2.alloc _
  have hBa2 : Blk w2 w.heap.size 68 #[.int .i64 5, .int .i64 kind, .int .i64 ag, .int .i64 sh, .int .i64 seq, .int .i64 ep, .slice Aa ds.length na, .string ser, .int .i64 fr, .int .i64 etg, .int .i64 tag, .int .i64 code, .int .u64 nn, .int .i64 term, .int .i64 had, .slice Ba log.length ka, .int .i64 commit, .int .i64 len] := by rw [hw2]; exact Blk.new w _ _
  have hBa : Blk w3 w.heap.size 68 #[.int .i64 5, .int .i64 kind, .int .i64 ag, .int .i64 sh, .int .i64 seq, .int .i64 ep, .slice Aa ds.length na, .string ser, .int .i64 fr, .int .i64 etg, .int .i64 tag, .int .i64 code, .int .u64 nn, .int .i64 term, .int .i64 had, .slice Ba log.length ka, .int .i64 commit, .int .i64 len] := by rw [hw3]; exact hBa2.below (below_new' _ _) hBa2.lt
  have hBb : Blk w3 w2.heap.size 5 #[.int .u8 5] := by rw [hw3]; exact Blk.new w2 _ _
  have hb8 : ∀ M, (∀ g ∈ M, g < w.heap.size) → Bs w3 M (.slice (some ⟨w2.heap.size, 0, none⟩) 1 1) [UInt8.ofNat 5] := fun M hM => ⟨_, _, rfl, Nat.le_refl _, rfl, fun _ => ⟨w2.heap.size, 0, rfl, hBb.lt, fun hm => by have := hM _ hm; have := hBa2.lt; omega, fun j u hu => by
    rw [Nat.zero_add, hBb.cell j]
    cases j with
    | zero => exact hu
    | succ j => cases hu⟩⟩
  have Hw2 := Lib.hid hw2; have Hw3 := Lib.hid hw3; have HBa2 := Lib.hid hBa2; have HBa := Lib.hid hBa; have Hk3 := Lib.hid hk3; have Hb8 := Lib.hid hb8
  clear hw2 hw3 hk2 hk3 hBa2 hBa hBb hb8
  show Calls Tryz.prog 100 #[.agg #[.int .i64 5, .int .i64 kind, .int .i64 ag, .int .i64 sh, .int .i64 seq, .int .i64 ep, .slice Aa ds.length na, .string ser, .int .i64 fr, .int .i64 etg, .int .i64 tag, .int .i64 code, .int .u64 nn, .int .i64 term, .int .i64 had, .slice Ba log.length ka, .int .i64 commit, .int .i64 len]] w fun r w' => BsPost bo w r w'
  go_enter Tryz.func100, Tryz.ntmps100
  go_upto_region 1 with (fail)
  rw [← Hw2.out]
  have hg3 : w.heap.size < w3.heap.size := HBa.out.lt
  obtain ⟨q0, q1, q2, q3, q4, q5, q6, q7, q8, q9, qa, qb, qc, qd, qe, qf, qg, qh, qz⟩ := blk18 HBa2.out
  generalize hgs : w.heap.size = g at HBa HBa2 Hb8 hg3 q0 q1 q2 q3 q4 q5 q6 q7 q8 q9 qa qb qc qd qe qf qg qh qz ⊢
  have Hgs := Lib.hid hgs
  clear Hw2 hgs
  go_upto_region 2 with (fail)
  rw [← Hw3.out]
  generalize w2.heap.size = g3 at *
  clear Hw3 q0 q1 q2 q3 q4 q5 q6 q7 q8 q9 qa qb qc qd qe qf qg qh qz
  obtain ⟨q0, q1, q2, q3, q4, q5, q6, q7, q8, q9, qa, qb, qc, qd, qe, qf, qg, qh, qz⟩ := blk18 HBa.out
  have hput := put_any (.slice (some ⟨g3, 0, none⟩) 1 1) ([UInt8.ofNat 5]) term w3 (Hb8.out [] (by simp)) (by omega) (by simp)
  generalize hL4 : [UInt8.ofNat 5] ++ Lib.uvarint term = L4 at hput
  have HL4 := Lib.hid hL4; have Hput := Lib.hid hput
  clear hL4 hput
  go_wp2_with fail
  refine Hput.out.mono ?_
  rintro e w4 ⟨A4, rfl, hS, hb⟩
  have HS4 : Hid (∀ M, (∀ x ∈ M, x < g) → Bs w4 M (.slice A4 L4.length L4.length) L4) := fun M hM => hS M (fun x hx => by have := hM x hx; have := hg3; omega)
  have Hk4 := Lib.hid (Hk3.out.trans (Keeps.of_below (M := []) hb) (by simp))
  have HBa4 := Lib.hid (HBa.out.below hb (hg3))
  have hg4 : g < w4.heap.size := HBa4.out.lt
  clear hS hb Hput q0 q1 q2 q3 q4 q5 q6 q7 q8 q9 qa qb qc qd qe qf qg qh qz
  obtain ⟨q0, q1, q2, q3, q4, q5, q6, q7, q8, q9, qa, qb, qc, qd, qe, qf, qg, qh, qz⟩ := blk18 HBa4.out
  have hL4l : L4.length ≤ 11 := by have := congrArg List.length HL4.out; rw [List.length_append] at this; simp at this; omega
  have hput := put_any (.slice A4 L4.length L4.length) L4 commit w4.drew ((HS4.out [] (by simp)).keep (M' := []) ((Keeps.refl _ _).drew) (by simp)) (by omega) (by omega)
  generalize hL5 : L4 ++ Lib.uvarint commit = L5 at hput
  have hL5l : L5.length ≤ 21 := by rw [← hL5, List.length_append]; omega
  have HL5 := Lib.hid hL5; have Hput := Lib.hid hput
  have HLX : Hid (bo = L5 ++ putLog log) := by show _ = _; rw [HB.out, ← HL5.out, ← HL4.out]; simp
  clear hL5 hput
  go_wp2_with fail
  go_region_held3 (fun w' => w'.cell? ⟨g, 16, none⟩ = some (.int .i64 commit) ∧ w'.cell? ⟨g, 15, none⟩ = some (.slice Ba log.length ka)) (first | exact ⟨u0, u1⟩ | exact ⟨s0, s1⟩ | exact ⟨qg, qf⟩) (first
    | (go_at_call 118
       with_reducible refine Hput.out.mono ?_
       rintro e w5 ⟨A5, rfl, hS, hb⟩
       have HS5 := Lib.hid (hS [] (by simp))
       have Hk5 := Lib.hid (Hk4.out.drew.trans (Keeps.of_below (M := []) hb) (by simp))
       have s0 : w5.cell? ⟨g, 16, none⟩ = some (.int .i64 commit) := (hb.cell (p := ⟨g, 16, none⟩) hg4).trans qg
       have s1 : w5.cell? ⟨g, 15, none⟩ = some (.slice Ba log.length ka) := (hb.cell (p := ⟨g, 15, none⟩) hg4).trans qf
       have hg5 : g < w5.heap.size := Nat.lt_of_lt_of_le hg4 hb.size
       have hmp5 := hmp.out w5 Hk5.out (.slice A5 L5.length L5.length) L5 HS5.out (by omega)
       rw [← HLX.out] at hmp5
       have Hmp5 := Lib.hid hmp5
       clear hS hb hmp5)
    | (go_at_call 140
       with_reducible refine Hmp5.out.mono ?_
       rintro e w6 ⟨A6, rfl, hS, hb⟩
       have u0 : w6.cell? ⟨g, 16, none⟩ = some (.int .i64 commit) := (hb.cell (p := ⟨g, 16, none⟩) hg5).trans s0
       have u1 : w6.cell? ⟨g, 15, none⟩ = some (.slice Ba log.length ka) := (hb.cell (p := ⟨g, 15, none⟩) hg5).trans s1
       have hp : Hid (BsPost bo w (.returned (.slice A6 bo.length bo.length)) w6) := ⟨A6, rfl, fun M hM => hS M (fun x hx => Nat.lt_of_lt_of_le (hM x hx) Hk5.out.size), (Hk5.out.trans (Keeps.of_below (M := []) hb) (by simp)).below⟩
       clear hS hb))
  all_goals
    go_wp2
    go_ret
    exact hp.out
set_option maxRecDepth 100000 in
set_option maxHeartbeats 2000000 in
theorem mbody_6 (m : MsgD) (dv lv : Value) (mx : Int) (w : World) (hk : m.kd = 6) (ha : MsgAt w [] m dv lv) (hok : MOk m) (hs : MShort m) (hwf : MWf m) (hm : w.cell? ⟨0, 0, none⟩ = some (.int .i64 mx)) :
    Calls Tryz.prog 100 #[.agg (mCell m dv lv).toArray] w fun r w' => BsPost (bodyL m) w r w' := by
  have hw0 : 0 < w.heap.size := by
    have := World.block_lt_of_cell? w _ hm
    simpa using this
  have hkeepm : Hid (∀ W, Keeps [] w W → W.cell? ⟨0, 0, none⟩ = some (.int .i64 mx)) := fun W hb => (hb.cell (p := ⟨0, 0, none⟩) hw0 (by simp)).trans hm
  have _ := hs
  have HB : Hid (bodyL m = [UInt8.ofNat 6] ++ (Lib.uvarint m.term.toNat ++ Lib.uvarint m.len.toNat)) := by show _ = _; unfold bodyL; rw [hk]; rfl
  have hnn0 := hwf.2.2.2.1; have hnn1 := hwf.2.2.2.2.1; have hw1 := hwf.1; have hw2 := hwf.2.1; have hw3 := hwf.2.2.1
  have o1 := hok.tag0; have o2 := hok.term0; have o3 := hok.had0; have o4 := hok.com0; have o5 := hok.len0; have o6 := hok.code0; have o7 := hok.code1; have o8 := hok.com1; have o9 := hok.len1
  obtain ⟨Aa, na, rfl, _⟩ := ha.1.len
  obtain ⟨Ba, ka, rfl, _⟩ := ha.2.len
  clear ha hok hs hwf hm
  generalize bodyL m = bo at *
  obtain ⟨kd, ⟨kind, ag, sh, seq, ep, ds, ser, fr, etg⟩, tag, code, nn, term, had, log, commit, len⟩ := m
  simp only [] at HB hnn0 hnn1 hw1 hw2 hw3 o1 o2 o3 o4 o5 o6 o7 o8 o9 hk
  subst hk
  obtain ⟨term, rfl⟩ := Int.eq_ofNat_of_zero_le (show 0 ≤ term by omega)
  obtain ⟨len, rfl⟩ := Int.eq_ofNat_of_zero_le (show 0 ≤ len by omega)
  simp only [Int.toNat_natCast] at HB
  have hw_term : IntKind.u64.wrap (term : Int) = (term : Int) := by rw [IntKind.wrap_u64]; omega
  have hu_term := Lib.uvarint_length64 (x := term) (by omega)
  have hw_len : IntKind.u64.wrap (len : Int) = (len : Int) := by rw [IntKind.wrap_u64]; omega
  have hu_len := Lib.uvarint_length64 (x := len) (by omega)
  have hw_k : IntKind.u8.wrap 6 = 6 := by decide
  simp only [mCell, eCell, List.cons_append, List.nil_append]
  obtain ⟨w2, hw2⟩ : ∃ w2, w2 = w.alloc (.cells #[.int .i64 6, .int .i64 kind, .int .i64 ag, .int .i64 sh, .int .i64 seq, .int .i64 ep, .slice Aa ds.length na, .string ser, .int .i64 fr, .int .i64 etg, .int .i64 tag, .int .i64 code, .int .u64 nn, .int .i64 term, .int .i64 had, .slice Ba log.length ka, .int .i64 commit, .int .i64 len] 68) := ⟨_, rfl⟩
  obtain ⟨w3, hw3⟩ : ∃ w3, w3 = w2.alloc (.cells #[.int .u8 6] 5) := ⟨_, rfl⟩
  have hk2 : Keeps [] w w2 := by rw [hw2]; exact (Keeps.refl _ _).alloc _
  have hk3 : Keeps [] w w3 := by rw [hw3]; exact hk2.alloc _
  have hBa2 : Blk w2 w.heap.size 68 #[.int .i64 6, .int .i64 kind, .int .i64 ag, .int .i64 sh, .int .i64 seq, .int .i64 ep, .slice Aa ds.length na, .string ser, .int .i64 fr, .int .i64 etg, .int .i64 tag, .int .i64 code, .int .u64 nn, .int .i64 term, .int .i64 had, .slice Ba log.length ka, .int .i64 commit, .int .i64 len] := by rw [hw2]; exact Blk.new w _ _
  have hBa : Blk w3 w.heap.size 68 #[.int .i64 6, .int .i64 kind, .int .i64 ag, .int .i64 sh, .int .i64 seq, .int .i64 ep, .slice Aa ds.length na, .string ser, .int .i64 fr, .int .i64 etg, .int .i64 tag, .int .i64 code, .int .u64 nn, .int .i64 term, .int .i64 had, .slice Ba log.length ka, .int .i64 commit, .int .i64 len] := by rw [hw3]; exact hBa2.below (below_new' _ _) hBa2.lt
  have hBb : Blk w3 w2.heap.size 5 #[.int .u8 6] := by rw [hw3]; exact Blk.new w2 _ _
  have hb8 : ∀ M, (∀ g ∈ M, g < w.heap.size) → Bs w3 M (.slice (some ⟨w2.heap.size, 0, none⟩) 1 1) [UInt8.ofNat 6] := fun M hM => ⟨_, _, rfl, Nat.le_refl _, rfl, fun _ => ⟨w2.heap.size, 0, rfl, hBb.lt, fun hm => by have := hM _ hm; have := hBa2.lt; omega, fun j u hu => by
    rw [Nat.zero_add, hBb.cell j]
    cases j with
    | zero => exact hu
    | succ j => cases hu⟩⟩
  have Hw2 := Lib.hid hw2; have Hw3 := Lib.hid hw3; have HBa2 := Lib.hid hBa2; have HBa := Lib.hid hBa; have Hk3 := Lib.hid hk3; have Hb8 := Lib.hid hb8
  clear hw2 hw3 hk2 hk3 hBa2 hBa hBb hb8
  show Calls Tryz.prog 100 #[.agg #[.int .i64 6, .int .i64 kind, .int .i64 ag, .int .i64 sh, .int .i64 seq, .int .i64 ep, .slice Aa ds.length na, .string ser, .int .i64 fr, .int .i64 etg, .int .i64 tag, .int .i64 code, .int .u64 nn, .int .i64 term, .int .i64 had, .slice Ba log.length ka, .int .i64 commit, .int .i64 len]] w fun r w' => BsPost bo w r w'
  go_enter Tryz.func100, Tryz.ntmps100
  go_upto_region 1 with (fail)
  rw [← Hw2.out]
  have hg3 : w.heap.size < w3.heap.size := HBa.out.lt
  obtain ⟨q0, q1, q2, q3, q4, q5, q6, q7, q8, q9, qa, qb, qc, qd, qe, qf, qg, qh, qz⟩ := blk18 HBa2.out
  generalize hgs : w.heap.size = g at HBa HBa2 Hb8 hg3 q0 q1 q2 q3 q4 q5 q6 q7 q8 q9 qa qb qc qd qe qf qg qh qz ⊢
  have Hgs := Lib.hid hgs
  clear Hw2 hgs
  go_upto_region 2 with (fail)
  rw [← Hw3.out]
  generalize w2.heap.size = g3 at *
  clear Hw3 q0 q1 q2 q3 q4 q5 q6 q7 q8 q9 qa qb qc qd qe qf qg qh qz
  obtain ⟨q0, q1, q2, q3, q4, q5, q6, q7, q8, q9, qa, qb, qc, qd, qe, qf, qg, qh, qz⟩ := blk18 HBa.out
  have hput := put_any (.slice (some ⟨g3, 0, none⟩) 1 1) ([UInt8.ofNat 6]) term w3 (Hb8.out [] (by simp)) (by omega) (by simp)
  generalize hL4 : [UInt8.ofNat 6] ++ Lib.uvarint term = L4 at hput
  have HL4 := Lib.hid hL4; have Hput := Lib.hid hput
  clear hL4 hput
  go_wp2_with fail
  refine Hput.out.mono ?_
  rintro e w4 ⟨A4, rfl, hS, hb⟩
  have HS4 : Hid (∀ M, (∀ x ∈ M, x < g) → Bs w4 M (.slice A4 L4.length L4.length) L4) := fun M hM => hS M (fun x hx => by have := hM x hx; have := hg3; omega)
  have Hk4 := Lib.hid (Hk3.out.trans (Keeps.of_below (M := []) hb) (by simp))
  have HBa4 := Lib.hid (HBa.out.below hb (hg3))
  have hg4 : g < w4.heap.size := HBa4.out.lt
  clear hS hb Hput q0 q1 q2 q3 q4 q5 q6 q7 q8 q9 qa qb qc qd qe qf qg qh qz
  obtain ⟨q0, q1, q2, q3, q4, q5, q6, q7, q8, q9, qa, qb, qc, qd, qe, qf, qg, qh, qz⟩ := blk18 HBa4.out
  have hput := put_any (.slice A4 L4.length L4.length) (L4) len w4 (HS4.out [] (by simp)) (by omega) (by have := congrArg List.length HL4.out; rw [List.length_append] at this; simp at this; omega)
  generalize hL5 : L4 ++ Lib.uvarint len = L5 at hput
  have HL5 := Lib.hid hL5; have Hput := Lib.hid hput
  clear hL5 hput
  go_wp2_with fail
  refine Hput.out.mono ?_
  rintro e w5 ⟨A5, rfl, hS, hb⟩
  have HS5 : Hid (∀ M, (∀ x ∈ M, x < g) → Bs w5 M (.slice A5 L5.length L5.length) L5) := fun M hM => hS M (fun x hx => by have := hM x hx; have := hg4; omega)
  have Hk5 := Lib.hid (Hk4.out.trans (Keeps.of_below (M := []) hb) (by simp))
  have HBa5 := Lib.hid (HBa4.out.below hb (hg4))
  have hg5 : g < w5.heap.size := HBa5.out.lt
  clear hS hb Hput q0 q1 q2 q3 q4 q5 q6 q7 q8 q9 qa qb qc qd qe qf qg qh qz
  obtain ⟨q0, q1, q2, q3, q4, q5, q6, q7, q8, q9, qa, qb, qc, qd, qe, qf, qg, qh, qz⟩ := blk18 HBa5.out
  obtain rfl : bo = L5 := by rw [HB.out, ← HL5.out, ← HL4.out]; simp
  have hp : Hid (BsPost bo w (.returned (.slice A5 bo.length bo.length)) w5) := ⟨A5, rfl, fun M hM => HS5.out M (by rw [← Hgs.out]; exact hM), Hk5.out.below⟩
  clear HB
  go_wp2
  go_ret
  exact hp.out
theorem mbody_any (m : MsgD) (dv lv : Value) (mx : Int) (w : World) (ha : MsgAt w [] m dv lv) (hok : MOk m) (hs : MShort m) (hwf : MWf m) (hm : w.cell? ⟨0, 0, none⟩ = some (.int .i64 mx)) :
    Calls Tryz.prog 100 #[.agg (mCell m dv lv).toArray] w fun r w' => BsPost (bodyL m) w r w' := by
  have h1 := hok.k1; have h6 := hok.k6
  rcases (show m.kd = 1 ∨ m.kd = 2 ∨ m.kd = 3 ∨ m.kd = 4 ∨ m.kd = 5 ∨ m.kd = 6 by omega) with h | h | h | h | h | h
  · exact mbody_1 m dv lv mx w h ha hok hs hwf hm
  · exact mbody_2 m dv lv mx w h ha hok hs hwf hm
  · exact mbody_3 m dv lv mx w h ha hok hs hwf hm
  · exact mbody_4 m dv lv mx w h ha hok hs hwf hm
  · exact mbody_5 m dv lv mx w h ha hok hs hwf hm
  · exact mbody_6 m dv lv mx w h ha hok hs hwf hm
end Go.Proofs.YtinnifhnabncfaaGreatDoor.Vi
end
/- Contract of mail.Bytes. -/
section
namespace Go.Proofs.YtinnifhnabncfaaGreatDoor.Vi
open Go.RowKit Base Mem Go.Shelf
def mbytesS (m : MsgD) : List UInt8 × Nat := if mrightS m = 0 then (if 65536 < (bodyL m).length then ([], 3) else (frameL (bodyL m), 0)) else ([], mrightS m)
def MBPost (r : List UInt8 × Nat) (w : World) (e : Ending) (w' : World) : Prop := ∃ A c, e = .returned (.tuple #[.slice A r.1.length c, .int .i64 r.2]) ∧ (∀ M, (∀ g ∈ M, g < w.heap.size) → Bs w' M (.slice A r.1.length c) r.1) ∧ Below w.heap.size w w'
set_option maxRecDepth 100000 in
set_option maxHeartbeats 2000000 in
theorem mbytes_any (m : MsgD) (dv lv : Value) (mx : Int) (w : World) (ha : MsgAt w [] m dv lv) (hs : MShort m) (hwf : MWf m) (hm : w.cell? ⟨0, 0, none⟩ = some (.int .i64 mx)) :
    Calls Tryz.prog 52 #[.agg (mCell m dv lv).toArray] w fun r w' => MBPost (mbytesS m) w r w' := by
  have hw0 : 0 < w.heap.size := by
    have := World.block_lt_of_cell? w _ hm
    simpa using this
  have hkeepm : Hid (∀ W, Keeps [] w W → W.cell? ⟨0, 0, none⟩ = some (.int .i64 mx)) := fun W hb => (hb.cell (p := ⟨0, 0, none⟩) hw0 (by simp)).trans hm
  have hri := Lib.hid (fun W (hk : Keeps [] w W) => mright_any m dv lv mx W (ha.keep hk (by simp)) hs (hkeepm.out W hk))
  have hbo := Lib.hid (fun W (hk : Keeps [] w W) (hz : mrightS m = 0) => mbody_any m dv lv mx W (ha.keep hk (by simp)) (mright_ok hz) hs hwf (hkeepm.out W hk))
  have HM : Hid (mbytesS m = if mrightS m = 0 then (if 65536 < (bodyL m).length then ([], 3) else (frameL (bodyL m), 0)) else ([], mrightS m)) := rfl
  obtain ⟨Aa, na, rfl, _⟩ := ha.1.len
  obtain ⟨Ba, ka, rfl, _⟩ := ha.2.len
  clear ha hs hwf hm
  generalize mbytesS m = R at *
  generalize mrightS m = z at *
  generalize bodyL m = bl at *
  obtain ⟨kd, ⟨kind, ag, sh, seq, ep, ds, ser, fr, etg⟩, tag, code, nn, term, had, log, commit, len⟩ := m
  simp only [mCell, eCell, List.cons_append, List.nil_append] at hri hbo ⊢
  obtain ⟨w2, hw2⟩ : ∃ w2, w2 = w.alloc (.cells #[.int .i64 kd, .int .i64 kind, .int .i64 ag, .int .i64 sh, .int .i64 seq, .int .i64 ep, .slice Aa ds.length na, .string ser, .int .i64 fr, .int .i64 etg, .int .i64 tag, .int .i64 code, .int .u64 nn, .int .i64 term, .int .i64 had, .slice Ba log.length ka, .int .i64 commit, .int .i64 len] 68) := ⟨_, rfl⟩
  have hk2 : Keeps [] w w2 := by rw [hw2]; exact (Keeps.refl _ _).alloc _
  have hBa : Blk w2 w.heap.size 68 #[.int .i64 kd, .int .i64 kind, .int .i64 ag, .int .i64 sh, .int .i64 seq, .int .i64 ep, .slice Aa ds.length na, .string ser, .int .i64 fr, .int .i64 etg, .int .i64 tag, .int .i64 code, .int .u64 nn, .int .i64 term, .int .i64 had, .slice Ba log.length ka, .int .i64 commit, .int .i64 len] := by rw [hw2]; exact Blk.new w _ _
  have Hw2 := Lib.hid hw2; have HBa := Lib.hid hBa; have Hk2 := Lib.hid hk2
  clear hw2 hBa hk2
  show Calls Tryz.prog 52 #[.agg #[.int .i64 kd, .int .i64 kind, .int .i64 ag, .int .i64 sh, .int .i64 seq, .int .i64 ep, .slice Aa ds.length na, .string ser, .int .i64 fr, .int .i64 etg, .int .i64 tag, .int .i64 code, .int .u64 nn, .int .i64 term, .int .i64 had, .slice Ba log.length ka, .int .i64 commit, .int .i64 len]] w fun r w' => MBPost R w r w'
  go_enter Tryz.func52, Tryz.ntmps52
  go_upto_region 1 with (fail)
  rw [← Hw2.out]
  have hg2 : w.heap.size < w2.heap.size := HBa.out.lt
  generalize hgs : w.heap.size = g at HBa hg2 ⊢
  have Hgs := Lib.hid hgs
  clear Hw2 hgs
  have HR := Lib.hid (blk_range HBa.out)
  have Hr := Lib.hid (hri.out w2 Hk2.out)
  go_wp2_with (refine wpList_load_mid rfl 68 (.tmp 1) rfl g 0 rfl _ _ HR.out Tryz.underlying68 rfl (by kernel_rfl) ?_)
  refine Hr.out.mono ?_
  rintro e w3 ⟨rfl, hb3⟩
  have HB3 := Lib.hid (HBa.out.below hb3 hg2)
  have Hk3 := Lib.hid (Hk2.out.trans (Keeps.of_below (M := []) hb3) (by simp))
  clear hb3 Hr hri HBa Hk2 hg2 HR
  by_cases hz : z = 0
  · subst hz
    have Hb := Lib.hid (hbo.out w3 Hk3.out rfl)
    have HR := Lib.hid (blk_range HB3.out)
    have HM2 : Hid (R = if 65536 < bl.length then ([], 3) else (frameL bl, 0)) := by show _ = _; rw [HM.out, if_pos rfl]
    clear HM hbo
    go_wp2_with (refine wpList_load_mid rfl 68 (.tmp 1) rfl g 0 rfl _ _ HR.out Tryz.underlying68 rfl (by kernel_rfl) ?_)
    refine Hb.out.mono ?_
    rintro e w4 ⟨A4, rfl, hS4, hb4⟩
    have HS4 := Lib.hid (hS4 [] (by simp))
    have Hk4 := Lib.hid (Hk3.out.trans (Keeps.of_below (M := []) hb4) (by simp))
    clear hS4 hb4 Hb HR HB3
    go_wp2_with fail
    by_cases hl : 65536 < bl.length
    · obtain rfl : R = ([], 3) := by rw [HM2.out, if_pos hl]
      refine (frame_long _ bl w4 HS4.out hl).mono ?_
      rintro e w5 ⟨rfl, rfl⟩
      clear HM2
      go_wp2
      go_ret2
      exact ⟨none, 0, rfl, fun M _ => Bs.nil _ _, Hk4.out.below⟩
    · obtain rfl : R = (frameL bl, 0) := by rw [HM2.out, if_neg hl]
      refine (frame_any _ bl w4 HS4.out (by omega)).mono ?_
      rintro e w5 ⟨A5, c5, rfl, hS5, hb5⟩
      have HS5 := Lib.hid hS5
      have Hk5 := Lib.hid (Hk4.out.trans (Keeps.of_below (M := []) hb5) (by simp))
      clear hS5 hb5 HM2
      go_wp2
      go_ret2
      exact ⟨A5, c5, rfl, fun M hM => HS5.out M (fun x hx => Nat.lt_of_lt_of_le (hM x hx) Hk4.out.size), Hk5.out.below⟩
  · obtain rfl : R = ([], z) := by rw [HM.out, if_neg hz]
    have hz2 : ((z : Int) != 0) = true := by simpa using hz
    clear HM hbo
    go_wp2
    go_ret2
    exact ⟨none, 0, rfl, fun M _ => Bs.nil _ _, Hk3.out.below⟩
end Go.Proofs.YtinnifhnabncfaaGreatDoor.Vi
end
