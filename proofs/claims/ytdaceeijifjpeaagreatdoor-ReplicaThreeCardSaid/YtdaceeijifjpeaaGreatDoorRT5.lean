/- Texts put together: Msg2, StB, Copies, Snt, RpA, Crc, CatLay, Cat, FrB, FrR. -/
import Derived.Deep.MidRow
import Derived.Shelf.SlGeneric
import Derived.Shelf.Spec.SlicesGrow
import Derived.Test.YtdaceeijifjpeaaGreatDoorProg
import Derived.ArgAppend
import Derived.Test.YtdaceeijifjpeaaGreatDoorRT1
import Derived.Test.YtdaceeijifjpeaaGreatDoorRT4
set_option linter.unusedVariables false
set_option linter.unusedSimpArgs false
section
namespace Go.Proofs.YtdaceeijifjpeaaGreatDoor.Vi
open Go.RowKit Base Mem Go.Shelf
def zeroM : MsgD := ⟨0, zeroD, 0, 0, 0, 0, 0, [], 0, 0⟩
/-- A message without what its kind has. -/
def clearM (m : MsgD) : MsgD :=
 if m.kd = 1 then { m with kd := 0, en := zeroD }
 else if m.kd = 2 then { m with kd := 0, tag := 0, code := 0, nn := 0 }
 else if m.kd = 3 then { m with kd := 0, term := 0 }
 else if m.kd = 4 then { m with kd := 0, term := 0, had := 0, log := [] }
 else if m.kd = 5 then { m with kd := 0, term := 0, log := [], commit := 0 }
 else if m.kd = 6 then { m with kd := 0, term := 0, len := 0 }
 else { m with kd := 0 }
def zeroS (m : MsgD) : Bool := sameM (clearM m) zeroM
theorem blk_range {w : World} {g : Nat} {T : TypeId} {cs : Array Value} (h : Blk w g T cs) : w.rangeAt g 0 cs.toList := fun j v hj => by
 rw [Nat.zero_add, h.cell j]; simpa using hj
theorem wpList_load_g {P : Program} {ops : Array Oper} {rest : List Oper} {op : Oper} {a : Act} {w : World} {Q : Exit → Act → World → Prop} (hw : Region.wanted op (yielded ops a.tmps) = true) (ty : TypeId) (x : Operand) (ho : op.op = .load ty x)
  (b o : Nat) (hx : a.eval x = .pointer (some ⟨b, o, none⟩)) (cs : List Value) (d : TypeDesc) (hc : w.rangeAt b o cs)
  (hu : P.underlying ty = some d) (hd : d.isRow = true) (hi : (P.info? ty).map (·.size) = some cs.length)
  (h : wpList P ops Q rest (a.put op.dst (.agg cs.toArray)) w) : wpList P ops Q (op :: rest) a w := by
 simp only [wpList]
 rw [if_pos hw]
 exact .inl (wp_load_mid ty x ho b o hx cs d hc hu hd hi h)
theorem cnt_nil : Cnt [] := ⟨by simp, by simp⟩
set_option maxRecDepth 100000 in
set_option maxHeartbeats 2000000 in
theorem mzero_0 (m : MsgD) (dv lv : Value) (w : World) (ha : MsgAt w [] m dv lv) (ca : MCnt m) (g1 : ¬ m.kd = 1) (g2 : ¬ m.kd = 2) (g3 : ¬ m.kd = 3) (g4 : ¬ m.kd = 4) (g5 : ¬ m.kd = 5) (g6 : ¬ m.kd = 6) :
  Calls Tryz.prog 74 #[.agg (mCell m dv lv).toArray] w fun r w' => SamePost (zeroS m) w r w' := by
 have hsm := Lib.hid (fun (m' : MsgD) (d' l' : Value) W (h : MsgAt W [] m' d' l') (c : MCnt m') => msame_any m' zeroM d' l' (.slice none 0 0) (.slice none 0 0) W h ⟨Ds.nil _ _, Ens.nil _ _⟩ c ⟨by simp [zeroM, zeroD], cnt_nil⟩)
 have HZ : Hid (∀ m', m' = clearM m → sameM m' zeroM = zeroS m) := fun m' h => by subst h; rfl
 have hav := ha.avoid (M' := [w.heap.size]) (by simp)
 obtain ⟨Aa, na, rfl, _⟩ := ha.1.len
 obtain ⟨Ba, ka, rfl, _⟩ := ha.2.len
 have Hca := Lib.hid ca
 generalize zeroS m = R at *
 clear ha ca
 obtain ⟨kd, ⟨kind, ag, sh, seq, ep, ds, ser, fr, etg⟩, tag, code, nn, term, had, log, commit, len⟩ := m
 simp only [mCell, eCell, List.cons_append, List.nil_append]
 simp only [MsgAt] at hav
 generalize hdn : ds.length = dn at *
 generalize hln : log.length = ln at *
 have Hdn := Lib.hid hdn; have Hln := Lib.hid hln
 clear hdn hln
 obtain ⟨w2, hw2⟩ : ∃ w2, w2 = w.alloc (.cells #[.int .i64 kd, .int .i64 kind, .int .i64 ag, .int .i64 sh, .int .i64 seq, .int .i64 ep, .slice Aa dn na, .string ser, .int .i64 fr, .int .i64 etg, .int .i64 tag, .int .i64 code, .int .u64 nn, .int .i64 term, .int .i64 had, .slice Ba ln ka, .int .i64 commit, .int .i64 len] 37) := ⟨_, rfl⟩
 have hk2 : Keeps [] w w2 := by rw [hw2]; exact (Keeps.refl _ _).alloc _
 have hBa : Blk w2 w.heap.size 37 #[.int .i64 kd, .int .i64 kind, .int .i64 ag, .int .i64 sh, .int .i64 seq, .int .i64 ep, .slice Aa dn na, .string ser, .int .i64 fr, .int .i64 etg, .int .i64 tag, .int .i64 code, .int .u64 nn, .int .i64 term, .int .i64 had, .slice Ba ln ka, .int .i64 commit, .int .i64 len] := by rw [hw2]; exact Blk.new w _ _
 have Hw2 := Lib.hid hw2; have HBa := Lib.hid hBa; have Hk2 := Lib.hid hk2
 have Hd2 := Lib.hid (hav.1.keep hk2 (by simp)); have Hl2 := Lib.hid (hav.2.keep hk2 (by simp))
 clear hw2 hBa hk2 hav
 show Calls Tryz.prog 74 #[.agg #[.int .i64 kd, .int .i64 kind, .int .i64 ag, .int .i64 sh, .int .i64 seq, .int .i64 ep, .slice Aa dn na, .string ser, .int .i64 fr, .int .i64 etg, .int .i64 tag, .int .i64 code, .int .u64 nn, .int .i64 term, .int .i64 had, .slice Ba ln ka, .int .i64 commit, .int .i64 len]] w fun r w' => SamePost R w r w'
 go_enter Tryz.func74, Tryz.ntmps74
 go_upto_region 1 with (fail)
 rw [← Hw2.out]
 generalize hgs : w.heap.size = g at HBa Hd2 Hl2 ⊢
 have Hgs := Lib.hid hgs
 clear Hw2 hgs
 obtain ⟨q0, q1, q2, q3, q4, q5, q6, q7, q8, q9, qa, qb, qc, qd, qe, qf, qg, qh, qz⟩ := blk18 HBa.out
 simp only [] at g1 g2 g3 g4 g5 g6
 have h1 : (kd == 1) = false := by simpa using g1
 have h2 : (kd == 2) = false := by simpa using g2
 have h3 : (kd == 3) = false := by simpa using g3
 have h4 : (kd == 4) = false := by simpa using g4
 have h5 : (kd == 5) = false := by simpa using g5
 have h6 : (kd == 6) = false := by simpa using g6
 obtain ⟨w5, hw5⟩ : ∃ w5, w5 = (w2.setCell ⟨g, 0, none⟩ (.int .i64 0)) := ⟨_, rfl⟩
 have hk : Keeps [g] w2 w5 := by rw [hw5]; exact (Keeps.refl _ _).setCell (by simp) _
 have hB5 : Blk w5 g 37 #[.int .i64 0, .int .i64 kind, .int .i64 ag, .int .i64 sh, .int .i64 seq, .int .i64 ep, .slice Aa dn na, .string ser, .int .i64 fr, .int .i64 etg, .int .i64 tag, .int .i64 code, .int .u64 nn, .int .i64 term, .int .i64 had, .slice Ba ln ka, .int .i64 commit, .int .i64 len] := by rw [hw5]; exact (by simpa using (HBa.out.set_ 0 (.int .i64 0)) : Blk _ g _ _)
 have hS := hsm.out ⟨0, ⟨kind, ag, sh, seq, ep, ds, ser, fr, etg⟩, tag, code, nn, term, had, log, commit, len⟩ (.slice Aa dn na) (.slice Ba ln ka) w5 ⟨(Hd2.out.keep hk (by simp)).avoid (by simp), (Hl2.out.keep hk (by simp)).avoid (by simp)⟩ ⟨Hca.out.1, Hca.out.2⟩
 rw [HZ.out ⟨0, ⟨kind, ag, sh, seq, ep, ds, ser, fr, etg⟩, tag, code, nn, term, had, log, commit, len⟩ (by simp [clearM, *])] at hS
 simp only [mCell, eCell, zeroM, zeroD, List.cons_append, List.nil_append] at hS
 have HS := Lib.hid (show Calls Tryz.prog 114 #[.agg #[.int .i64 0, .int .i64 kind, .int .i64 ag, .int .i64 sh, .int .i64 seq, .int .i64 ep, .slice Aa dn na, .string ser, .int .i64 fr, .int .i64 etg, .int .i64 tag, .int .i64 code, .int .u64 nn, .int .i64 term, .int .i64 had, .slice Ba ln ka, .int .i64 commit, .int .i64 len], .agg #[.int .i64 0, .int .i64 0, .int .i64 0, .int .i64 0, .int .i64 0, .int .i64 0, .slice none 0 0, .string ⟨#[]⟩, .int .i64 0, .int .i64 0, .int .i64 0, .int .i64 0, .int .u64 0, .int .i64 0, .int .i64 0, .slice none 0 0, .int .i64 0, .int .i64 0]] w5 fun r w' => SamePost R w5 r w' from hS)
 have Hbw := Lib.hid (Hk2.out.trans hk (by intro x hx; simp at hx; right; have := Hgs.out; omega)).below
 have Hw5 := Lib.hid hw5; have HB5 := Lib.hid hB5
 clear hk hw5 hB5 hS hsm HZ
 go_upto_region 15 with (fail)
 rw [← Hw5.out]
 clear q0 q1 q2 q3 q4 q5 q6 q7 q8 q9 qa qb qc qd qe qf qg qh qz
 have HR := Lib.hid (blk_range HB5.out)
 go_wp2_with (refine wpList_load_mid rfl 37 (.tmp 1) rfl g 0 rfl _ _ HR.out Tryz.underlying37 rfl (by kernel_rfl) ?_)
 refine HS.out.mono ?_
 rintro e w6 ⟨rfl, hb6⟩
 have Hb6 := Lib.hid (below_then Hbw.out hb6)
 clear hb6
 go_wp2
 go_ret
 exact ⟨rfl, Hb6.out⟩
set_option maxRecDepth 100000 in
set_option maxHeartbeats 2000000 in
theorem mzero_1 (m : MsgD) (dv lv : Value) (w : World) (ha : MsgAt w [] m dv lv) (ca : MCnt m) (hk0 : m.kd = 1) :
  Calls Tryz.prog 74 #[.agg (mCell m dv lv).toArray] w fun r w' => SamePost (zeroS m) w r w' := by
 have hsm := Lib.hid (fun (m' : MsgD) (d' l' : Value) W (h : MsgAt W [] m' d' l') (c : MCnt m') => msame_any m' zeroM d' l' (.slice none 0 0) (.slice none 0 0) W h ⟨Ds.nil _ _, Ens.nil _ _⟩ c ⟨by simp [zeroM, zeroD], cnt_nil⟩)
 have HZ : Hid (∀ m', m' = clearM m → sameM m' zeroM = zeroS m) := fun m' h => by subst h; rfl
 have hav := ha.avoid (M' := [w.heap.size]) (by simp)
 obtain ⟨Aa, na, rfl, _⟩ := ha.1.len
 obtain ⟨Ba, ka, rfl, _⟩ := ha.2.len
 have Hca := Lib.hid ca
 generalize zeroS m = R at *
 clear ha ca
 obtain ⟨kd, ⟨kind, ag, sh, seq, ep, ds, ser, fr, etg⟩, tag, code, nn, term, had, log, commit, len⟩ := m
 simp only [mCell, eCell, List.cons_append, List.nil_append]
 simp only [MsgAt] at hav
 generalize hdn : ds.length = dn at *
 generalize hln : log.length = ln at *
 have Hdn := Lib.hid hdn; have Hln := Lib.hid hln
 clear hdn hln
 obtain ⟨w2, hw2⟩ : ∃ w2, w2 = w.alloc (.cells #[.int .i64 kd, .int .i64 kind, .int .i64 ag, .int .i64 sh, .int .i64 seq, .int .i64 ep, .slice Aa dn na, .string ser, .int .i64 fr, .int .i64 etg, .int .i64 tag, .int .i64 code, .int .u64 nn, .int .i64 term, .int .i64 had, .slice Ba ln ka, .int .i64 commit, .int .i64 len] 37) := ⟨_, rfl⟩
 have hk2 : Keeps [] w w2 := by rw [hw2]; exact (Keeps.refl _ _).alloc _
 have hBa : Blk w2 w.heap.size 37 #[.int .i64 kd, .int .i64 kind, .int .i64 ag, .int .i64 sh, .int .i64 seq, .int .i64 ep, .slice Aa dn na, .string ser, .int .i64 fr, .int .i64 etg, .int .i64 tag, .int .i64 code, .int .u64 nn, .int .i64 term, .int .i64 had, .slice Ba ln ka, .int .i64 commit, .int .i64 len] := by rw [hw2]; exact Blk.new w _ _
 have Hw2 := Lib.hid hw2; have HBa := Lib.hid hBa; have Hk2 := Lib.hid hk2
 have Hd2 := Lib.hid (hav.1.keep hk2 (by simp)); have Hl2 := Lib.hid (hav.2.keep hk2 (by simp))
 clear hw2 hBa hk2 hav
 show Calls Tryz.prog 74 #[.agg #[.int .i64 kd, .int .i64 kind, .int .i64 ag, .int .i64 sh, .int .i64 seq, .int .i64 ep, .slice Aa dn na, .string ser, .int .i64 fr, .int .i64 etg, .int .i64 tag, .int .i64 code, .int .u64 nn, .int .i64 term, .int .i64 had, .slice Ba ln ka, .int .i64 commit, .int .i64 len]] w fun r w' => SamePost R w r w'
 go_enter Tryz.func74, Tryz.ntmps74
 go_upto_region 1 with (fail)
 rw [← Hw2.out]
 generalize hgs : w.heap.size = g at HBa Hd2 Hl2 ⊢
 have Hgs := Lib.hid hgs
 clear Hw2 hgs
 obtain ⟨q0, q1, q2, q3, q4, q5, q6, q7, q8, q9, qa, qb, qc, qd, qe, qf, qg, qh, qz⟩ := blk18 HBa.out
 simp only [] at hk0
 subst hk0
 obtain ⟨w5, hw5⟩ : ∃ w5, w5 = ((((((((((w2.setCell ⟨g, 1, none⟩ (.int .i64 0)).setCell ⟨g, 2, none⟩ (.int .i64 0)).setCell ⟨g, 3, none⟩ (.int .i64 0)).setCell ⟨g, 4, none⟩ (.int .i64 0)).setCell ⟨g, 5, none⟩ (.int .i64 0)).setCell ⟨g, 6, none⟩ (.slice none 0 0)).setCell ⟨g, 7, none⟩ (.string ⟨#[]⟩)).setCell ⟨g, 8, none⟩ (.int .i64 0)).setCell ⟨g, 9, none⟩ (.int .i64 0)).setCell ⟨g, 0, none⟩ (.int .i64 0)) := ⟨_, rfl⟩
 have hk : Keeps [g] w2 w5 := by rw [hw5]; exact ((((((((((Keeps.refl _ _).setCell (by simp) _).setCell (by simp) _).setCell (by simp) _).setCell (by simp) _).setCell (by simp) _).setCell (by simp) _).setCell (by simp) _).setCell (by simp) _).setCell (by simp) _).setCell (by simp) _
 have hB5 : Blk w5 g 37 #[.int .i64 0, .int .i64 0, .int .i64 0, .int .i64 0, .int .i64 0, .int .i64 0, .slice none 0 0, .string ⟨#[]⟩, .int .i64 0, .int .i64 0, .int .i64 tag, .int .i64 code, .int .u64 nn, .int .i64 term, .int .i64 had, .slice Ba ln ka, .int .i64 commit, .int .i64 len] := by rw [hw5]; exact (by simpa using ((((((((((HBa.out.set_ 1 (.int .i64 0)).set_ 2 (.int .i64 0)).set_ 3 (.int .i64 0)).set_ 4 (.int .i64 0)).set_ 5 (.int .i64 0)).set_ 6 (.slice none 0 0)).set_ 7 (.string ⟨#[]⟩)).set_ 8 (.int .i64 0)).set_ 9 (.int .i64 0)).set_ 0 (.int .i64 0)) : Blk _ g _ _)
 have hS := hsm.out ⟨0, zeroD, tag, code, nn, term, had, log, commit, len⟩ (.slice none 0 0) (.slice Ba ln ka) w5 ⟨Ds.nil _ _, (Hl2.out.keep hk (by simp)).avoid (by simp)⟩ ⟨by simp [zeroD], Hca.out.2⟩
 rw [HZ.out ⟨0, zeroD, tag, code, nn, term, had, log, commit, len⟩ (by simp [clearM])] at hS
 simp only [mCell, eCell, zeroM, zeroD, List.cons_append, List.nil_append] at hS
 have HS := Lib.hid (show Calls Tryz.prog 114 #[.agg #[.int .i64 0, .int .i64 0, .int .i64 0, .int .i64 0, .int .i64 0, .int .i64 0, .slice none 0 0, .string ⟨#[]⟩, .int .i64 0, .int .i64 0, .int .i64 tag, .int .i64 code, .int .u64 nn, .int .i64 term, .int .i64 had, .slice Ba ln ka, .int .i64 commit, .int .i64 len], .agg #[.int .i64 0, .int .i64 0, .int .i64 0, .int .i64 0, .int .i64 0, .int .i64 0, .slice none 0 0, .string ⟨#[]⟩, .int .i64 0, .int .i64 0, .int .i64 0, .int .i64 0, .int .u64 0, .int .i64 0, .int .i64 0, .slice none 0 0, .int .i64 0, .int .i64 0]] w5 fun r w' => SamePost R w5 r w' from hS)
 have Hbw := Lib.hid (Hk2.out.trans hk (by intro x hx; simp at hx; right; have := Hgs.out; omega)).below
 have Hw5 := Lib.hid hw5; have HB5 := Lib.hid hB5
 clear hk hw5 hB5 hS hsm HZ
 go_upto_region 15 with (fail)
 rw [← Hw5.out]
 clear q0 q1 q2 q3 q4 q5 q6 q7 q8 q9 qa qb qc qd qe qf qg qh qz
 have HR := Lib.hid (blk_range HB5.out)
 go_wp2_with (refine wpList_load_mid rfl 37 (.tmp 1) rfl g 0 rfl _ _ HR.out Tryz.underlying37 rfl (by kernel_rfl) ?_)
 refine HS.out.mono ?_
 rintro e w6 ⟨rfl, hb6⟩
 have Hb6 := Lib.hid (below_then Hbw.out hb6)
 clear hb6
 go_wp2
 go_ret
 exact ⟨rfl, Hb6.out⟩
set_option maxRecDepth 100000 in
set_option maxHeartbeats 2000000 in
theorem mzero_2 (m : MsgD) (dv lv : Value) (w : World) (ha : MsgAt w [] m dv lv) (ca : MCnt m) (hk0 : m.kd = 2) :
  Calls Tryz.prog 74 #[.agg (mCell m dv lv).toArray] w fun r w' => SamePost (zeroS m) w r w' := by
 have hsm := Lib.hid (fun (m' : MsgD) (d' l' : Value) W (h : MsgAt W [] m' d' l') (c : MCnt m') => msame_any m' zeroM d' l' (.slice none 0 0) (.slice none 0 0) W h ⟨Ds.nil _ _, Ens.nil _ _⟩ c ⟨by simp [zeroM, zeroD], cnt_nil⟩)
 have HZ : Hid (∀ m', m' = clearM m → sameM m' zeroM = zeroS m) := fun m' h => by subst h; rfl
 have hav := ha.avoid (M' := [w.heap.size]) (by simp)
 obtain ⟨Aa, na, rfl, _⟩ := ha.1.len
 obtain ⟨Ba, ka, rfl, _⟩ := ha.2.len
 have Hca := Lib.hid ca
 generalize zeroS m = R at *
 clear ha ca
 obtain ⟨kd, ⟨kind, ag, sh, seq, ep, ds, ser, fr, etg⟩, tag, code, nn, term, had, log, commit, len⟩ := m
 simp only [mCell, eCell, List.cons_append, List.nil_append]
 simp only [MsgAt] at hav
 generalize hdn : ds.length = dn at *
 generalize hln : log.length = ln at *
 have Hdn := Lib.hid hdn; have Hln := Lib.hid hln
 clear hdn hln
 obtain ⟨w2, hw2⟩ : ∃ w2, w2 = w.alloc (.cells #[.int .i64 kd, .int .i64 kind, .int .i64 ag, .int .i64 sh, .int .i64 seq, .int .i64 ep, .slice Aa dn na, .string ser, .int .i64 fr, .int .i64 etg, .int .i64 tag, .int .i64 code, .int .u64 nn, .int .i64 term, .int .i64 had, .slice Ba ln ka, .int .i64 commit, .int .i64 len] 37) := ⟨_, rfl⟩
 have hk2 : Keeps [] w w2 := by rw [hw2]; exact (Keeps.refl _ _).alloc _
 have hBa : Blk w2 w.heap.size 37 #[.int .i64 kd, .int .i64 kind, .int .i64 ag, .int .i64 sh, .int .i64 seq, .int .i64 ep, .slice Aa dn na, .string ser, .int .i64 fr, .int .i64 etg, .int .i64 tag, .int .i64 code, .int .u64 nn, .int .i64 term, .int .i64 had, .slice Ba ln ka, .int .i64 commit, .int .i64 len] := by rw [hw2]; exact Blk.new w _ _
 have Hw2 := Lib.hid hw2; have HBa := Lib.hid hBa; have Hk2 := Lib.hid hk2
 have Hd2 := Lib.hid (hav.1.keep hk2 (by simp)); have Hl2 := Lib.hid (hav.2.keep hk2 (by simp))
 clear hw2 hBa hk2 hav
 show Calls Tryz.prog 74 #[.agg #[.int .i64 kd, .int .i64 kind, .int .i64 ag, .int .i64 sh, .int .i64 seq, .int .i64 ep, .slice Aa dn na, .string ser, .int .i64 fr, .int .i64 etg, .int .i64 tag, .int .i64 code, .int .u64 nn, .int .i64 term, .int .i64 had, .slice Ba ln ka, .int .i64 commit, .int .i64 len]] w fun r w' => SamePost R w r w'
 go_enter Tryz.func74, Tryz.ntmps74
 go_upto_region 1 with (fail)
 rw [← Hw2.out]
 generalize hgs : w.heap.size = g at HBa Hd2 Hl2 ⊢
 have Hgs := Lib.hid hgs
 clear Hw2 hgs
 obtain ⟨q0, q1, q2, q3, q4, q5, q6, q7, q8, q9, qa, qb, qc, qd, qe, qf, qg, qh, qz⟩ := blk18 HBa.out
 simp only [] at hk0
 subst hk0
 obtain ⟨w5, hw5⟩ : ∃ w5, w5 = ((((w2.setCell ⟨g, 10, none⟩ (.int .i64 0)).setCell ⟨g, 11, none⟩ (.int .i64 0)).setCell ⟨g, 12, none⟩ (.int .u64 0)).setCell ⟨g, 0, none⟩ (.int .i64 0)) := ⟨_, rfl⟩
 have hk : Keeps [g] w2 w5 := by rw [hw5]; exact ((((Keeps.refl _ _).setCell (by simp) _).setCell (by simp) _).setCell (by simp) _).setCell (by simp) _
 have hB5 : Blk w5 g 37 #[.int .i64 0, .int .i64 kind, .int .i64 ag, .int .i64 sh, .int .i64 seq, .int .i64 ep, .slice Aa dn na, .string ser, .int .i64 fr, .int .i64 etg, .int .i64 0, .int .i64 0, .int .u64 0, .int .i64 term, .int .i64 had, .slice Ba ln ka, .int .i64 commit, .int .i64 len] := by rw [hw5]; exact (by simpa using ((((HBa.out.set_ 10 (.int .i64 0)).set_ 11 (.int .i64 0)).set_ 12 (.int .u64 0)).set_ 0 (.int .i64 0)) : Blk _ g _ _)
 have hS := hsm.out ⟨0, ⟨kind, ag, sh, seq, ep, ds, ser, fr, etg⟩, 0, 0, 0, term, had, log, commit, len⟩ (.slice Aa dn na) (.slice Ba ln ka) w5 ⟨(Hd2.out.keep hk (by simp)).avoid (by simp), (Hl2.out.keep hk (by simp)).avoid (by simp)⟩ ⟨Hca.out.1, Hca.out.2⟩
 rw [HZ.out ⟨0, ⟨kind, ag, sh, seq, ep, ds, ser, fr, etg⟩, 0, 0, 0, term, had, log, commit, len⟩ (by simp [clearM])] at hS
 simp only [mCell, eCell, zeroM, zeroD, List.cons_append, List.nil_append] at hS
 have HS := Lib.hid (show Calls Tryz.prog 114 #[.agg #[.int .i64 0, .int .i64 kind, .int .i64 ag, .int .i64 sh, .int .i64 seq, .int .i64 ep, .slice Aa dn na, .string ser, .int .i64 fr, .int .i64 etg, .int .i64 0, .int .i64 0, .int .u64 0, .int .i64 term, .int .i64 had, .slice Ba ln ka, .int .i64 commit, .int .i64 len], .agg #[.int .i64 0, .int .i64 0, .int .i64 0, .int .i64 0, .int .i64 0, .int .i64 0, .slice none 0 0, .string ⟨#[]⟩, .int .i64 0, .int .i64 0, .int .i64 0, .int .i64 0, .int .u64 0, .int .i64 0, .int .i64 0, .slice none 0 0, .int .i64 0, .int .i64 0]] w5 fun r w' => SamePost R w5 r w' from hS)
 have Hbw := Lib.hid (Hk2.out.trans hk (by intro x hx; simp at hx; right; have := Hgs.out; omega)).below
 have Hw5 := Lib.hid hw5; have HB5 := Lib.hid hB5
 clear hk hw5 hB5 hS hsm HZ
 go_upto_region 15 with (fail)
 rw [← Hw5.out]
 clear q0 q1 q2 q3 q4 q5 q6 q7 q8 q9 qa qb qc qd qe qf qg qh qz
 have HR := Lib.hid (blk_range HB5.out)
 go_wp2_with (refine wpList_load_mid rfl 37 (.tmp 1) rfl g 0 rfl _ _ HR.out Tryz.underlying37 rfl (by kernel_rfl) ?_)
 refine HS.out.mono ?_
 rintro e w6 ⟨rfl, hb6⟩
 have Hb6 := Lib.hid (below_then Hbw.out hb6)
 clear hb6
 go_wp2
 go_ret
 exact ⟨rfl, Hb6.out⟩
set_option maxRecDepth 100000 in
set_option maxHeartbeats 2000000 in
theorem mzero_3 (m : MsgD) (dv lv : Value) (w : World) (ha : MsgAt w [] m dv lv) (ca : MCnt m) (hk0 : m.kd = 3) :
  Calls Tryz.prog 74 #[.agg (mCell m dv lv).toArray] w fun r w' => SamePost (zeroS m) w r w' := by
 have hsm := Lib.hid (fun (m' : MsgD) (d' l' : Value) W (h : MsgAt W [] m' d' l') (c : MCnt m') => msame_any m' zeroM d' l' (.slice none 0 0) (.slice none 0 0) W h ⟨Ds.nil _ _, Ens.nil _ _⟩ c ⟨by simp [zeroM, zeroD], cnt_nil⟩)
 have HZ : Hid (∀ m', m' = clearM m → sameM m' zeroM = zeroS m) := fun m' h => by subst h; rfl
 have hav := ha.avoid (M' := [w.heap.size]) (by simp)
 obtain ⟨Aa, na, rfl, _⟩ := ha.1.len
 obtain ⟨Ba, ka, rfl, _⟩ := ha.2.len
 have Hca := Lib.hid ca
 generalize zeroS m = R at *
 clear ha ca
 obtain ⟨kd, ⟨kind, ag, sh, seq, ep, ds, ser, fr, etg⟩, tag, code, nn, term, had, log, commit, len⟩ := m
 simp only [mCell, eCell, List.cons_append, List.nil_append]
 simp only [MsgAt] at hav
 generalize hdn : ds.length = dn at *
 generalize hln : log.length = ln at *
 have Hdn := Lib.hid hdn; have Hln := Lib.hid hln
 clear hdn hln
 obtain ⟨w2, hw2⟩ : ∃ w2, w2 = w.alloc (.cells #[.int .i64 kd, .int .i64 kind, .int .i64 ag, .int .i64 sh, .int .i64 seq, .int .i64 ep, .slice Aa dn na, .string ser, .int .i64 fr, .int .i64 etg, .int .i64 tag, .int .i64 code, .int .u64 nn, .int .i64 term, .int .i64 had, .slice Ba ln ka, .int .i64 commit, .int .i64 len] 37) := ⟨_, rfl⟩
 have hk2 : Keeps [] w w2 := by rw [hw2]; exact (Keeps.refl _ _).alloc _
 have hBa : Blk w2 w.heap.size 37 #[.int .i64 kd, .int .i64 kind, .int .i64 ag, .int .i64 sh, .int .i64 seq, .int .i64 ep, .slice Aa dn na, .string ser, .int .i64 fr, .int .i64 etg, .int .i64 tag, .int .i64 code, .int .u64 nn, .int .i64 term, .int .i64 had, .slice Ba ln ka, .int .i64 commit, .int .i64 len] := by rw [hw2]; exact Blk.new w _ _
 have Hw2 := Lib.hid hw2; have HBa := Lib.hid hBa; have Hk2 := Lib.hid hk2
 have Hd2 := Lib.hid (hav.1.keep hk2 (by simp)); have Hl2 := Lib.hid (hav.2.keep hk2 (by simp))
 clear hw2 hBa hk2 hav
 show Calls Tryz.prog 74 #[.agg #[.int .i64 kd, .int .i64 kind, .int .i64 ag, .int .i64 sh, .int .i64 seq, .int .i64 ep, .slice Aa dn na, .string ser, .int .i64 fr, .int .i64 etg, .int .i64 tag, .int .i64 code, .int .u64 nn, .int .i64 term, .int .i64 had, .slice Ba ln ka, .int .i64 commit, .int .i64 len]] w fun r w' => SamePost R w r w'
 go_enter Tryz.func74, Tryz.ntmps74
 go_upto_region 1 with (fail)
 rw [← Hw2.out]
 generalize hgs : w.heap.size = g at HBa Hd2 Hl2 ⊢
 have Hgs := Lib.hid hgs
 clear Hw2 hgs
 obtain ⟨q0, q1, q2, q3, q4, q5, q6, q7, q8, q9, qa, qb, qc, qd, qe, qf, qg, qh, qz⟩ := blk18 HBa.out
 simp only [] at hk0
 subst hk0
 obtain ⟨w5, hw5⟩ : ∃ w5, w5 = ((w2.setCell ⟨g, 13, none⟩ (.int .i64 0)).setCell ⟨g, 0, none⟩ (.int .i64 0)) := ⟨_, rfl⟩
 have hk : Keeps [g] w2 w5 := by rw [hw5]; exact ((Keeps.refl _ _).setCell (by simp) _).setCell (by simp) _
 have hB5 : Blk w5 g 37 #[.int .i64 0, .int .i64 kind, .int .i64 ag, .int .i64 sh, .int .i64 seq, .int .i64 ep, .slice Aa dn na, .string ser, .int .i64 fr, .int .i64 etg, .int .i64 tag, .int .i64 code, .int .u64 nn, .int .i64 0, .int .i64 had, .slice Ba ln ka, .int .i64 commit, .int .i64 len] := by rw [hw5]; exact (by simpa using ((HBa.out.set_ 13 (.int .i64 0)).set_ 0 (.int .i64 0)) : Blk _ g _ _)
 have hS := hsm.out ⟨0, ⟨kind, ag, sh, seq, ep, ds, ser, fr, etg⟩, tag, code, nn, 0, had, log, commit, len⟩ (.slice Aa dn na) (.slice Ba ln ka) w5 ⟨(Hd2.out.keep hk (by simp)).avoid (by simp), (Hl2.out.keep hk (by simp)).avoid (by simp)⟩ ⟨Hca.out.1, Hca.out.2⟩
 rw [HZ.out ⟨0, ⟨kind, ag, sh, seq, ep, ds, ser, fr, etg⟩, tag, code, nn, 0, had, log, commit, len⟩ (by simp [clearM])] at hS
 simp only [mCell, eCell, zeroM, zeroD, List.cons_append, List.nil_append] at hS
 have HS := Lib.hid (show Calls Tryz.prog 114 #[.agg #[.int .i64 0, .int .i64 kind, .int .i64 ag, .int .i64 sh, .int .i64 seq, .int .i64 ep, .slice Aa dn na, .string ser, .int .i64 fr, .int .i64 etg, .int .i64 tag, .int .i64 code, .int .u64 nn, .int .i64 0, .int .i64 had, .slice Ba ln ka, .int .i64 commit, .int .i64 len], .agg #[.int .i64 0, .int .i64 0, .int .i64 0, .int .i64 0, .int .i64 0, .int .i64 0, .slice none 0 0, .string ⟨#[]⟩, .int .i64 0, .int .i64 0, .int .i64 0, .int .i64 0, .int .u64 0, .int .i64 0, .int .i64 0, .slice none 0 0, .int .i64 0, .int .i64 0]] w5 fun r w' => SamePost R w5 r w' from hS)
 have Hbw := Lib.hid (Hk2.out.trans hk (by intro x hx; simp at hx; right; have := Hgs.out; omega)).below
 have Hw5 := Lib.hid hw5; have HB5 := Lib.hid hB5
 clear hk hw5 hB5 hS hsm HZ
 go_upto_region 15 with (fail)
 rw [← Hw5.out]
 clear q0 q1 q2 q3 q4 q5 q6 q7 q8 q9 qa qb qc qd qe qf qg qh qz
 have HR := Lib.hid (blk_range HB5.out)
 go_wp2_with (refine wpList_load_mid rfl 37 (.tmp 1) rfl g 0 rfl _ _ HR.out Tryz.underlying37 rfl (by kernel_rfl) ?_)
 refine HS.out.mono ?_
 rintro e w6 ⟨rfl, hb6⟩
 have Hb6 := Lib.hid (below_then Hbw.out hb6)
 clear hb6
 go_wp2
 go_ret
 exact ⟨rfl, Hb6.out⟩
set_option maxRecDepth 100000 in
set_option maxHeartbeats 2000000 in
theorem mzero_4 (m : MsgD) (dv lv : Value) (w : World) (ha : MsgAt w [] m dv lv) (ca : MCnt m) (hk0 : m.kd = 4) :
  Calls Tryz.prog 74 #[.agg (mCell m dv lv).toArray] w fun r w' => SamePost (zeroS m) w r w' := by
 have hsm := Lib.hid (fun (m' : MsgD) (d' l' : Value) W (h : MsgAt W [] m' d' l') (c : MCnt m') => msame_any m' zeroM d' l' (.slice none 0 0) (.slice none 0 0) W h ⟨Ds.nil _ _, Ens.nil _ _⟩ c ⟨by simp [zeroM, zeroD], cnt_nil⟩)
 have HZ : Hid (∀ m', m' = clearM m → sameM m' zeroM = zeroS m) := fun m' h => by subst h; rfl
 have hav := ha.avoid (M' := [w.heap.size]) (by simp)
 obtain ⟨Aa, na, rfl, _⟩ := ha.1.len
 obtain ⟨Ba, ka, rfl, _⟩ := ha.2.len
 have Hca := Lib.hid ca
 generalize zeroS m = R at *
 clear ha ca
 obtain ⟨kd, ⟨kind, ag, sh, seq, ep, ds, ser, fr, etg⟩, tag, code, nn, term, had, log, commit, len⟩ := m
 simp only [mCell, eCell, List.cons_append, List.nil_append]
 simp only [MsgAt] at hav
 generalize hdn : ds.length = dn at *
 generalize hln : log.length = ln at *
 have Hdn := Lib.hid hdn; have Hln := Lib.hid hln
 clear hdn hln
 obtain ⟨w2, hw2⟩ : ∃ w2, w2 = w.alloc (.cells #[.int .i64 kd, .int .i64 kind, .int .i64 ag, .int .i64 sh, .int .i64 seq, .int .i64 ep, .slice Aa dn na, .string ser, .int .i64 fr, .int .i64 etg, .int .i64 tag, .int .i64 code, .int .u64 nn, .int .i64 term, .int .i64 had, .slice Ba ln ka, .int .i64 commit, .int .i64 len] 37) := ⟨_, rfl⟩
 have hk2 : Keeps [] w w2 := by rw [hw2]; exact (Keeps.refl _ _).alloc _
 have hBa : Blk w2 w.heap.size 37 #[.int .i64 kd, .int .i64 kind, .int .i64 ag, .int .i64 sh, .int .i64 seq, .int .i64 ep, .slice Aa dn na, .string ser, .int .i64 fr, .int .i64 etg, .int .i64 tag, .int .i64 code, .int .u64 nn, .int .i64 term, .int .i64 had, .slice Ba ln ka, .int .i64 commit, .int .i64 len] := by rw [hw2]; exact Blk.new w _ _
 have Hw2 := Lib.hid hw2; have HBa := Lib.hid hBa; have Hk2 := Lib.hid hk2
 have Hd2 := Lib.hid (hav.1.keep hk2 (by simp)); have Hl2 := Lib.hid (hav.2.keep hk2 (by simp))
 clear hw2 hBa hk2 hav
 show Calls Tryz.prog 74 #[.agg #[.int .i64 kd, .int .i64 kind, .int .i64 ag, .int .i64 sh, .int .i64 seq, .int .i64 ep, .slice Aa dn na, .string ser, .int .i64 fr, .int .i64 etg, .int .i64 tag, .int .i64 code, .int .u64 nn, .int .i64 term, .int .i64 had, .slice Ba ln ka, .int .i64 commit, .int .i64 len]] w fun r w' => SamePost R w r w'
 go_enter Tryz.func74, Tryz.ntmps74
 go_upto_region 1 with (fail)
 rw [← Hw2.out]
 generalize hgs : w.heap.size = g at HBa Hd2 Hl2 ⊢
 have Hgs := Lib.hid hgs
 clear Hw2 hgs
 obtain ⟨q0, q1, q2, q3, q4, q5, q6, q7, q8, q9, qa, qb, qc, qd, qe, qf, qg, qh, qz⟩ := blk18 HBa.out
 simp only [] at hk0
 subst hk0
 obtain ⟨w5, hw5⟩ : ∃ w5, w5 = ((((w2.setCell ⟨g, 13, none⟩ (.int .i64 0)).setCell ⟨g, 14, none⟩ (.int .i64 0)).setCell ⟨g, 15, none⟩ (.slice none 0 0)).setCell ⟨g, 0, none⟩ (.int .i64 0)) := ⟨_, rfl⟩
 have hk : Keeps [g] w2 w5 := by rw [hw5]; exact ((((Keeps.refl _ _).setCell (by simp) _).setCell (by simp) _).setCell (by simp) _).setCell (by simp) _
 have hB5 : Blk w5 g 37 #[.int .i64 0, .int .i64 kind, .int .i64 ag, .int .i64 sh, .int .i64 seq, .int .i64 ep, .slice Aa dn na, .string ser, .int .i64 fr, .int .i64 etg, .int .i64 tag, .int .i64 code, .int .u64 nn, .int .i64 0, .int .i64 0, .slice none 0 0, .int .i64 commit, .int .i64 len] := by rw [hw5]; exact (by simpa using ((((HBa.out.set_ 13 (.int .i64 0)).set_ 14 (.int .i64 0)).set_ 15 (.slice none 0 0)).set_ 0 (.int .i64 0)) : Blk _ g _ _)
 have hS := hsm.out ⟨0, ⟨kind, ag, sh, seq, ep, ds, ser, fr, etg⟩, tag, code, nn, 0, 0, [], commit, len⟩ (.slice Aa dn na) (.slice none 0 0) w5 ⟨(Hd2.out.keep hk (by simp)).avoid (by simp), Ens.nil _ _⟩ ⟨Hca.out.1, cnt_nil⟩
 rw [HZ.out ⟨0, ⟨kind, ag, sh, seq, ep, ds, ser, fr, etg⟩, tag, code, nn, 0, 0, [], commit, len⟩ (by simp [clearM])] at hS
 simp only [mCell, eCell, zeroM, zeroD, List.cons_append, List.nil_append] at hS
 have HS := Lib.hid (show Calls Tryz.prog 114 #[.agg #[.int .i64 0, .int .i64 kind, .int .i64 ag, .int .i64 sh, .int .i64 seq, .int .i64 ep, .slice Aa dn na, .string ser, .int .i64 fr, .int .i64 etg, .int .i64 tag, .int .i64 code, .int .u64 nn, .int .i64 0, .int .i64 0, .slice none 0 0, .int .i64 commit, .int .i64 len], .agg #[.int .i64 0, .int .i64 0, .int .i64 0, .int .i64 0, .int .i64 0, .int .i64 0, .slice none 0 0, .string ⟨#[]⟩, .int .i64 0, .int .i64 0, .int .i64 0, .int .i64 0, .int .u64 0, .int .i64 0, .int .i64 0, .slice none 0 0, .int .i64 0, .int .i64 0]] w5 fun r w' => SamePost R w5 r w' from hS)
 have Hbw := Lib.hid (Hk2.out.trans hk (by intro x hx; simp at hx; right; have := Hgs.out; omega)).below
 have Hw5 := Lib.hid hw5; have HB5 := Lib.hid hB5
 clear hk hw5 hB5 hS hsm HZ
 go_upto_region 15 with (fail)
 rw [← Hw5.out]
 clear q0 q1 q2 q3 q4 q5 q6 q7 q8 q9 qa qb qc qd qe qf qg qh qz
 have HR := Lib.hid (blk_range HB5.out)
 go_wp2_with (refine wpList_load_mid rfl 37 (.tmp 1) rfl g 0 rfl _ _ HR.out Tryz.underlying37 rfl (by kernel_rfl) ?_)
 refine HS.out.mono ?_
 rintro e w6 ⟨rfl, hb6⟩
 have Hb6 := Lib.hid (below_then Hbw.out hb6)
 clear hb6
 go_wp2
 go_ret
 exact ⟨rfl, Hb6.out⟩
set_option maxRecDepth 100000 in
set_option maxHeartbeats 2000000 in
theorem mzero_5 (m : MsgD) (dv lv : Value) (w : World) (ha : MsgAt w [] m dv lv) (ca : MCnt m) (hk0 : m.kd = 5) :
  Calls Tryz.prog 74 #[.agg (mCell m dv lv).toArray] w fun r w' => SamePost (zeroS m) w r w' := by
 have hsm := Lib.hid (fun (m' : MsgD) (d' l' : Value) W (h : MsgAt W [] m' d' l') (c : MCnt m') => msame_any m' zeroM d' l' (.slice none 0 0) (.slice none 0 0) W h ⟨Ds.nil _ _, Ens.nil _ _⟩ c ⟨by simp [zeroM, zeroD], cnt_nil⟩)
 have HZ : Hid (∀ m', m' = clearM m → sameM m' zeroM = zeroS m) := fun m' h => by subst h; rfl
 have hav := ha.avoid (M' := [w.heap.size]) (by simp)
 obtain ⟨Aa, na, rfl, _⟩ := ha.1.len
 obtain ⟨Ba, ka, rfl, _⟩ := ha.2.len
 have Hca := Lib.hid ca
 generalize zeroS m = R at *
 clear ha ca
 obtain ⟨kd, ⟨kind, ag, sh, seq, ep, ds, ser, fr, etg⟩, tag, code, nn, term, had, log, commit, len⟩ := m
 simp only [mCell, eCell, List.cons_append, List.nil_append]
 simp only [MsgAt] at hav
 generalize hdn : ds.length = dn at *
 generalize hln : log.length = ln at *
 have Hdn := Lib.hid hdn; have Hln := Lib.hid hln
 clear hdn hln
 obtain ⟨w2, hw2⟩ : ∃ w2, w2 = w.alloc (.cells #[.int .i64 kd, .int .i64 kind, .int .i64 ag, .int .i64 sh, .int .i64 seq, .int .i64 ep, .slice Aa dn na, .string ser, .int .i64 fr, .int .i64 etg, .int .i64 tag, .int .i64 code, .int .u64 nn, .int .i64 term, .int .i64 had, .slice Ba ln ka, .int .i64 commit, .int .i64 len] 37) := ⟨_, rfl⟩
 have hk2 : Keeps [] w w2 := by rw [hw2]; exact (Keeps.refl _ _).alloc _
 have hBa : Blk w2 w.heap.size 37 #[.int .i64 kd, .int .i64 kind, .int .i64 ag, .int .i64 sh, .int .i64 seq, .int .i64 ep, .slice Aa dn na, .string ser, .int .i64 fr, .int .i64 etg, .int .i64 tag, .int .i64 code, .int .u64 nn, .int .i64 term, .int .i64 had, .slice Ba ln ka, .int .i64 commit, .int .i64 len] := by rw [hw2]; exact Blk.new w _ _
 have Hw2 := Lib.hid hw2; have HBa := Lib.hid hBa; have Hk2 := Lib.hid hk2
 have Hd2 := Lib.hid (hav.1.keep hk2 (by simp)); have Hl2 := Lib.hid (hav.2.keep hk2 (by simp))
 clear hw2 hBa hk2 hav
 show Calls Tryz.prog 74 #[.agg #[.int .i64 kd, .int .i64 kind, .int .i64 ag, .int .i64 sh, .int .i64 seq, .int .i64 ep, .slice Aa dn na, .string ser, .int .i64 fr, .int .i64 etg, .int .i64 tag, .int .i64 code, .int .u64 nn, .int .i64 term, .int .i64 had, .slice Ba ln ka, .int .i64 commit, .int .i64 len]] w fun r w' => SamePost R w r w'
 go_enter Tryz.func74, Tryz.ntmps74
 go_upto_region 1 with (fail)
 rw [← Hw2.out]
 generalize hgs : w.heap.size = g at HBa Hd2 Hl2 ⊢
 have Hgs := Lib.hid hgs
 clear Hw2 hgs
 obtain ⟨q0, q1, q2, q3, q4, q5, q6, q7, q8, q9, qa, qb, qc, qd, qe, qf, qg, qh, qz⟩ := blk18 HBa.out
 simp only [] at hk0
 subst hk0
 obtain ⟨w5, hw5⟩ : ∃ w5, w5 = ((((w2.setCell ⟨g, 13, none⟩ (.int .i64 0)).setCell ⟨g, 15, none⟩ (.slice none 0 0)).setCell ⟨g, 16, none⟩ (.int .i64 0)).setCell ⟨g, 0, none⟩ (.int .i64 0)) := ⟨_, rfl⟩
 have hk : Keeps [g] w2 w5 := by rw [hw5]; exact ((((Keeps.refl _ _).setCell (by simp) _).setCell (by simp) _).setCell (by simp) _).setCell (by simp) _
 have hB5 : Blk w5 g 37 #[.int .i64 0, .int .i64 kind, .int .i64 ag, .int .i64 sh, .int .i64 seq, .int .i64 ep, .slice Aa dn na, .string ser, .int .i64 fr, .int .i64 etg, .int .i64 tag, .int .i64 code, .int .u64 nn, .int .i64 0, .int .i64 had, .slice none 0 0, .int .i64 0, .int .i64 len] := by rw [hw5]; exact (by simpa using ((((HBa.out.set_ 13 (.int .i64 0)).set_ 15 (.slice none 0 0)).set_ 16 (.int .i64 0)).set_ 0 (.int .i64 0)) : Blk _ g _ _)
 have hS := hsm.out ⟨0, ⟨kind, ag, sh, seq, ep, ds, ser, fr, etg⟩, tag, code, nn, 0, had, [], 0, len⟩ (.slice Aa dn na) (.slice none 0 0) w5 ⟨(Hd2.out.keep hk (by simp)).avoid (by simp), Ens.nil _ _⟩ ⟨Hca.out.1, cnt_nil⟩
 rw [HZ.out ⟨0, ⟨kind, ag, sh, seq, ep, ds, ser, fr, etg⟩, tag, code, nn, 0, had, [], 0, len⟩ (by simp [clearM])] at hS
 simp only [mCell, eCell, zeroM, zeroD, List.cons_append, List.nil_append] at hS
 have HS := Lib.hid (show Calls Tryz.prog 114 #[.agg #[.int .i64 0, .int .i64 kind, .int .i64 ag, .int .i64 sh, .int .i64 seq, .int .i64 ep, .slice Aa dn na, .string ser, .int .i64 fr, .int .i64 etg, .int .i64 tag, .int .i64 code, .int .u64 nn, .int .i64 0, .int .i64 had, .slice none 0 0, .int .i64 0, .int .i64 len], .agg #[.int .i64 0, .int .i64 0, .int .i64 0, .int .i64 0, .int .i64 0, .int .i64 0, .slice none 0 0, .string ⟨#[]⟩, .int .i64 0, .int .i64 0, .int .i64 0, .int .i64 0, .int .u64 0, .int .i64 0, .int .i64 0, .slice none 0 0, .int .i64 0, .int .i64 0]] w5 fun r w' => SamePost R w5 r w' from hS)
 have Hbw := Lib.hid (Hk2.out.trans hk (by intro x hx; simp at hx; right; have := Hgs.out; omega)).below
 have Hw5 := Lib.hid hw5; have HB5 := Lib.hid hB5
 clear hk hw5 hB5 hS hsm HZ
 go_upto_region 15 with (fail)
 rw [← Hw5.out]
 clear q0 q1 q2 q3 q4 q5 q6 q7 q8 q9 qa qb qc qd qe qf qg qh qz
 have HR := Lib.hid (blk_range HB5.out)
 go_wp2_with (refine wpList_load_mid rfl 37 (.tmp 1) rfl g 0 rfl _ _ HR.out Tryz.underlying37 rfl (by kernel_rfl) ?_)
 refine HS.out.mono ?_
 rintro e w6 ⟨rfl, hb6⟩
 have Hb6 := Lib.hid (below_then Hbw.out hb6)
 clear hb6
 go_wp2
 go_ret
 exact ⟨rfl, Hb6.out⟩
set_option maxRecDepth 100000 in
set_option maxHeartbeats 2000000 in
theorem mzero_6 (m : MsgD) (dv lv : Value) (w : World) (ha : MsgAt w [] m dv lv) (ca : MCnt m) (hk0 : m.kd = 6) :
  Calls Tryz.prog 74 #[.agg (mCell m dv lv).toArray] w fun r w' => SamePost (zeroS m) w r w' := by
 have hsm := Lib.hid (fun (m' : MsgD) (d' l' : Value) W (h : MsgAt W [] m' d' l') (c : MCnt m') => msame_any m' zeroM d' l' (.slice none 0 0) (.slice none 0 0) W h ⟨Ds.nil _ _, Ens.nil _ _⟩ c ⟨by simp [zeroM, zeroD], cnt_nil⟩)
 have HZ : Hid (∀ m', m' = clearM m → sameM m' zeroM = zeroS m) := fun m' h => by subst h; rfl
 have hav := ha.avoid (M' := [w.heap.size]) (by simp)
 obtain ⟨Aa, na, rfl, _⟩ := ha.1.len
 obtain ⟨Ba, ka, rfl, _⟩ := ha.2.len
 have Hca := Lib.hid ca
 generalize zeroS m = R at *
 clear ha ca
 obtain ⟨kd, ⟨kind, ag, sh, seq, ep, ds, ser, fr, etg⟩, tag, code, nn, term, had, log, commit, len⟩ := m
 simp only [mCell, eCell, List.cons_append, List.nil_append]
 simp only [MsgAt] at hav
 generalize hdn : ds.length = dn at *
 generalize hln : log.length = ln at *
 have Hdn := Lib.hid hdn; have Hln := Lib.hid hln
 clear hdn hln
 obtain ⟨w2, hw2⟩ : ∃ w2, w2 = w.alloc (.cells #[.int .i64 kd, .int .i64 kind, .int .i64 ag, .int .i64 sh, .int .i64 seq, .int .i64 ep, .slice Aa dn na, .string ser, .int .i64 fr, .int .i64 etg, .int .i64 tag, .int .i64 code, .int .u64 nn, .int .i64 term, .int .i64 had, .slice Ba ln ka, .int .i64 commit, .int .i64 len] 37) := ⟨_, rfl⟩
 have hk2 : Keeps [] w w2 := by rw [hw2]; exact (Keeps.refl _ _).alloc _
 have hBa : Blk w2 w.heap.size 37 #[.int .i64 kd, .int .i64 kind, .int .i64 ag, .int .i64 sh, .int .i64 seq, .int .i64 ep, .slice Aa dn na, .string ser, .int .i64 fr, .int .i64 etg, .int .i64 tag, .int .i64 code, .int .u64 nn, .int .i64 term, .int .i64 had, .slice Ba ln ka, .int .i64 commit, .int .i64 len] := by rw [hw2]; exact Blk.new w _ _
 have Hw2 := Lib.hid hw2; have HBa := Lib.hid hBa; have Hk2 := Lib.hid hk2
 have Hd2 := Lib.hid (hav.1.keep hk2 (by simp)); have Hl2 := Lib.hid (hav.2.keep hk2 (by simp))
 clear hw2 hBa hk2 hav
 show Calls Tryz.prog 74 #[.agg #[.int .i64 kd, .int .i64 kind, .int .i64 ag, .int .i64 sh, .int .i64 seq, .int .i64 ep, .slice Aa dn na, .string ser, .int .i64 fr, .int .i64 etg, .int .i64 tag, .int .i64 code, .int .u64 nn, .int .i64 term, .int .i64 had, .slice Ba ln ka, .int .i64 commit, .int .i64 len]] w fun r w' => SamePost R w r w'
 go_enter Tryz.func74, Tryz.ntmps74
 go_upto_region 1 with (fail)
 rw [← Hw2.out]
 generalize hgs : w.heap.size = g at HBa Hd2 Hl2 ⊢
 have Hgs := Lib.hid hgs
 clear Hw2 hgs
 obtain ⟨q0, q1, q2, q3, q4, q5, q6, q7, q8, q9, qa, qb, qc, qd, qe, qf, qg, qh, qz⟩ := blk18 HBa.out
 simp only [] at hk0
 subst hk0
 obtain ⟨w5, hw5⟩ : ∃ w5, w5 = (((w2.setCell ⟨g, 13, none⟩ (.int .i64 0)).setCell ⟨g, 17, none⟩ (.int .i64 0)).setCell ⟨g, 0, none⟩ (.int .i64 0)) := ⟨_, rfl⟩
 have hk : Keeps [g] w2 w5 := by rw [hw5]; exact (((Keeps.refl _ _).setCell (by simp) _).setCell (by simp) _).setCell (by simp) _
 have hB5 : Blk w5 g 37 #[.int .i64 0, .int .i64 kind, .int .i64 ag, .int .i64 sh, .int .i64 seq, .int .i64 ep, .slice Aa dn na, .string ser, .int .i64 fr, .int .i64 etg, .int .i64 tag, .int .i64 code, .int .u64 nn, .int .i64 0, .int .i64 had, .slice Ba ln ka, .int .i64 commit, .int .i64 0] := by rw [hw5]; exact (by simpa using (((HBa.out.set_ 13 (.int .i64 0)).set_ 17 (.int .i64 0)).set_ 0 (.int .i64 0)) : Blk _ g _ _)
 have hS := hsm.out ⟨0, ⟨kind, ag, sh, seq, ep, ds, ser, fr, etg⟩, tag, code, nn, 0, had, log, commit, 0⟩ (.slice Aa dn na) (.slice Ba ln ka) w5 ⟨(Hd2.out.keep hk (by simp)).avoid (by simp), (Hl2.out.keep hk (by simp)).avoid (by simp)⟩ ⟨Hca.out.1, Hca.out.2⟩
 rw [HZ.out ⟨0, ⟨kind, ag, sh, seq, ep, ds, ser, fr, etg⟩, tag, code, nn, 0, had, log, commit, 0⟩ (by simp [clearM])] at hS
 simp only [mCell, eCell, zeroM, zeroD, List.cons_append, List.nil_append] at hS
 have HS := Lib.hid (show Calls Tryz.prog 114 #[.agg #[.int .i64 0, .int .i64 kind, .int .i64 ag, .int .i64 sh, .int .i64 seq, .int .i64 ep, .slice Aa dn na, .string ser, .int .i64 fr, .int .i64 etg, .int .i64 tag, .int .i64 code, .int .u64 nn, .int .i64 0, .int .i64 had, .slice Ba ln ka, .int .i64 commit, .int .i64 0], .agg #[.int .i64 0, .int .i64 0, .int .i64 0, .int .i64 0, .int .i64 0, .int .i64 0, .slice none 0 0, .string ⟨#[]⟩, .int .i64 0, .int .i64 0, .int .i64 0, .int .i64 0, .int .u64 0, .int .i64 0, .int .i64 0, .slice none 0 0, .int .i64 0, .int .i64 0]] w5 fun r w' => SamePost R w5 r w' from hS)
 have Hbw := Lib.hid (Hk2.out.trans hk (by intro x hx; simp at hx; right; have := Hgs.out; omega)).below
 have Hw5 := Lib.hid hw5; have HB5 := Lib.hid hB5
 clear hk hw5 hB5 hS hsm HZ
 go_upto_region 15 with (fail)
 rw [← Hw5.out]
 clear q0 q1 q2 q3 q4 q5 q6 q7 q8 q9 qa qb qc qd qe qf qg qh qz
 have HR := Lib.hid (blk_range HB5.out)
 go_wp2_with (refine wpList_load_mid rfl 37 (.tmp 1) rfl g 0 rfl _ _ HR.out Tryz.underlying37 rfl (by kernel_rfl) ?_)
 refine HS.out.mono ?_
 rintro e w6 ⟨rfl, hb6⟩
 have Hb6 := Lib.hid (below_then Hbw.out hb6)
 clear hb6
 go_wp2
 go_ret
 exact ⟨rfl, Hb6.out⟩
theorem mzero_any (m : MsgD) (dv lv : Value) (w : World) (ha : MsgAt w [] m dv lv) (ca : MCnt m) :
  Calls Tryz.prog 74 #[.agg (mCell m dv lv).toArray] w fun r w' => SamePost (zeroS m) w r w' := by
 by_cases g1 : m.kd = 1
 ·exact mzero_1 m dv lv w ha ca g1
 by_cases g2 : m.kd = 2
 ·exact mzero_2 m dv lv w ha ca g2
 by_cases g3 : m.kd = 3
 ·exact mzero_3 m dv lv w ha ca g3
 by_cases g4 : m.kd = 4
 ·exact mzero_4 m dv lv w ha ca g4
 by_cases g5 : m.kd = 5
 ·exact mzero_5 m dv lv w ha ca g5
 by_cases g6 : m.kd = 6
 ·exact mzero_6 m dv lv w ha ca g6
 exact mzero_0 m dv lv w ha ca g1 g2 g3 g4 g5 g6
end Go.Proofs.YtdaceeijifjpeaaGreatDoor.Vi
end
section
namespace Go.Proofs.YtdaceeijifjpeaaGreatDoor.Vi
open Go.RowKit Base Mem
def setAll : Array Value → Nat → List Value → Array Value
 | cs, _, [] => cs
 | cs, o, v :: r => setAll (cs.setIfInBounds o v) (o + 1) r
theorem setAll_list : ∀ (vs : List Value) (o : Nat) (cs : Array Value), o + vs.length ≤ cs.size → (setAll cs o vs).toList = cs.toList.take o ++ (vs ++ cs.toList.drop (o + vs.length))
 | [], o, cs, _ => by simp [setAll]
 | v :: r, o, cs, h => by
  have hl : o < cs.toList.length := by simp at h ⊢; omega
  rw [setAll, setAll_list r (o + 1) _ (by simp at h ⊢; omega), Array.toList_setIfInBounds, List.drop_set_of_lt (by omega), List.take_add_one, List.take_set_of_le (Nat.le_refl _), List.getElem?_set_self hl]
  rw [List.append_assoc, List.length_cons, Nat.add_comm r.length 1, ← Nat.add_assoc]
  rfl
theorem blk_setCells {g : Nat} {t : TypeId} : ∀ (vs : List Value) (o : Nat) (w : World) (cs : Array Value), Blk w g t cs → Blk (w.setCells g o vs) g t (setAll cs o vs)
 | [], _, _, _, h => h
 | v :: r, o, _, _, h => blk_setCells r (o + 1) _ _ (h.set_ o v)
theorem keeps_setCells {M : List Nat} {a : World} {g : Nat} (hg : g ∈ M ∨ a.heap.size ≤ g) : ∀ (vs : List Value) (o : Nat) (w : World), Keeps M a w → Keeps M a (w.setCells g o vs)
 | [], _, _, h => h
 | v :: r, o, _, h => keeps_setCells hg r (o + 1) _ (h.setCell hg v)
theorem there_blk {w : World} {g : Nat} {t : TypeId} {cs : Array Value} (h : Blk w g t cs) {o n : Nat} (hn : o + n ≤ cs.size) : w.there g o n := fun j hj =>
 ⟨by rw [h.cell, Array.getElem?_eq_getElem (by omega)]; rfl, h.frozen _⟩
theorem wpList_store_blk {P : Program} {ops : Array Oper} {rest : List Oper} {op : Oper} {a : Act} {w : World} {Q : Exit → Act → World → Prop} (hgd : op.guard = none) (ty : TypeId) (x y : Operand) (ho : op.op = .store ty x y)
  (g o : Nat) (T : TypeId) (c0 c1 cells : Array Value) (hx : a.eval x = .pointer (some ⟨g, o, none⟩)) (hy : a.eval y = .agg cells)
  (hB : Blk w g T c0) (hn : o + cells.size ≤ c0.size) (hc : c1.toList = c0.toList.take o ++ (cells.toList ++ c0.toList.drop (o + cells.toList.length))) (hi : (P.info? ty).map (·.size) = some cells.size) (h1 : cells.toList.all (·.oneCell') = true)
  (h : ∀ w', Keeps [g] w w' → Blk w' g T c1 → wpList P ops Q rest (a.put op.dst undef) w') : wpList P ops Q (op :: rest) a w :=
 wpList_store_mid hgd ty x y ho g o cells hx hy (there_blk hB hn) hi (by rw [← Array.all_toList]; exact h1) (h _ (keeps_setCells (by simp) _ _ _ (Keeps.refl _ _)) (by have := blk_setCells cells.toList o _ _ hB; rwa [show setAll c0 o cells.toList = c1 from Array.toList_inj.1 ((setAll_list _ _ _ (by simpa using hn)).trans hc.symm)] at this))
theorem results_cell1 {P : Program} {fn : Func} {t : Tmp} {ty : TypeId} (h : fn.results = #[.cell t ty]) (tmps : Array Value) (w : World) (g : Nat) (T : TypeId) (cs : Array Value) (d : TypeDesc)
  (ht : tmps.getD t undef = .pointer (some ⟨g, 0, none⟩)) (hB : Blk w g T cs) (hu : P.underlying ty = some d) (hd : d.isRow = true) (hi : (P.info? ty).map (·.size) = some cs.size) :
  (results fn tmps).run P w = .ok (.agg cs) w := by
 have hl := run_loadVar_mid (P := P) w g 0 ty cs.toList d (blk_range hB) hu hd (by simpa using hi)
 have ht' : tmps[t]?.getD undef = .pointer (some ⟨g, 0, none⟩) := by simpa using ht
 simp [results, h, ht', asAddr, hl]
theorem results_cell2 {P : Program} {fn : Func} {t u : Tmp} {ty : TypeId} (h : fn.results = #[.cell t ty, .tmp u]) (tmps : Array Value) (w : World) (g : Nat) (T : TypeId) (cs : Array Value) (d : TypeDesc)
  (ht : tmps.getD t undef = .pointer (some ⟨g, 0, none⟩)) (hB : Blk w g T cs) (hu : P.underlying ty = some d) (hd : d.isRow = true) (hi : (P.info? ty).map (·.size) = some cs.size) :
  (results fn tmps).run P w = .ok (.tuple #[.agg cs, tmps.getD u undef]) w := by
 have hl := run_loadVar_mid (P := P) w g 0 ty cs.toList d (blk_range hB) hu hd (by simpa using hi)
 have ht' : tmps[t]?.getD undef = .pointer (some ⟨g, 0, none⟩) := by simpa using ht
 simp [results, h, ht', asAddr, hl]
end Go.Proofs.YtdaceeijifjpeaaGreatDoor.Vi
end
section
namespace Go.Proofs.YtdaceeijifjpeaaGreatDoor.Mem
open Go.RowKit
theorem copy_any (M : List Nat) (e : EntryD) (dv : Value) (w : World) (h : Ds w M dv e.ds) (hb : e.ds.length * 24 ≤ 140737488355328) :
  Calls Tryz.prog 76 #[.agg (eCell (e, dv)).toArray] w fun r w' => ∃ dv', r = .returned (.agg (eCell (e, dv')).toArray) ∧ (∀ M', (∀ g ∈ M', g < w.heap.size) → Ds w' M' dv' e.ds) ∧ Below w.heap.size w w' := by
 unfold eCell
 go_enter Tryz.func76, Tryz.ntmps76
 go_wp2_with fail
 refine (cloneDelta M dv _ _ _ ((h.keep (Keeps.refl [] _) (by simp)).keep (((Keeps.refl [] w).alloc _).alloc _) (by simp)) (dCells_one _) hb).mono ?_
 rintro r w1 ⟨v', rfl, hown, hbel⟩
 obtain ⟨hc, hf⟩ := bcell hbel
 have hc5 : w1.cell? ⟨w.heap.size, 5, none⟩ = some dv := by rw [hc _ _ (by simp; omega)]; go_simp
 have hz : w.heap.size + 1 < w1.heap.size := by have := hbel.size; simp at this; omega
 have hrd : ∀ M', (∀ g ∈ M', g < w.heap.size + 2) → Rd w1 M' 2 v' e.ds.length (dCells e.ds) := fun M' hM => Rd.of_own hown (by intro g hg; have := hM g hg; simp; omega)
 have hb2 : Below w.heap.size w w1 := ((Below.refl _ _).alloc (Nat.le_refl _) _).alloc (by simp) _ |>.trans (hbel.mono (by simp; omega))
 clear hown hbel
 obtain ⟨A, c, rfl, hc2, _⟩ := hrd [] (by simp)
 have Hrd := Lib.hid hrd; have Hb2 := Lib.hid hb2; have Hh := Lib.hid h; have Hb := Lib.hid hb
 clear hrd hb2 h hb
 go_wp2_with (go_at_call 86; refine (clipDelta A _ c _ hc2).mono ?_; rintro e w' ⟨rfl, rfl⟩)
 have hd : ∀ o, o < 9 → ∃ u, w1.cell? ⟨w.heap.size + 1, o, none⟩ = some u := by
  intro o ho
  rw [hc _ _ (by simp)]
  rcases (show o = 0 ∨ o = 1 ∨ o = 2 ∨ o = 3 ∨ o = 4 ∨ o = 5 ∨ o = 6 ∨ o = 7 ∨ o = 8 by omega) with rfl | rfl | rfl | rfl | rfl | rfl | rfl | rfl | rfl <;> exact ⟨_, by go_simp; rfl⟩
 obtain ⟨u0, d0⟩ := hd 0 (by omega); obtain ⟨u1, d1⟩ := hd 1 (by omega); obtain ⟨u2, d2⟩ := hd 2 (by omega); obtain ⟨u3, d3⟩ := hd 3 (by omega)
 obtain ⟨u4, d4⟩ := hd 4 (by omega); obtain ⟨u5, d5⟩ := hd 5 (by omega); obtain ⟨u6, d6⟩ := hd 6 (by omega); obtain ⟨u7, d7⟩ := hd 7 (by omega); obtain ⟨u8, d8⟩ := hd 8 (by omega)
 refine bodyPost_ret (v := .agg #[.int .i64 e.kind, .int .i64 e.ag, .int .i64 e.sh, .int .i64 e.seq, .int .i64 e.ep, .slice A e.ds.length e.ds.length, .string e.ser, .int .i64 e.fr, .int .i64 e.tag]) (by simp [results, Tryz.results76, go_sem, d0, d1, d2, d3, d4, d5, d6, d7, d8]) rfl ⟨_, rfl, ?_, ?_⟩
 ·intro M' hM
  have h0 := (Hrd.out (w.heap.size :: (w.heap.size + 1) :: M') (by intro g hg; simp at hg; rcases hg with rfl | rfl | hg; omega; omega; have := hM g hg; omega)).clip
  refine (h0.keep (M' := [w.heap.size, w.heap.size + 1]) ?_ ?_).more.more
  ·repeat (first | (with_reducible refine Keeps.setCell ?_ (by simp) _) | (with_reducible exact Keeps.refl _ _))
  ·intro g hg; simp at hg; rcases hg with rfl | rfl <;> simp
 ·repeat (first | (with_reducible refine Below.setCell ?_ (by simp) _) | (with_reducible exact Hb2.out))
theorem infoEntry : (Tryz.prog.info? 33).map (fun i => (i.zero, i.size, i.bytes)) = some (some (.agg #[.int .i64 0, .int .i64 0, .int .i64 0, .int .i64 0, .int .i64 0, .slice none 0 0, .string ByteArray.empty, .int .i64 0, .int .i64 0]), 9, 96) := by kernel_rfl
set_option maxRecDepth 100000 in
set_option maxHeartbeats 400000 in
theorem copies_any (M : List Nat) (v : Value) (l : List EntryD) (w : World) (h : Ens w M v l) (hn : l.length ≤ 1048576) (hb : ∀ e ∈ l, e.ds.length ≤ 1048576) :
  Calls Tryz.prog 69 #[v] w fun r w' => ∃ A, r = .returned (.slice A l.length l.length) ∧ (∀ M', (∀ g ∈ M', g < w.heap.size) → Ens w' M' (.slice A l.length l.length) l) ∧ Below w.heap.size w w' := by
 obtain ⟨A, c, rfl, hc⟩ := h.len
 obtain ⟨i0, hi0, hz0, hz1, hz2⟩ := info_parts infoEntry
 have Hh := Lib.hid h; have Hb := Lib.hid hb
 have Hi0 := Lib.hid hi0; have Hz0 := Lib.hid hz0; have Hz1 := Lib.hid hz1; have Hz2 := Lib.hid hz2
 clear h hb hi0 hz0 hz1 hz2
 go_enter Tryz.func69, Tryz.ntmps69
 go_wp2
 go_loopw [3, 8] (fun out i wr => ∃ (k : Nat) (qs : List (EntryD × Value)), k ≤ l.length ∧ i = .int .i64 k ∧ Hid (qs.map (·.1) = l.take k) ∧ Hid (wr.ownsRow w.heap.size 33 9 out k (qs.flatMap eCell)) ∧ Hid (DsOwn w wr out qs) ∧ Below w.heap.size w wr)
  (fun _ i _ => l.length - (intOf i).toNat)
 case atStart => exact ⟨0, [], by omega, rfl, rfl, World.ownsRow_nil _ _ _ _, (show DsOwn _ _ _ _ from by intro q hq; cases hq), Below.refl _ _⟩
 case round =>
  obtain ⟨k, qs, hk, rfl, hq, hown, hds, hbel⟩ := hrel
  have Hbel := Lib.hid hbel; clear hbel
  by_cases hlt : k < l.length
  ·obtain ⟨ps, hps, hr, hd⟩ := Hh.out.keep (Keeps.of_below (M := []) Hbel.out) (by simp)
   have hpk : k < ps.length := by rw [← List.length_map (f := (·.1)), hps]; exact hlt
   obtain ⟨g, off, cap, he, hcap, hg, hgM, hcell⟩ := Rd.at_ eCell 9 (fun _ => rfl) hr hpk
   injection he with he1 he2 he3
   subst he1
   have Hhyp := Lib.hid hcell
   have hc0 : wr.cell? ⟨g, off + k * 9, none⟩ = _ := hcell 0 _ rfl; have hc1 := hcell 1 _ rfl; have hc2 := hcell 2 _ rfl; have hc3 := hcell 3 _ rfl; have hc4 := hcell 4 _ rfl; have hc5 := hcell 5 _ rfl; have hc6 := hcell 6 _ rfl; have hc7 := hcell 7 _ rfl; have hc8 := hcell 8 _ rfl
   clear hcell
   have hdk := hd ps[k] (List.getElem_mem hpk)
   have hek : ps[k].1 = l[k] := by subst hps; simp
   have hmk := List.getElem_mem hlt
   have Hps := Lib.hid hps; have Hr := Lib.hid hr; have Hd := Lib.hid hd
   clear hps hr hd he3 hcap he2
   generalize ps[k] = pk at *
   obtain ⟨ek, dvk⟩ := pk
   obtain ⟨Ad, cd, hdv, hcd⟩ := hdk.len
   simp only at hdv hek hcd
   subst hdv
   have Hdk := Lib.hid hdk; have Hek := Lib.hid hek; have Hmk := Lib.hid hmk
   clear hdk hek hmk
   go_wp2_with fail
   refine (copy_any [] ek (.slice Ad ek.ds.length cd) _ ?_ ?_).mono ?_
   ·exact (Hdk.out.avoid (M' := []) (by simp)).keep (M' := []) ((Keeps.refl _ _).alloc _) (by simp)
   ·have := Hb.out _ Hmk.out; rw [← Hek.out] at this; omega
   rintro r w1 ⟨dv', rfl, hds', hbel'⟩
   obtain ⟨Ad', cd', hdv', hcd'⟩ := (hds' [] (by simp)).len
   subst hdv'
   simp only [eCell]
   have hb1 : Below wr.heap.size wr w1 := (below_new' wr _).trans (hbel'.mono (by simp))
   have hown1 := Lib.hid ((own_below hown.out hb1).alloc (.cells (eCell (ek, .slice Ad' ek.ds.length cd')).toArray 33))
   have Hds' := Lib.hid hds'; have Hbel' := Lib.hid hb1
   clear hds' hbel' hb1
   go_wp2_with (at_builtin; refine wpList_append_any _ rfl (.tmp 12) (.tmp 15) _ rfl w.heap.size 33 i0 _ 9 96 Tryz.underlying35 Hi0.out Hz0.out Hz1.out Hz2.out rfl (by omega) u3 k (qs.flatMap eCell) rfl hown1.out (w1.heap.size + 1) (some ⟨w1.heap.size, 0, none⟩) 1 1 (eCell (ek, .slice Ad' ek.ds.length cd')) rfl (reads_new _ _ _ _ _ rfl) ?_ ?_ ?_ ?_ ?_)
   ·intro u hu; simp [eCell] at hu; rcases hu with rfl | rfl | rfl | rfl | rfl | rfl | rfl | rfl | rfl <;> rfl
   ·unfold maxLen; omega
   ·omega
   ·have := Hbel.out.size; have := Hbel'.out.size; simp; omega
   ·intro v2 w2 hown2 hg2 hat2
    have hlt0 : ∀ g, u3.ownBlock = some g → w.heap.size ≤ g ∧ g < wr.heap.size := hown.out.lt
    have R1 := Lib.hid (dsOwn_step (e := ek) hds.out Hbel'.out (fun g hg => (hlt0 g hg).2) Hbel.out.size (fun M' hM => Hds'.out M' (fun g hg => by have := hM g hg; simp; omega)) hg2 hat2)
    have R2 := Lib.hid (below_step Hbel.out Hbel'.out hg2 (fun g hg => (hlt0 g hg).1))
    have R3 := Lib.hid hown2
    clear hown2 hg2 hat2 hlt0
    go_wp2
    go_roundw
    case rel => exact ⟨k + 1, qs ++ [(ek, .slice Ad' ek.ds.length cd')], by omega, by go_num, (by show _ = _; rw [List.map_append, hq.out, List.take_succ_eq_append_getElem hlt, ← Hek.out]; rfl), (by show World.ownsRow _ _ _ _ _ _ _; rw [List.flatMap_append]; simpa using R3.out), R1, R2.out⟩
    case measure => simp [intOf]; omega
  ·have hk' : k = l.length := by omega
   subst hk'
   have hqs : qs.map (·.1) = l := by rw [hq.out, List.take_length]
   have hlen : qs.length = l.length := by rw [← hqs, List.length_map]
   have hens : ∀ M', (∀ g ∈ M', g < w.heap.size) → Ens wr M' u3 l := fun M' hM => ⟨qs, hqs, by rw [hlen]; exact Rd.of_own hown.out hM, fun p hp => hds.out p hp M' (fun g hg => .inl (hM g hg))⟩
   obtain ⟨Ao, co, rfl, hco⟩ := (hens [] (by simp)).len
   have Hens := Lib.hid hens
   clear hens hqs hlen
   go_wp2_with (go_at_call 113; refine (clipEntry Ao _ co _ hco).mono ?_; rintro e w' ⟨rfl, rfl⟩)
   go_ret
   refine ⟨Ao, rfl, fun M' hM => ?_, Hbel.out⟩
   obtain ⟨ps, h1, h2, h3⟩ := Hens.out M' hM
   have hl : ps.length = l.length := by rw [← h1, List.length_map]
   exact ⟨ps, h1, by rw [hl] at h2 ⊢; exact h2.clip, h3⟩
end Go.Proofs.YtdaceeijifjpeaaGreatDoor.Mem
end
section
namespace Go.Proofs.YtdaceeijifjpeaaGreatDoor.Vi
open Go.RowKit Base Mem Go.Shelf
structure SentD where
 dst : Int
 m : MsgD
def sCell (dst : Int) (m : MsgD) (dv lv : Value) : List Value := .int .i64 dst :: mCell m dv lv
/-- What a copy of a message is. -/
def CyPost (m : MsgD) (w : World) (e : Ending) (w' : World) : Prop := ∃ dv lv, e = .returned (.agg (mCell m dv lv).toArray) ∧ (∀ M, (∀ g ∈ M, g < w.heap.size) → MsgAt w' M m dv lv) ∧ Below w.heap.size w w'
set_option maxRecDepth 100000 in
set_option maxHeartbeats 2000000 in
theorem mcopy_any (m : MsgD) (dv lv : Value) (w : World) (h : MsgAt w [] m dv lv) (hd : m.en.ds.length ≤ 1048576) (hl : m.log.length ≤ 1048576) (hb : ∀ e ∈ m.log, e.ds.length ≤ 1048576) :
  Calls Tryz.prog 73 #[.agg (mCell m dv lv).toArray] w fun e w' => CyPost m w e w' := by
 obtain ⟨Aa, na, rfl, _⟩ := h.1.len
 obtain ⟨Ba, ka, rfl, _⟩ := h.2.len
 have HP : Hid (∀ e W, (∃ dv lv, e = .returned (.agg (mCell m dv lv).toArray) ∧ (∀ M, (∀ g ∈ M, g < w.heap.size) → MsgAt W M m dv lv) ∧ Below w.heap.size w W) → CyPost m w e W) := fun e W h => h
 have HM : Hid (∀ W M dv lv, Ds W M dv m.en.ds → Ens W M lv m.log → MsgAt W M m dv lv) := fun _ _ _ _ h1 h2 => ⟨h1, h2⟩
 have hc := Lib.hid (fun W (hk : Keeps [] w W) => copy_any [] m.en _ W (h.1.keep hk (by simp)) (by omega))
 have hcs := Lib.hid (fun W (hk : Keeps [] w W) => copies_any [] _ m.log W (h.2.keep hk (by simp)) hl hb)
 clear h hd hl hb
 obtain ⟨kd, ⟨kind, ag, sh, seq, ep, ds, ser, fr, etg⟩, tag, code, nn, term, had, log, commit, len⟩ := m
 simp only [eCell] at hc
 simp only [] at hcs HM
 simp only [mCell, eCell, List.cons_append, List.nil_append] at HP ⊢
 obtain ⟨w0, hw0⟩ : ∃ w0, w0 = (w.alloc (.cells #[.int .i64 kd, .int .i64 kind, .int .i64 ag, .int .i64 sh, .int .i64 seq, .int .i64 ep, .slice Aa ds.length na, .string ser, .int .i64 fr, .int .i64 etg, .int .i64 tag, .int .i64 code, .int .u64 nn, .int .i64 term, .int .i64 had, .slice Ba log.length ka, .int .i64 commit, .int .i64 len] 37)).alloc (.cells #[.int .i64 0, .int .i64 0, .int .i64 0, .int .i64 0, .int .i64 0, .int .i64 0, .slice none 0 0, .string ⟨#[]⟩, .int .i64 0, .int .i64 0, .int .i64 0, .int .i64 0, .int .u64 0, .int .i64 0, .int .i64 0, .slice none 0 0, .int .i64 0, .int .i64 0] 37) := ⟨_, rfl⟩
 have hk0 : Keeps [] w w0 := by rw [hw0]; exact ((Keeps.refl _ _).alloc _).alloc _
 have hB1 : Blk w0 w.heap.size 37 #[.int .i64 kd, .int .i64 kind, .int .i64 ag, .int .i64 sh, .int .i64 seq, .int .i64 ep, .slice Aa ds.length na, .string ser, .int .i64 fr, .int .i64 etg, .int .i64 tag, .int .i64 code, .int .u64 nn, .int .i64 term, .int .i64 had, .slice Ba log.length ka, .int .i64 commit, .int .i64 len] := by
  rw [hw0]; exact ((Blk.new w _ _).below ((Below.refl _ _).alloc (Nat.le_refl _) _) (by simp))
 have hB2 : Blk w0 (w.heap.size + 1) 37 #[.int .i64 0, .int .i64 0, .int .i64 0, .int .i64 0, .int .i64 0, .int .i64 0, .slice none 0 0, .string ⟨#[]⟩, .int .i64 0, .int .i64 0, .int .i64 0, .int .i64 0, .int .u64 0, .int .i64 0, .int .i64 0, .slice none 0 0, .int .i64 0, .int .i64 0] := by
  have := Blk.new (w.alloc (.cells #[.int .i64 kd, .int .i64 kind, .int .i64 ag, .int .i64 sh, .int .i64 seq, .int .i64 ep, .slice Aa ds.length na, .string ser, .int .i64 fr, .int .i64 etg, .int .i64 tag, .int .i64 code, .int .u64 nn, .int .i64 term, .int .i64 had, .slice Ba log.length ka, .int .i64 commit, .int .i64 len] 37)) 37 #[.int .i64 0, .int .i64 0, .int .i64 0, .int .i64 0, .int .i64 0, .int .i64 0, .slice none 0 0, .string ⟨#[]⟩, .int .i64 0, .int .i64 0, .int .i64 0, .int .i64 0, .int .u64 0, .int .i64 0, .int .i64 0, .slice none 0 0, .int .i64 0, .int .i64 0]
  rw [World.size_alloc] at this
  rw [hw0]; exact this
 obtain ⟨g1, Hg1⟩ : ∃ g1, Hid (g1 = w.heap.size) := ⟨_, rfl⟩
 obtain ⟨g2, Hg2⟩ : ∃ g2, Hid (g2 = w.heap.size + 1) := ⟨_, rfl⟩
 rw [← Hg1.out] at hB1
 rw [← Hg2.out] at hB2
 have Hk0 := Lib.hid hk0; have HB1 := Lib.hid hB1; have HB2 := Lib.hid hB2
 clear hk0 hB1 hB2
 have p1 := HB1.out.cell 1; have p2 := HB1.out.cell 2; have p3 := HB1.out.cell 3; have p4 := HB1.out.cell 4; have p5 := HB1.out.cell 5; have p6 := HB1.out.cell 6; have p7 := HB1.out.cell 7; have p8 := HB1.out.cell 8; have p9 := HB1.out.cell 9
 simp only [List.getElem?_toArray, List.getElem?_cons_succ, List.getElem?_cons_zero] at p1 p2 p3 p4 p5 p6 p7 p8 p9
 go_enter Tryz.func73, Tryz.ntmps73
 go_upto_region 1 with (fail)
 rw [← hw0, ← Hg2.out, ← Hg1.out]
 clear hw0
 go_wp2_with fail
 refine (hc.out w0 Hk0.out).mono ?_
 rintro e w1 ⟨dv1, rfl, hd1, hb1⟩
 obtain ⟨A1, n1, rfl, _⟩ := (hd1 [] (by simp)).len
 have hk01 : Keeps [] w0 w1 := Keeps.of_below (M := []) hb1
 have HB1b := Lib.hid (hk01.blk HB1.out (by simp))
 have HB2b := Lib.hid (hk01.blk HB2.out (by simp))
 have HD1 : Hid (∀ M, (∀ g ∈ M, g < w0.heap.size) → Ds w1 M (.slice A1 ds.length n1) ds) := hd1
 have Hk1 := Lib.hid (Hk0.out.trans hk01 (by simp))
 have Hz0 := Lib.hid HB1.out.lt
 have Hz2 := Lib.hid HB2.out.lt
 have Hz01 := Lib.hid hk01.size
 clear hd1 hb1 hk01 hc HB1 HB2 p1 p2 p3 p4 p5 p6 p7 p8 p9
 go_upto_region 2 with (refine wpList_store_blk rfl 33 (.tmp 6) (.tmp 5) rfl g1 1 37 #[.int .i64 kd, .int .i64 kind, .int .i64 ag, .int .i64 sh, .int .i64 seq, .int .i64 ep, .slice Aa ds.length na, .string ser, .int .i64 fr, .int .i64 etg, .int .i64 tag, .int .i64 code, .int .u64 nn, .int .i64 term, .int .i64 had, .slice Ba log.length ka, .int .i64 commit, .int .i64 len] #[.int .i64 kd, .int .i64 kind, .int .i64 ag, .int .i64 sh, .int .i64 seq, .int .i64 ep, .slice A1 ds.length n1, .string ser, .int .i64 fr, .int .i64 etg, .int .i64 tag, .int .i64 code, .int .u64 nn, .int .i64 term, .int .i64 had, .slice Ba log.length ka, .int .i64 commit, .int .i64 len] #[.int .i64 kind, .int .i64 ag, .int .i64 sh, .int .i64 seq, .int .i64 ep, .slice A1 ds.length n1, .string ser, .int .i64 fr, .int .i64 etg] rfl rfl HB1b.out (by show 1 + 9 ≤ 18; omega) rfl (by kernel_rfl) rfl ?_; intro w2 hk2 hB2; have Hk2 := Lib.hid hk2; have HB1c := Lib.hid hB2; clear hk2 hB2)
 have hw1 : w.heap.size ≤ g1 := by rw [Hg1.out]; exact Nat.le_refl _
 have HK2 : Hid (Keeps [] w w2) := Hk1.out.trans Hk2.out (fun g hg => .inr (by simp at hg; omega))
 have HB2c := Lib.hid (Hk2.out.blk HB2b.out (by simp; have := Hg1.out; have := Hg2.out; omega))
 have q15 := HB1c.out.cell 15
 simp only [List.getElem?_toArray, List.getElem?_cons_succ, List.getElem?_cons_zero] at q15
 go_wp2_with fail
 refine (hcs.out w2 HK2.out).mono ?_
 rintro e w3 ⟨A3, rfl, hE3, hb3⟩
 have hk23 : Keeps [] w2 w3 := Keeps.of_below (M := []) hb3
 have HB1d := Lib.hid (hk23.blk HB1c.out (by simp))
 have HB2d := Lib.hid (hk23.blk HB2c.out (by simp))
 have HE3 := Lib.hid hE3
 have HK3 : Hid (Keeps [] w w3) := HK2.out.trans hk23 (by simp)
 have HD3 : Hid (∀ M, (∀ g ∈ M, g < w0.heap.size) → Ds w3 M (.slice A1 ds.length n1) ds) := fun M hM => ((((HD1.out (g1 :: M) (fun g hg => by
  rcases List.mem_cons.1 hg with rfl | hg
  ·exact Hz0.out
  ·exact hM g hg)).keep Hk2.out (fun g hg => .inl (by simp at hg; simp [hg]))).keep hk23 (by simp))).avoid (fun g hg => .inl (List.mem_cons_of_mem _ hg))
 have hcl := clipEntry A3 log.length log.length w3 (Nat.le_refl _)
 have Hcl := Lib.hid hcl
 clear hE3 hb3 hk23 hcl q15 HB1b HB2b HB1c HB2c HD1 hcs
 go_wp2_with fail
 refine Hcl.out.mono ?_
 rintro e w4 ⟨rfl, rfl⟩
 have f15 := HB1d.out.frozen 15
 have r15 := HB1d.out.cell 15
 simp only [List.getElem?_toArray, List.getElem?_cons_succ, List.getElem?_cons_zero] at r15
 go_upto_region 3 with (fail)
 obtain ⟨w5, hw5⟩ : ∃ w5, w5 = w3.setCell ⟨g1, 15, none⟩ (.slice A3 log.length log.length) := ⟨_, rfl⟩
 rw [← hw5]
 have hk5 : Keeps [g1] w3 w5 := by rw [hw5]; exact (Keeps.refl _ _).setCell (by simp) _
 have HB1e : Hid (Blk w5 g1 37 #[.int .i64 kd, .int .i64 kind, .int .i64 ag, .int .i64 sh, .int .i64 seq, .int .i64 ep, .slice A1 ds.length n1, .string ser, .int .i64 fr, .int .i64 etg, .int .i64 tag, .int .i64 code, .int .u64 nn, .int .i64 term, .int .i64 had, .slice A3 log.length log.length, .int .i64 commit, .int .i64 len]) := by
  show Blk _ _ _ _
  rw [hw5]
  simpa using HB1d.out.set_ 15 (.slice A3 log.length log.length)
 have HB2e := Lib.hid (hk5.blk HB2d.out (by simp; have := Hg1.out; have := Hg2.out; omega))
 have Hk5 := Lib.hid hk5
 clear hw5 hk5 f15 r15 HB1d HB2d
 go_wp2_with (first | (refine wpList_load_mid rfl 37 (.tmp 1) rfl g1 0 rfl _ _ (blk_range HB1e.out) Tryz.underlying37 rfl (by kernel_rfl) ?_) | (refine wpList_store_blk rfl 37 (.tmp 2) (.tmp 12) rfl g2 0 37 #[.int .i64 0, .int .i64 0, .int .i64 0, .int .i64 0, .int .i64 0, .int .i64 0, .slice none 0 0, .string ⟨#[]⟩, .int .i64 0, .int .i64 0, .int .i64 0, .int .i64 0, .int .u64 0, .int .i64 0, .int .i64 0, .slice none 0 0, .int .i64 0, .int .i64 0] #[.int .i64 kd, .int .i64 kind, .int .i64 ag, .int .i64 sh, .int .i64 seq, .int .i64 ep, .slice A1 ds.length n1, .string ser, .int .i64 fr, .int .i64 etg, .int .i64 tag, .int .i64 code, .int .u64 nn, .int .i64 term, .int .i64 had, .slice A3 log.length log.length, .int .i64 commit, .int .i64 len] #[.int .i64 kd, .int .i64 kind, .int .i64 ag, .int .i64 sh, .int .i64 seq, .int .i64 ep, .slice A1 ds.length n1, .string ser, .int .i64 fr, .int .i64 etg, .int .i64 tag, .int .i64 code, .int .u64 nn, .int .i64 term, .int .i64 had, .slice A3 log.length log.length, .int .i64 commit, .int .i64 len] rfl rfl HB2e.out (by show 0 + 18 ≤ 18; omega) rfl (by kernel_rfl) rfl ?_; intro w6 hk6 hB6; have Hk6 := Lib.hid hk6; have HB6 := Lib.hid hB6; clear hk6 hB6))
 refine bodyPost_ret (results_cell1 rfl _ _ g2 37 #[.int .i64 kd, .int .i64 kind, .int .i64 ag, .int .i64 sh, .int .i64 seq, .int .i64 ep, .slice A1 ds.length n1, .string ser, .int .i64 fr, .int .i64 etg, .int .i64 tag, .int .i64 code, .int .u64 nn, .int .i64 term, .int .i64 had, .slice A3 log.length log.length, .int .i64 commit, .int .i64 len] _ rfl HB6.out Tryz.underlying37 rfl (by kernel_rfl)) rfl ?_
 have hg12 := Hg1.out
 have hg22 := Hg2.out
 have hK6 : Keeps [] w w6 := (HK3.out.trans Hk5.out (fun g hg => .inr (by simp at hg; omega))).trans Hk6.out (fun g hg => .inr (by simp at hg; omega))
 refine HP.out _ _ ⟨.slice A1 ds.length n1, .slice A3 log.length log.length, rfl, fun M hM => HM.out _ _ _ _ ?_ ?_, hK6.belowB (Nat.le_refl _) (by simp)⟩
 ·have h9 := HD3.out (g1 :: g2 :: M) (fun g hg => by
   have := Hk0.out.size
   rcases List.mem_cons.1 hg with rfl | hg
   ·exact Hz0.out
   ·rcases List.mem_cons.1 hg with rfl | hg
    ·exact Hz2.out
    ·have := hM g hg; omega)
  exact ((h9.keep Hk5.out (fun g hg => .inl (by simp at hg; simp [hg]))).keep Hk6.out (fun g hg => .inl (by simp at hg; simp [hg]))).avoid (fun g hg => .inl (by simp [hg]))
 ·have h9 := HE3.out (g1 :: g2 :: M) (fun g hg => by
   have := HK2.out.size
   rcases List.mem_cons.1 hg with rfl | hg
   ·have h1 := Hz0.out; have h2 := Hz01.out; have h3 := Hk2.out.size; omega
   ·rcases List.mem_cons.1 hg with rfl | hg
    ·have h1 := Hz2.out; have h2 := Hz01.out; have h3 := Hk2.out.size; omega
    ·have := hM g hg; omega)
  exact ((h9.keep Hk5.out (fun g hg => .inl (by simp at hg; simp [hg]))).keep Hk6.out (fun g hg => .inl (by simp at hg; simp [hg]))).avoid (fun g hg => .inl (by simp [hg]))
end Go.Proofs.YtdaceeijifjpeaaGreatDoor.Vi
end
section
namespace Go.Proofs.YtdaceeijifjpeaaGreatDoor.Vi
open Go.RowKit Base Mem
theorem bad_any (M : List Nat) (p : Nat) (l : List UInt8) (bad : Bool) (w : World) (h : RdAt w M p l bad) :
  Calls Tryz.prog 137 #[.pointer (some ⟨p, 0, none⟩)] w fun e w' => e = .returned (.bool bad) ∧ w = w' := by
 obtain ⟨hl, v, hb, hs⟩ := h
 have c1 : w.cell? ⟨p, 1, none⟩ = some (.bool bad) := hb.cell 1
 clear hb hs
 go_enter Tryz.func137, Tryz.ntmps137
 go_wp2
 go_ret
 exact ⟨rfl, rfl⟩
theorem u32_xor_nat (a b : Nat) (ha : a < 4294967296) (hb : b < 4294967296) : bits .xor .u32 (a : Int) (b : Int) = ((a ^^^ b : Nat) : Int) := by
 show IntKind.u32.wrap ((BitVec.ofInt 32 (a : Int) ^^^ BitVec.ofInt 32 (b : Int)).toNat : Int) = _
 have h : a ^^^ b < 4294967296 := Nat.xor_lt_two_pow (n := 32) ha hb
 rw [BitVec.toNat_xor, BitVec.ofInt_natCast, BitVec.ofInt_natCast, BitVec.toNat_ofNat, BitVec.toNat_ofNat, Nat.mod_eq_of_lt ha, Nat.mod_eq_of_lt hb, IntKind.wrap_u32]
 omega
theorem u32_and1 (a : Nat) (ha : a < 4294967296) : bits .and .u32 (a : Int) 1 = ((a % 2 : Nat) : Int) := by
 show IntKind.u32.wrap ((BitVec.ofInt 32 (a : Int) &&& BitVec.ofInt 32 1).toNat : Int) = _
 rw [BitVec.toNat_and, BitVec.ofInt_natCast, BitVec.toNat_ofNat, Nat.mod_eq_of_lt ha, show (BitVec.ofInt 32 1).toNat = 2 ^ 1 - 1 from rfl, Nat.and_two_pow_sub_one_eq_mod, IntKind.wrap_u32]
 omega
theorem crcN_snoc : ∀ (k c : Nat), crcN (k + 1) c = crcStep (crcN k c)
 | 0, c => rfl
 | k + 1, c => by rw [crcN, crcN_snoc k, crcN]
set_option maxRecDepth 100000 in
theorem crcnext_any (c : Nat) (x : UInt8) (w : World) (hc : c < 4294967296) :
  Calls Tryz.prog 265 #[.int .u32 c, bV x] w fun e w' => e = .returned (.int .u32 (crcNext c x)) ∧ w = w' := by
 have hx := x.toNat_lt
 have Hx : Hid (crcNext c x = crcN 8 (c ^^^ x.toNat)) := rfl
 have hxor := u32_xor_nat c x.toNat hc (by omega)
 have h0 := Lib.hid (xor_byte_lt hc x)
 have hcv : IntKind.u32.wrap (x.toNat : Int) = (x.toNat : Int) := by rw [IntKind.wrap_u32]; omega
 unfold bV
 generalize c ^^^ x.toNat = a at *
 generalize x.toNat = xn at *
 go_enter Tryz.func265, Tryz.ntmps265
 go_wp2_with fail
 go_loop [0, 10] (fun s i => ∃ k : Nat, i = .int .i64 k ∧ k ≤ 8 ∧ s = .int .u32 (crcN k a : Nat)) (fun _ i => 8 - (intOf i).toNat)
 case atStart => exact ⟨0, rfl, by omega, rfl⟩
 case round =>
  obtain ⟨k, rfl, hk, rfl⟩ := hrel
  have hlt := crcN_lt k h0.out
  have Hs := Lib.hid (crcN_snoc k a)
  generalize hb : crcN k a = b at *
  have Hb := Lib.hid hb
  clear hb
  by_cases h8 : k < 8
  ·have hki : (k : Int) < 8 := by omega
   obtain ⟨q, hq⟩ : ∃ q, q = b / 2 := ⟨_, rfl⟩
   obtain ⟨p, hp⟩ : ∃ p, p = b % 2 := ⟨_, rfl⟩
   obtain ⟨r, hr⟩ : ∃ r, r = 3988292384 * p := ⟨_, rfl⟩
   have hand := u32_and1 b hlt
   have hmul : IntKind.u32.wrap (3988292384 * (p : Int)) = (r : Int) := by rw [IntKind.wrap_u32]; omega
   have hshr : (b : Int) / 2 = (q : Int) := by omega
   have hx2 := u32_xor_nat q r (by omega) (by omega)
   have Hst : Hid (crcN (k + 1) a = q ^^^ r) := by show _ = _; rw [Hs.out, hr, hq, hp]; rfl
   rw [← hp] at hand
   generalize q ^^^ r = nx at *
   clear hxor hcv Hs hq hp hr hlt
   go_wp2
   go_round
   case rel => exact ⟨k + 1, by go_num, by omega, by rw [Hst.out]⟩
   case measure => simp [intOf] <;> omega
  ·obtain rfl : k = 8 := by omega
   clear hxor hcv
   go_wp2
   go_ret
   exact ⟨ret_int (by rw [Hx.out, Hb.out]), rfl⟩
theorem crcOn_snoc (c : Nat) (l : List UInt8) (x : UInt8) : crcOn c (l ++ [x]) = crcNext (crcOn c l) x := by
 unfold crcOn
 rw [List.foldl_append]; rfl
set_option maxRecDepth 100000 in
theorem crcon_any (c : Nat) (v : Value) (l : List UInt8) (w : World) (hc : c < 4294967296) (h : Bs w [] v l) (hl : l.length ≤ 4611686018427387904) :
  Calls Tryz.prog 235 #[.int .u32 c, v] w fun e w' => e = .returned (.int .u32 (crcOn c l)) ∧ w = w' := by
 obtain ⟨A, cp, rfl, hcp⟩ := h.len
 have Hh := Lib.hid h
 clear h
 go_enter Tryz.func235, Tryz.ntmps235
 go_wp2_with fail
 go_loopw [0, 9] (fun s i wr => ∃ k : Nat, i = .int .i64 k ∧ k ≤ l.length ∧ s = .int .u32 (crcOn c (l.take k) : Nat) ∧ wr = w) (fun _ i _ => l.length - (intOf i).toNat)
 case atStart => exact ⟨0, rfl, by omega, rfl, rfl⟩
 case round =>
  obtain ⟨k, rfl, hk, rfl, rfl⟩ := hrel
  have hlt := crcOn_lt (l.take k) hc
  by_cases h8 : k < l.length
  ·have hki : (k : Int) < (l.length : Int) := by omega
   obtain ⟨g, off, _, e1, _, _, _, h1⟩ := Rd.at_ (fun b => [bV b]) 1 (fun _ => rfl) (xs := l) (show Rd wr [] 1 (.slice A l.length cp) l.length (l.flatMap fun b => [bV b]) by rw [← List.map_eq_flatMap]; exact Hh.out) h8
   obtain rfl : A = some ⟨g, off, none⟩ := by injection e1
   clear e1
   have c0 := h1 0 _ rfl
   rw [Nat.mul_one, Nat.add_zero] at c0
   have Hs : Hid (crcOn c (l.take (k + 1)) = crcNext (crcOn c (l.take k)) l[k]) := by show _ = _; rw [List.take_succ_eq_append_getElem h8, crcOn_snoc]
   generalize crcOn c (l.take k) = b at *
   have hnx := Lib.hid (crcnext_any b l[k] wr hlt)
   simp only [bV] at c0 hnx
   generalize crcNext b l[k] = nx at *
   generalize l[k].toNat = xn at *
   clear h1 hlt
   go_wp2_with fail
   refine hnx.out.mono ?_
   rintro e w' ⟨rfl, rfl⟩
   go_wp2
   go_roundw
   case rel => exact ⟨k + 1, by go_num, by omega, by rw [Hs.out], by first | trivial | rfl⟩
   case measure => simp [intOf] <;> omega
  ·obtain rfl : k = l.length := by omega
   have Ht : Hid (crcOn c (l.take l.length) = crcOn c l) := by show _ = _; rw [List.take_length]
   go_wp2
   go_ret
   exact ⟨ret_int (by rw [Ht.out]), rfl⟩
theorem u32_not (b : Nat) (hb : b < 4294967296) : bits .xor .u32 4294967295 (b : Int) = ((4294967295 - b : Nat) : Int) := by
 have h1 : (BitVec.allOnes 32 ^^^ BitVec.ofNat 32 b).toNat = (~~~ (BitVec.ofNat 32 b)).toNat := by rw [BitVec.allOnes_xor]
 rw [BitVec.toNat_xor, BitVec.toNat_allOnes, BitVec.toNat_not, BitVec.toNat_ofNat, Nat.mod_eq_of_lt hb] at h1
 have h2 := u32_xor_nat 4294967295 b (by decide) hb
 rw [show (4294967295 ^^^ b : Nat) = 4294967295 - b from h1] at h2
 exact h2
theorem crcof_any (v : Value) (l : List UInt8) (w : World) (h : Bs w [] v l) (hl : l.length ≤ 4611686018427387904) :
  Calls Tryz.prog 186 #[v] w fun e w' => e = .returned (.int .u32 (crcOf l)) ∧ w = w' := by
 have hon := Lib.hid (crcon_any 4294967295 v l w (by decide) h hl)
 obtain ⟨A, cp, rfl, hcp⟩ := h.len
 have hlt := crcOn_lt l (c := 4294967295) (by decide)
 have Ho : Hid (crcOf l = 4294967295 - crcOn 4294967295 l) := rfl
 clear h
 generalize crcOn 4294967295 l = b at *
 go_enter Tryz.func186, Tryz.ntmps186
 go_wp2_with fail
 refine hon.out.mono ?_
 rintro e w' ⟨rfl, rfl⟩
 go_wp2
 go_ret
 refine ⟨ret_int ?_, rfl⟩
 rw [Ho.out, ← u32_not b hlt]
 rfl
end Go.Proofs.YtdaceeijifjpeaaGreatDoor.Vi
end
section
namespace Go.Proofs
open Go.Shelf
def Tryz.growU8_ren : Go.Shelf.Ren := ⟨fun | 4 => 266 | n => n, fun | 22 => 73 | 25 => 5 | 3 => 3 | 4 => 4 | 9 => 9 | 20 => 20 | 0 => 0 | n => n, fun | n => n⟩
theorem Tryz.growU8 : Go.Proofs.Lays8.n4 Tryz.prog Tryz.growU8_ren := {
 mixed := by kernel_rfl
 f4 := ⟨Tryz.f266.name, by decide, Tryz.func266.trans (congrArg some (by kernel_rfl))⟩
 t0 := Tryz.underlying0
 a0 := Tryz.isAgg0
 z0 := Tryz.sizeOf0
 v0 := Tryz.zeroValue0
 t3 := Tryz.underlying3
 a3 := Tryz.isAgg3
 z3 := Tryz.sizeOf3
 v3 := Tryz.zeroValue3
 t4 := Tryz.underlying4
 a4 := Tryz.isAgg4
 z4 := Tryz.sizeOf4
 v4 := Tryz.zeroValue4
 t9 := Tryz.underlying9
 a9 := Tryz.isAgg9
 z9 := Tryz.sizeOf9
 v9 := Tryz.zeroValue9
 t20 := Tryz.underlying20
 a20 := Tryz.isAgg20
 z20 := Tryz.sizeOf20
 v20 := Tryz.zeroValue20
 t22 := Tryz.underlying73
 a22 := Tryz.isAgg73
 z22 := Tryz.sizeOf73
 v22 := Tryz.zeroValue73 }
end Go.Proofs
end
section
namespace Go.Proofs.YtdaceeijifjpeaaGreatDoor.Vi
open Go.RowKit Base Mem Go.Shelf
def GrowPost (w : World) (e : Ending) (w' : World) : Prop := ∃ v, e = .returned v ∧ w'.ownsRow w.heap.size 5 1 v 0 [] ∧ Below w.heap.size w w'
theorem growB_any (n : Nat) (w : World) (hn : n ≤ 2097152) :
  Calls Tryz.prog 266 #[.slice none 0 0, .int .i64 n] w fun e w' => GrowPost w e w' := by
 obtain ⟨i0, hi0, hz0, hz1, hz2⟩ := info_parts infoU8
 by_cases h0 : n = 0
 ·subst h0
  have h := Any8.slices_Grow_room Tryz.growU8 none 0 0 0 w (by omega) (by omega) (by omega) (by omega)
  refine Calls.mono h ?_
  rintro e w' ⟨rfl, rfl⟩
  exact ⟨_, rfl, World.ownsRow_nil _ _ _ _, Below.refl _ _⟩
 ·have h := Any8.slices_Grow_grow Tryz.growU8 i0 _ hi0 hz0 (by omega) none 0 0 n [] w (by omega) (by omega) (by rw [hz2]; omega) (by omega) (by simp) (fun _ => rfl) (fun _ h => by cases h)
  refine Calls.mono h ?_
  rintro e w' ⟨rfl, rfl⟩
  have hge := grownCap_ge w (0 + n) 0 5
  have hle := grownCap_le_maxLen w (0 + n) 0 5 (by unfold maxLen; omega)
  refine ⟨_, rfl, ⟨by simp, .inr ⟨w.heap.size, _, _, rfl, Nat.le_refl _, heap_alloc_new _ _, Nat.zero_le _, hle, ?_, by simp⟩⟩, below_new (((Keeps.refl [] w).drew).below) _⟩
  simp only [Array.size_append, size_zeroCells, List.size_toArray, List.length_nil]
  have ht : Tryz.growU8_ren.t 25 = 5 := rfl
  rw [ht]
  show 0 + (0 + n - 0) * 1 + (_ - (0 + n)) * 1 = _
  omega
def CatPost (la lb : List UInt8) (w : World) (e : Ending) (w' : World) : Prop := ∃ v, e = .returned v ∧ w'.ownsRow w.heap.size 5 1 v (la.length + lb.length) ((la ++ lb).map bV) ∧ Below w.heap.size w w'
set_option maxRecDepth 100000 in
theorem concatB_any (gs : Nat) (va vb : Value) (la lb : List UInt8) (w : World) (ha : Bs w [] va la) (hb : Bs w [] vb lb) (hla : la.length ≤ 1048576) (hlb : lb.length ≤ 1048576)
  (hgs : gs < w.heap.size) (h0 : w.cell? ⟨gs, 0, none⟩ = some va) (h1 : w.cell? ⟨gs, 1, none⟩ = some vb) :
  Calls Tryz.prog 236 #[.slice (some ⟨gs, 0, none⟩) 2 2] w fun e w' => CatPost la lb w e w' := by
 have Ha := Lib.hid ha; have Hb := Lib.hid hb
 obtain ⟨Aa, ca, rfl, hca⟩ := ha.len
 obtain ⟨Ab, cb, rfl, hcb⟩ := hb.len
 obtain ⟨i0, hi0, hz0, hz1, hz2⟩ := info_parts infoU8
 have Hi0 := Lib.hid hi0; have Hz0 := Lib.hid hz0; have Hz1 := Lib.hid hz1; have Hz2 := Lib.hid hz2
 clear ha hb hi0 hz0 hz1 hz2
 go_enter Tryz.func236, Tryz.ntmps236
 go_wp2_with fail
 go_loopw [3, 11] (fun n j wr => ∃ x y q : Nat, n = .int .i64 y ∧ j = .int .i64 x ∧ x ≤ 2 ∧ Hid ((x = 0 → y = 0) ∧ (x = 1 → y = la.length) ∧ (x = 2 → y = la.length + lb.length)) ∧ wr = w.drewN q) (fun _ j _ => 2 - (intOf j).toNat)
 case atStart => exact ⟨0, 0, 0, rfl, rfl, by omega, ⟨by omega, by omega, by omega⟩, rfl⟩
 case round =>
  obtain ⟨x, y, q, rfl, rfl, hx, Hy, rfl⟩ := hrel
  rcases (show x = 0 ∨ x = 1 ∨ x = 2 by omega) with rfl | rfl | rfl
  ·obtain rfl : y = 0 := Hy.out.1 rfl
   go_wp2
   go_roundw
   case rel => exact ⟨1, la.length, q, by go_num, by go_num, by omega, ⟨by omega, by omega, by omega⟩, rfl⟩
   case measure => simp [intOf]
  ·obtain rfl : y = la.length := Hy.out.2.1 rfl
   go_wp2
   go_roundw
   case rel => exact ⟨2, la.length + lb.length, q, by go_num, by go_num, by omega, ⟨by omega, by omega, by omega⟩, rfl⟩
   case measure => simp [intOf]
  ·obtain rfl : y = la.length + lb.length := Hy.out.2.2 rfl
   have hgr := Lib.hid (show Calls Tryz.prog 266 #[.slice none 0 0, .int .i64 ((la.length : Int) + lb.length)] (w.drewN q) (GrowPost (w.drewN q)) by
    have := growB_any (la.length + lb.length) (w.drewN q) (by omega)
    rwa [Int.natCast_add] at this)
   go_wp2_with fail
   refine hgr.out.mono ?_
   rintro e w1 ⟨v0, rfl, hown0, hb0⟩
   have Hown0 := Lib.hid (show w1.ownsRow w.heap.size 5 1 v0 0 [] from hown0)
   have Hb0 := Lib.hid (show Below w.heap.size w w1 from ⟨hb0.os, hb0.tape, hb0.output, hb0.size, hb0.block⟩)
   have k0 : w1.cell? ⟨gs, 0, none⟩ = some (.slice Aa la.length ca) := (Hb0.out.cell (p := ⟨gs, 0, none⟩) hgs).trans h0
   have k1 : w1.cell? ⟨gs, 1, none⟩ = some (.slice Ab lb.length cb) := (Hb0.out.cell (p := ⟨gs, 1, none⟩) hgs).trans h1
   clear hown0 hb0 Hy hgr
   go_wp2_with fail
   go_loopw [6, 27] (fun out j wr => ∃ x : Nat, j = .int .i64 x ∧ x ≤ 2 ∧ Hid (Below w.heap.size w wr) ∧ Hid ((x = 0 → wr.ownsRow w.heap.size 5 1 out 0 []) ∧ (x = 1 → wr.ownsRow w.heap.size 5 1 out la.length (la.map bV)) ∧ (x = 2 → wr.ownsRow w.heap.size 5 1 out (la.length + lb.length) ((la ++ lb).map bV)))) (fun _ j _ => 2 - (intOf j).toNat)
   case atStart => exact ⟨0, rfl, by omega, Hb0.out, ⟨fun _ => Hown0.out, by omega, by omega⟩⟩
   case round =>
    obtain ⟨x, rfl, hx, Hbr, Hor⟩ := hrel
    have k0 : wr.cell? ⟨gs, 0, none⟩ = some (.slice Aa la.length ca) := (Hbr.out.cell (p := ⟨gs, 0, none⟩) hgs).trans h0
    have k1 : wr.cell? ⟨gs, 1, none⟩ = some (.slice Ab lb.length cb) := (Hbr.out.cell (p := ⟨gs, 1, none⟩) hgs).trans h1
    rcases (show x = 0 ∨ x = 1 ∨ x = 2 by omega) with rfl | rfl | rfl
    ·have Hown := Lib.hid (Hor.out.1 rfl)
     have Hrd := Lib.hid ((Ha.out.keep (Keeps.of_below (M := []) Hbr.out) (by simp)).reads)
     obtain ⟨A1, c1, e1, _, hrd⟩ := Hrd.out
     injection e1 with e1 _ e2
     subst e1 e2
     have Hrd2 := Lib.hid hrd
     clear hrd Hrd
     go_wp2_with (at_builtin; refine wpList_append_any _ rfl (.tmp 31) (.tmp 32) _ rfl w.heap.size 5 i0 _ 1 1 Tryz.underlying73 Hi0.out Hz0.out Hz1.out Hz2.out rfl (by omega) u6 0 [] rfl Hown.out wr.heap.size Aa la.length ca (la.map bV) rfl Hrd2.out (bV_one la) (by unfold maxLen; omega) (by omega) Hbr.out.size ?_)
     intro v' w4 hown4 hg4 hat4
     have Hown4 : Hid (w4.ownsRow w.heap.size 5 1 v' la.length (la.map bV)) := by show World.ownsRow _ _ _ _ _ _ _; simpa using hown4
     have Hb4 := Lib.hid (Hbr.out.grown hg4 Hbr.out.size (fun g hg => (Hown.out.lt g hg).1))
     clear hown4 hg4 hat4
     go_wp2
     go_roundw
     case rel => exact ⟨1, by go_num, by omega, Hb4, ⟨by omega, fun _ => Hown4.out, by omega⟩⟩
     case measure => simp [intOf]
    ·have Hown := Lib.hid (Hor.out.2.1 rfl)
     have Hrd := Lib.hid ((Hb.out.keep (Keeps.of_below (M := []) Hbr.out) (by simp)).reads)
     obtain ⟨A1, c1, e1, _, hrd⟩ := Hrd.out
     injection e1 with e1 _ e2
     subst e1 e2
     have Hrd2 := Lib.hid hrd
     clear hrd Hrd
     go_wp2_with (at_builtin; refine wpList_append_any _ rfl (.tmp 31) (.tmp 32) _ rfl w.heap.size 5 i0 _ 1 1 Tryz.underlying73 Hi0.out Hz0.out Hz1.out Hz2.out rfl (by omega) u6 la.length (la.map bV) rfl Hown.out wr.heap.size Ab lb.length cb (lb.map bV) rfl Hrd2.out (bV_one lb) (by unfold maxLen; omega) (by omega) Hbr.out.size ?_)
     intro v' w4 hown4 hg4 hat4
     have Hown4 : Hid (w4.ownsRow w.heap.size 5 1 v' (la.length + lb.length) ((la ++ lb).map bV)) := by show World.ownsRow _ _ _ _ _ _ _; rw [List.map_append]; exact hown4
     have Hb4 := Lib.hid (Hbr.out.grown hg4 Hbr.out.size (fun g hg => (Hown.out.lt g hg).1))
     clear hown4 hg4 hat4
     go_wp2
     go_roundw
     case rel => exact ⟨2, by go_num, by omega, Hb4, ⟨by omega, by omega, fun _ => Hown4.out⟩⟩
     case measure => simp [intOf]
    ·have hp : CatPost la lb w (.returned u6) wr := ⟨u6, rfl, Hor.out.2.2 rfl, Hbr.out⟩
     go_wp2
     go_ret
     exact hp
theorem own_more {w : World} {base base' : Nat} {e : TypeId} {size n : Nat} {v : Value} {xs : List Value} (h : w.ownsRow base e size v n xs) (hb : base' ≤ base) : w.ownsRow base' e size v n xs := by
 obtain ⟨hl, h⟩ := h
 refine ⟨hl, h.imp id ?_⟩
 rintro ⟨g, cap, cur, hv, hbg, rest⟩
 exact ⟨g, cap, cur, hv, Nat.le_trans hb hbg, rest⟩
def FrPost (l : List UInt8) (w : World) (e : Ending) (w' : World) : Prop := ∃ A c, e = .returned (.tuple #[.slice A (frameL l).length c, .int .i64 0]) ∧ (∀ M, (∀ g ∈ M, g < w.heap.size) → Bs w' M (.slice A (frameL l).length c) (frameL l)) ∧ Below w.heap.size w w'
theorem frame_long (v : Value) (l : List UInt8) (w : World) (h : Bs w [] v l) (hl : 65536 < l.length) :
  Calls Tryz.prog 191 #[v] w fun e w' => e = .returned (.tuple #[.slice none 0 0, .int .i64 3]) ∧ w = w' := by
 obtain ⟨A, c, rfl, _⟩ := h.len
 have hi : (65536 : Int) < (l.length : Int) := by omega
 clear h
 go_enter Tryz.func191, Tryz.ntmps191
 go_wp2
 go_ret2
 exact ⟨rfl, rfl⟩
set_option maxRecDepth 100000 in
set_option maxHeartbeats 1000000 in
theorem frame_any (v : Value) (l : List UInt8) (w : World) (h : Bs w [] v l) (hl : l.length ≤ 65536) :
  Calls Tryz.prog 191 #[v] w fun e w' => FrPost l w e w' := by
 obtain ⟨i0, hi0, hz0, hz1, hz2⟩ := info_parts infoU8
 have Hi0 := Lib.hid hi0; have Hz0 := Lib.hid hz0; have Hz1 := Lib.hid hz1; have Hz2 := Lib.hid hz2
 obtain ⟨A, c, rfl, hc⟩ := h.len
 have Hh := Lib.hid h
 have hput := put_any (.slice none 0 0) [] l.length w (Bs.nil _ _) (by omega) (by simp)
 rw [List.nil_append] at hput
 have Hput := Lib.hid hput
 have hul := Lib.uvarint_length64 (x := l.length) (by omega)
 have hup := Lib.uvarint_pos l.length
 have HF : Hid (frameL l = Lib.uvarint l.length ++ (leL (crcOf l) ++ l)) := rfl
 have hcr := Lib.hid (fun W (hk : Keeps [] w W) => crcof_any (.slice A l.length c) l W (h.keep hk (by simp)) (by omega))
 have hs := crcOf_lt l
 clear h hi0 hz0 hz1 hz2 hput
 generalize crcOf l = s at *
 generalize Lib.uvarint l.length = uv at *
 obtain ⟨n, hn⟩ : ∃ n, n = uv.length := ⟨_, rfl⟩
 have Hn := Lib.hid hn
 rw [← hn] at hul hup
 have hwl : IntKind.u64.wrap (l.length : Int) = (l.length : Int) := by rw [IntKind.wrap_u64]; omega
 have hli : decide ((65536 : Int) < (l.length : Int)) = false := decide_eq_false (by omega)
 clear hn
 go_enter Tryz.func191, Tryz.ntmps191
 go_wp2_with fail
 refine Hput.out.mono ?_
 rintro e w1 ⟨A1, rfl, hB1, hb1⟩
 obtain ⟨g1, o1, rfl⟩ := (hB1 [] (by simp)).some_ (by have := Hn.out; omega)
 rw [← Hn.out] at hB1 ⊢
 have HB1 := Lib.hid (hB1 [] (by simp)); have Hb1 := Lib.hid hb1
 have Hc1 := Lib.hid (hcr.out w1 (Keeps.of_below hb1))
 clear hB1 hb1 hcr Hput
 go_wp2_with fail
 refine Hc1.out.mono ?_
 rintro e w' ⟨rfl, rfl⟩
 clear Hc1
 go_wp2_with fail
 go_loopw [4, 16] (fun out i wr => ∃ x : Nat, i = .int .i64 x ∧ x ≤ 4 ∧ Hid ((x = 0 → out = .slice (some ⟨g1, o1, none⟩) n n ∧ Bs wr [] out uv) ∧ (0 < x → wr.ownsRow w.heap.size 5 1 out (n + x) ((uv ++ (leL s).take x).map bV))) ∧ Hid (Below w.heap.size w wr)) (fun _ i _ => 4 - (intOf i).toNat)
 case atStart => exact ⟨0, rfl, by omega, ⟨fun _ => ⟨rfl, HB1.out⟩, by omega⟩, Hb1.out⟩
 case round =>
  obtain ⟨x, rfl, hx, Hor, Hbr⟩ := hrel
  rcases (show x = 0 ∨ x = 1 ∨ x = 2 ∨ x = 3 ∨ x = 4 by omega) with rfl | rfl | rfl | rfl | rfl
  ·have hone : Hid (bV (UInt8.ofNat (s)) = .int .u8 ((s : Int) % 256)) := by show _ = _; rw [bV_low]; try (congr 1)
   have Hrd := Lib.hid (reads_new wr 5 1 1 [.int .u8 ((s : Int) % 256)] rfl)
   obtain ⟨rfl, hB⟩ := Hor.out.1 rfl
   obtain ⟨_, _, eA, hg, _⟩ := (show ∃ g off, (some ⟨g1, o1, none⟩ : Option Addr) = some ⟨g, off, none⟩ ∧ g < wr.heap.size ∧ True by
    obtain ⟨A', c', e2, _, _, hr⟩ := hB
    injection e2 with e2 _ _
    subst e2
    obtain ⟨g', off', e3, hg', _, _⟩ := hr (by have := Hn.out; omega)
    exact ⟨g', off', e3, hg', trivial⟩)
   injection eA with eA
   injection eA with eg eo _
   subst eg eo
   have HBw := Lib.hid hB
   have Hcells : Hid (∀ (j : Nat) u, (uv.map bV)[j]? = some u → (wr.alloc (.cells #[.int .u8 ((s : Int) % 256)] 5)).cell? ⟨g1, o1 + j, none⟩ = some u) := fun j u hu => by
    obtain ⟨A', c', e2, _, _, hr⟩ := HBw.out
    injection e2 with e2 _ _
    subst e2
    obtain ⟨g', off', e3, hg', _, hx⟩ := hr (by have := Hn.out; omega)
    injection e3 with e3
    injection e3 with e3 e4 _
    subst e3 e4
    rw [World.cell?_alloc_lt wr _ ⟨g1, o1 + j, none⟩ hg]
    exact hx j u hu
   clear hB
   go_wp2_with (at_builtin; refine wpList_append_arg _ rfl (.tmp 19) (.tmp 25) _ rfl 5 i0 _ 1 1 Tryz.underlying73 Hi0.out Hz0.out Hz1.out Hz2.out rfl (by omega) g1 o1 n n (uv.map bV) rfl (by have := Hn.out; simp; omega) Hcells.out ⟨wr.heap.size, 0, none⟩ 1 1 [.int .u8 ((s : Int) % 256)] rfl rfl (fun j u hu => (Hrd.out.2 (by omega)).elim fun ad h => by obtain ⟨e, _, hx⟩ := h; injection e with e; subst e; exact hx j u hu) (by intro u hu; simp at hu; subst hu; rfl) (fun h => by omega) (by unfold maxLen; omega) (by omega) (fun h => by omega) (fun _ => ?_))
   intro v' w4 hown4 hg4
   have Hown4 : Hid (w4.ownsRow w.heap.size 5 1 v' (n + 1) ((uv ++ (leL s).take 1).map bV)) := by
    show World.ownsRow _ _ _ _ _ _ _
    have e : (uv ++ (leL s).take 1).map bV = uv.map bV ++ [.int .u8 ((s : Int) % 256)] := by rw [← hone.out]; simp [leL]
    rw [e]
    exact own_more (base' := w.heap.size) hown4 (by have := Hbr.out.size; simp; omega)
   have Hb4 : Hid (Below w.heap.size w w4) := (Hbr.out.alloc Hbr.out.size _).grown hg4 (by have := Hbr.out.size; simp; omega) (by simp)
   clear hown4 hg4
   go_wp2
   go_roundw
   case rel => exact ⟨1, by go_num, by omega, ⟨by omega, fun _ => Hown4.out⟩, Hb4⟩
   case measure => simp [intOf]
  ·have hone : Hid (bV (UInt8.ofNat (s / 256)) = .int .u8 ((s : Int) / 256 % 256)) := by show _ = _; rw [bV_low]; try (congr 1)
   have Hrd := Lib.hid (reads_new wr 5 1 1 [.int .u8 ((s : Int) / 256 % 256)] rfl)
   have Hown3 := Lib.hid ((Hor.out.2 (by omega)).alloc (.cells #[.int .u8 ((s : Int) / 256 % 256)] 5))
   go_wp2_with (at_builtin; go_must (refine wpList_append_any _ rfl (.tmp 19) (.tmp 25) _ rfl w.heap.size 5 i0 _ 1 1 Tryz.underlying73 Hi0.out Hz0.out Hz1.out Hz2.out rfl (by omega) u4 (n + 1) ((uv ++ (leL s).take 1).map bV) rfl Hown3.out (wr.heap.size + 1) (some ⟨wr.heap.size, 0, none⟩) 1 1 [.int .u8 ((s : Int) / 256 % 256)] rfl Hrd.out (by intro u hu; simp at hu; subst hu; rfl) (by unfold maxLen; omega) (by omega) (by have := Hbr.out.size; simp; omega) ?_))
   intro v' w4 hown4 hg4 hat4
   have Hown4 : Hid (w4.ownsRow w.heap.size 5 1 v' (n + 2) ((uv ++ (leL s).take 2).map bV)) := by
    show World.ownsRow _ _ _ _ _ _ _
    have e : (uv ++ (leL s).take 2).map bV = (uv ++ (leL s).take 1).map bV ++ [.int .u8 ((s : Int) / 256 % 256)] := by rw [← hone.out]; simp [leL]
    rw [e]
    simpa [Nat.add_assoc] using hown4
   have Hb4 : Hid (Below w.heap.size w w4) := (Hbr.out.alloc Hbr.out.size _).grown hg4 (by have := Hbr.out.size; simp; omega) (fun g hg => ((Hor.out.2 (by omega)).lt g hg).1)
   clear hown4 hg4 hat4
   go_wp2
   go_roundw
   case rel => exact ⟨2, by go_num, by omega, ⟨by omega, fun _ => Hown4.out⟩, Hb4⟩
   case measure => simp [intOf]
  ·have hone : Hid (bV (UInt8.ofNat (s / 65536)) = .int .u8 ((s : Int) / 65536 % 256)) := by show _ = _; rw [bV_low]; try (congr 1)
   have Hrd := Lib.hid (reads_new wr 5 1 1 [.int .u8 ((s : Int) / 65536 % 256)] rfl)
   have Hown3 := Lib.hid ((Hor.out.2 (by omega)).alloc (.cells #[.int .u8 ((s : Int) / 65536 % 256)] 5))
   go_wp2_with (at_builtin; go_must (refine wpList_append_any _ rfl (.tmp 19) (.tmp 25) _ rfl w.heap.size 5 i0 _ 1 1 Tryz.underlying73 Hi0.out Hz0.out Hz1.out Hz2.out rfl (by omega) u4 (n + 2) ((uv ++ (leL s).take 2).map bV) rfl Hown3.out (wr.heap.size + 1) (some ⟨wr.heap.size, 0, none⟩) 1 1 [.int .u8 ((s : Int) / 65536 % 256)] rfl Hrd.out (by intro u hu; simp at hu; subst hu; rfl) (by unfold maxLen; omega) (by omega) (by have := Hbr.out.size; simp; omega) ?_))
   intro v' w4 hown4 hg4 hat4
   have Hown4 : Hid (w4.ownsRow w.heap.size 5 1 v' (n + 3) ((uv ++ (leL s).take 3).map bV)) := by
    show World.ownsRow _ _ _ _ _ _ _
    have e : (uv ++ (leL s).take 3).map bV = (uv ++ (leL s).take 2).map bV ++ [.int .u8 ((s : Int) / 65536 % 256)] := by rw [← hone.out]; simp [leL]
    rw [e]
    simpa [Nat.add_assoc] using hown4
   have Hb4 : Hid (Below w.heap.size w w4) := (Hbr.out.alloc Hbr.out.size _).grown hg4 (by have := Hbr.out.size; simp; omega) (fun g hg => ((Hor.out.2 (by omega)).lt g hg).1)
   clear hown4 hg4 hat4
   go_wp2
   go_roundw
   case rel => exact ⟨3, by go_num, by omega, ⟨by omega, fun _ => Hown4.out⟩, Hb4⟩
   case measure => simp [intOf]
  ·have hone : Hid (bV (UInt8.ofNat (s / 16777216)) = .int .u8 ((s : Int) / 16777216)) := by show _ = _; rw [bV_low]; congr 1; omega
   have Hrd := Lib.hid (reads_new wr 5 1 1 [.int .u8 ((s : Int) / 16777216)] rfl)
   have Hown3 := Lib.hid ((Hor.out.2 (by omega)).alloc (.cells #[.int .u8 ((s : Int) / 16777216)] 5))
   go_wp2_with (at_builtin; go_must (refine wpList_append_any _ rfl (.tmp 19) (.tmp 25) _ rfl w.heap.size 5 i0 _ 1 1 Tryz.underlying73 Hi0.out Hz0.out Hz1.out Hz2.out rfl (by omega) u4 (n + 3) ((uv ++ (leL s).take 3).map bV) rfl Hown3.out (wr.heap.size + 1) (some ⟨wr.heap.size, 0, none⟩) 1 1 [.int .u8 ((s : Int) / 16777216)] rfl Hrd.out (by intro u hu; simp at hu; subst hu; rfl) (by unfold maxLen; omega) (by omega) (by have := Hbr.out.size; simp; omega) ?_))
   intro v' w4 hown4 hg4 hat4
   have Hown4 : Hid (w4.ownsRow w.heap.size 5 1 v' (n + 4) ((uv ++ (leL s).take 4).map bV)) := by
    show World.ownsRow _ _ _ _ _ _ _
    have e : (uv ++ (leL s).take 4).map bV = (uv ++ (leL s).take 3).map bV ++ [.int .u8 ((s : Int) / 16777216)] := by rw [← hone.out]; simp [leL]
    rw [e]
    simpa [Nat.add_assoc] using hown4
   have Hb4 : Hid (Below w.heap.size w w4) := (Hbr.out.alloc Hbr.out.size _).grown hg4 (by have := Hbr.out.size; simp; omega) (fun g hg => ((Hor.out.2 (by omega)).lt g hg).1)
   clear hown4 hg4 hat4
   go_wp2
   go_roundw
   case rel => exact ⟨4, by go_num, by omega, ⟨by omega, fun _ => Hown4.out⟩, Hb4⟩
   case measure => simp [intOf]
  ·have hown := Hor.out.2 (by omega)
   have hB4 : Bs wr [] u4 (uv ++ leL s) := by
    have := Rd.of_own (M := []) hown (by simp)
    have e : (leL s).take 4 = leL s := rfl
    rw [e] at this
    unfold Bs
    rw [List.length_append, ← Hn.out, leL_len]
    exact this
   obtain ⟨A4, c4, rfl, hc4⟩ := hB4.len
   have hl4 : (uv ++ leL s).length = n + 4 := by rw [List.length_append, ← Hn.out, leL_len]
   have hBl : Bs wr [] (.slice A l.length c) l := Hh.out.keep (Keeps.of_below (M := []) Hbr.out) (by simp)
   have hk : Keeps [] wr (wr.alloc (.cells #[.slice A4 (n + 4) c4, .slice A l.length c] 73)) := (Keeps.refl _ _).alloc _
   rw [hl4] at hB4
   have hBk := Blk.new wr 73 #[.slice A4 (n + 4) c4, .slice A l.length c]
   have hcat := Lib.hid (concatB_any wr.heap.size (.slice A4 (n + 4) c4) (.slice A l.length c) (uv ++ leL s) l _ (hB4.keep hk (by simp)) (hBl.keep hk (by simp)) (by rw [hl4]; omega) (by omega) hBk.lt (hBk.cell 0) (hBk.cell 1))
   have Hb5 := Lib.hid ((Keeps.of_below (M := []) Hbr.out).trans hk (by simp)).below
   have hfe : Hid (frameL l = (uv ++ leL s) ++ l) := by show _ = _; rw [HF.out, List.append_assoc]
   rw [hl4]
   clear hB4 hBl hk hBk hown hl4 hc4
   go_wp2_with fail
   refine hcat.out.mono ?_
   rintro e w6 ⟨v6, rfl, hown6, hb6⟩
   rw [← List.length_append, ← hfe.out] at hown6
   have hR6 : ∀ M, (∀ g ∈ M, g < w.heap.size) → Bs w6 M v6 (frameL l) := fun M hM => Rd.of_own hown6 (fun g hg => by have := hM g hg; have := Hb5.out.size; omega)
   obtain ⟨A6, c6, rfl, hc6⟩ := (hR6 [] (by simp)).len
   have hp : Hid (FrPost l w (.returned (.tuple #[.slice A6 (frameL l).length c6, .int .i64 0])) w6) := ⟨A6, c6, rfl, hR6, below_then Hb5.out hb6⟩
   clear hown6 hR6 hb6 hcat
   generalize (frameL l).length = fl at *
   go_wp2
   go_ret2
   exact hp.out
def FrRead (l : List UInt8) (w : World) (e : Ending) (w' : World) : Prop := match readF l with
 | none => e = .returned (.tuple #[.slice none 0 0, .int .i64 0, .bool false]) ∧ Below w.heap.size w w'
 | some (x, n) => ∃ A c, e = .returned (.tuple #[.slice A x.length c, .int .i64 n, .bool true]) ∧ (∀ M, (∀ g ∈ M, g < w.heap.size) → Bs w' M (.slice A x.length c) x) ∧ Below w.heap.size w w'
theorem u32_or_shift (a b k : Nat) (ha : a < 2 ^ k) (hk : k ≤ 24) (hb : b < 256) : bits .or .u32 (a : Int) ((b * 2 ^ k : Nat) : Int) = ((a + b * 2 ^ k : Nat) : Int) := by
 have hp : 2 ^ k ≤ 2 ^ 24 := Nat.pow_le_pow_right (by omega) hk
 have hb2 : b * 2 ^ k ≤ 255 * 2 ^ 24 := Nat.mul_le_mul (by omega) hp
 have hlt : a + b * 2 ^ k < 4294967296 := by omega
 show IntKind.u32.wrap ((BitVec.ofInt 32 (a : Int) ||| BitVec.ofInt 32 ((b * 2 ^ k : Nat) : Int)).toNat : Int) = _
 rw [BitVec.toNat_or, BitVec.ofInt_natCast, BitVec.ofInt_natCast, BitVec.toNat_ofNat, BitVec.toNat_ofNat, Nat.mod_eq_of_lt (by omega), Nat.mod_eq_of_lt (by omega), Nat.or_comm, nat_join k (b * 2 ^ k) a (Nat.mul_mod_left _ _) ha, IntKind.wrap_u32]
 omega
set_option maxRecDepth 100000 in
set_option maxHeartbeats 1000000 in
theorem framer_any (v : Value) (l : List UInt8) (w : World) (h : Bs w [] v l) (hl : l.length ≤ 4611686018427387000) :
  Calls Tryz.prog 132 #[v] w fun e w' => FrRead l w e w' := by
 have hg := Lib.hid (get_any v l w h (by omega))
 obtain ⟨A, c, rfl, hc⟩ := h.len
 have H := Lib.hid h
 obtain ⟨hk, hn⟩ := getL_le l
 have HC := Lib.hid (show readF l = (if (getL l).2 = 0 ∨ 65536 < (getL l).1 ∨ l.length < (getL l).2 + 4 + (getL l).1 then none
  else if crcOf ((l.drop ((getL l).2 + 4)).take (getL l).1) = unL (l.drop (getL l).2) then some ((l.drop ((getL l).2 + 4)).take (getL l).1, (getL l).2 + 4 + (getL l).1) else none) from rfl)
 have hnone : Hid (∀ q, readF l = none → FrRead l w (.returned (.tuple #[.slice none 0 0, .int .i64 0, .bool false])) (w.drewN q)) := fun q h => by
  unfold FrRead; rw [h]; exact ⟨rfl, ((Keeps.refl [] w).drewN q).below⟩
 clear h
 generalize (getL l).1 = n at *
 generalize (getL l).2 = k at *
 by_cases hk0 : k = 0
 ·have hR := Lib.hid (fun q => hnone.out q (by rw [HC.out, if_pos (.inl hk0)]))
  subst hk0
  clear HC hnone
  go_enter Tryz.func132, Tryz.ntmps132
  go_wp2_with fail
  refine hg.out.mono ?_
  rintro e w1 ⟨rfl, q, rfl⟩
  go_wp2
  go_ret3
  exact hR.out q
 ·have hkz : ((k : Int) == 0) = false := by simpa using hk0
  by_cases hn6 : 65536 < n
  ·have hR := Lib.hid (fun q => hnone.out q (by rw [HC.out, if_pos (.inr (.inl hn6))]))
   have hni : (65536 : Int) < (n : Int) := by omega
   clear HC hnone
   go_enter Tryz.func132, Tryz.ntmps132
   go_wp2_with fail
   refine hg.out.mono ?_
   rintro e w1 ⟨rfl, q, rfl⟩
   go_wp2
   go_ret3
   exact hR.out q
  ·have hni : decide ((65536 : Int) < (n : Int)) = false := decide_eq_false (by omega)
   have hwn : IntKind.i64.wrap (n : Int) = (n : Int) := by rw [IntKind.wrap_i64]; omega
   have hwk : IntKind.i64.wrap ((k : Int) + 4) = (k : Int) + 4 := by rw [IntKind.wrap_i64]; omega
   have hwkn : IntKind.i64.wrap ((k : Int) + 4 + (n : Int)) = (k : Int) + 4 + (n : Int) := by rw [IntKind.wrap_i64]; omega
   by_cases hlen : l.length < k + 4 + n
   ·have hR := Lib.hid (fun q => hnone.out q (by rw [HC.out, if_pos (.inr (.inr hlen))]))
    have hli : (l.length : Int) < (k : Int) + 4 + (n : Int) := by omega
    clear HC hnone
    go_enter Tryz.func132, Tryz.ntmps132
    go_wp2_with fail
    refine hg.out.mono ?_
    rintro e w1 ⟨rfl, q, rfl⟩
    go_wp2
    go_ret3
    exact hR.out q
   ·have hli : decide ((l.length : Int) < (k : Int) + 4 + (n : Int)) = false := decide_eq_false (by omega)
    have HT : Hid (readF l = if crcOf ((l.drop (k + 4)).take n) = unL (l.drop k) then some ((l.drop (k + 4)).take n, k + 4 + n) else none) := by
     show _ = _; rw [HC.out, if_neg (by omega)]
    obtain ⟨g, off, rfl⟩ := H.out.some_ (by omega)
    have hcell : ∀ j, (hj : j < l.length) → w.cell? ⟨g, off + j, none⟩ = some (.int .u8 (l[j]'hj).toNat) := fun j hj => by
     obtain ⟨A', c', e2, _, _, hr⟩ := H.out
     injection e2 with e2 _ _
     subst e2
     obtain ⟨g', off', e3, _, _, hx⟩ := hr (by omega)
     injection e3 with e3
     injection e3 with e3 e4 _
     subst e3 e4
     exact hx j _ (by rw [List.getElem?_map, List.getElem?_eq_getElem hj]; rfl)
    have hcg : g < w.heap.size := World.block_lt_of_cell? w _ (hcell 0 (by omega))
    have k0 := hcell k (by omega)
    have k1 := hcell (k + 1) (by omega)
    have k2 := hcell (k + 2) (by omega)
    have k3 := hcell (k + 3) (by omega)
    have hun : unL (l.drop k) = l[k].toNat + 256 * l[k + 1].toNat + 65536 * l[k + 2].toNat + 16777216 * l[k + 3].toNat := by
     unfold unL
     simp only [List.getD_eq_getElem?_getD, List.getElem?_drop, Nat.add_zero]
     rw [List.getElem?_eq_getElem (by omega), List.getElem?_eq_getElem (by omega), List.getElem?_eq_getElem (by omega), List.getElem?_eq_getElem (by omega)]
     rfl
    rw [hun] at HT
    have b0 := l[k].toNat_lt; have b1 := l[k + 1].toNat_lt; have b2 := l[k + 2].toNat_lt; have b3 := l[k + 3].toNat_lt
    generalize l[k].toNat = x0 at *
    generalize l[k + 1].toNat = x1 at *
    generalize l[k + 2].toNat = x2 at *
    generalize l[k + 3].toNat = x3 at *
    clear hcell hun HC hnone
    have Hk0 := Lib.hid k0; have Hk1 := Lib.hid k1; have Hk2 := Lib.hid k2; have Hk3 := Lib.hid k3
    clear k0 k1 k2 k3
    go_enter Tryz.func132, Tryz.ntmps132
    go_wp2_with fail
    refine hg.out.mono ?_
    rintro e w1 ⟨rfl, q, rfl⟩
    go_wp2_with fail
    go_loopw [7, 32] (fun s i wr => ∃ (x p : Nat), i = .int .i64 x ∧ x ≤ 4 ∧ s = .int .u32 p ∧ Hid ((x = 0 → p = 0) ∧ (x = 1 → p = x0) ∧ (x = 2 → p = x0 + x1 * 2 ^ 8) ∧ (x = 3 → p = x0 + x1 * 2 ^ 8 + x2 * 2 ^ 16) ∧ (x = 4 → p = x0 + x1 * 2 ^ 8 + x2 * 2 ^ 16 + x3 * 2 ^ 24)) ∧ wr = w.drewN q) (fun _ i _ => 4 - (intOf i).toNat)
    case atStart => exact ⟨0, 0, rfl, by omega, rfl, ⟨by omega, by omega, by omega, by omega, by omega⟩, rfl⟩
    case round =>
     obtain ⟨x, p, rfl, hx, rfl, Hp, rfl⟩ := hrel
     rcases (show x = 0 ∨ x = 1 ∨ x = 2 ∨ x = 3 ∨ x = 4 by omega) with rfl | rfl | rfl | rfl | rfl
     ·have Hpv := Lib.hid (Hp.out.1 rfl)
      have c0 := Hk0.out
      have Hor : Hid (bits .or .u32 (p : Int) (x0 : Int) = ((p + x0 * 2 ^ 0 : Nat) : Int)) := by
       have := u32_or_shift p x0 0 (by have := Hpv.out; omega) (by omega) b0
       rw [show ((x0 * 2 ^ 0 : Nat) : Int) = (x0 : Int) by omega] at this
       exact this
      go_wp2_with fail
      exact ⟨⟨1, p + x0 * 2 ^ 0, by go_num, by omega, by first | rw [Hor.out] | (rw [← Hor.out]), ⟨by omega, fun _ => by have := Hpv.out; omega, by omega, by omega, by omega⟩, by first | trivial | rfl⟩, by simp [intOf]⟩
     ·have Hpv := Lib.hid (Hp.out.2.1 rfl)
      have c0 := Hk1.out
      have Hor : Hid (bits .or .u32 (p : Int) ((x1 : Int) * 256) = ((p + x1 * 2 ^ 8 : Nat) : Int)) := by
       have := u32_or_shift p x1 8 (by have := Hpv.out; omega) (by omega) b1
       rw [show ((x1 * 2 ^ 8 : Nat) : Int) = ((x1 : Int) * 256) by omega] at this
       exact this
      go_wp2_with fail
      exact ⟨⟨2, p + x1 * 2 ^ 8, by go_num, by omega, by first | rw [Hor.out] | (rw [← Hor.out]), ⟨by omega, by omega, fun _ => by have := Hpv.out; omega, by omega, by omega⟩, by first | trivial | rfl⟩, by simp [intOf]⟩
     ·have Hpv := Lib.hid (Hp.out.2.2.1 rfl)
      have c0 := Hk2.out
      have Hor : Hid (bits .or .u32 (p : Int) ((x2 : Int) * 65536) = ((p + x2 * 2 ^ 16 : Nat) : Int)) := by
       have := u32_or_shift p x2 16 (by have := Hpv.out; omega) (by omega) b2
       rw [show ((x2 * 2 ^ 16 : Nat) : Int) = ((x2 : Int) * 65536) by omega] at this
       exact this
      go_wp2_with fail
      exact ⟨⟨3, p + x2 * 2 ^ 16, by go_num, by omega, by first | rw [Hor.out] | (rw [← Hor.out]), ⟨by omega, by omega, by omega, fun _ => by have := Hpv.out; omega, by omega⟩, by first | trivial | rfl⟩, by simp [intOf]⟩
     ·have Hpv := Lib.hid (Hp.out.2.2.2.1 rfl)
      have c0 := Hk3.out
      have Hor : Hid (bits .or .u32 (p : Int) ((x3 : Int) * 16777216) = ((p + x3 * 2 ^ 24 : Nat) : Int)) := by
       have := u32_or_shift p x3 24 (by have := Hpv.out; omega) (by omega) b3
       rw [show ((x3 * 2 ^ 24 : Nat) : Int) = ((x3 : Int) * 16777216) by omega] at this
       exact this
      go_wp2_with fail
      exact ⟨⟨4, p + x3 * 2 ^ 24, by go_num, by omega, by first | rw [Hor.out] | (rw [← Hor.out]), ⟨by omega, by omega, by omega, by omega, fun _ => by have := Hpv.out; omega⟩, by first | trivial | rfl⟩, by simp [intOf]⟩
     ·have Hpv : Hid (p = x0 + 256 * x1 + 65536 * x2 + 16777216 * x3) := by have := Hp.out.2.2.2.2 rfl; show _ = _; omega
      have HX : Hid (readF l = if crcOf ((l.drop (k + 4)).take n) = p then some ((l.drop (k + 4)).take n, k + 4 + n) else none) := by show _ = _; rw [HT.out, Hpv.out]
      have hxl : ((l.drop (k + 4)).take n).length = n := by rw [List.length_take, List.length_drop]; omega
      have hki : (k : Int) + 4 ≤ (k : Int) + 4 + (n : Int) := by omega
      have hkc : (k : Int) + 4 + (n : Int) ≤ (c : Int) := by omega
      have hHq := H.out.keep (M' := []) ((Keeps.refl [] w).drewN q) (by simp)
      have hend : Hid (∀ (v' : Value) (W w' : World), W = w.drewN q → w'.ownsRow W.heap.size 5 1 v' n (((l.drop (k + 4)).take n).map bV) → Below W.heap.size W w' → ∃ A' c', v' = .slice A' n c' ∧ Calls Tryz.prog 186 #[v'] w' (fun e w'' => e = .returned (.int .u32 (crcOf ((l.drop (k + 4)).take n))) ∧ w' = w'') ∧ (crcOf ((l.drop (k + 4)).take n) = p → FrRead l w (.returned (.tuple #[v', .int .i64 ((k : Int) + 4 + (n : Int)), .bool true])) w') ∧ (¬ crcOf ((l.drop (k + 4)).take n) = p → FrRead l w (.returned (.tuple #[.slice none 0 0, .int .i64 0, .bool false])) w')) := by
       rintro v' W w' rfl hown hb
       have hB : ∀ M, (∀ g ∈ M, g < w.heap.size) → Bs w' M v' ((l.drop (k + 4)).take n) := fun M hM => by
        unfold Bs
        rw [hxl]
        exact Rd.of_own hown hM
       have hbw : Below w.heap.size w w' := ⟨hb.os, hb.tape, hb.output, hb.size, hb.block⟩
       obtain ⟨A', c', e, _⟩ := (hB [] (by simp)).len
       rw [hxl] at e
       refine ⟨A', c', e, crcof_any v' _ w' (hB [] (by simp)) (by omega), fun h => ?_, fun h => ?_⟩
       ·unfold FrRead
        rw [HX.out, if_pos h]
        refine ⟨A', c', ?_, ?_, hbw⟩
        ·rw [hxl, e, Int.natCast_add, Int.natCast_add]; rfl
        ·rw [hxl, ← e]; exact hB
       ·unfold FrRead
        rw [HX.out, if_neg h]
        exact ⟨rfl, hbw⟩
      clear Hk0 Hk1 Hk2 Hk3 Hp HT HX Hpv
      by_cases hck : c = k + 4
      ·obtain rfl : n = 0 := by omega
       have hcl := Lib.hid (cloneU8 [] (.slice (some ⟨g, off, none⟩) 0 0) 0 [] (w.drewN q) ⟨_, 0, rfl, Nat.le_refl _, rfl, fun h => absurd h (by omega)⟩ (by simp) (by omega))
       rw [List.take_zero, List.map_nil] at hend
       generalize crcOf ([] : List UInt8) = cx at *
       go_wp2_with fail
       refine hcl.out.mono ?_
       rintro e w2 ⟨v', rfl, hown, hb⟩
       obtain ⟨A', c', rfl, hcr, hy, hno⟩ := hend.out v' _ w2 rfl hown hb
       have Hcr := Lib.hid hcr; have Hy := Lib.hid hy; have Hno := Lib.hid hno
       clear hown hb hcl hcr hy hno hend
       go_wp2_with fail
       refine Hcr.out.mono ?_
       rintro e w3 ⟨rfl, rfl⟩
       by_cases hcp : cx = p
       ·have hne : ((cx : Int) != (p : Int)) = false := by simp [hcp]
        have hp := Lib.hid (Hy.out hcp)
        clear hcp Hy Hno
        go_wp2
        go_ret3
        exact hp.out
       ·have hne : ((cx : Int) != (p : Int)) = true := by simp; omega
        have hp := Lib.hid (Hno.out hcp)
        clear hcp Hy Hno
        go_wp2
        go_ret3
        exact hp.out
      ·have hpt := hHq.part (k + 4) n (by omega) (c - (k + 4)) (by omega) (some ⟨g, off + (k + 4), none⟩) (fun _ => rfl)
       unfold Bs at hpt
       rw [hxl] at hpt
       have hcl := Lib.hid (cloneU8 [] _ n _ (w.drewN q) hpt (bV_one _) (by omega))
       generalize (l.drop (k + 4)).take n = xs at *
       generalize crcOf xs = cx at *
       clear hpt hHq
       go_wp2_with fail
       refine hcl.out.mono ?_
       rintro e w2 ⟨v', rfl, hown, hb⟩
       obtain ⟨A', c', rfl, hcr, hy, hno⟩ := hend.out v' _ w2 rfl hown hb
       have Hcr := Lib.hid hcr; have Hy := Lib.hid hy; have Hno := Lib.hid hno
       clear hown hb hcl hcr hy hno hend
       go_wp2_with fail
       refine Hcr.out.mono ?_
       rintro e w3 ⟨rfl, rfl⟩
       by_cases hcp : cx = p
       ·have hne : ((cx : Int) != (p : Int)) = false := by simp [hcp]
        have hp := Lib.hid (Hy.out hcp)
        clear hcp Hy Hno
        go_wp2
        go_ret3
        exact hp.out
       ·have hne : ((cx : Int) != (p : Int)) = true := by simp; omega
        have hp := Lib.hid (Hno.out hcp)
        clear hcp Hy Hno
        go_wp2
        go_ret3
        exact hp.out
end Go.Proofs.YtdaceeijifjpeaaGreatDoor.Vi
end
