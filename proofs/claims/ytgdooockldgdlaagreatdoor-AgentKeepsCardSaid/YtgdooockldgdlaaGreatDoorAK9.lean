/- Texts put together: AgF, AgG, AgH, StC, AgI, Draw, Copies, AgJ. -/
import Derived.Deep.DeepCutAuto
import Derived.WalkMore
import Derived.Test.YtgdooockldgdlaaGreatDoorProg
import Derived.WalkKit
import Derived.Lib.Hide
import Derived.Handy
import Derived.Test.YtgdooockldgdlaaGreatDoorAK1
import Derived.Test.YtgdooockldgdlaaGreatDoorAK4
import Derived.Test.YtgdooockldgdlaaGreatDoorAK7
import Derived.Test.YtgdooockldgdlaaGreatDoorAK8
set_option linter.unusedVariables false
set_option linter.unusedSimpArgs false
section
namespace Go.Proofs.YtgdooockldgdlaaGreatDoor.Vi
open Go.RowKit Base Mem Go.Shelf Tape
open Go.Maps (Keyed)
theorem lawT : Keyed Tryz.prog 2 := Maps.int_keyed uI64
theorem uMA : Tryz.prog.underlying 115 = some (.map 2 30) := by kernel_rfl
theorem uMT : Tryz.prog.underlying 114 = some (.map 30 138) := by kernel_rfl
theorem zIdent (w : World) : (zeroValue 30).run Tryz.prog w = .ok zId w := by kernel_rfl
theorem zTryV (w : World) : (zeroValue 138).run Tryz.prog w = .ok zTry w := by kernel_rfl
theorem tkey_of {t : Int} (h : I64 t) : keyOf Tryz.prog 2 (.int .i64 t) = some (tkey t) := Maps.keyOf_int_mk uI64 (WalkArith.wf_i64 h)
theorem tkey_key {t : Int} (h : I64 t) : WideAt.IsKeyLit (tkey t) := lawT.key (l := tkey t) (tkey_of h)
theorem tkey_inj {t u : Int} (h : tkey t = tkey u) : t = u := by injection h
def agNext (A : AgD) (x : Option (Int × Int)) : AgD := { A with tag := A.tag + 1, asked := A.asked ++ [(A.tag + 1, x)], cn := A.cn + 1 }
theorem look_app {l : List (Int × Option (Int × Int))} {p : Int × Option (Int × Int)} (t : Int) : look (l ++ [p]) t = match look l t with | some y => some y | none => if p.1 = t then some p.2 else none := by
 unfold look
 rw [List.find?_append]
 cases h : l.find? (fun p => p.1 == t) with
 | some y => simp
 | none =>
  by_cases hp : p.1 = t
  ·simp [List.find?_cons, hp]
  ·have : (p.1 == t) = false := by simpa using hp
   simp [List.find?_cons, this, hp]
theorem look_none {l : List (Int × Option (Int × Int))} {t : Int} (h : ∀ p ∈ l, p.1 ≠ t) : look l t = none := by
 unfold look
 rw [List.find?_eq_none.2 (by simpa using h)]
 rfl
theorem asOk_put {D : DataW Value} {node : Int} {asked : List (Int × Option (Int × Int))} (h : AsOk D node asked) (hD : Maps.IsMap D) {t : Int} (ht : I64 t) (hno : ∀ p ∈ asked, p.1 ≠ t) (x : Option (Int × Int)) :
  AsOk (D.put (tkey t) (.held (idV node x))) node (asked ++ [(t, x)]) := by
 intro u hu
 rw [look_app]
 by_cases hut : u = t
 ·subst hut
  rw [look_none hno, Maps.has_put_same hD (tkey_key ht), Maps.atKey_put_same hD (tkey_key ht)]
  simp
 ·have hne : tkey u ≠ tkey t := fun h => hut (tkey_inj h)
  rw [Maps.has_put_other hne, Maps.atKey_put_other hne]
  obtain ⟨h1, h2⟩ := h u hu
  rw [h1, h2]
  have h3 : ¬ t = u := fun e => hut e.symm
  cases look asked u <;> simp [h3]
theorem agNext_ok {A : AgD} (h : AgOk A) (hc : A.cn + 1 ≤ 1099511627776) (x : Option (Int × Int)) (hx : ∀ y, x = some y → 0 ≤ y.1 ∧ y.1 < 4 ∧ 1 ≤ y.2 ∧ y.2 ≤ 9223372036854775807) : AgOk (agNext A x) := by
 obtain ⟨p1, p2, p3, p4, p5, p6, p7, p8, p9, p10, p11⟩ := h
 refine ⟨p1, p2, p3, p4, p5, ⟨by show A.bk.ep * 4294967296 ≤ A.tag + 1; have := p6.1; omega, by show A.tag + 1 ≤ A.bk.ep * 4294967296 + ((A.cn + 1 : Nat) : Int); have := p6.2; omega⟩, p7, hc, fun s q y hy => ?_, fun p hp => ?_, ?_⟩
 ·obtain ⟨a1, a2, a3, a4⟩ := p9 s q y hy
  exact ⟨a1, by show y.1 ≤ ((A.cn + 1 : Nat) : Int); omega, a3, a4⟩
 ·show A.bk.ep * 4294967296 < p.1 ∧ p.1 ≤ A.tag + 1 ∧ _
  rcases List.mem_append.1 hp with h | h
  ·obtain ⟨a1, a2, a3⟩ := p10 p h
   exact ⟨a1, by omega, a3⟩
  ·simp at h; subst h
   exact ⟨by show A.bk.ep * 4294967296 < A.tag + 1; have := p6.1; omega, Int.le_refl _, fun y hy => hx y hy⟩
 ·show ((A.asked ++ [(A.tag + 1, x)]).map (·.1)).Nodup
  rw [List.map_append, List.nodup_append]
  refine ⟨p11, by simp, fun u hu v hv => ?_⟩
  obtain ⟨p, hp, rfl⟩ := List.mem_map.1 hu
  simp at hv; subst hv
  have := (p10 p hp).2.1
  omega
section
variable {w w' : World} {M M' : List Nat} {tg tg' : Nat → Nat} {a d : Nat} {A : AgD} {C : AgC} {T : List Nat}
/-- The tags turned: the agent's block and the map of tags. -/
theorem AgV.setAs (h : AgV w M tg a A C) (hM : ∀ g ∈ M, g < w.heap.size) {B : AgD} {Na' : Nat} {Da' : DataW Value} (hB : B.node = A.node ∧ B.bk = A.bk ∧ B.b = A.b ∧ B.k = A.k ∧ B.n = A.n ∧ B.tries = A.tries) (hcn : A.cn ≤ B.cn)
  (hb : Blk w' a 117 (agCells B C)) (hm : w'.ownsMap Tryz.prog 2 heldElem C.ab Na' Da') (hok : AsOk Da' B.node B.asked) (hna : Na' ≤ B.cn) (kp : Keeps [a, C.ab] w w') :
  AgV w' M tg a B { C with Na := Na', Da := Da' } ∧ Ext w M tg w' M tg ∧ Keeps (sel M tg [20, 24]) w w' := by
 have ks : Keeps (sel M tg [20, 24]) w w' := kp.to_sel (fun g hg => by
  simp at hg
  rcases hg with rfl | rfl
  ·exact .inl ⟨h.aM, by rw [h.ta]; simp⟩
  ·exact .inl ⟨h.abM, by rw [h.tab]; simp⟩)
 have hx : Ext w M tg w' M tg := Ext.refl hM ks.size
 obtain ⟨e1, e2, e3, e4, e5, e6⟩ := hB
 have hlg : LgAt w' C.p C.Y C.d A.b A.k A.n := lg_other ks h (by simp) (by simp)
 refine ⟨⟨hb, h.aM, h.ta, ?_, ?_, h.pM, h.tp, h.yM, map_other ks h.tr (by rw [h.ttb]; simp), h.tbM, h.ttb, hm, h.abM, h.tab, ?_, hok, Nat.le_trans h.nt hcn, hna⟩, hx, ks⟩
 ·rw [e2]; exact h.bk.keep hx ks (by simp)
 ·rw [e3, e4, e5]; exact hlg
 ·rw [e1, e6]; exact h.trD
def NxPost (M : List Nat) (tg : Nat → Nat) (a d : Nat) (A : AgD) (x : Option (Int × Int)) (w : World) (e : Ending) (w' : World) : Prop :=
 e = .returned (.int .i64 (A.tag + 1)) ∧ AgAt w' M tg a d (agNext A x) ∧ Ext w M tg w' M tg ∧ Keeps (sel M tg [20, 24]) w w'
set_option maxRecDepth 100000 in
set_option maxHeartbeats 1000000 in
theorem agnext_any (h : AgAt w M tg a d A) (hM : ∀ g ∈ M, g < w.heap.size) (hc : A.cn + 1 ≤ 1099511627776) (x : Option (Int × Int)) (i1 i2 i3 : Int) (hid : idV A.node x = .agg #[.int .i64 i1, .int .i64 i2, .int .i64 i3]) (hx : ∀ y, x = some y → 0 ≤ y.1 ∧ y.1 < 4 ∧ 1 ≤ y.2 ∧ y.2 ≤ 9223372036854775807) :
  Calls Tryz.prog 117 #[.pointer (some ⟨a, 0, none⟩), .agg #[.int .i64 i1, .int .i64 i2, .int .i64 i3]] w fun e w' => NxPost M tg a d A x w e w' := by
 obtain ⟨ho, C, hCd, hv⟩ := h
 have hok2 := agNext_ok ho hc x hx
 have htb : A.bk.ep ≤ 1073741824 ∧ 1 ≤ A.bk.ep := ⟨hv.bk.1.2.1, ho.2.2.2.2.1⟩
 have htag := ho.2.2.2.2.2.1
 have hlt : -9223372036854775808 ≤ A.tag + 1 ∧ A.tag + 1 ≤ 9223372036854775807 := by
  have h1 := htag.1; have h2 := htag.2; have h3 := ho.2.2.2.2.2.2.2.1
  omega
 have hno : ∀ p ∈ A.asked, p.1 ≠ A.tag + 1 := fun p hp => by
  have := (ho.2.2.2.2.2.2.2.2.2.1 p hp).2.1
  omega
 obtain ⟨w0, hw0⟩ : ∃ w0, w0 = w.alloc (.cells #[.int .i64 i1, .int .i64 i2, .int .i64 i3] 30) := ⟨_, rfl⟩
 have hk0 : Keeps [] w w0 := by rw [hw0]; exact (Keeps.refl _ _).alloc _
 have hB0 : Blk w0 w.heap.size 30 #[.int .i64 i1, .int .i64 i2, .int .i64 i3] := by rw [hw0]; exact Blk.new w _ _
 have hv0 := hv.keep0 hM hk0
 have hM0 : ∀ g ∈ M, g < w0.heap.size := fun g hg => Nat.lt_of_lt_of_le (hM g hg) hk0.size
 -- the store of the tag
 obtain ⟨w1, hw1⟩ : ∃ w1, w1 = w0.setCell ⟨a, 5, none⟩ (.int .i64 (A.tag + 1)) := ⟨_, rfl⟩
 have hB1 : Blk w1 a 117 (agCells { A with tag := A.tag + 1 } C) := by
  have h9 := hv0.blk.set_ 5 (.int .i64 (A.tag + 1))
  rw [hw1]
  show Blk _ a _ #[.int .i64 A.node, .int .i64 A.reps, .pointer (some ⟨C.p, 0, none⟩), .pointer (some ⟨C.s, 0, none⟩), .int .i64 A.now, .int .i64 (A.tag + 1), .int .i64 A.last, .map (some C.tb), .map (some C.ab)]
  simpa [agCells] using h9
 have hka1 : Keeps [a] w0 w1 := by rw [hw1]; exact (Keeps.refl _ _).setCell (by simp) _
 have hab : C.ab ≠ a := fun h => by have h1 := hv.tab; have h2 := hv.ta; rw [h] at h1; omega
 have hba : w.heap.size ≠ a := fun h => by have := hM a hv.aM; omega
 have hbab : w.heap.size ≠ C.ab := fun h => by have := hM C.ab hv.abM; omega
 have hmap1 : w1.drew.ownsMap Tryz.prog 2 heldElem C.ab C.Na C.Da := om_keep hv0.as_ hka1.drew (by simpa using hab)
 have hNa : C.Na < maxLen := by have := hv.na; unfold maxLen; omega
 obtain ⟨w2, hrun, hm2, ht2⟩ := hmap1.store lawT uMA hNa (tkey_of (t := A.tag + 1) ⟨hlt.1, hlt.2⟩) (show heldElem (.agg #[.int .i64 i1, .int .i64 i2, .int .i64 i3]) = some (.held (.agg #[.int .i64 i1, .int .i64 i2, .int .i64 i3]), []) from rfl)
 have hk2 : Keeps [C.ab] w1.drew w2 := turned_keeps ht2
 have hb1i : Blk w1 w.heap.size 30 #[.int .i64 i1, .int .i64 i2, .int .i64 i3] := hka1.blk hB0 (by simpa using hba)
 have hB2 : Blk w2 a 117 (agCells { A with tag := A.tag + 1 } C) := hk2.blk (show Blk w1.drew a _ _ from hB1) (by simpa using Ne.symm hab)
 have hb2i : Blk w2 w.heap.size 30 #[.int .i64 i1, .int .i64 i2, .int .i64 i3] := hk2.blk (show Blk w1.drew w.heap.size _ _ from hb1i) (by simpa using hbab)
 have hP : Hid (NxPost M tg a d A x w (.returned (.int .i64 (A.tag + 1))) w2) := by
  have hkk : Keeps [a, C.ab] w0 w2 := ((hka1.drew).mono (M' := [a, C.ab]) (by simp)).trans hk2 (by simp)
  have hasok := asOk_put hv.asD hmap1.isMap (t := A.tag + 1) ⟨hlt.1, hlt.2⟩ hno x
  rw [hid] at hasok
  obtain ⟨r1, r2, r3⟩ := hv0.setAs hM0 (B := agNext A x) ⟨rfl, rfl, rfl, rfl, rfl, rfl⟩ (Nat.le_succ _) hB2 hm2 hasok (Nat.succ_le_succ hv.na) hkk
  have hx0 : Ext w M tg w0 M tg := Ext.refl hM hk0.size
  exact ⟨rfl, ⟨hok2, { C with Na := C.Na + 1, Da := C.Da.put (tkey (A.tag + 1)) (.held (.agg #[.int .i64 i1, .int .i64 i2, .int .i64 i3])) }, hCd, r1⟩, hx0.trans r2 hk0.size, (hk0.to_sel (by simp)).trans r3 (fun g hg => .inl hg)⟩
 obtain ⟨-, -, -, -, -, c5, -, -, c8, hal⟩ := agcells hv0
 have f5 := hv0.blk.frozen 5
 have hS : Hid (∀ W, (W = w1.drew ∨ W = w2) → W.cell? ⟨a, 5, none⟩ = some (.int .i64 (A.tag + 1)) ∧ W.cell? ⟨a, 8, none⟩ = some (.map (some C.ab)) ∧ W.cell? ⟨w.heap.size, 0, none⟩ = some (.int .i64 i1) ∧ W.cell? ⟨w.heap.size, 1, none⟩ = some (.int .i64 i2) ∧ W.cell? ⟨w.heap.size, 2, none⟩ = some (.int .i64 i3)) := fun W hW => by
  rcases hW with rfl | rfl
  ·exact ⟨hB1.cell 5, hB1.cell 8, hb1i.cell 0, hb1i.cell 1, hb1i.cell 2⟩
  ·exact ⟨hB2.cell 5, hB2.cell 8, hb2i.cell 0, hb2i.cell 1, hb2i.cell 2⟩
 have t5 := hB2.cell 5
 have t5' : w2.cell? ⟨a, 5, none⟩ = some (.int .i64 (A.tag + 1)) := t5
 have hwt : IntKind.i64.wrap (A.tag + 1) = A.tag + 1 := by rw [IntKind.wrap_i64]; omega
 clear hid hx hok2 hno hmap1 hm2 ht2 hB1 hb1i hB2 hb2i hv hv0 ho hM hM0 hB0 hk0 hka1 hk2 hNa htb htag t5
 go_enter Tryz.func117, Tryz.ntmps117
 go_upto_region 1 with (fail)
 rw [← hw0]
 clear hw0
 go_upto_region 2 with (fail)
 rw [← hw1]
 clear hw1 c5 c8 f5
 go_region_held3 (fun W => W.cell? ⟨a, 5, none⟩ = some (.int .i64 (A.tag + 1)) ∧ W.cell? ⟨a, 8, none⟩ = some (.map (some C.ab)) ∧ W.cell? ⟨w.heap.size, 0, none⟩ = some (.int .i64 i1) ∧ W.cell? ⟨w.heap.size, 1, none⟩ = some (.int .i64 i2) ∧ W.cell? ⟨w.heap.size, 2, none⟩ = some (.int .i64 i3))
  (first | exact hS.out _ (.inl rfl) | exact hS.out _ (.inr rfl)) (fail)
 go_wp2_with fail
 go_ret
 exact hP.out
end
def agCut (A : AgD) (k : Nat) (ds : List DeltaD) : Bool × AgD :=
 if 16 ≤ (A.bk.q k).l.length ∨ (A.bk.q k).last = 9223372036854775807 ∨ waCode (recB k ⟨(A.bk.q k).last + 1, ds⟩) A.b ≠ 0 then (false, A)
 else (true, { A with b := A.b ++ frameL (recB k ⟨(A.bk.q k).last + 1, ds⟩), n := A.n + 1, bk := addB A.bk k ⟨(A.bk.q k).last + 1, ds⟩ })
section
variable {w w' : World} {M M' : List Nat} {tg tg' : Nat → Nat} {a d : Nat} {A : AgD} {C : AgC} {T : List Nat}
set_option maxRecDepth 100000 in
set_option maxHeartbeats 1000000 in
theorem agcut_any (h : AgAt w M tg a d A) (hM : ∀ g ∈ M, g < w.heap.size) (k : Nat) (hk : k < 4) (ds : List DeltaD) (dv : Value) (hd : Ds w M dv ds) (hn : ∀ x ∈ ds, SaOk x) (hl : ds.length ≤ 8) (hcu : A.bk.cuts.length ≤ 100000000) :
    Calls Tryz.prog 64 #[.pointer (some ⟨a, 0, none⟩), .int .i64 k, dv] w fun e w' => AaPost M tg a d (agCut A k ds).2 (.bool (agCut A k ds).1) w e w' := by
  have HA := Lib.hid h; have HM := Lib.hid hM
  obtain ⟨ho, C, hCd, hv⟩ := h
  obtain ⟨Ad, cd, rfl, hcd⟩ := hd.len
  have hac : agCut A k ds = if 16 ≤ (A.bk.q k).l.length ∨ (A.bk.q k).last = 9223372036854775807 ∨ waCode (recB k ⟨(A.bk.q k).last + 1, ds⟩) A.b ≠ 0 then (false, A)
    else (true, { A with b := A.b ++ frameL (recB k ⟨(A.bk.q k).last + 1, ds⟩), n := A.n + 1, bk := addB A.bk k ⟨(A.bk.q k).last + 1, ds⟩ }) := rfl
  obtain ⟨hbo, vs, vc, qb, hbk⟩ := hv.bk
  have hqk := hbk.q k hk
  have hqc := hbk.qCell hk
  have hl16 := hqk.1.1; have hla0 := hqk.1.2.1; have hla1 := hqk.1.2.2.1
  have hlast := Lib.hid (fun W (hk' : Keeps [] w W) => qlast_any (hqk.keep0 hM hk'))
  have hlen := Lib.hid (fun W (hk' : Keeps [] w W) => qlen_any (hqk.keep0 hM hk'))
  obtain ⟨-, -, c2, c3, -, -, -, -, -, hal⟩ := agcells hv
  have Hv := Lib.hid hv; have Ho := Lib.hid ho; have HC := Lib.hid hCd; have Hd := Lib.hid hd; have Hn := Lib.hid hn
  have hki : (k : Int) < 4 := by omega
  have hk0 : (0 : Int) ≤ (k : Int) := by omega
  clear hv ho hCd hd hn hbo hbk hqk
  by_cases hmax : (A.bk.q k).last = 9223372036854775807
  · rw [if_pos (.inr (.inl hmax))] at hac
    obtain ⟨w0, hw0⟩ : ∃ w0, w0 = w.alloc (.cells #[.int .i64 (wrap64 9223372036854775808), .slice Ad ds.length cd] 136) := ⟨_, rfl⟩
    have Hk00 : Hid (Keeps [] w w0) := by rw [hw0]; exact (Keeps.refl _ _).alloc _
    have hP : Hid (∀ n, AaPost M tg a d (agCut A k ds).2 (.bool (agCut A k ds).1) w (.returned (.bool false)) (w0.drewN n)) := fun n => by rw [hac]; exact aa_same HA.out HM.out (Hk00.out.drewN n) _
    rw [hmax] at hlast
    clear hac hla0 hla1 hmax
    by_cases h16 : 16 ≤ (A.bk.q k).l.length
    · have d16 : decide ((16 : Int) ≤ ((A.bk.q k).l.length : Int)) = true := decide_eq_true (by omega)
      clear h16
      generalize (A.bk.q k).l.length = ln at *
      go_enter Tryz.func64, Tryz.ntmps64
      go_wp2_with fail
      refine (hlast.out w (Keeps.refl _ _)).mono ?_
      rintro e w1 ⟨rfl, rfl⟩
      go_upto_region 3 with (fail)
      rw [← hw0]
      clear hw0
      go_quiet ((go_at_call 113; exact Calls.quiet_of_same ((hlen.out _ (by first | exact Hk00.out.drewN _ | exact Hk00.out)).mono fun _ _ ⟨h1, h2⟩ => ⟨h1, h2.symm⟩)))
      go_wp2
      go_ret
      exact hP.out _
    · have d16 : decide ((16 : Int) ≤ ((A.bk.q k).l.length : Int)) = false := decide_eq_false (by omega)
      clear h16
      generalize (A.bk.q k).l.length = ln at *
      go_enter Tryz.func64, Tryz.ntmps64
      go_wp2_with fail
      refine (hlast.out w (Keeps.refl _ _)).mono ?_
      rintro e w1 ⟨rfl, rfl⟩
      go_upto_region 3 with (fail)
      rw [← hw0]
      clear hw0
      go_quiet (first
        | (go_at_call 113; exact Calls.quiet_of_same ((hlen.out _ (by first | exact Hk00.out.drewN _ | exact Hk00.out)).mono fun _ _ ⟨h1, h2⟩ => ⟨h1, h2.symm⟩))
        | (go_at_call 65; exact Calls.quiet_of_same ((hlast.out _ (by first | exact Hk00.out.drewN _ | exact Hk00.out)).mono fun _ _ ⟨h1, h2⟩ => ⟨h1, h2.symm⟩)))
      go_wp2
      go_ret
      exact hP.out _
  · have hwl : IntKind.i64.wrap ((A.bk.q k).last + 1) = (A.bk.q k).last + 1 := by rw [IntKind.wrap_i64]; omega
    have dmax : ((A.bk.q k).last == 9223372036854775807) = false := by simpa using hmax
    have HE : Hid (∀ W, Keeps [] w W → ∃ W1, W1 = W.alloc (.cells #[.int .i64 ((A.bk.q k).last + 1), .slice Ad ds.length cd] 136) ∧ Keeps [] w W1) := fun W hk' => ⟨_, rfl, hk'.alloc _⟩
    obtain ⟨w0, hw0⟩ : ∃ w0, w0 = w.alloc (.cells #[.int .i64 ((A.bk.q k).last + 1), .slice Ad ds.length cd] 136) := ⟨_, rfl⟩
    have hk00 : Keeps [] w w0 := by rw [hw0]; exact (Keeps.refl _ _).alloc _
    have hB0 : Blk w0 w.heap.size 136 #[.int .i64 ((A.bk.q k).last + 1), .slice Ad ds.length cd] := by rw [hw0]; exact Blk.new w _ _
    have Hk00 := Lib.hid hk00; have HB0 := Lib.hid hB0
    clear HE hk00 hB0
    by_cases h16 : 16 ≤ (A.bk.q k).l.length
    · rw [if_pos (.inl h16)] at hac
      have hP : Hid (∀ n, AaPost M tg a d (agCut A k ds).2 (.bool (agCut A k ds).1) w (.returned (.bool false)) (w0.drewN n)) := fun n => by rw [hac]; exact aa_same HA.out HM.out (Hk00.out.drewN n) _
      have d16 : decide ((16 : Int) ≤ ((A.bk.q k).l.length : Int)) = true := decide_eq_true (by omega)
      clear hac hmax h16
      generalize (A.bk.q k).l.length = ln at *
      generalize (A.bk.q k).last = la at *
      go_enter Tryz.func64, Tryz.ntmps64
      go_wp2_with fail
      refine (hlast.out w (Keeps.refl _ _)).mono ?_
      rintro e w1 ⟨rfl, rfl⟩
      go_upto_region 3 with (fail)
      rw [← hw0]
      clear hw0
      go_quiet ((go_at_call 113; exact Calls.quiet_of_same ((hlen.out _ (by first | exact Hk00.out.drewN _ | exact Hk00.out)).mono fun _ _ ⟨h1, h2⟩ => ⟨h1, h2.symm⟩)))
      go_wp2
      go_ret
      exact hP.out _
    · have d16 : decide ((16 : Int) ≤ ((A.bk.q k).l.length : Int)) = false := decide_eq_false (by omega)
      have hor : ∀ c : Int, waCode (recB k ⟨(A.bk.q k).last + 1, ds⟩) A.b = c → (16 ≤ (A.bk.q k).l.length ∨ (A.bk.q k).last = 9223372036854775807 ∨ waCode (recB k ⟨(A.bk.q k).last + 1, ds⟩) A.b ≠ 0 ↔ c ≠ 0) := fun c hc => by
        rw [hc]
        constructor
        · rintro (h | h | h)
          · exact absurd h h16
          · exact absurd h hmax
          · exact h
        · exact fun h => .inr (.inr h)
      have Hv0 := Lib.hid (Hv.out.keep0 HM.out Hk00.out)
      have HM0 : Hid (∀ g ∈ M, g < w0.heap.size) := fun g hg => Nat.lt_of_lt_of_le (HM.out g hg) Hk00.out.size
      have Hpb : Hid (w.heap.size ∉ C.p :: C.Y) := fun hm => by have := HM.out _ (Hv.out.inP _ hm); omega
      have hS : Hid (∀ W, Keeps (C.p :: C.Y) w0 W → W.cell? ⟨a, 2, none⟩ = some (.pointer (some ⟨C.p, 0, none⟩)) ∧ W.cell? ⟨w.heap.size, 0, none⟩ = some (.int .i64 ((A.bk.q k).last + 1)) ∧ W.cell? ⟨w.heap.size, 1, none⟩ = some (.slice Ad ds.length cd)) := fun W hk' => by
        have h1 := hk'.blk HB0.out Hpb.out
        have h2 := hk'.blk Hv0.out.blk Hv0.out.apart
        exact ⟨h2.cell 2, h1.cell 0, h1.cell 1⟩
      have hsz : (ds.flatMap dBytes).length ≤ 100000000000 := by
        have : ∀ l : List DeltaD, (∀ x ∈ l, SaOk x) → (l.flatMap dBytes).length ≤ l.length * 65600 := by
          intro l
          induction l with
          | nil => intro _; simp
          | cons x l ih =>
            intro hx
            have h1 := hx x (by simp)
            have h2 := ih (fun y hy => hx y (by simp [hy]))
            have h3 := uv_len x.ser.size (by have := h1.2; omega)
            have h4 := uv_len x.n.toNat (by have := h1.1.2; omega)
            have h5 : (dBytes x).length = (Lib.uvarint x.ser.size).length + x.ser.size + (Lib.uvarint x.n.toNat).length := by unfold dBytes sB; simp; omega
            have h6 := h1.2
            simp only [List.flatMap_cons, List.length_append, List.length_cons]
            omega
        have := this ds Hn.out
        omega
      have hrec : Hid (∀ W, Keeps [] w0 W → Calls Tryz.prog 114 #[.int .i64 k, .agg #[.int .i64 ((A.bk.q k).last + 1), .slice Ad ds.length cd]] W fun e w' => ∃ Ar n, e = .returned (.slice Ar n n) ∧ Bs w' [] (.slice Ar n n) (recB k ⟨(A.bk.q k).last + 1, ds⟩) ∧ Below W.heap.size W w') := fun W hk' =>
        (bkbatch_any k ⟨(A.bk.q k).last + 1, ds⟩ (.slice Ad ds.length cd) W (((Hd.out.keep Hk00.out (by simp)).keep hk' (by simp)).avoid (by simp)) (by omega) (by show 0 ≤ (A.bk.q k).last + 1; omega) (by show (A.bk.q k).last + 1 ≤ _; omega) (fun x hx => (Hn.out x hx).1) (by show ds.length ≤ _; omega) hsz).mono fun e w' h => rec_post_val h
      have happ : Hid (∀ W v, Keeps [] w0 W → Bs W [] v (recB k ⟨(A.bk.q k).last + 1, ds⟩) → Calls Tryz.prog 60 #[.pointer (some ⟨C.p, 0, none⟩), v] W fun e w' => WxPost C.p C.Y C.d A.b (recB k ⟨(A.bk.q k).last + 1, ds⟩) A.k A.n false W e w') := fun W v hk' hb => wappendx_any C.p C.Y C.d A.k A.n A.b W (Hv0.out.keep0 HM0.out hk').lg v _ hb
      have hlast0 : Hid (∀ W, Keeps [] w0 W → Calls Tryz.prog 65 #[.pointer (some ⟨qb k, 0, none⟩)] W fun e w' => e = .returned (.int .i64 (A.bk.q k).last) ∧ W = w') := fun W hk' => hlast.out W (Hk00.out.trans hk' (by simp))
      have hlen0 : Hid (∀ W, Keeps [] w0 W → Calls Tryz.prog 113 #[.pointer (some ⟨qb k, 0, none⟩)] W fun e w' => e = .returned (.int .i64 (A.bk.q k).l.length) ∧ W = w') := fun W hk' => hlen.out W (Hk00.out.trans hk' (by simp))
      have Hk01 : Hid (Keeps [] w0 w0) := Keeps.refl _ _
      have hla1' : (A.bk.q k).last + 1 ≤ 9223372036854775807 := by omega
      by_cases hz : waCode (recB k ⟨(A.bk.q k).last + 1, ds⟩) A.b = 0
      · rw [if_neg (fun h => ((hor _ rfl).1 h) hz)] at hac
        have hgood : Hid (∀ W e W', WxPost C.p C.Y C.d A.b (recB k ⟨(A.bk.q k).last + 1, ds⟩) A.k A.n false W e W' → e = .returned (.int .i64 0) ∧ ∃ Y', LgAt W' C.p Y' C.d (A.b ++ frameL (recB k ⟨(A.bk.q k).last + 1, ds⟩)) A.k (A.n + 1) ∧ Grows C.Y W Y' ∧ Keeps (C.p :: C.Y) W W') := fun W e W' h => by
          refine ⟨by rw [← hz]; exact h.1, ?_⟩
          rcases h.2 with ⟨_, h⟩ | ⟨h1, _⟩
          · exact h
          · exact absurd hz h1
        have Hac := Lib.hid hac
        clear hac hz hor hsz
        have hd0 : Hid (Ds w0 M (.slice Ad ds.length cd) ds) := Hd.out.keep Hk00.out (by simp)
        have hadd : Hid (∀ W M' tg', BkAt W M' tg' C.s A.bk → (∀ g ∈ M', g < W.heap.size) → Ds W M' (.slice Ad ds.length cd) ds → Calls Tryz.prog 115 #[.pointer (some ⟨C.s, 0, none⟩), .int .i64 k, .agg #[.int .i64 ((A.bk.q k).last + 1), .slice Ad ds.length cd]] W fun e w' => BaPost M' tg' C.s (addB A.bk k ⟨(A.bk.q k).last + 1, ds⟩) W e w') := fun W M' tg' h1 h2 h3 => badd_any h1 h2 k hk ⟨(A.bk.q k).last + 1, ds⟩ (.slice Ad ds.length cd) h3 hla1' Hn.out (by show ds.length ≤ _; omega) hcu
        have hcut2 : Hid ((addB A.bk k ⟨(A.bk.q k).last + 1, ds⟩).cuts.length ≤ A.n + 1) := by
          have h1 := addB_cuts A.bk k ⟨(A.bk.q k).last + 1, ds⟩
          have h2 := Ho.out.2.2.2.2.2.2.1
          exact Nat.le_trans h1 (by omega)
        have hep : Hid ((addB A.bk k ⟨(A.bk.q k).last + 1, ds⟩).ep = A.bk.ep) := by show _ = _; unfold addB; split <;> rfl
        generalize recB k ⟨(A.bk.q k).last + 1, ds⟩ = R at *
        generalize addB A.bk k ⟨(A.bk.q k).last + 1, ds⟩ = B2 at *
        generalize (A.bk.q k).l.length = ln at *
        generalize (A.bk.q k).last = la at *
        go_enter Tryz.func64, Tryz.ntmps64
        go_wp2_with fail
        refine (hlast.out w (Keeps.refl _ _)).mono ?_
        rintro e w1 ⟨rfl, rfl⟩
        go_upto_region 3 with (fail)
        rw [← hw0]
        clear hw0
        go_region_held3 (fun W => W.cell? ⟨a, 2, none⟩ = some (.pointer (some ⟨C.p, 0, none⟩)) ∧ W.cell? ⟨w.heap.size, 0, none⟩ = some (.int .i64 (la + 1)) ∧ W.cell? ⟨w.heap.size, 1, none⟩ = some (.slice Ad ds.length cd))
          ((refine hS.out _ ?_; first | (with_reducible exact Hk3.out) | (with_reducible exact Hk2.out.mono (by simp)) | (with_reducible exact Hk01.out.drew.mono (by simp))))
          (first
            | (go_at_call 113
               with_reducible refine (hlen0.out _ Hk01.out.drew).mono ?_
               rintro e w9 ⟨rfl, rfl⟩)
            | (go_at_call 65
               with_reducible refine (hlast0.out _ Hk01.out.drew).mono ?_
               rintro e w9 ⟨rfl, rfl⟩)
            | (go_at_call 114
               with_reducible refine (hrec.out _ Hk01.out.drew).mono ?_
               rintro e w2 ⟨Ar, m, rfl, hb2, hk2⟩
               have Hk2 : Hid (Keeps [] w0 w2) := Keeps.trans ((Keeps.refl [] w0).drew) (Keeps.of_below (M := []) hk2) (by simp)
               have Hb2 := Lib.hid hb2
               clear hb2 hk2)
            | (go_at_call 60
               with_reducible refine (happ.out _ _ Hk2.out Hb2.out).mono ?_
               intro e w3 hpo
               obtain ⟨rfl, hg⟩ := hgood.out _ _ _ hpo
               have Hk3 : Hid (Keeps (C.p :: C.Y) w0 w3) := (Hk2.out.mono (by simp)).trans (wx_keep hpo) (fun g hg => .inl hg)
               have Hgd := Lib.hid hg
               clear hpo hg))
        all_goals
          obtain ⟨Y', hlg, hgr, hk23⟩ := Hgd.out
          have hv2 := Hv0.out.keep0 HM0.out Hk2.out
          have hM2 : ∀ g ∈ M, g < w2.heap.size := fun g hg => Nat.lt_of_lt_of_le (HM0.out g hg) Hk2.out.size
          obtain ⟨M3, tg3, hv3, hx3, hkp3⟩ := hv2.setLg hM2 hlg hgr hk23
          have hd3 : Ds w3 M3 (.slice Ad ds.length cd) ds := hx3.ds hkp3 (hd0.out.keep Hk2.out (by simp))
          have hB3 : Blk w3 w.heap.size 136 #[.int .i64 (la + 1), .slice Ad ds.length cd] := Hk3.out.blk HB0.out Hpb.out
          have hadd3 := Lib.hid (fun W (hk' : Keeps [] w3 W) => hadd.out W M3 tg3 (hv3.bk.keep0 hx3.lt hk') (fun g hg => Nat.lt_of_lt_of_le (hx3.lt g hg) hk'.size) (hd3.keep hk' (by simp)))
          have hS3 : Hid (∀ W, (W = w3.drew ∨ BaPost M3 tg3 C.s B2 w3.drew (.returned (.tuple #[])) W) → W.cell? ⟨a, 3, none⟩ = some (.pointer (some ⟨C.s, 0, none⟩)) ∧ W.cell? ⟨w.heap.size, 0, none⟩ = some (.int .i64 (la + 1)) ∧ W.cell? ⟨w.heap.size, 1, none⟩ = some (.slice Ad ds.length cd)) := fun W hW => by
            have hbl : w.heap.size ∉ M3 := fun hm => by
              rcases hx3.new _ hm with h | h
              · have := HM.out _ h; omega
              · have := Hk2.out.size; have := HB0.out.lt; omega
            rcases hW with rfl | hW
            · exact ⟨(agcells hv3).2.2.2.1, hB3.cell 0, hB3.cell 1⟩
            · obtain ⟨_, _, _, _, _, hk9⟩ := hW
              have h1 := hk9.blk (show Blk w3.drew w.heap.size _ _ from hB3) (fun hm => hbl (mem_sel.1 hm).1)
              have h2 := hk9.blk (show Blk w3.drew a _ _ from hv3.blk) (fun hm => by have h3 := (mem_sel.1 hm).2; rw [hv3.ta] at h3; simp at h3)
              exact ⟨h2.cell 3, h1.cell 0, h1.cell 1⟩
          have hval : Hid (∀ e W, BaPost M3 tg3 C.s B2 w3.drew e W → e = .returned (.tuple #[]) ∧ BaPost M3 tg3 C.s B2 w3.drew (.returned (.tuple #[])) W) := fun e W h => by
            have h1 := h.1
            subst h1
            exact ⟨rfl, h⟩
          have hfin : Hid (∀ W, BaPost M3 tg3 C.s B2 w3.drew (.returned (.tuple #[])) W → AaPost M tg a d (agCut A k ds).2 (.bool (agCut A k ds).1) w (.returned (.bool true)) W) := fun W h => by
            obtain ⟨_, M5, tg5, hb5, hx5, hk5⟩ := h
            have hx5' : Ext w3 M3 tg3 W M5 tg5 := ⟨hx5.sub, hx5.new, hx5.tag, hx5.old, hx5.lt⟩
            have hk5' : Keeps (sel M3 tg3 (List.range 20)) w3 W := Keeps.trans ((Keeps.refl _ _).drew) hk5 (fun g hg => .inl hg)
            have hag := hv3.rest hx5' hk5' (by simp) hb5
            have hkw2 : Keeps [] w w2 := Hk00.out.trans Hk2.out (by simp)
            have hx23 : Ext w M tg w3 M3 tg3 := (Ext.refl (w' := w2) HM.out hkw2.size).trans hx3 hkw2.size
            rw [Hac.out]
            refine ⟨rfl, M5, tg5, ⟨?_, { C with Y := Y' }, HC.out, hag⟩, hx23.trans hx5' (Nat.le_trans hkw2.size hkp3.size), ?_⟩
            · obtain ⟨p1, p2, p3, p4, p5, p6, p7, p8, p9, p10, p11⟩ := Ho.out
              refine ⟨p1, p2, p3, p4, ?_, ?_, hcut2.out, p8, p9, ?_, p11⟩
              · show 1 ≤ B2.ep; rw [hep.out]; exact p5
              · show B2.ep * 4294967296 ≤ A.tag ∧ A.tag ≤ B2.ep * 4294967296 + _; rw [hep.out]; exact p6
              · intro p hp
                show B2.ep * 4294967296 < p.1 ∧ _
                rw [hep.out]; exact p10 p hp
            · exact Ext.keeps hx23 ((hkw2.to_sel (by simp)).trans (hkp3.sel_mono (T' := List.range 30) (by simp)) (fun g hg => .inl hg)) (hk5'.sel_mono (by simp; omega))
          clear hlg hgr hk23 hv2 hv3 hx3 hkp3 hd3 hB3 hM2
          go_upto_region 5 with (fail)
          go_region_held3 (fun W => W.cell? ⟨a, 3, none⟩ = some (.pointer (some ⟨C.s, 0, none⟩)) ∧ W.cell? ⟨w.heap.size, 0, none⟩ = some (.int .i64 (la + 1)) ∧ W.cell? ⟨w.heap.size, 1, none⟩ = some (.slice Ad ds.length cd))
            (first | exact hS3.out _ (.inl rfl) | exact hS3.out _ (.inr Hp5.out))
            (first
              | (go_at_call 115
                 with_reducible refine (hadd3.out _ ((Keeps.refl _ _).drew)).mono ?_
                 intro e w5 hp5
                 obtain ⟨rfl, hp5'⟩ := hval.out _ _ hp5
                 have Hp5 := Lib.hid hp5'
                 clear hp5 hp5'))
          have HR := Lib.hid (hfin.out _ Hp5.out)
          go_wp2
          go_ret
          exact HR.out
      · rw [if_pos ((hor _ rfl).2 hz)] at hac
        have hP : Hid (∀ W, Keeps [] w W → AaPost M tg a d (agCut A k ds).2 (.bool (agCut A k ds).1) w (.returned (.bool false)) W) := fun W hk' => by rw [hac]; exact aa_same HA.out HM.out hk' _
        have hbad : Hid (∀ W e W', WxPost C.p C.Y C.d A.b (recB k ⟨(A.bk.q k).last + 1, ds⟩) A.k A.n false W e W' → e = .returned (.int .i64 (waCode (recB k ⟨(A.bk.q k).last + 1, ds⟩) A.b)) ∧ Keeps [] W W') := fun W e W' h => by
          refine ⟨h.1, ?_⟩
          rcases h.2 with ⟨h1, _⟩ | ⟨_, h3⟩
          · exact absurd h1 hz
          · exact h3
        have hne : (waCode (recB k ⟨(A.bk.q k).last + 1, ds⟩) A.b != 0) = true := by simpa using hz
        clear hac hz hor hmax h16 hsz
        generalize recB k ⟨(A.bk.q k).last + 1, ds⟩ = R at *
        generalize waCode R A.b = cw at *
        generalize (A.bk.q k).l.length = ln at *
        generalize (A.bk.q k).last = la at *
        go_enter Tryz.func64, Tryz.ntmps64
        go_wp2_with fail
        refine (hlast.out w (Keeps.refl _ _)).mono ?_
        rintro e w1 ⟨rfl, rfl⟩
        go_upto_region 3 with (fail)
        rw [← hw0]
        clear hw0
        go_region_held3 (fun W => W.cell? ⟨a, 2, none⟩ = some (.pointer (some ⟨C.p, 0, none⟩)) ∧ W.cell? ⟨w.heap.size, 0, none⟩ = some (.int .i64 (la + 1)) ∧ W.cell? ⟨w.heap.size, 1, none⟩ = some (.slice Ad ds.length cd))
          ((refine hS.out _ ?_; first | (with_reducible exact Hk3.out.mono (by simp)) | (with_reducible exact Hk2.out.mono (by simp)) | (with_reducible exact Hk01.out.drew.mono (by simp))))
          (first
            | (go_at_call 113
               with_reducible refine (hlen0.out _ Hk01.out.drew).mono ?_
               rintro e w9 ⟨rfl, rfl⟩)
            | (go_at_call 65
               with_reducible refine (hlast0.out _ Hk01.out.drew).mono ?_
               rintro e w9 ⟨rfl, rfl⟩)
            | (go_at_call 114
               with_reducible refine (hrec.out _ Hk01.out.drew).mono ?_
               rintro e w2 ⟨Ar, m, rfl, hb2, hk2⟩
               have Hk2 : Hid (Keeps [] w0 w2) := Keeps.trans ((Keeps.refl [] w0).drew) (Keeps.of_below (M := []) hk2) (by simp)
               have Hb2 := Lib.hid hb2
               clear hb2 hk2)
            | (go_at_call 60
               with_reducible refine (happ.out _ _ Hk2.out Hb2.out).mono ?_
               intro e w3 hpo
               obtain ⟨rfl, hg⟩ := hbad.out _ _ _ hpo
               have Hk3 : Hid (Keeps [] w0 w3) := Hk2.out.trans hg (by simp)
               clear hpo hg))
        all_goals
          have HR := Lib.hid (hP.out _ (Hk00.out.trans Hk3.out (by simp)))
          go_wp2
          go_ret
          exact HR.out
end
/-- The chunks of one shard: true: it broke off. -/
def chunksC : Nat → AgD → Nat → List DeltaD → List (Int × Int × Int) → Bool × AgD × List (Int × Int × Int)
 | 0, A, _, _, out => (false, A, out)
 | f + 1, A, k, l, out =>
  if l.length = 0 then (false, A, out)
  else if (agCut A k (l.take 8)).1 = true then chunksC f (agCut A k (l.take 8)).2 k (l.drop 8) (out ++ [(A.node, (k : Int), ((agCut A k (l.take 8)).2.bk.q k).last)])
  else (true, A, out)
def shardL (A : AgD) (k : Nat) : List DeltaD := A.bk.sa.filter fun x => shardS x.ser A.bk.sh == k
def cutAll : Nat → Nat → AgD → List (Int × Int × Int) → AgD × List (Int × Int × Int)
 | 0, _, A, out => (A, out)
 | j + 1, k, A, out =>
  if (chunksC 8 A k (joinD (shardL A k)) out).1 = true then (chunksC 8 A k (joinD (shardL A k)) out).2
  else cutAll j (k + 1) (chunksC 8 A k (joinD (shardL A k)) out).2.1 (chunksC 8 A k (joinD (shardL A k)) out).2.2
def agCutAll (A : AgD) : AgD × List (Int × Int × Int) :=
 if (cutAll A.bk.sh.toNat 0 A []).2.length = 0 then cutAll A.bk.sh.toNat 0 A [] else ({ (cutAll A.bk.sh.toNat 0 A []).1 with k := (cutAll A.bk.sh.toNat 0 A []).1.b.length }, (cutAll A.bk.sh.toNat 0 A []).2)
structure CutSt (w : World) (M : List Nat) (tg : Nat → Nat) (a d : Nat) (A : AgD) (out : List (Int × Int × Int)) (ov : Value) (wx : World) (Mk : List Nat) (tgk : Nat → Nat) : Prop where
 ag : AgAt wx Mk tgk a d A
 x : Ext w M tg wx Mk tgk
 k : Keeps (sel M tg (List.range 30)) w wx
 row : wx.ownsRow w.heap.size 30 3 ov out.length (out.flatMap idCell)
 far : ∀ g, ov.ownBlock = some g → g ∈ Mk ∧ tgk g = 99
def CutEnd (w : World) (M : List Nat) (tg : Nat → Nat) (a d : Nat) (R : AgD × List (Int × Int × Int)) (ov : Value) (wx : World) : Prop := R.2.length ≤ 1000 ∧ ∃ Mk tgk, CutSt w M tg a d R.1 R.2 ov wx Mk tgk
def CiPost (M : List Nat) (tg : Nat → Nat) (a d : Nat) (R : AgD × List (Int × Int × Int)) (w : World) (e : Ending) (w' : World) : Prop :=
 ∃ v, e = .returned v ∧ w'.ownsRow w.heap.size 30 3 v R.2.length (R.2.flatMap idCell) ∧ ∃ M' tg', AgAt w' M' tg' a d R.1 ∧ Ext w M tg w' M' tg' ∧ Keeps (sel M tg (List.range 30)) w w' ∧ ∀ g, v.ownBlock = some g → g ∈ M' ∧ tg' g = 99
theorem addD_ok {acc : List DeltaD} {x : DeltaD} (h : ∀ y ∈ acc, SaOk y) (hx : SaOk x) : ∀ y ∈ addD acc x, SaOk y := by
 intro y hy
 unfold addD at hy
 split at hy
 ·rcases List.mem_append.1 hy with h1 | h1
  ·exact h y h1
  ·simp at h1; subst h1; exact hx
 ·rename_i hlt
  rcases List.mem_or_eq_of_mem_set hy with h1 | h1
  ·exact h y h1
  ·subst h1
   rcases ixD_cases acc x.ser with ⟨h2, _⟩ | ⟨i, hi, h2, _⟩
   ·rw [h2] at hlt; omega
   ·have hin : (ixD acc x.ser).toNat = i := by rw [h2]; simp
    rw [hin, getElem!_pos acc i hi]
    refine ⟨⟨by show (0 : Int) ≤ ((addS _ _ : Nat) : Int); omega, ?_⟩, (h _ (List.getElem_mem hi)).2⟩
    have := addS_lt acc[i].n.toNat x.n.toNat
    show ((addS acc[i].n.toNat x.n.toNat : Nat) : Int) < _
    omega
theorem joinD_ok {l : List DeltaD} (h : ∀ y ∈ l, SaOk y) : ∀ y ∈ joinD l, SaOk y := by
 have : ∀ (l acc : List DeltaD), (∀ y ∈ l, SaOk y) → (∀ y ∈ acc, SaOk y) → ∀ y ∈ l.foldl addD acc, SaOk y := by
  intro l
  induction l with
  | nil => intro acc _ h2; exact h2
  | cons x l ih => intro acc h1 h2; exact ih _ (fun y hy => h1 y (by simp [hy])) (addD_ok h2 (h1 x (by simp)))
 exact this l [] h (by simp)
theorem joinD_len (l : List DeltaD) : (joinD l).length ≤ l.length := by
 have := take_fold_len l []
 simpa [joinD] using this
theorem agCut_false {A : AgD} {k : Nat} {ds : List DeltaD} (h : (agCut A k ds).1 = false) : (agCut A k ds).2 = A := by
 unfold agCut at h ⊢
 split
 ·rfl
 ·rename_i hn
  rw [if_neg hn] at h
  cases h
theorem chunks_nil (f : Nat) (A : AgD) (k : Nat) (out : List (Int × Int × Int)) : chunksC f A k [] out = (false, A, out) := by
 cases f <;> simp [chunksC]
theorem agCut_sh (A : AgD) (k : Nat) (ds : List DeltaD) : (agCut A k ds).2.bk.sh = A.bk.sh := by
 unfold agCut
 split
 ·rfl
 ·show (addB A.bk k _).sh = _
  unfold addB
  split <;> rfl
section
variable {w w' wx wy : World} {M M' Mk My : List Nat} {tg tg' tgk tgy : Nat → Nat} {a d : Nat} {A B : AgD} {C : AgC} {T : List Nat} {out : List (Int × Int × Int)} {ov : Value}
theorem AgAt.cuts (h : AgAt w M tg a d A) : A.bk.cuts.length ≤ 1048576 := by
 obtain ⟨ho, C, _, hv⟩ := h
 have h1 := ho.2.2.2.2.2.2.1
 have h2 := hv.lg.2.2.2
 have h3 := hv.lg.2.1.le.2
 omega
theorem CutSt.step (h : CutSt w M tg a d A out ov wx Mk tgk) (hx : Ext wx Mk tgk wy My tgy) (hk : Keeps (sel Mk tgk (List.range 30)) wx wy) (ha : AgAt wy My tgy a d B) : CutSt w M tg a d B out ov wy My tgy := by
 refine ⟨ha, h.x.trans hx h.k.size, Ext.keeps h.x h.k hk, row_other hk h.row (fun g hg => by rw [(h.far g hg).2]; simp), fun g hg => ?_⟩
 obtain ⟨h1, h2⟩ := h.far g hg
 exact ⟨hx.sub g h1, (hx.tag g (hx.old g h1)).trans h2⟩
theorem CutSt.keep0 (h : CutSt w M tg a d A out ov wx Mk tgk) (hk : Keeps [] wx wy) : CutSt w M tg a d A out ov wy Mk tgk :=
 h.step (Ext.refl h.x.lt hk.size) (hk.to_sel (by simp)) (h.ag.keep0 h.x.lt hk)
theorem AgV.keepT (h : AgV w M tg a A C) (x : Ext w M tg w' M' tg') (kp : Keeps (sel M tg T) w w') (hT : ∀ t ∈ T, 30 ≤ t) : AgV w' M' tg' a A C := by
 have n : ∀ {t}, t < 30 → t ∉ T := fun {t} h1 h2 => by have := hT t h2; omega
 exact ⟨blk_other kp h.blk (by rw [h.ta]; exact n (by omega)), x.sub _ h.aM, by rw [x.tag _ (x.old _ h.aM)]; exact h.ta, h.bk.keep x kp (fun t ht => by have := hT t ht; omega), lg_other kp h (n (by omega)) (n (by omega)), x.sub _ h.pM, by rw [x.tag _ (x.old _ h.pM)]; exact h.tp,
  fun g hg => ⟨x.sub _ (h.yM g hg).1, by rw [x.tag _ (x.old _ (h.yM g hg).1)]; exact (h.yM g hg).2⟩, map_other kp h.tr (by rw [h.ttb]; exact n (by omega)), x.sub _ h.tbM, by rw [x.tag _ (x.old _ h.tbM)]; exact h.ttb,
  map_other kp h.as_ (by rw [h.tab]; exact n (by omega)), x.sub _ h.abM, by rw [x.tag _ (x.old _ h.abM)]; exact h.tab, h.trD, h.asD, h.nt, h.na⟩
theorem CutSt.put {out' : List (Int × Int × Int)} {ov' : Value} (h : CutSt w M tg a d A out ov wx Mk tgk) (hk : Keeps ov.ownBlock.toList wx wy) (hrow : wy.ownsRow w.heap.size 30 3 ov' out'.length (out'.flatMap idCell)) (hat : ov'.ownBlock = ov.ownBlock ∨ ∃ g, ov'.ownBlock = some g ∧ wx.heap.size ≤ g) :
  ∃ My tgy, CutSt w M tg a d A out' ov' wy My tgy ∧ Ext wx Mk tgk wy My tgy ∧ Keeps (sel Mk tgk [99]) wx wy := by
 have hks : Keeps (sel Mk tgk [99]) wx wy := hk.to_sel (fun g hg => .inl (by have := h.far g (by simpa using hg); simp [this.1, this.2]))
 have hx : Ext wx Mk tgk wy (ov'.ownBlock.toList ++ Mk) (fun x => if ov'.ownBlock = some x then 99 else tgk x) := Ext.add h.x.lt hks.size _ _ (fun g hg => by
  refine ⟨?_, (hrow.lt g hg).2⟩
  rcases hat with h1 | ⟨g', h1, h2⟩
  ·exact .inl (h.far g (by rw [← h1, hg]))
  ·rw [h1] at hg; injection hg with hg; subst hg; exact .inr h2)
 obtain ⟨ho, C, hC, hv⟩ := h.ag
 exact ⟨_, _, ⟨⟨ho, C, hC, hv.keepT hx hks (by simp)⟩, h.x.trans hx h.k.size, h.k.trans hk (fun g hg => .inr (h.row.lt g (by simpa using hg)).1), hrow, fun g hg => ⟨List.mem_append_left _ (by simpa using hg), by simp [hg]⟩⟩, hx, hks⟩
theorem Ds.tail {v : World} {L : List Nat} {Av : Option Addr} {c : Nat} {l : List DeltaD} (h : Ds v L (.slice Av l.length c) l) (n : Nat) (hn : n ≤ l.length) : Ds v L (.slice (if c = n then Av else Av.map (·.add (n * 2))) (l.length - n) (c - n)) (l.drop n) := by
 obtain ⟨A', c', e, hcc, hl, hr⟩ := h
 injection e with e1 _ e3
 subst e1 e3
 show Rd _ _ _ _ (l.drop n).length _
 rw [List.length_drop]
 refine ⟨_, c - n, rfl, by omega, by rw [dCells_len, List.length_drop], fun h0 => ?_⟩
 obtain ⟨g, off, rfl, hg, hm, hx⟩ := hr (by omega)
 rw [if_neg (by omega)]
 refine ⟨g, off + n * 2, by simp [addr_add], hg, hm, fun j u hu => ?_⟩
 rw [Nat.add_assoc]
 refine hx (n * 2 + j) u ?_
 have hs : dCells l = dCells (l.take n) ++ dCells (l.drop n) := by unfold dCells; rw [← List.flatMap_append, List.take_append_drop]
 rw [hs, List.getElem?_append_right (by rw [dCells_len, List.length_take]; omega), dCells_len, List.length_take, Nat.min_eq_left hn, Nat.add_sub_cancel_left]
 exact hu
theorem Ds.head {v : World} {L : List Nat} {Av : Option Addr} {c : Nat} {l : List DeltaD} (h : Ds v L (.slice Av l.length c) l) (n : Nat) (hn : n ≤ l.length) : Ds v L (.slice Av n c) (l.take n) := by
 obtain ⟨A', c', e, hcc, hl, hr⟩ := h
 injection e with e1 _ e3
 subst e1 e3
 show Rd _ _ _ _ (l.take n).length _
 rw [List.length_take, Nat.min_eq_left hn]
 refine ⟨_, c, rfl, by omega, by rw [dCells_len, List.length_take]; omega, fun h0 => ?_⟩
 obtain ⟨g, off, rfl, hg, hm, hx⟩ := hr (by omega)
 refine ⟨g, off, rfl, hg, hm, fun j u hu => hx j u ?_⟩
 have hs : dCells l = dCells (l.take n) ++ dCells (l.drop n) := by unfold dCells; rw [← List.flatMap_append, List.take_append_drop]
 have hj := (List.getElem?_eq_some_iff.1 hu).1
 rw [hs, List.getElem?_append_left hj]
 exact hu
theorem own_slice2 {w : World} {base n size : Nat} {e : TypeId} {v : Value} {xs : List Value} (h : w.ownsRow base e size v n xs) : ∃ A c, v = .slice A n c ∧ n ≤ c := by
 obtain ⟨A, c, h1, h2, _⟩ := Rd.of_own (M := []) h (by simp)
 exact ⟨A, c, h1, h2⟩
set_option maxRecDepth 100000 in
set_option maxHeartbeats 2000000 in
theorem agcutall_any (h : AgAt w M tg a d A) (hM : ∀ g ∈ M, g < w.heap.size) :
    Calls Tryz.prog 20 #[.pointer (some ⟨a, 0, none⟩)] w fun e w' => CiPost M tg a d (agCutAll A) w e w' := by
  obtain ⟨sh, hsh⟩ : ∃ sh : Nat, A.bk.sh = sh := ⟨A.bk.sh.toNat, by have := h.2; obtain ⟨C, _, hv⟩ := this; have := hv.bk.1.2.2.2.2.1; omega⟩
  have hsh4 : sh ≤ 4 := by obtain ⟨_, C, _, hv⟩ := h; have := hv.bk.1.2.2.2.2.2.1; omega
  have H := Lib.hid h; have HM := Lib.hid hM
  obtain ⟨ho, C, -, hv⟩ := id h
  obtain ⟨-, -, -, c3, -⟩ := agcells hv
  obtain ⟨hbo, vs, vc, qb, hbk⟩ := hv.bk
  obtain ⟨-, -, b2, -, -, -, -, -, hslt⟩ := blk8 hbk.blk
  rw [hsh] at b2
  have HSH := Lib.hid hsh
  obtain ⟨i0, hi0, hz0, hz1, hz2⟩ := info_parts infoId2
  obtain ⟨j0, hj0, hy0, hy1, hy2⟩ := info_parts infoDelta2
  have Hi0 := Lib.hid hi0; have Hz0 := Lib.hid hz0; have Hz1 := Lib.hid hz1; have Hz2 := Lib.hid hz2
  have Hj0 := Lib.hid hj0; have Hy0 := Lib.hid hy0; have Hy1 := Lib.hid hy1; have Hy2 := Lib.hid hy2
  clear hv hbk hbo hi0 hz0 hz1 hz2 hj0 hy0 hy1 hy2 h ho hsh
  go_enter Tryz.func20, Tryz.ntmps20
  go_wp2_with fail
  go_step3
  go_wp2_with fail
  go_step3
  go_upto_region 2 with (fail)
  go_cut [15, 16] (fun n i wx => n = .int .i64 sh ∧ i = .int .i64 0 ∧ w = wx)
  case first =>
    go_wp2_with fail
    go_meet
    exact ⟨rfl, rfl, rfl⟩
  case rest =>
  obtain ⟨rfl, rfl, rfl⟩ := hcut
  go_step
  go_cut [3] (fun ov wx => Hid (CutEnd w M tg a d (cutAll sh 0 A []) ov wx))
  case first =>
    go_wp2_with fail
    go_loopw [3, 16] (fun ov i wr => ∃ (k : Nat) (B : AgD) (out : List (Int × Int × Int)) (Mk : List Nat) (tgk : Nat → Nat), i = .int .i64 k ∧ k ≤ sh ∧ out.length ≤ 8 * k ∧ Hid (CutSt w M tg a d B out ov wr Mk tgk) ∧ Hid (B.bk.sh = sh) ∧ Hid (cutAll sh 0 A [] = cutAll (sh - k) k B out)) (fun _ i _ => sh - (intOf i).toNat)
    case atStart => exact ⟨0, A, [], M, tg, rfl, by omega, by simp, ⟨H.out, Ext.refl HM.out (Nat.le_refl _), Keeps.refl _ _, World.ownsRow_nil _ _ _ _, by simp [Value.ownBlock]⟩, HSH.out, rfl⟩
    case round =>
      obtain ⟨k, B, out, Mk, tgk, rfl, hk, hol, HS, HB, HE⟩ := hrel
      by_cases hlt : k < sh
      · have hx1 : (k : Int) < (sh : Int) := by omega
        have hk4 : k < 4 := by omega
        generalize wr = w7 at *
        obtain ⟨Cx, Hcx, Hvx⟩ : ∃ Cx, Hid (AgOk B) ∧ Hid (AgV w7 Mk tgk a B Cx) := by obtain ⟨ho, Cx, _, hv⟩ := HS.out.ag; exact ⟨Cx, ho, hv⟩
        obtain ⟨vsx, vcx, qbx, Hbx⟩ : ∃ vsx vcx qbx, Hid (BkV w7 Mk tgk Cx.s B.bk vsx vcx qbx) := by obtain ⟨_, vsx, vcx, qbx, hb⟩ := Hvx.out.bk; exact ⟨vsx, vcx, qbx, hb⟩
        have Hsao : Hid (∀ x ∈ B.bk.sa, SaOk x) := Hvx.out.bk.1.2.2.2.1
        have hsa32 : B.bk.sa.length ≤ 32 := Hvx.out.bk.1.2.2.1
        obtain ⟨As, cs, rfl, -⟩ := Hbx.out.ds.len
        have Hsds := Lib.hid Hbx.out.ds
        have HC7 : Hid (∀ W, Keeps [] w7 W → W.cell? ⟨a, 3, none⟩ = some (.pointer (some ⟨Cx.s, 0, none⟩)) ∧ W.cell? ⟨Cx.s, 2, none⟩ = some (.int .i64 sh) ∧ W.cell? ⟨Cx.s, 1, none⟩ = some (.slice As B.bk.sa.length cs)) := fun W hk' => by
          have h1 := agcells (Hvx.out.keep0 HS.out.x.lt hk')
          have h2 := blk8 (Hbx.out.keep0 HS.out.x.lt hk').blk
          refine ⟨h1.2.2.2.1, ?_, h2.2.1⟩
          have h3 := h2.2.2.1
          rw [HB.out] at h3
          exact h3
        obtain ⟨q3, q2, q1⟩ := HC7.out w7 (Keeps.refl _ _)
        have Hshl : Hid (shardL B k = B.bk.sa.filter fun x => shardS x.ser sh == k) := by show _ = _; unfold shardL; rw [HB.out]
        have hE2 := HE.out
        rw [show sh - k = (sh - (k + 1)) + 1 by omega] at hE2
        have HE2 : Hid (cutAll sh 0 A [] = if (chunksC 8 B k (joinD (shardL B k)) out).1 = true then (chunksC 8 B k (joinD (shardL B k)) out).2 else cutAll (sh - (k + 1)) (k + 1) (chunksC 8 B k (joinD (shardL B k)) out).2.1 (chunksC 8 B k (joinD (shardL B k)) out).2.2) := hE2
        clear hE2 HE
        go_wp2_with fail
        go_loopw [5, 27] (fun lv i wr => ∃ (j : Nat) (ls : List DeltaD), i = .int .i64 j ∧ j ≤ B.bk.sa.length ∧ ls.length ≤ j ∧ Hid (ls = (B.bk.sa.take j).filter fun x => shardS x.ser sh == k) ∧ Hid (wr.ownsRow w7.heap.size 38 2 lv ls.length (dCells ls)) ∧ Hid (Keeps [] w7 wr)) (fun _ i _ => B.bk.sa.length - (intOf i).toNat)
        case atStart => exact ⟨0, [], rfl, by omega, by simp, rfl, World.ownsRow_nil _ _ _ _, Keeps.refl _ _⟩
        case round =>
          obtain ⟨j, ls, rfl, hj, hlj, Hls, Hrow, Hkr⟩ := hrel
          by_cases hjl : j < B.bk.sa.length
          · have hx2 : (j : Int) < (B.bk.sa.length : Int) := by omega
            obtain ⟨g3, off, _, e1, _, hg3, _, hcell⟩ := Rd.at_ dCell 2 (fun _ => rfl) (Hsds.out.keep Hkr.out (by simp)) hjl
            obtain rfl : As = some ⟨g3, off, none⟩ := by injection e1
            clear e1
            have p0 := hcell 0 _ rfl
            have p1 := hcell 1 _ rfl
            rw [Nat.add_zero] at p0
            have hys := Hsao.out B.bk.sa[j] (List.getElem_mem _)
            have Hfl : Hid ((B.bk.sa.take (j + 1)).filter (fun x => shardS x.ser sh == k) = ls ++ (if (shardS B.bk.sa[j].ser sh == k) = true then [B.bk.sa[j]] else [])) := by
              show _ = _
              rw [List.take_succ_eq_append_getElem hjl, List.filter_append, ← Hls.out, List.filter_cons]
              rcases shardS B.bk.sa[j].ser sh == k with _ | _ <;> simp
            clear hcell
            generalize B.bk.sa[j] = y at *
            obtain ⟨yser, yn⟩ := y
            simp only [] at p0 p1 hys Hfl
            obtain ⟨wA, hwA⟩ : ∃ wA, wA = wr.alloc (.cells #[.string yser, .int .u64 yn] 38) := ⟨_, rfl⟩
            have hkA : Keeps [] wr wA := by rw [hwA]; exact (Keeps.refl _ _).alloc _
            have hBA : Blk wA wr.heap.size 38 #[.string yser, .int .u64 yn] := by rw [hwA]; exact Blk.new wr _ _
            have HkA : Hid (Keeps [] w7 wA) := Hkr.out.trans hkA (by simp)
            have HrowA : Hid (wA.ownsRow w7.heap.size 38 2 u5 ls.length (dCells ls)) := own_below Hrow.out hkA.below
            obtain ⟨r3, r2, r1⟩ := HC7.out wA HkA.out
            have a0 := hBA.cell 0; have a1 := hBA.cell 1
            simp only [List.getElem?_toArray, List.getElem?_cons_succ, List.getElem?_cons_zero] at a0 a1
            have hsd : Hid (∀ W, Calls Tryz.prog 62 #[.string yser, .int .i64 sh] W fun e w' => e = .returned (.int .i64 (shardS yser sh)) ∧ W = w') := fun W => shard_any yser sh W (by have := hys.2; show yser.size ≤ _; have h9 : yser.size ≤ 65536 := hys.2; omega)
            have hAl := hBA.lt
            have HBA := Lib.hid hBA
            clear hkA hBA
            generalize hsv : shardS yser sh = sv at *
            go_upto_region 9 with (fail)
            rw [← hwA]
            clear hwA p0 p1
            generalize wr.heap.size = gb at *
            go_quiet ((go_at_call 62; exact Calls.quiet_of_same ((hsd.out _).mono fun _ _ ⟨h1, h2⟩ => ⟨h1, h2.symm⟩)))
            by_cases hsk : sv = k
            · have e1 : ((sv : Int) == (k : Int)) = true := by rw [hsk]; simp
              have e2 : (sv == k) = true := by simpa using hsk
              rw [e2, if_pos rfl] at Hfl
              have HflS : Hid (ls ++ [⟨yser, yn⟩] = (B.bk.sa.take (j + 1)).filter fun x => shardS x.ser sh == k) := Hfl.out.symm
              have b0 : (wA.drewN nq).cell? ⟨gb, 0, none⟩ = some (.string yser) := a0
              have b1 : (wA.drewN nq).cell? ⟨gb, 1, none⟩ = some (.int .u64 yn) := a1
              have HrowD : Hid ((wA.drewN nq).ownsRow w7.heap.size 38 2 u5 ls.length (dCells ls)) := HrowA.out
              have HkD : Hid (Keeps [] w7 (wA.drewN nq)) := HkA.out.drewN _
              clear hsk e2 a0 a1 r3 r2 r1
              generalize wA.drewN nq = wD at *
              go_wp2_with (at_builtin; refine wpList_append_any _ rfl (.tmp 43) (.tmp 45) 31 rfl w7.heap.size 38 j0 _ 2 24 Tryz.underlying31 Hj0.out Hy0.out Hy1.out Hy2.out rfl (by omega) u5 ls.length (dCells ls) rfl (own_below HrowD.out (below_new' wD _)) (wD.heap.size + 1) (some ⟨wD.heap.size, 0, none⟩) 1 1 [.string yser, .int .u64 yn] rfl (reads_new wD _ 2 1 _ rfl) (by intro u hu; simp at hu; rcases hu with rfl | rfl <;> rfl) (by unfold maxLen; omega) (by omega) (by have := HkD.out.size; rw [World.size_alloc]; omega) ?_)
              intro v4 w4 hown4 hg4 hat4
              have Hk4 : Hid (Keeps [] w7 w4) := ((HkD.out.alloc _).mono (M' := []) (by simp)).grown hg4 (fun g hg => .inr (HrowD.out.lt g hg).1)
              have Hown4 : Hid (w4.ownsRow w7.heap.size 38 2 v4 (ls ++ [(⟨yser, yn⟩ : DeltaD)]).length (dCells (ls ++ [⟨yser, yn⟩]))) := by
                show World.ownsRow _ _ _ _ _ _ _
                rw [List.length_append]; unfold dCells; rw [List.flatMap_append]; exact hown4
              clear hown4 hg4 hat4
              go_wp2_with fail
              go_roundw
              case rel => exact ⟨j + 1, ls ++ [⟨yser, yn⟩], by go_num, by omega, by simp; omega, HflS, Hown4, Hk4⟩
              case measure => simp [intOf]; omega
            · have e1 : ((sv : Int) == (k : Int)) = false := by rw [beq_eq_false_iff_ne]; omega
              have e2 : (sv == k) = false := by simpa using hsk
              rw [e2, if_neg (by simp), List.append_nil] at Hfl
              have HflS : Hid (ls = (B.bk.sa.take (j + 1)).filter fun x => shardS x.ser sh == k) := Hfl.out.symm
              have HrowD : Hid ((wA.drewN nq).ownsRow w7.heap.size 38 2 u5 ls.length (dCells ls)) := HrowA.out
              have HkD : Hid (Keeps [] w7 (wA.drewN nq)) := HkA.out.drewN _
              clear hsk e2
              go_wp2_with fail
              go_roundw
              case rel => exact ⟨j + 1, ls, by go_num, by omega, by omega, HflS, HrowD, HkD⟩
              case measure => simp [intOf]; omega
          · have hx2 : decide ((j : Int) < (B.bk.sa.length : Int)) = false := decide_eq_false (by omega)
            have hls : ls = shardL B k := by rw [Hls.out, Hshl.out, List.take_of_length_le (by omega)]
            have hlso : ∀ x ∈ ls, SaOk x := fun x hx => by rw [Hls.out] at hx; exact Hsao.out x (List.mem_of_mem_take (List.mem_filter.1 hx).1)
            have hjo := joinD_ok hlso
            have hjl2 := joinD_len ls
            have hdsl : Ds wr [] u5 ls := Rd.of_own Hrow.out (by simp)
            have hdj := Lib.hid (deltas_join u5 ls wr hdsl (fun x hx => (hlso x hx).1) (by omega))
            obtain ⟨Al, cl, rfl, _⟩ := hdsl.len
            have Hjo := Lib.hid hjo
            have HJ : Hid (∀ e W, JoinPost ls wr e W → ∃ Aj n, e = .returned (.slice Aj n n) ∧ n = (joinD ls).length ∧ (∀ L, (∀ g ∈ L, g < wr.heap.size) → Ds W L (.slice Aj n n) (joinD ls)) ∧ Keeps [] wr W) := fun e W h => by
              obtain ⟨Aj, h1, h2, h3⟩ := h
              exact ⟨Aj, _, h1, rfl, h2, Keeps.of_below h3⟩
            rw [← hls] at HE2
            clear hls hlso hjo hdsl Hls Hrow Hshl
            generalize joinD ls = jl at *
            have hj64 : jl.length ≤ 64 := by omega
            go_wp2_with fail
            refine hdj.out.mono ?_
            intro e w8 hjp
            obtain ⟨Aj, nj, rfl, rfl, hd8, hk8⟩ := HJ.out _ _ hjp
            have HS8 := Lib.hid (HS.out.keep0 (Hkr.out.trans hk8 (by simp)))
            have Hd8 : Hid (Ds w8 Mk (.slice Aj jl.length jl.length) jl) := hd8 Mk (fun g hg => Nat.lt_of_lt_of_le (HS.out.x.lt g hg) Hkr.out.size)
            clear hjp hd8 hk8 hdj HJ HS
            go_wp2_with fail
            go_loopw [3, 5] (fun ov lv wr => ∃ (f : Nat) (B2 : AgD) (out2 : List (Int × Int × Int)) (rest : List DeltaD) (Av : Option Addr) (cc : Nat) (M2 : List Nat) (tg2 : Nat → Nat), lv = .slice Av rest.length cc ∧ rest.length ≤ cc ∧ cc ≤ 64 ∧ rest.length ≤ 8 * f ∧ out2.length + f ≤ out.length + 8 ∧ f ≤ 8 ∧ Hid (CutSt w M tg a d B2 out2 ov wr M2 tg2) ∧ Hid (B2.bk.sh = sh) ∧ Hid (Ds wr M2 lv rest) ∧ Hid (∀ x ∈ rest, SaOk x) ∧ Hid (chunksC 8 B k jl out = chunksC f B2 k rest out2)) (fun _ lv _ => match lv with | .slice _ n _ => n | _ => 0)
            case atStart => exact ⟨8, B, out, jl, Aj, jl.length, Mk, tgk, rfl, by omega, by omega, by omega, by omega, by omega, HS8.out, HB.out, Hd8.out, Hjo.out, rfl⟩
            case round =>
              obtain ⟨f, B2, out2, rest, Av, cc, M2, tg2, rfl, hrc, hc64, hrf, hof, hf8, HS2, HB2, HD2, HO2, HE3⟩ := hrel
              by_cases hr0 : rest.length = 0
              · obtain rfl : rest = [] := List.length_eq_zero_iff.1 hr0
                have HE5 : Hid (cutAll sh 0 A [] = cutAll (sh - (k + 1)) (k + 1) B2 out2) := by
                  have h1 := HE2.out
                  rw [HE3.out, chunks_nil, if_neg (by simp)] at h1
                  exact h1
                clear HE3 HD2 HO2 hr0
                go_wp2_with fail
                go_roundw
                case rel => exact ⟨k + 1, B2, out2, M2, tg2, by go_num, by omega, by omega, HS2, HB2, HE5⟩
                case measure => simp [intOf]; omega
              · obtain ⟨f, rfl⟩ : ∃ f', f = f' + 1 := ⟨f - 1, by omega⟩
                have hr1 : 0 < rest.length := by omega
                have hr2 : (0 : Int) < (rest.length : Int) := by omega
                obtain ⟨m, hm8, hml, hmn⟩ : ∃ m : Nat, rest.take 8 = rest.take m ∧ (m ≤ rest.length ∧ m ≤ 8 ∧ 0 < m) ∧ min (rest.length : Int) 8 = (m : Int) := by
                  by_cases h8 : rest.length ≤ 8
                  · exact ⟨rest.length, by rw [List.take_of_length_le (Nat.le_refl _), List.take_of_length_le h8], by omega, by omega⟩
                  · exact ⟨8, rfl, by omega, by omega⟩
                have hdrop : rest.drop 8 = rest.drop m := by
                  by_cases h8 : rest.length ≤ 8
                  · have : m = rest.length := by omega
                    rw [this, List.drop_of_length_le h8, List.drop_of_length_le (Nat.le_refl _)]
                  · have : m = 8 := by omega
                    rw [this]
                obtain ⟨hm1, hm2, hm3⟩ := hml
                have hmc : (m : Int) ≤ (cc : Int) := by omega
                have hmr : (m : Int) ≤ (rest.length : Int) := by omega
                have hm0 : (0 : Int) ≤ (m : Int) := by omega
                have hcutc := Lib.hid (agcut_any HS2.out.ag HS2.out.x.lt k hk4 (rest.take m) (.slice Av m cc) (Ds.head HD2.out m hm1) (fun x hx => HO2.out x (List.mem_of_mem_take hx)) (by rw [List.length_take]; omega) (by have := HS2.out.ag.cuts; omega))
                have HE4 : Hid (chunksC 8 B k jl out = if (agCut B2 k (rest.take m)).1 = true then chunksC f (agCut B2 k (rest.take m)).2 k (rest.drop m) (out2 ++ [(B2.node, (k : Int), ((agCut B2 k (rest.take m)).2.bk.q k).last)]) else (true, B2, out2)) := by
                  show _ = _
                  rw [HE3.out, chunksC, if_neg hr0, hm8, hdrop]
                have hnode : Hid ((agCut B2 k (rest.take m)).2.node = B2.node) := by
                  show _ = _
                  unfold agCut
                  split <;> rfl
                have hshc := Lib.hid ((agCut_sh B2 k (rest.take m)).trans HB2.out)
                clear hm8 HE3
                rcases hcb : (agCut B2 k (rest.take m)).1 with _ | _
                · have hsame := agCut_false hcb
                  rw [hcb] at hcutc
                  have hR : Hid (∀ W, AaPost M2 tg2 a d (agCut B2 k (rest.take m)).2 (.bool false) wr (.returned (.bool false)) W → CutEnd w M tg a d (cutAll sh 0 A []) u3 W) := fun W hp => by
                    obtain ⟨_, M9, tg9, hag, hx9, hk9⟩ := hp
                    have e4 : chunksC 8 B k jl out = (true, B2, out2) := by rw [HE4.out, hcb, if_neg (by simp)]
                    rw [HE2.out, e4, if_pos rfl]
                    rw [hsame] at hag
                    exact ⟨by show out2.length ≤ 1000; omega, M9, tg9, HS2.out.step hx9 hk9 hag⟩
                  have hv9 : Hid (∀ e W, AaPost M2 tg2 a d (agCut B2 k (rest.take m)).2 (.bool false) wr e W → e = .returned (.bool false) ∧ AaPost M2 tg2 a d (agCut B2 k (rest.take m)).2 (.bool false) wr (.returned (.bool false)) W) := fun e W h => by
                    have h1 := h.1
                    subst h1
                    exact ⟨rfl, h⟩
                  clear hcb hsame hnode hshc hr0
                  generalize (agCut B2 k (rest.take m)).2 = B3 at *
                  go_wp2_with fail
                  refine hcutc.out.mono ?_
                  intro e w9 hp
                  obtain ⟨rfl, hp⟩ := hv9.out _ _ hp
                  have HRR := Lib.hid (hR.out _ hp)
                  clear hp hcutc hR hv9
                  go_wp2_with fail
                  go_meet
                  exact HRR
                · rw [hcb] at hcutc
                  have HE6 : Hid (chunksC 8 B k jl out = chunksC f (agCut B2 k (rest.take m)).2 k (rest.drop m) (out2 ++ [(B2.node, (k : Int), ((agCut B2 k (rest.take m)).2.bk.q k).last)])) := by
                    show _ = _
                    rw [HE4.out, hcb, if_pos rfl]
                  have hv9 : Hid (∀ e W, AaPost M2 tg2 a d (agCut B2 k (rest.take m)).2 (.bool true) wr e W → e = .returned (.bool true) ∧ AaPost M2 tg2 a d (agCut B2 k (rest.take m)).2 (.bool true) wr (.returned (.bool true)) W) := fun e W h => by
                    have h1 := h.1
                    subst h1
                    exact ⟨rfl, h⟩
                  obtain ⟨r2, hr2'⟩ : ∃ r2, r2 = rest.drop m := ⟨_, rfl⟩
                  have hrl2 : r2.length = rest.length - m := by rw [hr2', List.length_drop]
                  have HO9 : Hid (∀ x ∈ r2, SaOk x) := fun x hx => by rw [hr2'] at hx; exact HO2.out x (List.mem_of_mem_drop hx)
                  obtain ⟨gl, ol, hAv⟩ : ∃ gl ol, Av = some ⟨gl, ol, none⟩ := by
                    obtain ⟨Av', cc', e, _, _, hx⟩ := HD2.out
                    injection e with e1 _ _
                    subst e1
                    obtain ⟨gl, ol, e1, _⟩ := hx hr1
                    exact ⟨gl, ol, e1⟩
                  subst hAv
                  obtain ⟨ad, had⟩ : ∃ ad : Addr, (if cc = m then (some ⟨gl, ol, none⟩ : Option Addr) else some ⟨gl, ol + m * 2, none⟩) = some ad := by
                    by_cases h : cc = m
                    · exact ⟨_, by rw [if_pos h]⟩
                    · exact ⟨_, by rw [if_neg h]⟩
                  have HT : Hid (∀ (W : World) (L : List Nat), Ds W L (.slice (some ⟨gl, ol, none⟩) rest.length cc) rest → Ds W L (.slice (some ad) r2.length (cc - m)) r2) := fun W L h => by
                    have h1 := Ds.tail h m hm1
                    rw [← hr2', ← hrl2] at h1
                    have h2 : (if cc = m then (some ⟨gl, ol, none⟩ : Option Addr) else (some (⟨gl, ol, none⟩ : Addr)).map (·.add (m * 2))) = some ad := by
                      rw [← had]
                      simp [addr_add]
                    rw [h2] at h1
                    exact h1
                  rw [← hr2'] at HE6
                  clear hcb hr0 HE4 hdrop hr2'
                  generalize (agCut B2 k (rest.take m)).2 = B3 at *
                  go_wp2_with fail
                  refine hcutc.out.mono ?_
                  intro e w9 hp
                  obtain ⟨rfl, hp⟩ := hv9.out _ _ hp
                  obtain ⟨_, M9, tg9, hag, hx9, hk9⟩ := hp
                  have HS9 := Lib.hid (HS2.out.step hx9 hk9 hag)
                  have HD9 := Lib.hid (hx9.ds hk9 HD2.out)
                  obtain ⟨C9, Hv9⟩ : ∃ C9, Hid (AgV w9 M9 tg9 a B3 C9) := by obtain ⟨_, C9, _, hv⟩ := hag; exact ⟨C9, hv⟩
                  obtain ⟨vs9, vc9, qb9, Hb9⟩ : ∃ vs9 vc9 qb9, Hid (BkV w9 M9 tg9 C9.s B3.bk vs9 vc9 qb9) := by obtain ⟨_, vs9, vc9, qb9, hb⟩ := Hv9.out.bk; exact ⟨vs9, vc9, qb9, hb⟩
                  have hqla := Lib.hid (fun W (hk' : Keeps [] w9 W) => qlast_any ((Hb9.out.q k hk4).keep0 HS9.out.x.lt hk'))
                  have HC9 : Hid (∀ W, Keeps [] w9 W → W.cell? ⟨a, 0, none⟩ = some (.int .i64 B2.node) ∧ W.cell? ⟨a, 3, none⟩ = some (.pointer (some ⟨C9.s, 0, none⟩)) ∧ W.cell? ⟨C9.s, 3 + k, none⟩ = some (.pointer (some ⟨qb9 k, 0, none⟩))) := fun W hk' => by
                    have h1 := agcells (Hv9.out.keep0 HS9.out.x.lt hk')
                    refine ⟨?_, h1.2.2.2.1, (Hb9.out.keep0 HS9.out.x.lt hk').qCell hk4⟩
                    rw [← hnode.out]; exact h1.1
                  have Hk99 : Hid (Keeps [] w9 w9) := Keeps.refl _ _
                  have hki4 : (k : Int) < 4 := by omega
                  have hk0' : (0 : Int) ≤ (k : Int) := by omega
                  generalize (B3.bk.q k).last = la at *
                  clear hag hx9 hk9 hcutc hv9 hnode
                  have HD10 := Lib.hid (HT.out _ _ HD9.out)
                  go_upto_region 16 with (fail)
                  go_region_held3 (fun W => W.cell? ⟨a, 0, none⟩ = some (.int .i64 B2.node) ∧ W.cell? ⟨a, 3, none⟩ = some (.pointer (some ⟨C9.s, 0, none⟩)) ∧ W.cell? ⟨C9.s, 3 + k, none⟩ = some (.pointer (some ⟨qb9 k, 0, none⟩)))
                    (first | exact HC9.out _ Hk99.out.drew | exact HC9.out _ (Hk99.out.alloc _).drew | exact HC9.out _ (Hk99.out.drew.alloc _) | exact HS4.out)
                    (first
                      | (go_at_call 65
                         with_reducible refine (hqla.out _ Hk99.out.drew).mono ?_
                         rintro e w8' ⟨rfl, rfl⟩)
                      | (refine step_append_any _ rfl (.tmp 63) (.tmp 80) 53 rfl w.heap.size 30 i0 _ 3 24 Tryz.underlying53 Hi0.out Hz0.out Hz1.out Hz2.out rfl (by omega) u3 out2.length (out2.flatMap idCell) (by simp [Act.eval, Act.put]) (own_below HS9.out.row (Keeps.below (((Keeps.refl [] w9).alloc _).drew))) (w9.heap.size + 1) (some ⟨w9.heap.size, 0, none⟩) 1 1 [.int .i64 B2.node, .int .i64 k, .int .i64 la] (by simp [Act.eval, Act.put]) (show Reads (w9.alloc _).drew _ _ _ _ _ from reads_new w9 _ 3 1 _ rfl) (by intro u hu; simp at hu; rcases hu with rfl | rfl | rfl <;> rfl) (by unfold maxLen; omega) (by omega) (by show w.heap.size ≤ (w9.alloc _).heap.size; have := HS9.out.k.size; rw [World.size_alloc]; omega) ?_
                         intro v4 w4 hown4 hg4 hat4
                         have hk4 : Keeps u3.ownBlock.toList w9 w4 := Keeps.grown (w := (w9.alloc (.cells #[.int .i64 B2.node, .int .i64 k, .int .i64 la] 30)).drew) ((((Keeps.refl [] w9).alloc _).drew).mono (by simp)) hg4 (fun g hg => .inl (by simpa using hg))
                         have hat5 : v4.ownBlock = u3.ownBlock ∨ ∃ g, v4.ownBlock = some g ∧ w9.heap.size ≤ g := by
                           rcases hat4 with h | h
                           · exact .inl h
                           · refine .inr ⟨_, h, ?_⟩
                             show w9.heap.size ≤ (w9.alloc _).heap.size
                             rw [World.size_alloc]; omega
                         have hrow4 : w4.ownsRow w.heap.size 30 3 v4 (out2 ++ [(B2.node, (k : Int), la)]).length ((out2 ++ [(B2.node, (k : Int), la)]).flatMap idCell) := by
                           rw [List.length_append, List.flatMap_append]; exact hown4
                         obtain ⟨M10, tg10, hs10, hx10, hks10⟩ := HS9.out.put hk4 hrow4 hat5
                         have HS10 := Lib.hid hs10; have Hx10 := Lib.hid hx10; have Hks10 := Lib.hid hks10
                         have HS4 : Hid (w4.cell? ⟨a, 0, none⟩ = some (.int .i64 B2.node) ∧ w4.cell? ⟨a, 3, none⟩ = some (.pointer (some ⟨C9.s, 0, none⟩)) ∧ w4.cell? ⟨C9.s, 3 + k, none⟩ = some (.pointer (some ⟨qb9 k, 0, none⟩))) := by
                           have hbo := Hb9.out
                           have h1 := (HC9.out w9 Hk99.out)
                           have hfar := HS9.out.far
                           refine ⟨(hk4.cell (p := ⟨a, 0, none⟩) Hv9.out.blk.lt (fun hm => ?_)).trans h1.1, (hk4.cell (p := ⟨a, 3, none⟩) Hv9.out.blk.lt (fun hm => ?_)).trans h1.2.1, (hk4.cell (p := ⟨C9.s, 3 + k, none⟩) hbo.blk.lt (fun hm => ?_)).trans h1.2.2⟩
                           · have h2 := (hfar a (by simpa using hm)).2; rw [Hv9.out.ta] at h2; omega
                           · have h2 := (hfar a (by simpa using hm)).2; rw [Hv9.out.ta] at h2; omega
                           · have h2 := (hfar C9.s (by simpa using hm)).2; rw [hbo.ts] at h2; omega
                         clear hown4 hg4 hat4 hk4 hat5 hrow4 hs10 hx10 hks10))
                  have HD11 := Lib.hid (Hx10.out.ds Hks10.out HD10.out)
                  have HD12 : Hid (Ds w4 M10 (.slice (some ad) (rest.length - m) (cc - m)) r2) := by
                    show Ds _ _ _ _
                    rw [← hrl2]; exact HD11.out
                  have hol9 : (out2 ++ [(B2.node, (k : Int), la)]).length + f ≤ out.length + 8 := by rw [List.length_append]; simp; omega
                  clear HD10 HD9 HT hqla
                  go_wp2_with fail
                  go_roundw
                  case rel => exact ⟨f, B3, out2 ++ [(B2.node, (k : Int), la)], r2, some ad, cc - m, M10, tg10, by rw [hrl2], by omega, by omega, by omega, hol9, by omega, HS10, hshc, HD12, HO9, HE6⟩
                  case measure => show rest.length - m < rest.length; omega
      · have hx1 : decide ((k : Int) < (sh : Int)) = false := decide_eq_false (by omega)
        have hR : Hid (CutEnd w M tg a d (cutAll sh 0 A []) u3 wr) := by
          have hke : sh - k = 0 := by omega
          rw [HE.out, hke]
          exact ⟨by show out.length ≤ 1000; omega, Mk, tgk, HS.out⟩
        go_wp2_with fail
        go_meet
        exact hR
  case rest =>
    obtain ⟨hl, Mk, tgk, hs⟩ := hcut.out
    have hR : Hid (agCutAll A = if (cutAll sh 0 A []).2.length = 0 then cutAll sh 0 A [] else ({ (cutAll sh 0 A []).1 with k := (cutAll sh 0 A []).1.b.length }, (cutAll sh 0 A []).2)) := by
      show _ = _
      unfold agCutAll
      rw [HSH.out]
      rfl
    generalize cutAll sh 0 A [] = R at *
    have HS := Lib.hid hs
    obtain ⟨Ar, cr, rfl, -⟩ := own_slice2 hs.row
    clear hcut
    by_cases hr0 : R.2.length = 0
    · have hx1 : decide ((0 : Int) < (R.2.length : Int)) = false := decide_eq_false (by omega)
      have hRe : agCutAll A = R := by rw [hR.out, if_pos hr0]
      have HP : ∀ W, Keeps [] wc W → CiPost M tg a d (agCutAll A) w (.returned (.slice Ar 0 cr)) W := fun W hk => by
        have h1 := HS.out.keep0 hk
        rw [hRe]
        exact ⟨.slice Ar R.2.length cr, by rw [hr0], h1.row, Mk, tgk, h1.ag, h1.x, h1.k, h1.far⟩
      have HP' := Lib.hid HP
      clear HP hs
      go_wp2_with fail
      go_ret
      first | exact HP'.out _ (Keeps.refl _ _) | exact HP'.out _ (Keeps.refl _ _).drew
    · have hx1 : (0 : Int) < (R.2.length : Int) := by omega
      have hsy := Lib.hid (fun W (hk : Keeps [] wc W) => agsync_any (HS.out.keep0 hk).ag (HS.out.keep0 hk).x.lt)
      have hRe : Hid (agCutAll A = ({ R.1 with k := R.1.b.length }, R.2)) := by show _ = _; rw [hR.out, if_neg hr0]
      clear hs
      go_wp2_with fail
      refine (hsy.out _ (by first | exact Keeps.refl _ _ | exact (Keeps.refl _ _).drew)).mono ?_
      rintro e w3 ⟨rfl, M3, tg3, hag, hx3, hk3⟩
      have hP : Hid (CiPost M tg a d (agCutAll A) w (.returned (.slice Ar R.2.length cr)) w3) := by
        have h1 := (HS.out.keep0 (wy := _) (by first | exact Keeps.refl _ _ | exact (Keeps.refl _ _).drew)).step hx3 hk3 hag
        rw [hRe.out]
        exact ⟨_, rfl, h1.row, M3, tg3, h1.ag, h1.x, h1.k, h1.far⟩
      clear hag hx3 hk3
      go_wp2_with fail
      go_ret
      exact hP.out
end
end Go.Proofs.YtgdooockldgdlaaGreatDoor.Vi
end
section
namespace Go.Proofs.YtgdooockldgdlaaGreatDoor.Vi
open Go.RowKit Base Mem
open Go.Maps (Keyed)
theorem wp_store_blk {P : Program} {o : Oper} {a : Act} {w : World} {K : Act → World → Prop} {Q : Exit → Act → World → Prop} (ty : TypeId) (x y : Operand) (ho : o.op = .store ty x y)
  (g off : Nat) (T : TypeId) (c0 c1 cells : Array Value) (hx : a.eval x = .pointer (some ⟨g, off, none⟩)) (hy : a.eval y = .agg cells)
  (hB : Blk w g T c0) (hn : off + cells.size ≤ c0.size) (hc : c1.toList = c0.toList.take off ++ (cells.toList ++ c0.toList.drop (off + cells.toList.length))) (hi : (P.info? ty).map (·.size) = some cells.size) (h1 : cells.toList.all (·.oneCell') = true)
  (h : ∀ w', Keeps [g] w w' → Blk w' g T c1 → K (a.put o.dst undef) w') : o.wp P a w K Q :=
 wp_store_mid ty x y ho g off cells hx hy (there_blk hB hn) hi (by rw [← Array.all_toList]; exact h1) (h _ (keeps_setCells (by simp) _ _ _ (Keeps.refl _ _)) (by have := blk_setCells cells.toList off _ _ hB; rwa [show setAll c0 off cells.toList = c1 from Array.toList_inj.1 ((setAll_list _ _ _ (by simpa using hn)).trans hc.symm)] at this))
section
variable {P : Program} {k e t : TypeId} {w : World} {b n : Nat} {D : DataW Value}
/-- A look-up of a held value without 'ok'. -/
theorem run_look_held (h : w.ownsMap P k heldElem b n D) (K : Keyed P k) (ht : P.underlying t = some (.map k e)) {z : Value} (hz : (zeroValue e).run P w = .ok z w) {key : Value} {kl : Lit} (hkey : keyOf P k key = some kl) {v : Value} (hv : D.atKey kl (.held z) = .held v) :
  (Instr.lookup t (.map (some b)) key false).run P w = .ok v w := by
 obtain ⟨u, ps, hrun, hu⟩ := h.lookup K ht hz (show heldElem z = some (.held z, []) from rfl) hkey
 have h1 : (DataW.held u : DataW Value) = .held v := by rw [← hv]; unfold heldElem at hu; injection hu with hu; injection hu
 injection h1 with h1
 rw [← h1]
 exact hrun
theorem run_look_held_ok (h : w.ownsMap P k heldElem b n D) (K : Keyed P k) (ht : P.underlying t = some (.map k e)) {z : Value} (hz : (zeroValue e).run P w = .ok z w) {key : Value} {kl : Lit} (hkey : keyOf P k key = some kl) {v : Value} (hv : D.atKey kl (.held z) = .held v) :
  (Instr.lookup t (.map (some b)) key true).run P w = .ok (.tuple #[v, .bool (Maps.has D kl)]) w := by
 obtain ⟨u, ps, hrun, hu⟩ := h.look_ok K ht hz (show heldElem z = some (.held z, []) from rfl) hkey
 have h1 : (DataW.held u : DataW Value) = .held v := by rw [← hv]; unfold heldElem at hu; injection hu with hu; injection hu
 injection h1 with h1
 rw [← h1]
 exact hrun
end
end Go.Proofs.YtgdooockldgdlaaGreatDoor.Vi
end
section
namespace Go.Proofs.YtgdooockldgdlaaGreatDoor.Vi
open Go.RowKit Base Mem Go.Shelf Tape
open Go.Maps (Keyed)
def sCell (t : Int) (m : MsgD) (dv lv : Value) : List Value := .int .i64 t :: mCell m dv lv
def sent0 : Array Value := #[.int .i64 0, .int .i64 0, .int .i64 0, .int .i64 0, .int .i64 0, .int .i64 0, .int .i64 0, .slice none 0 0, .string ⟨#[]⟩, .int .i64 0, .int .i64 0, .int .i64 0, .int .i64 0, .int .u64 0, .int .i64 0, .int .i64 0, .slice none 0 0, .int .i64 0, .int .i64 0]
section
variable {w w' : World} {M M' : List Nat} {tg tg' : Nat → Nat} {a d : Nat} {A : AgD}
/-- New blocks are put beside an agent's. -/
theorem AgAt.more (h : AgAt w M tg a d A) (hM : ∀ g ∈ M, g < w.heap.size) (hk : Keeps [] w w') (L : List Nat) (hL : ∀ g ∈ L, w.heap.size ≤ g ∧ g < w'.heap.size) :
  AgAt w' (L ++ M) (fun x => if x ∈ L then 99 else tg x) a d A ∧ Ext w M tg w' (L ++ M) (fun x => if x ∈ L then 99 else tg x) := by
 have hx := Ext.addL (tg := tg) hM hk.size L 99 (fun g hg => ⟨.inr (hL g hg).1, (hL g hg).2⟩)
 obtain ⟨ho, C, e, hv⟩ := h
 exact ⟨⟨ho, C, e, hv.keepT (T := []) hx (hk.to_sel (by simp)) (by simp)⟩, hx⟩
/-- Blocks that lie beside an agent's own turned. -/
theorem AgAt.beside (h : AgAt w M tg a d A) (hM : ∀ g ∈ M, g < w.heap.size) {L : List Nat} (hL : ∀ g ∈ L, g ∈ M ∧ tg g = 99) (hk : Keeps L w w') : AgAt w' M tg a d A := by
 obtain ⟨ho, C, e, hv⟩ := h
 exact ⟨ho, C, e, hv.keepT (T := [99]) (Ext.refl hM hk.size) (hk.to_sel (fun g hg => .inl ⟨(hL g hg).1, by rw [(hL g hg).2]; simp⟩)) (by simp)⟩
end
section
variable {w w' : World} {M : List Nat} {tg : Nat → Nat} {a d : Nat} {A : AgD}
end
end Go.Proofs.YtgdooockldgdlaaGreatDoor.Vi
end
section
namespace Go.Proofs.YtgdooockldgdlaaGreatDoor.Draw
open Go.RowKit

theorem ret_int {k : IntKind} {a b : Int} (h : a = b) : Ending.returned (.int k a) = .returned (.int k b) := by rw [h]
theorem ret_bool {a b : Bool} (h : a = b) : Ending.returned (.bool a) = .returned (.bool b) := by rw [h]
def nextS (s : Int) : Int := IntKind.u64.wrap (IntKind.u64.wrap (s * 6364136223846793005) + 1442695040888963407)
def inS (s n : Int) : Int := if 1 ≤ n ∧ n ≤ 2147483648 then (wrap64 (nextS s / 4294967296)).tmod n else 0
def backS (t a b : Int) : Int := if 1 ≤ a ∧ a ≤ b ∧ b ≤ 1099511627776 then min (a * 2 ^ t.toNat) b else 0
def waitS (s t a b : Int) : Int := if backS t a b = 0 then 0 else backS t a b + inS s (backS t a b / 2 + 1)
theorem inS_no {s n : Int} (h : ¬ (1 ≤ n ∧ n ≤ 2147483648)) : inS s n = 0 := if_neg h
theorem backS_no {t a b : Int} (h : ¬ (1 ≤ a ∧ a ≤ b ∧ b ≤ 1099511627776)) : backS t a b = 0 := if_neg h
theorem pow_up (a : Int) (k : Nat) : a * 2 ^ (k + 1) = a * 2 ^ k * 2 := by rw [Int.pow_succ, Int.mul_assoc]
theorem pow_le (a : Int) (h : 1 ≤ a) {k j : Nat} (hk : k ≤ j) : a * 2 ^ k ≤ a * 2 ^ j := by
 obtain ⟨d, rfl⟩ := Nat.le.dest hk
 clear hk
 induction d with
 | zero => simp
 | succ d ih => rw [← Nat.add_assoc, pow_up]; have : 0 ≤ a * 2 ^ (k + d) := Int.mul_nonneg (by omega) (by exact Int.pow_nonneg (by omega)); omega
theorem backS_pos {t a b : Int} (h : 1 ≤ a ∧ a ≤ b ∧ b ≤ 1099511627776) : 1 ≤ backS t a b ∧ backS t a b ≤ b := by
 unfold backS
 rw [if_pos h]
 have := pow_le a h.1 (Nat.zero_le t.toNat)
 simp at this
 omega
theorem next_any (s : Int) (w : World) :
  Calls Tryz.prog 227 #[.int .u64 s] w fun e w' => e = .returned (.int .u64 (nextS s)) ∧ w = w' := by
 go_enter Tryz.func227, Tryz.ntmps227
 go_wp2
 go_ret
 exact ⟨rfl, rfl⟩
theorem in_any (s n : Int) (w : World) :
  Calls Tryz.prog 173 #[.int .u64 s, .int .i64 n] w fun e w' => e = .returned (.int .i64 (inS s n)) ∧ w = w' := by
 by_cases h : 1 ≤ n ∧ n ≤ 2147483648
 ·have hi : inS s n = (wrap64 (nextS s / 4294967296)).tmod n := if_pos h
  have Hi := Lib.hid hi; clear hi
  go_enter Tryz.func173, Tryz.ntmps173
  go_wp2
  go_ret
  exact ⟨ret_int Hi.out.symm, rfl⟩
 ·have Hi := Lib.hid (inS_no (s := s) h)
  have hd : n < 1 ∨ 2147483648 < n := by omega
  clear h
  rcases hd with hd | hd
  ·go_enter Tryz.func173, Tryz.ntmps173
   go_wp2
   go_ret
   exact ⟨ret_int Hi.out.symm, rfl⟩
  ·have : 1 ≤ n := by omega
   go_enter Tryz.func173, Tryz.ntmps173
   go_wp2
   go_ret
   exact ⟨ret_int Hi.out.symm, rfl⟩
theorem back_no (f : Nat) (hf : f = 172 ∨ f = 273) (t a b : Int) (w : World) (h : ¬ (1 ≤ a ∧ a ≤ b ∧ b ≤ 1099511627776)) :
  Calls Tryz.prog f #[.int .i64 t, .int .i64 a, .int .i64 b] w fun e w' => e = .returned (.int .i64 (backS t a b)) ∧ w = w' := by
 have Hi := Lib.hid (backS_no (t := t) h)
 have hd : a < 1 ∨ (1 ≤ a ∧ b < a) ∨ (1 ≤ a ∧ a ≤ b ∧ 1099511627776 < b) := by omega
 clear h
 rcases hf with rfl | rfl
 ·rcases hd with h1 | ⟨h1, h2⟩ | ⟨h1, h2, h3⟩
  all_goals
   go_enter Tryz.func172, Tryz.ntmps172
   go_wp2
   go_ret
   exact ⟨ret_int Hi.out.symm, rfl⟩
 ·rcases hd with h1 | ⟨h1, h2⟩ | ⟨h1, h2, h3⟩
  all_goals
   go_enter Tryz.func273, Tryz.ntmps273
   go_wp2
   go_ret
   exact ⟨ret_int Hi.out.symm, rfl⟩
theorem back_end {t a b x : Int} {k : Nat} (h : 1 ≤ a ∧ a ≤ b ∧ b ≤ 1099511627776) (hx : x = a * 2 ^ k) (hk : (k : Int) ≤ max t 0) (hend : t ≤ k ∨ b ≤ x) : min x b = backS t a b := by
 unfold backS
 rw [if_pos h]
 rcases hend with he | he
 ·have : t.toNat = k := by omega
  rw [this, hx]
 ·have := pow_le a h.1 (show k ≤ t.toNat by omega)
  omega
theorem back_yes (t a b : Int) (w : World) (h1 : 1 ≤ a) (h2 : a ≤ b) (h3 : b ≤ 1099511627776) (ht : t ≤ 9223372036854775807) :
  Calls Tryz.prog 172 #[.int .i64 t, .int .i64 a, .int .i64 b] w fun e w' => e = .returned (.int .i64 (backS t a b)) ∧ w = w' := by
 go_enter Tryz.func172, Tryz.ntmps172
 go_wp2
 go_loop [7, 8] (fun x i => ∃ (k : Nat) (y : Int), x = .int .i64 y ∧ i = .int .i64 k ∧ Hid (y = a * 2 ^ k) ∧ 1 ≤ y ∧ y < 2 * b ∧ (k : Int) ≤ max t 0) (fun _ i => t.toNat - (intOf i).toNat)
 case atStart => exact ⟨0, a, rfl, rfl, by show _ = _; simp, h1, by omega, by omega⟩
 case round =>
  obtain ⟨k, y, rfl, rfl, Hy, hy1, hy2, hk⟩ := hrel
  by_cases c1 : (k : Int) < t
  ·by_cases c2 : y < b
   ·go_wp2
    go_round
    case rel => exact ⟨k + 1, y * 2, rfl, by go_num, by show _ = _; rw [pow_up, Hy.out], by omega, by omega, by omega⟩
    case measure => simp [intOf]; omega
   ·have He := Lib.hid (back_end ⟨h1, h2, h3⟩ Hy.out hk (.inr (by omega)))
    go_wp2
    all_goals
     go_ret
     exact ⟨ret_int (by have := He.out; omega), rfl⟩
  ·have He := Lib.hid (back_end ⟨h1, h2, h3⟩ Hy.out hk (.inl (by omega)))
   go_wp2
   all_goals
    go_ret
    exact ⟨ret_int (by have := He.out; omega), rfl⟩
theorem back_any (t a b : Int) (w : World) (ht : t ≤ 9223372036854775807) :
  Calls Tryz.prog 172 #[.int .i64 t, .int .i64 a, .int .i64 b] w fun e w' => e = .returned (.int .i64 (backS t a b)) ∧ w = w' := by
 by_cases h : 1 ≤ a ∧ a ≤ b ∧ b ≤ 1099511627776
 ·exact back_yes t a b w h.1 h.2.1 h.2.2 ht
 ·exact back_no _ (.inl rfl) t a b w h
theorem inS_bd (s n : Int) (h : 1 ≤ n) : 0 ≤ inS s n ∧ inS s n < n := by
 unfold inS
 split
 ·have h0 : 0 ≤ wrap64 (nextS s / 4294967296) := by
   have := IntKind.wrap_u64 (IntKind.u64.wrap (s * 6364136223846793005) + 1442695040888963407)
   unfold nextS
   rw [this]
   unfold wrap64
   omega
  rw [Int.tmod_eq_emod_of_nonneg h0]
  exact ⟨Int.emod_nonneg _ (by omega), Int.emod_lt_of_pos _ (by omega)⟩
 ·omega
theorem back_cases (t a b : Int) : (backS t a b = 0) ∨ (1 ≤ backS t a b ∧ backS t a b ≤ 1099511627776) := by
 by_cases h : 1 ≤ a ∧ a ≤ b ∧ b ≤ 1099511627776
 ·have := backS_pos (t := t) h; omega
 ·exact .inl (backS_no h)
theorem wait_any (s t a b : Int) (w : World) (ht : t ≤ 9223372036854775807) :
  Calls Tryz.prog 118 #[.int .u64 s, .int .i64 t, .int .i64 a, .int .i64 b] w fun e w' => e = .returned (.int .i64 (waitS s t a b)) ∧ w = w' := by
 have hback := Lib.hid (back_any t a b w ht)
 have hw : Hid (waitS s t a b = if backS t a b = 0 then 0 else backS t a b + inS s (backS t a b / 2 + 1)) := rfl
 have hc := back_cases t a b
 generalize backS t a b = y at *
 rcases hc with h | ⟨h1, h2⟩
 ·obtain rfl := h
  go_enter Tryz.func118, Tryz.ntmps118
  go_wp2_with (first | (go_at_call 172; refine hback.out.mono ?_; rintro e w' ⟨rfl, rfl⟩))
  go_ret
  exact ⟨ret_int (by rw [hw.out]; rfl), rfl⟩
 ·have hb := inS_bd s (y / 2 + 1) (by omega)
  have hin := Lib.hid (in_any s (y / 2 + 1) w)
  have hw2 : Hid (waitS s t a b = y + inS s (y / 2 + 1)) := by have := hw.out; show _ = _; rw [this, if_neg (by omega)]
  clear hw
  generalize inS s (y / 2 + 1) = z at *
  go_enter Tryz.func118, Tryz.ntmps118
  go_wp2_with (first | (go_at_call 172; refine hback.out.mono ?_; rintro e w' ⟨rfl, rfl⟩) | (go_at_call 173; refine hin.out.mono ?_; rintro e w' ⟨rfl, rfl⟩))
  go_ret
  exact ⟨ret_int (by rw [hw2.out]), rfl⟩
end Go.Proofs.YtgdooockldgdlaaGreatDoor.Draw
end
section
namespace Go.Proofs.YtgdooockldgdlaaGreatDoor.Mem
open Go.RowKit
theorem copy_any (M : List Nat) (e : EntryD) (dv : Value) (w : World) (h : Ds w M dv e.ds) (hb : e.ds.length * 24 ≤ 140737488355328) :
  Calls Tryz.prog 119 #[.agg (eCell (e, dv)).toArray] w fun r w' => ∃ dv', r = .returned (.agg (eCell (e, dv')).toArray) ∧ (∀ M', (∀ g ∈ M', g < w.heap.size) → Ds w' M' dv' e.ds) ∧ Below w.heap.size w w' := by
 unfold eCell
 go_enter Tryz.func119, Tryz.ntmps119
 go_wp2_with fail
 refine (cloneDelta M dv _ _ _ ((h.keep (Keeps.refl [] _) (by simp)).keep (((Keeps.refl [] w).alloc _).alloc _) (by simp)) (dCells_one _) hb).mono ?_
 rintro r w1 ⟨v', rfl, hown, hbel⟩
 obtain ⟨hc, hf⟩ := bcell hbel
 have hc5 : w1.cell? ⟨w.heap.size, 5, none⟩ = some dv := by rw [hc _ _ (by simp; omega)]; go_simp
 have hz : w.heap.size + 1 < w1.heap.size := by have := hbel.size; simp at this; omega
 have hrd : ∀ M', (∀ g ∈ M', g < w.heap.size + 2) → Rd w1 M' 2 v' e.ds.length (dCells e.ds) := fun M' hM => Rd.of_own hown (by intro g hg; have := hM g hg; simp; omega)
 have hb2 : Below w.heap.size w w1 := ((Below.refl _ _).alloc (Nat.le_refl _) _).alloc (by simp) _ |>.trans (hbel.mono (by simp; omega))
 clear hown hbel
 obtain ⟨A, c, rfl, hc2, _⟩ := hrd [] (by simp)
 have Hrd := Lib.hid hrd; have Hb2 := Lib.hid hb2; have Hh := Lib.hid h; have Hb := Lib.hid hb
 clear hrd hb2 h hb
 go_wp2_with (go_at_call 97; refine (clipDelta A _ c _ hc2).mono ?_; rintro e w' ⟨rfl, rfl⟩)
 have hd : ∀ o, o < 9 → ∃ u, w1.cell? ⟨w.heap.size + 1, o, none⟩ = some u := by
  intro o ho
  rw [hc _ _ (by simp)]
  rcases (show o = 0 ∨ o = 1 ∨ o = 2 ∨ o = 3 ∨ o = 4 ∨ o = 5 ∨ o = 6 ∨ o = 7 ∨ o = 8 by omega) with rfl | rfl | rfl | rfl | rfl | rfl | rfl | rfl | rfl <;> exact ⟨_, by go_simp; rfl⟩
 obtain ⟨u0, d0⟩ := hd 0 (by omega); obtain ⟨u1, d1⟩ := hd 1 (by omega); obtain ⟨u2, d2⟩ := hd 2 (by omega); obtain ⟨u3, d3⟩ := hd 3 (by omega)
 obtain ⟨u4, d4⟩ := hd 4 (by omega); obtain ⟨u5, d5⟩ := hd 5 (by omega); obtain ⟨u6, d6⟩ := hd 6 (by omega); obtain ⟨u7, d7⟩ := hd 7 (by omega); obtain ⟨u8, d8⟩ := hd 8 (by omega)
 refine bodyPost_ret (v := .agg #[.int .i64 e.kind, .int .i64 e.ag, .int .i64 e.sh, .int .i64 e.seq, .int .i64 e.ep, .slice A e.ds.length e.ds.length, .string e.ser, .int .i64 e.fr, .int .i64 e.tag]) (by simp [results, Tryz.results119, go_sem, d0, d1, d2, d3, d4, d5, d6, d7, d8]) rfl ⟨_, rfl, ?_, ?_⟩
 ·intro M' hM
  have h0 := (Hrd.out (w.heap.size :: (w.heap.size + 1) :: M') (by intro g hg; simp at hg; rcases hg with rfl | rfl | hg; omega; omega; have := hM g hg; omega)).clip
  refine (h0.keep (M' := [w.heap.size, w.heap.size + 1]) ?_ ?_).more.more
  ·repeat (first | (with_reducible refine Keeps.setCell ?_ (by simp) _) | (with_reducible exact Keeps.refl _ _))
  ·intro g hg; simp at hg; rcases hg with rfl | rfl <;> simp
 ·repeat (first | (with_reducible refine Below.setCell ?_ (by simp) _) | (with_reducible exact Hb2.out))
end Go.Proofs.YtgdooockldgdlaaGreatDoor.Mem
end
section
namespace Go.Proofs.YtgdooockldgdlaaGreatDoor.Vi
open Go.RowKit Base Mem Go.Shelf Tape
open Go.Maps (Keyed)
open Draw
/-- A message that is to be sent. -/
structure SentD where
 dst : Int
 m : MsgD
def askM (e : EntryD) : MsgD := ⟨1, e, 0, 0, 0, 0, 0, [], 0, 0⟩
def setTr (t : Int → Int → Option (Int × Int)) (s q : Int) (x : Option (Int × Int)) : Int → Int → Option (Int × Int) := fun s' q' => if s' = s ∧ q' = q then x else t s' q'
def sendE (A : AgD) (k : Nat) (b : BatD) : EntryD := ⟨1, A.node, k, b.seq, A.bk.ep, b.ds, ⟨#[]⟩, A.node, A.tag + 1⟩
/-- When a batch is sent again. -/
def nextAt (A : AgD) (n : Int) : Int := A.now + waitS (A.tag + 1) n 4 32
def agSend (A : AgD) (k : Nat) (b : BatD) (n : Int) : AgD := { agNext A (some ((k : Int), b.seq)) with tries := setTr A.tries k b.seq (some (n + 1, nextAt A n)), cn := A.cn + 2 }
def sendM (A : AgD) (k : Nat) (b : BatD) (n : Int) : SentD := ⟨(A.last + n).tmod A.reps, askM (sendE A k b)⟩
theorem wait_bd (s n : Int) : 4 ≤ waitS s n 4 32 ∧ waitS s n 4 32 ≤ 48 := by
 have hb : 4 ≤ backS n 4 32 ∧ backS n 4 32 ≤ 32 := by
  unfold backS
  rw [if_pos (by omega)]
  have : 4 * 2 ^ 0 ≤ (4 : Int) * 2 ^ n.toNat := pow_le 4 (by omega) (Nat.zero_le _)
  simp only [Int.pow_zero, Int.mul_one] at this
  omega
 have hi := inS_bd s (backS n 4 32 / 2 + 1) (by omega)
 unfold waitS
 rw [if_neg (by omega)]
 omega
theorem agSend_ok {A : AgD} (h : AgOk A) (hc : A.cn + 2 ≤ 1099511627776) (k : Nat) (hk : k < 4) (b : BatD) (hb : 1 ≤ b.seq ∧ b.seq ≤ 9223372036854775807) (n : Int) (hn : 0 ≤ n ∧ n ≤ A.cn) : AgOk (agSend A k b n) := by
 have h1 := agNext_ok h (by omega) (some ((k : Int), b.seq)) (fun y hy => by injection hy with hy; subst hy; exact ⟨by show 0 ≤ (k : Int); omega, by show (k : Int) < 4; omega, hb⟩)
 obtain ⟨p1, p2, p3, p4, p5, p6, p7, p8, p9, p10, p11⟩ := h1
 refine ⟨p1, p2, p3, p4, p5, ⟨p6.1, Int.le_trans p6.2 (by show A.bk.ep * 4294967296 + ((A.cn + 1 : Nat) : Int) ≤ A.bk.ep * 4294967296 + ((A.cn + 2 : Nat) : Int); omega)⟩, p7, hc, fun s q x hx => ?_, p10, p11⟩
 have hx' : (if s = (k : Int) ∧ q = b.seq then some (n + 1, nextAt A n) else A.tries s q) = some x := hx
 have hw := wait_bd (A.tag + 1) n
 have h4 := h.2.2.2.1
 split at hx'
 ·injection hx' with hx'
  subst hx'
  refine ⟨by show 0 ≤ n + 1; omega, by show n + 1 ≤ ((A.cn + 2 : Nat) : Int); omega, ?_, ?_⟩
  ·show 0 ≤ A.now + _; omega
  ·show A.now + _ ≤ _; omega
 ·obtain ⟨a1, a2, a3, a4⟩ := h.2.2.2.2.2.2.2.2.1 s q x hx'
  exact ⟨a1, by show x.1 ≤ ((A.cn + 2 : Nat) : Int); omega, a3, a4⟩
theorem trOk_put {D : DataW Value} {node : Int} {tries : Int → Int → Option (Int × Int)} (h : TrOk D node tries) (hD : Maps.IsMap D) (hno : I64 node) {s q : Int} (hs : I64 s) (hq : I64 q) (x : Int × Int) : TrOk (D.put (ik node s q) (.held (tryV (some x)))) node (setTr tries s q (some x)) := by
 intro s' q' hs' hq'
 unfold setTr
 by_cases he : s' = s ∧ q' = q
 ·obtain ⟨rfl, rfl⟩ := he
  rw [Maps.atKey_put_same hD (ik_key hno hs hq)]
  simp
 ·rw [Maps.atKey_put_other (fun e => he (ik_inj hno hs' hq' hno hs hq e).2), h s' q' hs' hq', if_neg he]
theorem trOk_del {D : DataW Value} {node : Int} {tries : Int → Int → Option (Int × Int)} (h : TrOk D node tries) (hno : I64 node) {s q : Int} (hs : I64 s) (hq : I64 q) : TrOk (D.del (ik node s q)) node (setTr tries s q none) := by
 intro s' q' hs' hq'
 unfold setTr
 by_cases he : s' = s ∧ q' = q
 ·obtain ⟨rfl, rfl⟩ := he
  rw [Maps.atKey_del_same]
  simp [tryV]
 ·rw [Maps.atKey_del_other (fun e => he (ik_inj hno hs' hq' hno hs hq e).2), h s' q' hs' hq', if_neg he]
section
variable {w w' : World} {M M' : List Nat} {tg tg' : Nat → Nat} {a d : Nat} {A : AgD} {C : AgC} {T : List Nat}
/-- The tries turned. -/
theorem AgV.setTr (h : AgV w M tg a A C) (hM : ∀ g ∈ M, g < w.heap.size) {tr' : Int → Int → Option (Int × Int)} {cn' Nt' : Nat} {Dt' : DataW Value} (hcn : A.cn ≤ cn')
  (hm : w'.ownsMap Tryz.prog 30 heldElem C.tb Nt' Dt') (hok : TrOk Dt' A.node tr') (hnt : Nt' ≤ cn') (kp : Keeps [C.tb] w w') :
  AgV w' M tg a { A with tries := tr', cn := cn' } { C with Nt := Nt', Dt := Dt' } ∧ Ext w M tg w' M tg ∧ Keeps (sel M tg [23]) w w' := by
 have ks : Keeps (sel M tg [23]) w w' := kp.to_sel (fun g hg => by
  simp at hg
  subst hg
  exact .inl ⟨h.tbM, by rw [h.ttb]; simp⟩)
 have hx : Ext w M tg w' M tg := Ext.refl hM ks.size
 have hlg : LgAt w' C.p C.Y C.d A.b A.k A.n := lg_other ks h (by simp) (by simp)
 exact ⟨⟨blk_other ks h.blk (by rw [h.ta]; simp), h.aM, h.ta, h.bk.keep hx ks (by simp), hlg, h.pM, h.tp, h.yM, hm, h.tbM, h.ttb, map_other ks h.as_ (by rw [h.tab]; simp), h.abM, h.tab, hok, h.asD, hnt, Nat.le_trans h.na hcn⟩, hx, ks⟩
end
end Go.Proofs.YtgdooockldgdlaaGreatDoor.Vi
end
