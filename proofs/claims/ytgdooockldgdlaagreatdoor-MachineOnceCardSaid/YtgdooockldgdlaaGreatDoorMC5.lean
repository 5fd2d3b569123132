/- Texts put together: McG, McE, McH, McI. -/
import Derived.Deep.RegionHeld3
import Derived.Deep.DeepCutAuto
import Derived.Shelf.SortM.Plain
import Derived.Sort.OwnSortedInts
import Derived.Test.YtgdooockldgdlaaGreatDoorMC3
import Derived.Test.YtgdooockldgdlaaGreatDoorMC4
set_option linter.unusedVariables false
set_option linter.unusedSimpArgs false
section
namespace Go.Proofs.YtgdooockldgdlaaGreatDoor.Vi
open Go.RowKit Base Mem Tape
theorem mc_ep {w w' : World} {g : Nat} {c : McC} {X : List Nat} {st : McD} {N N' : Nat} {DH : DataW Value} {DE' : DataW Unit} (h : McIn w g c X st N DH) (hk : Keeps [c.be] w w')
  (hown : w'.ownsMap Tryz.prog 3 (plainElem Tryz.prog 2) c.be N' DE') (hN : N ≤ N') : McIn w' g c X { st with DE := DE' } N' DH := by
 have hnd := h.nd
 simp only [McC.core, List.nodup_cons, List.mem_cons, List.not_mem_nil, or_false, List.nodup_nil, and_true, not_or, not_false_eq_true] at hnd
 refine ⟨hk.blk h.b0 (by simp; omega), ⟨(h.sm.keep hk (by simp; omega) (by simp; omega)).1, (h.sm.keep hk (by simp; omega) (by simp; omega)).2.1.mono hN, h.sm.2.2⟩, hown, (om_keep h.m3 hk (by simp; omega)).mono hN, h.nd, fun kl s hs => ?_, h.no, h.dj, h.inX, h.fpX⟩
 obtain ⟨h1, h2, h3, h4⟩ := h.sh kl s hs
 exact ⟨h1, h2, h3.keep hk (fun x hx hm => h4 x hx (by simp at hm; subst hm; simp [McC.core])), h4⟩
def ApP (g : Nat) (X : List Nat) (r : Int × Int × McD) (N' : Nat) (w : World) (e : Ending) (w' : World) : Prop :=
 e = .returned (.tuple #[.int .i64 r.1, .int .u64 r.2.1]) ∧ ∃ X', McAt w' g X' r.2.2 N' ∧ (∀ x ∈ X', x ∈ X ∨ (w.heap.size ≤ x ∧ x < w'.heap.size)) ∧ Keeps X w w'
/-- count's contract at an entry. -/
def CountOk (g : Nat) (c : McC) (X : List Nat) (st : McD) (N : Nat) (DH : DataW Value) (e : EntryD) (dv : Value) : Prop :=
 rightE e = 0 → e.kind ≠ 2 → (st.get (pk e.ag e.sh)).seen e.seq = false → Win.farW (st.get (pk e.ag e.sh)).f e.seq = false → ∀ (W : World) (p : Nat) (F : List Nat), McIn W g c X (stE st e) (N + 1) DH → ShAt W p F ((stE st e).get (pk e.ag e.sh)) →
  (∀ s, (stE st e).sh (pk e.ag e.sh) = some s → p = c.pt (pk e.ag e.sh) ∧ F = c.fp (pk e.ag e.sh)) → ((stE st e).sh (pk e.ag e.sh) = none → ∀ x ∈ F, x ∉ X) → (∀ x ∈ X, x < W.heap.size) → (∀ x ∈ F, x < W.heap.size) → Ds W X dv e.ds →
  Calls Tryz.prog 49 #[.pointer (some ⟨g, 0, none⟩), .pointer (some ⟨p, 0, none⟩), .agg (eCell (e, dv)).toArray] W fun r w' => CntP g X F (countM (stE st e) (pk e.ag e.sh) e) (N + 1 + e.ds.length + 1) W r w'
set_option maxRecDepth 100000 in
set_option maxHeartbeats 8000000 in
theorem mcapply_any (g : Nat) (c : McC) (X : List Nat) (st : McD) (N : Nat) (DH : DataW Value) (e : EntryD) (dv : Value) (mx : Int) (w : World) (h : McIn w g c X st N DH) (hcount : CountOk g c X st N DH e dv) (ha : I64 e.ag) (hs : I64 e.sh) (hq : I64 e.seq) (hp : I64 e.ep)
  (hd : Ds w X dv e.ds) (hsh : Short e) (hN : N ≤ 549755813888) (hX : ∀ x ∈ X, x < w.heap.size) (hm : w.cell? ⟨0, 0, none⟩ = some (.int .i64 mx)) :
  Calls Tryz.prog 12 #[.pointer (some ⟨g, 0, none⟩), .agg (eCell (e, dv)).toArray] w fun r w' => ApP g X (applyM st (pk e.ag e.sh) e) (N + e.ds.length + 2) w r w' := by
 have hw0 : 0 < w.heap.size := by
  have := World.block_lt_of_cell? w _ hm
  simpa using this
 have Hm : Hid (∀ W, Keeps [] w W → W.cell? ⟨0, 0, none⟩ = some (.int .i64 mx)) := fun W hk => (hk.cell (p := ⟨0, 0, none⟩) hw0 (by simp)).trans hm
 have HH := Lib.hid h; have HCount := Lib.hid hcount; have Hsh := Lib.hid hsh; have HD := Lib.hid hd
 have hglt : g < w.heap.size := h.b0.lt
 have hbel : c.be < w.heap.size := h.m2.lt
 have hbeX : c.be ∈ X := h.inX _ (by simp [McC.core])
 have HXlt : Hid (c.be < w.heap.size) := hbel
 have hnd := h.nd
 simp only [McC.core, List.nodup_cons, List.mem_cons, List.not_mem_nil, or_false, List.nodup_nil, and_true, not_or, not_false_eq_true] at hnd
 obtain ⟨⟨n1, n2, n3, n4⟩, ⟨n5, n6, n7⟩, ⟨n8, n9⟩, n10⟩ := hnd
 have HAM : Hid (applyM st (pk e.ag e.sh) e = if rightE e = 0 then
  if e.kind = 2 then (8, numAt .u64 st.DS (skey e.ser), st)
  else if (st.get (pk e.ag e.sh)).seen e.seq = true then (if e.seq ∈ (st.get (pk e.ag e.sh)).bad then 3 else 2, 0, st)
  else if e.ep < numAt .i64 st.DE (ekey e.ag) then (4, 0, st)
  else if Win.farW (st.get (pk e.ag e.sh)).f e.seq = true then (5, 0, stE st e)
  else ((countM (stE st e) (pk e.ag e.sh) e).1, 0, (countM (stE st e) (pk e.ag e.sh) e).2)
 else (0, 0, st)) := rfl
 have HQ : Hid (∀ W code n, Keeps [] w W → applyM st (pk e.ag e.sh) e = (code, n, st) → ApP g X (applyM st (pk e.ag e.sh) e) (N + e.ds.length + 2) w (.returned (.tuple #[.int .i64 code, .int .u64 n])) W) := fun W code n hk he => by
  rw [he]
  exact ⟨rfl, X, ⟨c, DH, (h.keep hk (by simp)).more (by omega)⟩, fun x hx => .inl hx, hk.mono (M := []) (by simp)⟩
 have HRt : Hid (∀ W, Keeps [] w W → Calls Tryz.prog 43 #[.agg (eCell (e, dv)).toArray] W fun r w' => NumPost (rightE e) W r w') := fun W hk => eright_any e dv mx W ((hd.keep (M' := []) hk (by simp)).avoid (by simp)) hsh (Hm.out W hk)
 have HOf : Hid (∀ W, Keeps [] w W → Calls Tryz.prog 45 #[.pointer (some ⟨g, 0, none⟩), .int .i64 e.ag, .int .i64 e.sh] W fun r w' => OfP st c (pk e.ag e.sh) W r w') := fun W hk => mcof_any g c X st N DH _ _ W (h.keep hk (by simp)) ha hs
 have hser : e.ser.size ≤ 9223372036854775807 := by have := hsh.1; omega
 have HGet : Hid (∀ W, Keeps [] w W → Calls Tryz.prog 44 #[.pointer (some ⟨c.gs, 0, none⟩), .string e.ser] W fun r w' => r = .returned (.int .u64 (numAt .u64 st.DS (skey e.ser))) ∧ W = w') := fun W hk => smget_any _ _ _ _ _ W ((h.keep hk (by simp)).sm) hser
 have HM2 := Lib.hid h.m2; have HB0 := Lib.hid h.b0
 have Hep := Lib.hid (ekey_of ha)
 clear h hcount hsh hd hm
 obtain ⟨kind, ag, sh, seq, ep, ds, ser, fr, tag⟩ := e
 simp only [] at *
 obtain ⟨A, cc, rfl, hcc⟩ := HD.out.len
 have hBx := Blk.new w 33 #[.int .i64 kind, .int .i64 ag, .int .i64 sh, .int .i64 seq, .int .i64 ep, .slice A ds.length cc, .string ser, .int .i64 fr, .int .i64 tag]
 have HkA : Hid (Keeps [] w (w.alloc (.cells #[.int .i64 kind, .int .i64 ag, .int .i64 sh, .int .i64 seq, .int .i64 ep, .slice A ds.length cc, .string ser, .int .i64 fr, .int .i64 tag] 33))) := (Keeps.refl _ _).alloc _
 have HBx := Lib.hid hBx
 clear hBx
 generalize hkl : pk ag sh = kl at *
 show Calls Tryz.prog 12 #[.pointer (some ⟨g, 0, none⟩), .agg #[.int .i64 kind, .int .i64 ag, .int .i64 sh, .int .i64 seq, .int .i64 ep, .slice A ds.length cc, .string ser, .int .i64 fr, .int .i64 tag]] w _
 go_enter Tryz.func12, Tryz.ntmps12
 go_upto_region 1 with (fail)
 generalize w.alloc (.cells #[.int .i64 kind, .int .i64 ag, .int .i64 sh, .int .i64 seq, .int .i64 ep, .slice A ds.length cc, .string ser, .int .i64 fr, .int .i64 tag] 33) = wa at *
 obtain ⟨g7, Hg7⟩ : ∃ g7, Hid (g7 = w.heap.size) := ⟨_, rfl⟩
 rw [← Hg7.out] at HBx ⊢
 have q1 : g7 ≠ g ∧ g7 ≠ c.be := by have := Hg7.out; omega
 obtain ⟨q1, q2⟩ := q1
 have HE : Hid (∀ W, Keeps [c.be] wa W → W.cell? ⟨g7, 0, none⟩ = some (.int .i64 kind) ∧ W.cell? ⟨g7, 1, none⟩ = some (.int .i64 ag) ∧ W.cell? ⟨g7, 2, none⟩ = some (.int .i64 sh) ∧ W.cell? ⟨g7, 3, none⟩ = some (.int .i64 seq) ∧ W.cell? ⟨g7, 4, none⟩ = some (.int .i64 ep) ∧ W.cell? ⟨g7, 5, none⟩ = some (.slice A ds.length cc) ∧ W.cell? ⟨g7, 6, none⟩ = some (.string ser) ∧ W.cell? ⟨g7, 7, none⟩ = some (.int .i64 fr) ∧ W.cell? ⟨g7, 8, none⟩ = some (.int .i64 tag)) := fun W hk => by
  have h2 := hk.blk HBx.out (by simp; omega)
  exact ⟨h2.cell 0, h2.cell 1, h2.cell 2, h2.cell 3, h2.cell 4, h2.cell 5, h2.cell 6, h2.cell 7, h2.cell 8⟩
 have HMc : Hid (∀ W, Keeps [c.be] wa W → W.cell? ⟨g, 0, none⟩ = some (.pointer (some ⟨c.gs, 0, none⟩)) ∧ W.cell? ⟨g, 1, none⟩ = some (.map (some c.be))) := fun W hk => by
  have h2 := hk.blk (HkA.out.blk HB0.out (by simp)) (by simp; omega)
  exact ⟨h2.cell 0, h2.cell 1⟩
 obtain ⟨c0, c1, c2, c3, c4, c5, c6, c7, c8⟩ := HE.out wa (Keeps.refl _ _)
 go_wp2_with fail
 refine (HRt.out wa HkA.out).mono ?_
 rintro r w1 ⟨rfl, hb1⟩
 have Hk1 : Hid (Keeps [] w w1) := HkA.out.trans (Keeps.of_below (M := []) hb1) (by simp)
 have Hka1 : Hid (Keeps [c.be] wa w1) := (Keeps.of_below (M := []) hb1).mono (by simp)
 clear hb1 c0 c1 c2 c3 c4 c5 c6 c7 c8 HRt
 obtain ⟨c0, c1, c2, c3, c4, c5, c6, c7, c8⟩ := HE.out w1 Hka1.out
 obtain ⟨m0, m1⟩ := HMc.out w1 Hka1.out
 by_cases hr : rightE ⟨kind, ag, sh, seq, ep, ds, ser, fr, tag⟩ = 0
 ·have hri : decide (((rightE ⟨kind, ag, sh, seq, ep, ds, ser, fr, tag⟩ : Nat) : Int) = 0) = true := decide_eq_true (by omega)
  rw [if_pos hr] at HAM
  rw [hr]
  by_cases hk2 : kind = 2
  ·rw [if_pos hk2] at HAM
   subst hk2
   have hP : Hid (∀ q, ApP g X (applyM st kl ⟨2, ag, sh, seq, ep, ds, ser, fr, tag⟩) (N + ds.length + 2) w (.returned (.tuple #[.int .i64 8, .int .u64 (numAt .u64 st.DS (skey ser))])) (w1.drewN q)) := fun q => HQ.out _ _ _ (Hk1.out.drewN q) HAM.out
   have HG1 : Hid (∀ q, Calls Tryz.prog 44 #[.pointer (some ⟨c.gs, 0, none⟩), .string ser] (w1.drewN q) fun r w' => r = .returned (.int .u64 (numAt .u64 st.DS (skey ser))) ∧ w1.drewN q = w') := fun q => HGet.out _ (Hk1.out.drewN q)
   clear HAM hri
   go_upto_region 4 with (fail)
   go_quiet ((go_at_call 44; exact quiet_left (HG1.out _)))
   go_wp2
   go_ret2
   exact hP.out _
  ·rw [if_neg hk2] at HAM
   have hki : (kind == 2) = false := beq_eq_false_iff_ne.2 hk2
   clear HGet hri
   go_upto_region 5 with (fail)
   go_wp2_with fail
   refine (HOf.out w1 Hk1.out).mono ?_
   rintro r w2 ⟨p, F, rfl, hsh2, hsome, hnone, hkk2⟩
   have Hk2 : Hid (Keeps [] w w2) := Hk1.out.trans hkk2 (by simp)
   have Hka2 : Hid (Keeps [c.be] wa w2) := Hka1.out.trans hkk2 (by simp)
   have HSh2 := Lib.hid hsh2; have Hsome := Lib.hid hsome; have Hnone := Lib.hid hnone
   have HFb : Hid (∀ x ∈ F, x ≠ c.be) := by
    intro x hx
    cases hs' : st.sh kl with
    | some s =>
     obtain ⟨_, rfl⟩ := hsome s hs'
     exact fun e => (HH.out.sh _ s hs').2.2.2 x hx (by rw [e]; simp [McC.core])
    | none =>
     have h1 := (hnone hs' x hx).1
     have h2 := Hk1.out.size
     omega
   have HFX : Hid (st.sh kl = none → ∀ x ∈ F, x ∉ X) := fun hs' x hx hX' => by
    have h1 := (hnone hs' x hx).1
    have h2 := Hk1.out.size
    have h3 := hX x hX'
    omega
   have HFN : Hid (∀ x ∈ F, x ∈ X ∨ (w.heap.size ≤ x ∧ x < w2.heap.size)) := by
    intro x hx
    cases hs' : st.sh kl with
    | some s =>
     obtain ⟨_, rfl⟩ := hsome s hs'
     exact .inl (HH.out.fpX _ (by rw [hs']; simp) x hx)
    | none =>
     have h1 := hnone hs' x hx
     have h2 := Hk1.out.size
     exact .inr (by omega)
   obtain ⟨pw, v, hbp, hwn, hown, hpF, hwF, hpw, hvF, hl8, hbd⟩ := hsh2
   have hpb := HFb.out p hpF
   have hwb := HFb.out pw hwF
   have HPc : Hid (∀ W, Keeps [c.be] w2 W → W.cell? ⟨p, 0, none⟩ = some (.pointer (some ⟨pw, 0, none⟩)) ∧ W.cell? ⟨p, 1, none⟩ = some v) := fun W hk => by
    have h2 := hk.blk hbp (by simp; omega)
    exact ⟨h2.cell 0, h2.cell 1⟩
   have HSeen : Hid (∀ W, Keeps [c.be] w2 W → ∀ q, Calls Tryz.prog 46 #[.pointer (some ⟨pw, 0, none⟩), .int .i64 seq] (W.drewN q) fun e w' => e = .returned (.bool ((st.get kl).seen seq)) ∧ ∃ m, w' = (W.drewN q).drewN m) := fun W hk q =>
    wnseen_any pw _ _ seq _ (hwn.keep (hk.drewN q) (by simp; omega)) hq.2
   have HFar : Hid (∀ W, Keeps [c.be] w2 W → ∀ q, Calls Tryz.prog 48 #[.pointer (some ⟨pw, 0, none⟩), .int .i64 seq] (W.drewN q) fun e w' => e = .returned (.bool (Win.farW (st.get kl).f seq)) ∧ W.drewN q = w') := fun W hk q =>
    wnfar_any pw _ _ seq _ (hwn.keep (hk.drewN q) (by simp; omega)) hq.2
   have HCon : Hid (∀ W, Keeps [c.be] w2 W → ∀ q, Calls Tryz.prog 47 #[v, .int .i64 seq] (W.drewN q) fun e w' => e = .returned (.bool (decide (seq ∈ (st.get kl).bad))) ∧ W.drewN q = w') := fun W hk q =>
    conI_any v _ seq _ (rd_own (own_other2 hown (hk.drewN q) (fun g' hg' => by have := HFb.out g' (hvF g' hg').1; simp; omega))) (by omega)
   clear hbp hwn hown hvF hbd hsome hnone hkk2 HOf c0 c1 c2 c3 c4 c5 c6 c7 c8 m0 m1 hl8
   obtain ⟨c0, c1, c2, c3, c4, c5, c6, c7, c8⟩ := HE.out w2 Hka2.out
   obtain ⟨m0, m1⟩ := HMc.out w2 Hka2.out
   obtain ⟨p0, p1⟩ := HPc.out w2 (Keeps.refl _ _)
   have HS2 := Lib.hid (HSeen.out w2 (Keeps.refl _ _)); have HC2 := Lib.hid (HCon.out w2 (Keeps.refl _ _))
   clear HCon
   go_upto_region 6 with (fail)
   cases hsn : (st.get kl).seen seq with
   | true =>
    rw [hsn, if_pos rfl] at HAM
    rw [hsn] at HS2 HSeen
    by_cases hbn : seq ∈ (st.get kl).bad
    ·rw [if_pos hbn] at HAM
     rw [decide_eq_true hbn] at HC2
     have hP : Hid (∀ q, ApP g X (applyM st kl ⟨kind, ag, sh, seq, ep, ds, ser, fr, tag⟩) (N + ds.length + 2) w (.returned (.tuple #[.int .i64 3, .int .u64 0])) (w2.drewN q)) := fun q => HQ.out _ _ _ (Hk2.out.drewN q) HAM.out
     clear HAM HSeen HFar
     go_quiet (first | (go_at_call 46; exact quiet_add (HS2.out _)) | (go_at_call 47; exact quiet_left (HC2.out _)))
     go_wp2
     go_ret2
     exact hP.out _
    ·rw [if_neg hbn] at HAM
     rw [decide_eq_false hbn] at HC2
     have hP : Hid (∀ q q', ApP g X (applyM st kl ⟨kind, ag, sh, seq, ep, ds, ser, fr, tag⟩) (N + ds.length + 2) w (.returned (.tuple #[.int .i64 2, .int .u64 0])) ((w2.drewN q).drewN q')) := fun q q' => HQ.out _ _ _ ((Hk2.out.drewN q).drewN q') HAM.out
     clear HAM HFar
     go_quiet (first | (go_at_call 46; exact quiet_add (HS2.out _)) | (go_at_call 47; exact quiet_left (HC2.out _)))
     have hP' := Lib.hid (hP.out nq)
     have hk3 : Hid (Keeps [c.be] w2 (w2.drewN nq)) := (Keeps.refl _ _).drewN nq
     have HS3 := Lib.hid (HSeen.out _ hk3.out)
     go_upto_region 8 with (fail)
     generalize w2.drewN nq = w3 at *
     obtain ⟨c0, c1, c2, c3, c4, c5, c6, c7, c8⟩ := HE.out w3 (Hka2.out.trans hk3.out (by simp))
     obtain ⟨p0, p1⟩ := HPc.out w3 hk3.out
     clear HSeen HS2 HC2 hP
     go_quiet ((go_at_call 46; exact quiet_add (HS3.out _)))
     go_wp2
     go_ret2
     exact hP'.out _
   | false =>
    rw [hsn, if_neg (by simp)] at HAM
    rw [hsn] at HS2 HSeen
    go_quiet (first | (go_at_call 46; exact quiet_add (HS2.out _)) | (go_at_call 47; exact quiet_left (HC2.out _)))
    have hk3 : Hid (Keeps [c.be] w2 (w2.drewN nq)) := (Keeps.refl _ _).drewN nq
    have Hk3 : Hid (Keeps [] w (w2.drewN nq)) := Hk2.out.drewN nq
    have HS3 := Lib.hid (HSeen.out _ hk3.out)
    go_upto_region 8 with (fail)
    clear c0 c1 c2 c3 c4 c5 c6 c7 c8 m0 m1 p0 p1
    generalize w2.drewN nq = w3 at *
    obtain ⟨c0, c1, c2, c3, c4, c5, c6, c7, c8⟩ := HE.out w3 (Hka2.out.trans hk3.out (by simp))
    obtain ⟨p0, p1⟩ := HPc.out w3 hk3.out
    clear HSeen HS2 HC2
    go_quiet ((go_at_call 46; exact quiet_add (HS3.out _)))
    have hk4 : Hid (Keeps [c.be] w2 (w3.drewN nq)) := hk3.out.drewN nq
    have Hk4 : Hid (Keeps [] w (w3.drewN nq)) := Hk3.out.drewN nq
    go_upto_region 10 with (fail)
    clear c0 c1 c2 c3 c4 c5 c6 c7 c8 p0 p1 HS3
    generalize w3.drewN nq = w4 at *
    clear hk3 Hk3
    obtain ⟨c0, c1, c2, c3, c4, c5, c6, c7, c8⟩ := HE.out w4 (Hka2.out.trans hk4.out (by simp))
    obtain ⟨m0, m1⟩ := HMc.out w4 (Hka2.out.trans hk4.out (by simp))
    have HM4 : Hid (∀ q, (w4.drewN q).ownsMap Tryz.prog 3 (plainElem Tryz.prog 2) c.be N st.DE) := fun q => om_keep HM2.out (Hk4.out.drewN q) (by simp)
    have hlook : ∀ q, (Instr.lookup 89 (.map (some c.be)) (.int .i64 ag) false).run Tryz.prog (w4.drewN q) = .ok (.int .i64 (numAt .i64 st.DE (ekey ag))) (w4.drewN q) := fun q => (om_num (HM4.out q) lawI uME uI64 (zI64 _) Hep.out).1
    have HIE : Hid (∀ W, Keeps [c.be] w W → W.ownsMap Tryz.prog 3 (plainElem Tryz.prog 2) c.be (N + 1) (st.DE.put (ekey ag) (.lit (.int .i64 ep))) → McIn W g c X (stE st ⟨kind, ag, sh, seq, ep, ds, ser, fr, tag⟩) (N + 1) DH) := fun W h1 h2 => mc_ep HH.out h1 h2 (by omega)
    by_cases hep : ep < numAt .i64 st.DE (ekey ag)
    ·rw [if_pos hep] at HAM
     have hepi : decide (ep < numAt .i64 st.DE (ekey ag)) = true := decide_eq_true hep
     have hP : Hid (∀ q, ApP g X (applyM st kl ⟨kind, ag, sh, seq, ep, ds, ser, fr, tag⟩) (N + ds.length + 2) w (.returned (.tuple #[.int .i64 4, .int .u64 0])) (w4.drewN q)) := fun q => HQ.out _ _ _ (Hk4.out.drewN q) HAM.out
     clear HAM HFar HIE HM4
     generalize numAt .i64 st.DE (ekey ag) = top at *
     go_quiet (fail)
     go_wp2
     go_ret2
     exact hP.out _
    ·rw [if_neg hep] at HAM
     have hepi : decide (ep < numAt .i64 st.DE (ekey ag)) = false := decide_eq_false hep
     generalize htop : numAt .i64 st.DE (ekey ag) = top at *
     clear htop hep
     go_quiet (fail)
     have hk5 : Hid (Keeps [c.be] w2 (w4.drewN nq)) := hk4.out.drewN nq
     have Hk5 : Hid (Keeps [] w (w4.drewN nq)) := Hk4.out.drewN nq
     have HM5 := Lib.hid (HM4.out nq)
     go_upto_region 12 with (fail)
     clear c0 c1 c2 c3 c4 c5 c6 c7 c8 m0 m1 hlook HM4
     generalize w4.drewN nq = w5 at *
     clear hk4 Hk4
     have HS5 : Hid (∀ W, Keeps [c.be] w5 W → W.cell? ⟨g, 1, none⟩ = some (.map (some c.be)) ∧ W.cell? ⟨g7, 1, none⟩ = some (.int .i64 ag) ∧ W.cell? ⟨g7, 4, none⟩ = some (.int .i64 ep)) := fun W hk => by
      have hka := (Hka2.out.trans hk5.out (by simp)).trans hk (by simp)
      obtain ⟨c0, c1, c2, c3, c4, c5, c6, c7, c8⟩ := HE.out W hka
      exact ⟨(HMc.out W hka).2, c1, c4⟩
     obtain ⟨w6, hupd, hown6, hturn⟩ := (om_keep HM5.out ((Keeps.refl [] w5).drew) (by simp)).store lawI uME (by unfold maxLen; omega) Hep.out (plainElem_int uI64 (WalkArith.wf_i64 hp) : plainElem (H := Unit) Tryz.prog 2 (.int .i64 ep) = _)
     have hk6 := turned_keeps hturn
     have Hk56 : Hid (Keeps [c.be] w5 w6) := (Keeps.refl [c.be] w5).drew.trans hk6 (by simp)
     have HIE6 : Hid (∀ W, Keeps [] w6 W → McIn W g c X (stE st ⟨kind, ag, sh, seq, ep, ds, ser, fr, tag⟩) (N + 1) DH) := fun W hk => HIE.out W (((Hk5.out.mono (M' := [c.be]) (by simp)).trans Hk56.out (by simp)).trans hk (by simp)) (om_keep hown6 hk (by simp))
     clear hown6 hturn hk6 HIE HM5
     refine wp_region_held_drew (S := (fun W => W.cell? ⟨g, 1, none⟩ = some (.map (some c.be)) ∧ W.cell? ⟨g7, 1, none⟩ = some (.int .i64 ag) ∧ W.cell? ⟨g7, 4, none⟩ = some (.int .i64 ep))) (by kernel_rfl) (HS5.out _ (Keeps.refl _ _).drew) (fun hHeld => ?_)
     refine wpAnyH_take (i := 0) (oi := _) (v := ?v0d) rfl (by kernel_rfl) (by kernel_rfl) (by kernel_rfl) (fun _ _ _ h => h) (Or.inl ⟨by rfl, ?y0d⟩) (by assumption) ?r0d
     case y0d => (intro w hSw; (obtain ⟨hS0, hS1, hS2⟩ := hSw); go_simp <;> with_reducible rfl)
     try simp only [List.getElem_toArray, List.getElem_cons_succ, List.getElem_cons_zero, Act.put, List.setIfInBounds_toArray, List.set_cons_zero, List.set_cons_succ]
     refine wpAnyH_take (i := 1) (oi := _) (v := ?v1d) rfl (by kernel_rfl) (by kernel_rfl) (by kernel_rfl) (fun _ _ _ h => h) (Or.inl ⟨by rfl, ?y1d⟩) (by assumption) ?r1d
     case y1d => (intro w hSw; (obtain ⟨hS0, hS1, hS2⟩ := hSw); go_simp <;> with_reducible rfl)
     try simp only [List.getElem_toArray, List.getElem_cons_succ, List.getElem_cons_zero, Act.put, List.setIfInBounds_toArray, List.set_cons_zero, List.set_cons_succ]
     refine wpAnyH_take (i := 2) (oi := _) (v := ?v2d) rfl (by kernel_rfl) (by kernel_rfl) (by kernel_rfl) (fun _ _ _ h => h) (Or.inl ⟨by rfl, ?y2d⟩) (by assumption) ?r2d
     case y2d => (intro w hSw; (obtain ⟨hS0, hS1, hS2⟩ := hSw); go_simp <;> with_reducible rfl)
     try simp only [List.getElem_toArray, List.getElem_cons_succ, List.getElem_cons_zero, Act.put, List.setIfInBounds_toArray, List.set_cons_zero, List.set_cons_succ]
     refine wpAnyH_take (i := 3) (oi := _) (v := ?v3d) rfl (by kernel_rfl) (by kernel_rfl) (by kernel_rfl) (fun _ _ _ h => h) (Or.inl ⟨by rfl, ?y3d⟩) (by assumption) ?r3d
     case y3d => (intro w hSw; (obtain ⟨hS0, hS1, hS2⟩ := hSw); go_simp <;> with_reducible rfl)
     try simp only [List.getElem_toArray, List.getElem_cons_succ, List.getElem_cons_zero, Act.put, List.setIfInBounds_toArray, List.set_cons_zero, List.set_cons_succ]
     refine wpAnyH_take (i := 4) (oi := _) (v := ?v4d) rfl (by kernel_rfl) (by kernel_rfl) (by kernel_rfl) (fun _ _ _ h => h) (Or.inl ⟨by rfl, ?y4d⟩) (by assumption) ?r4d
     case y4d => (intro w hSw; (obtain ⟨hS0, hS1, hS2⟩ := hSw); go_simp <;> with_reducible rfl)
     try simp only [List.getElem_toArray, List.getElem_cons_succ, List.getElem_cons_zero, Act.put, List.setIfInBounds_toArray, List.set_cons_zero, List.set_cons_succ]
     refine wpAnyH_take (i := 5) (oi := _) (v := ?v5d) rfl (by kernel_rfl) (by kernel_rfl) (by kernel_rfl) (fun _ _ _ h => h) (Or.inl ⟨by rfl, ?y5d⟩) (by assumption) ?r5d
     case y5d => (intro w hSw; (obtain ⟨hS0, hS1, hS2⟩ := hSw); go_simp <;> with_reducible rfl)
     try simp only [List.getElem_toArray, List.getElem_cons_succ, List.getElem_cons_zero, Act.put, List.setIfInBounds_toArray, List.set_cons_zero, List.set_cons_succ]
     refine wpAnyH_take (i := 6) (oi := _) (v := ?v6d) rfl (by kernel_rfl) (by kernel_rfl) (by kernel_rfl) (fun _ _ _ h => h) (Or.inl ⟨by rfl, ?y6d⟩) (by assumption) ?r6d
     case y6d => (intro w hSw; (obtain ⟨hS0, hS1, hS2⟩ := hSw); go_simp <;> with_reducible rfl)
     try simp only [List.getElem_toArray, List.getElem_cons_succ, List.getElem_cons_zero, Act.put, List.setIfInBounds_toArray, List.set_cons_zero, List.set_cons_succ]
     refine wpAnyH_take (i := 7) (oi := _) (v := ?v7d) rfl (by kernel_rfl) (by kernel_rfl) (by kernel_rfl) (fun _ _ _ h => h) (Or.inl ⟨by rfl, ?y7d⟩) (by assumption) ?r7d
     case y7d => (intro w hSw; (obtain ⟨hS0, hS1, hS2⟩ := hSw); go_simp <;> with_reducible rfl)
     try simp only [List.getElem_toArray, List.getElem_cons_succ, List.getElem_cons_zero, Act.put, List.setIfInBounds_toArray, List.set_cons_zero, List.set_cons_succ]
     refine wpAnyH_take (i := 8) (oi := _) (v := ?v8d) rfl (by kernel_rfl) (by kernel_rfl) (by kernel_rfl) (fun _ _ _ h => h) (Or.inl ⟨by rfl, ?y8d⟩) (by assumption) ?r8d
     case y8d => (intro w hSw; (obtain ⟨hS0, hS1, hS2⟩ := hSw); go_simp <;> with_reducible rfl)
     try simp only [List.getElem_toArray, List.getElem_cons_succ, List.getElem_cons_zero, Act.put, List.setIfInBounds_toArray, List.set_cons_zero, List.set_cons_succ]
     refine wpAnyH_ready (rs := [9]) (by kernel_rfl) (by simp) ?_
     refine AllReadyH.cons (o := _) rfl (fun K hK => ?_) AllReadyH.nil
     go_simp
     refine hK.out _ _ (HS5.out _ Hk56.out) (fun hHeld2 => ?_)
     clear hK K hHeld
     have hHeld := hHeld2
     clear hHeld2
     try simp only [List.getElem_toArray, List.getElem_cons_succ, List.getElem_cons_zero, Act.put, List.setIfInBounds_toArray, List.set_cons_zero, List.set_cons_succ]
     refine wpAnyH_done (by kernel_rfl) ?_ _
     clear hupd hHeld HS5
     have hk6 : Hid (Keeps [c.be] w2 w6) := hk5.out.trans Hk56.out (by simp)
     have Hk6 : Hid (Keeps [c.be] w w6) := (Hk5.out.mono (M' := [c.be]) (by simp)).trans Hk56.out (by simp)
     clear hk5 Hk5 Hk56
     have HF6 := Lib.hid (HFar.out w6 hk6.out)
     obtain ⟨c0, c1, c2, c3, c4, c5, c6, c7, c8⟩ := HE.out w6 (Hka2.out.trans hk6.out (by simp))
     obtain ⟨p0, p1⟩ := HPc.out w6 hk6.out
     clear HFar
     go_upto_region 13 with (fail)
     cases hfr : Win.farW (st.get kl).f seq with
     | true =>
      rw [hfr, if_pos rfl] at HAM
      rw [hfr] at HF6
      have hP : Hid (∀ q, ApP g X (applyM st kl ⟨kind, ag, sh, seq, ep, ds, ser, fr, tag⟩) (N + ds.length + 2) w (.returned (.tuple #[.int .i64 5, .int .u64 0])) (w6.drewN q)) := fun q => by
       rw [HAM.out]
       exact ⟨rfl, X, ⟨c, DH, (HIE6.out _ ((Keeps.refl _ _).drewN q)).more (by omega)⟩, fun x hx => .inl hx, (Hk6.out.drewN q).mono (by intro x hx; simp at hx; subst hx; exact .inl hbeX)⟩
      clear HAM
      go_quiet ((go_at_call 48; exact quiet_left (HF6.out _)))
      go_wp2
      go_ret2
      exact hP.out _
     | false =>
      rw [hfr, if_neg (by simp)] at HAM
      rw [hfr] at HF6
      go_quiet ((go_at_call 48; exact quiet_left (HF6.out _)))
      have hk7 : Hid (Keeps [c.be] w2 (w6.drewN nq)) := hk6.out.drewN nq
      have Hk7 : Hid (Keeps [c.be] w (w6.drewN nq)) := Hk6.out.drewN nq
      have HI7 := Lib.hid (HIE6.out _ ((Keeps.refl _ _).drewN nq))
      go_upto_region 15 with (fail)
      clear c0 c1 c2 c3 c4 c5 c6 c7 c8 p0 p1 HF6 HIE6
      generalize w6.drewN nq = w7 at *
      obtain ⟨c0, c1, c2, c3, c4, c5, c6, c7, c8⟩ := HE.out w7 (Hka2.out.trans hk7.out (by simp))
      have HC7 : Hid (Calls Tryz.prog 49 #[.pointer (some ⟨g, 0, none⟩), .pointer (some ⟨p, 0, none⟩), .agg #[.int .i64 kind, .int .i64 ag, .int .i64 sh, .int .i64 seq, .int .i64 ep, .slice A ds.length cc, .string ser, .int .i64 fr, .int .i64 tag]] w7 fun r w' => CntP g X F (countM (stE st ⟨kind, ag, sh, seq, ep, ds, ser, fr, tag⟩) kl ⟨kind, ag, sh, seq, ep, ds, ser, fr, tag⟩) (N + 1 + ds.length + 1) w7 r w') := by
       have := HCount.out hr (by simpa using hk2) (by simp only []; rw [hkl]; exact hsn) (by simp only []; rw [hkl]; exact hfr) w7 p F HI7.out (by simp only []; rw [hkl]; exact HSh2.out.keep hk7.out (fun x hx => by have := HFb.out x hx; simp; omega)) (by simp only []; rw [hkl]; exact Hsome.out) (by simp only []; rw [hkl]; exact HFX.out) (fun x hx => Nat.lt_of_lt_of_le (hX x hx) Hk7.out.size) (fun x hx => by rcases HFN.out x hx with h | h; exact Nat.lt_of_lt_of_le (hX x h) Hk7.out.size; exact Nat.lt_of_lt_of_le h.2 hk7.out.size) (HD.out.keep Hk7.out (by intro x hx; simp at hx; subst hx; exact .inl hbeX))
       simp only [] at this
       rw [hkl] at this
       exact this
      go_wp2_with fail
      refine HC7.out.mono ?_
      rintro r w8 ⟨rfl, X', hmc8, hX8, hk8⟩
      have hP : Hid (ApP g X (applyM st kl ⟨kind, ag, sh, seq, ep, ds, ser, fr, tag⟩) (N + ds.length + 2) w (.returned (.tuple #[.int .i64 (countM (stE st ⟨kind, ag, sh, seq, ep, ds, ser, fr, tag⟩) kl ⟨kind, ag, sh, seq, ep, ds, ser, fr, tag⟩).1, .int .u64 0])) w8) := by
       rw [HAM.out]
       have s1 := Hk7.out.size
       have s2 := hk8.size
       have s3 := hk7.out.size
       refine ⟨rfl, X', ?_, fun x hx => ?_, ?_⟩
       ·rw [show N + ds.length + 2 = N + 1 + ds.length + 1 by omega]; exact hmc8
       ·rcases hX8 x hx with h | h | h
        ·exact .inl h
        ·rcases HFN.out x h with h | h
         ·exact .inl h
         ·exact .inr (by omega)
        ·exact .inr (by omega)
       ·refine (Hk7.out.mono (M' := X) (by intro x hx; simp at hx; subst hx; exact .inl hbeX)).trans hk8 (fun x hx => ?_)
        rcases List.mem_append.1 hx with h | h
        ·exact .inl h
        ·rcases HFN.out x h with h | h
         ·exact .inl h
         ·exact .inr (by omega)
      clear hmc8 hX8 hk8 HC7 HAM
      go_wp2
      go_ret2
      exact hP.out
 ·have hri : (((rightE ⟨kind, ag, sh, seq, ep, ds, ser, fr, tag⟩ : Nat) : Int) == 0) = false := beq_eq_false_iff_ne.2 (by omega)
  have hri2 : (((rightE ⟨kind, ag, sh, seq, ep, ds, ser, fr, tag⟩ : Nat) : Int) != 0) = true := by rw [bne, hri]; rfl
  rw [if_neg hr] at HAM
  have hP := Lib.hid (HQ.out w1 0 0 Hk1.out HAM.out)
  clear HAM HGet HOf hr
  generalize rightE ⟨kind, ag, sh, seq, ep, ds, ser, fr, tag⟩ = rr at *
  go_wp2
  go_ret2
  exact hP.out
open Classical in
noncomputable def McC.put (c : McC) (kl : Lit) (p : Nat) (F : List Nat) : McC := { c with pt := fun k => if k = kl then p else c.pt k, fp := fun k => if k = kl then F else c.fp k }
theorem McC.pt_same (c : McC) (kl : Lit) (p : Nat) (F : List Nat) : (c.put kl p F).pt kl = p := by simp [McC.put]
theorem McC.fp_same (c : McC) (kl : Lit) (p : Nat) (F : List Nat) : (c.put kl p F).fp kl = F := by simp [McC.put]
theorem McC.pt_other (c : McC) {kl k : Lit} (p : Nat) (F : List Nat) (h : k ≠ kl) : (c.put kl p F).pt k = c.pt k := by simp [McC.put, h]
theorem McC.fp_other (c : McC) {kl k : Lit} (p : Nat) (F : List Nat) (h : k ≠ kl) : (c.put kl p F).fp k = c.fp k := by simp [McC.put, h]
theorem mc_put {w w' : World} {g : Nat} {c : McC} {X : List Nat} {st : McD} {N N' : Nat} {DH : DataW Value} {kl : Lit} {p : Nat} {F M : List Nat} {DS' : DataW Unit} {s' : ShD} (h : McIn w g c X st N DH) (hkl : WideAt.IsKeyLit kl)
  (hsome : ∀ s, st.sh kl = some s → p = c.pt kl ∧ F = c.fp kl) (hnone : st.sh kl = none → ∀ x ∈ F, x ∉ X) (hk : Keeps M w w') (hM : ∀ x ∈ M, x = c.bm ∨ x = c.bs ∨ x ∈ F)
  (hsm : SmAt w' c.gs c.bm N' DS') (hm3 : w'.ownsMap Tryz.prog 168 heldElem c.bs N' (DH.put kl (.held (.pointer (some ⟨p, 0, none⟩))))) (hsh : ShAt w' p F s') (hN : N ≤ N') :
  McIn w' g (c.put kl p F) (X ++ F) (({ st with DS := DS' } : McD).set kl s') N' (DH.put kl (.held (.pointer (some ⟨p, 0, none⟩)))) := by
 have hFc : ∀ x ∈ F, x ∉ c.core g := by
  intro x hx
  cases hs : st.sh kl with
  | some s =>
   obtain ⟨_, rfl⟩ := hsome s hs
   exact (h.sh kl s hs).2.2.2 x hx
  | none => exact fun hc => hnone hs x hx (h.inX x hc)
 have hFk : ∀ k, k ≠ kl → st.sh k ≠ none → ∀ x ∈ c.fp k, x ∉ F := by
  intro k hne hs x hx hF
  cases hs' : st.sh kl with
  | some s =>
   obtain ⟨_, rfl⟩ := hsome s hs'
   exact h.dj k kl hne hs (by rw [hs']; simp) x hx hF
  | none => exact hnone hs' x hF (h.fpX k hs x hx)
 have hnd := h.nd
 simp only [McC.core, List.nodup_cons, List.mem_cons, List.not_mem_nil, or_false, List.nodup_nil, and_true, not_or, not_false_eq_true] at hnd
 have hmap : Maps.IsMap DH := h.m3.isMap
 refine ⟨?_, hsm, ?_, hm3, h.nd, ?_, ?_, ?_, ?_, ?_⟩
 ·refine hk.blk h.b0 (fun hm => ?_)
  rcases hM g hm with e | e | e
  ·omega
  ·omega
  ·exact hFc g e (by simp [McC.core])
 ·refine (om_keep h.m2 hk (fun hm => ?_)).mono hN
  rcases hM _ hm with e | e | e
  ·omega
  ·omega
  ·exact hFc _ e (by simp [McC.core])
 ·intro k s hs
  by_cases e : k = kl
  ·subst e
   rw [McD.sh_set] at hs
   injection hs with hs
   subst hs
   rw [McC.pt_same, McC.fp_same]
   exact ⟨Maps.has_put_same hmap hkl _, Maps.atKey_put_same hmap hkl _ _, hsh, hFc⟩
  ·rw [McD.sh_other _ _ e] at hs
   obtain ⟨h1, h2, h3, h4⟩ := h.sh k s hs
   rw [McC.pt_other _ _ _ e, McC.fp_other _ _ _ e]
   refine ⟨(Maps.has_put_other e _).trans h1, (Maps.atKey_put_other e _ _).trans h2, h3.keep hk (fun x hx hm => ?_), h4⟩
   rcases hM x hm with e' | e' | e'
   ·exact h4 x hx (by rw [e']; simp [McC.core])
   ·exact h4 x hx (by rw [e']; simp [McC.core])
   ·exact hFk k e (by show st.sh k ≠ none; rw [show st.sh k = some s from hs]; simp) x hx e'
 ·intro k hs
  by_cases e : k = kl
  ·subst e; rw [McD.sh_set] at hs; cases hs
  ·rw [McD.sh_other _ _ e] at hs
   exact (Maps.has_put_other e _).trans (h.no k hs)
 ·intro k k' hne hs hs' x hx hx'
  by_cases e : k = kl
  ·subst e
   rw [McC.fp_same] at hx
   have e' : k' ≠ k := fun e => hne e.symm
   rw [McC.fp_other _ _ _ e'] at hx'
   rw [McD.sh_other _ _ e'] at hs'
   exact hFk k' e' hs' x hx' hx
  ·rw [McC.fp_other _ _ _ e] at hx
   rw [McD.sh_other _ _ e] at hs
   by_cases e' : k' = kl
   ·subst e'
    rw [McC.fp_same] at hx'
    exact hFk k e hs x hx hx'
   ·rw [McC.fp_other _ _ _ e'] at hx'
    rw [McD.sh_other _ _ e'] at hs'
    exact h.dj k k' hne hs hs' x hx hx'
 ·intro x hx
  exact List.mem_append_left _ (h.inX x hx)
 ·intro k hs x hx
  by_cases e : k = kl
  ·subst e
   rw [McC.fp_same] at hx
   exact List.mem_append_right _ hx
  ·rw [McC.fp_other _ _ _ e] at hx
   rw [McD.sh_other _ _ e] at hs
   exact List.mem_append_left _ (h.fpX k hs x hx)
set_option maxRecDepth 100000 in
set_option maxHeartbeats 4000000 in
theorem mcount_ok (g : Nat) (c : McC) (X : List Nat) (st : McD) (N : Nat) (DH : DataW Value) (p : Nat) (F : List Nat) (e : EntryD) (dv : Value) (w : World) (h : McIn w g c X st N DH) (hsh : ShAt w p F (st.get (pk e.ag e.sh)))
  (hsome : ∀ s, st.sh (pk e.ag e.sh) = some s → p = c.pt (pk e.ag e.sh) ∧ F = c.fp (pk e.ag e.sh)) (hnone : st.sh (pk e.ag e.sh) = none → ∀ x ∈ F, x ∉ X) (ha : I64 e.ag) (hs : I64 e.sh) (hq : e.seq ≤ 9223372036854775807)
  (hd : Ds w X dv e.ds) (hok : ∀ d ∈ e.ds, DOk d) (hl : e.ds.length ≤ 549755813888) (hN : N ≤ 549755813888) (hmay : mayS st.DS e.ds = 0) (hseen : (st.get (pk e.ag e.sh)).seen e.seq = false) (hfar : Win.farW (st.get (pk e.ag e.sh)).f e.seq = false)
  (hf : (st.get (pk e.ag e.sh)).f ≤ 4611686018427387000) :
  Calls Tryz.prog 49 #[.pointer (some ⟨g, 0, none⟩), .pointer (some ⟨p, 0, none⟩), .agg (eCell (e, dv)).toArray] w fun r w' => CntP g X F (countM st (pk e.ag e.sh) e) (N + e.ds.length + 1) w r w' := by
 have HH := Lib.hid h
 have hkey := lawP.key (pk_of ha hs)
 have HC : Hid (countM st (pk e.ag e.sh) e = (1, ({ st with DS := addL st.DS e.ds } : McD).set (pk e.ag e.sh) ((st.get (pk e.ag e.sh)).add e.seq))) := by show _ = _; unfold countM; rw [if_pos hmay]
 have hpk := Lib.hid (pk_of ha hs)
 have Hsome := Lib.hid hsome; have Hnone := Lib.hid hnone; have Hok := Lib.hid hok
 have hbmX : c.bm ∈ X := h.inX _ (by simp [McC.core])
 have hcgX : ∀ x ∈ c.core g, x ∈ X := h.inX
 have HFc : Hid (∀ x ∈ F, x ∉ c.core g) := by
  intro x hx
  cases hs' : st.sh (pk e.ag e.sh) with
  | some s =>
   obtain ⟨_, rfl⟩ := hsome s hs'
   exact (h.sh _ s hs').2.2.2 x hx
  | none => exact fun hc => hnone hs' x hx (h.inX x hc)
 have HFin : Hid (∀ W (M : List Nat), Keeps M w W → (∀ x ∈ M, x = c.bm ∨ x = c.bs ∨ x ∈ F) → SmAt W c.gs c.bm (N + e.ds.length + 1) (addL st.DS e.ds) → W.ownsMap Tryz.prog 168 heldElem c.bs (N + e.ds.length + 1) (DH.put (pk e.ag e.sh) (.held (.pointer (some ⟨p, 0, none⟩)))) →
   ShAt W p F ((st.get (pk e.ag e.sh)).add e.seq) → CntP g X F (countM st (pk e.ag e.sh) e) (N + e.ds.length + 1) w (.returned (.int .i64 1)) W) := fun W M hk hM h1 h2 h3 => by
  rw [HC.out]
  refine ⟨rfl, X ++ F, ⟨_, _, mc_put h hkey hsome hnone hk hM h1 h2 h3 (by omega)⟩, fun x hx => ?_, hk.mono (fun x hx => ?_)⟩
  ·rcases List.mem_append.1 hx with h | h
   ·exact .inl h
   ·exact .inr (.inl h)
  ·rcases hM x hx with h' | h' | h'
   ·exact .inl (List.mem_append_left _ (by rw [h']; exact hbmX))
   ·exact .inl (List.mem_append_left _ (by rw [h']; exact h.inX _ (by simp [McC.core])))
   ·exact .inl (List.mem_append_right _ h')
 have HSM := Lib.hid h.sm; have HM3 := Lib.hid h.m3; have HB0 := Lib.hid h.b0
 have hglt : g < w.heap.size := h.b0.lt
 have hbml : c.bm < w.heap.size := h.sm.2.1.lt
 have hbsl : c.bs < w.heap.size := h.m3.lt
 have hnd := h.nd
 simp only [McC.core, List.nodup_cons, List.mem_cons, List.not_mem_nil, or_false, List.nodup_nil, and_true, not_or, not_false_eq_true] at hnd
 obtain ⟨⟨n1, n2, n3, n4⟩, ⟨n5, n6, n7⟩, ⟨n8, n9⟩, n10⟩ := hnd
 generalize hst : st.get (pk e.ag e.sh) = s at *
 generalize hkl : pk e.ag e.sh = kl at *
 obtain ⟨pw, v, hbp, hwn, hown, hpF, hwF, hpw, hvF, hl8, hbd⟩ := hsh
 have hpl : p < w.heap.size := hbp.lt
 have hwl : pw < w.heap.size := hwn.1.lt
 have hpc := HFc.out p hpF
 have hwc := HFc.out pw hwF
 simp only [McC.core, List.mem_cons, List.not_mem_nil, or_false, not_or] at hpc hwc
 obtain ⟨a1, a2, a3, a4, a5⟩ := hpc
 obtain ⟨b1, b2, b3, b4, b5⟩ := hwc
 have HvF : Hid (∀ g', v.ownBlock = some g' → g' ≠ c.bm ∧ g' ≠ pw ∧ g' ≠ c.bs) := fun g' hg' => by
  obtain ⟨h1, h2, h3⟩ := hvF g' hg'
  have h4 := HFc.out g' h1
  simp only [McC.core, List.mem_cons, List.not_mem_nil, or_false, not_or] at h4
  exact ⟨h4.2.2.1, h3, h4.2.2.2.2⟩
 have HvF0 := Lib.hid hvF
 have Hbp := Lib.hid hbp; have Hwn := Lib.hid hwn; have Hown := Lib.hid hown; have Hbd := Lib.hid hbd
 have HD := Lib.hid hd
 obtain ⟨kind, ag, sh, seq, ep, ds, ser, fr, tag⟩ := e
 simp only [] at *
 obtain ⟨A, cc, rfl, hcc⟩ := hd.len
 clear h hsome hnone hok hd hbp hwn hown hvF hbd hst HC
 have hBx := Blk.new w 33 #[.int .i64 kind, .int .i64 ag, .int .i64 sh, .int .i64 seq, .int .i64 ep, .slice A ds.length cc, .string ser, .int .i64 fr, .int .i64 tag]
 have HkA : Hid (Keeps [] w (w.alloc (.cells #[.int .i64 kind, .int .i64 ag, .int .i64 sh, .int .i64 seq, .int .i64 ep, .slice A ds.length cc, .string ser, .int .i64 fr, .int .i64 tag] 33))) := (Keeps.refl _ _).alloc _
 have HBx := Lib.hid hBx
 clear hBx
 show Calls Tryz.prog 49 #[.pointer (some ⟨g, 0, none⟩), .pointer (some ⟨p, 0, none⟩), .agg #[.int .i64 kind, .int .i64 ag, .int .i64 sh, .int .i64 seq, .int .i64 ep, .slice A ds.length cc, .string ser, .int .i64 fr, .int .i64 tag]] w _
 go_enter Tryz.func49, Tryz.ntmps49
 go_upto_region 2 with (fail)
 generalize w.alloc (.cells #[.int .i64 kind, .int .i64 ag, .int .i64 sh, .int .i64 seq, .int .i64 ep, .slice A ds.length cc, .string ser, .int .i64 fr, .int .i64 tag] 33) = wa at *
 obtain ⟨g7, Hg7⟩ : ∃ g7, Hid (g7 = w.heap.size) := ⟨_, rfl⟩
 rw [← Hg7.out] at HBx ⊢
 have q1 : g7 ≠ g := by rw [Hg7.out]; exact Nat.ne_of_gt hglt
 have q2 : g7 ≠ c.bm := by rw [Hg7.out]; exact Nat.ne_of_gt hbml
 have q3 : g7 ≠ c.bs := by rw [Hg7.out]; exact Nat.ne_of_gt hbsl
 have q4 : g7 ≠ pw := by rw [Hg7.out]; exact Nat.ne_of_gt hwl
 have Hpn : Hid (p ∉ [c.bm, pw, c.bs]) := by show ¬ _; simp [a3, hpw, a5]
 have Hg7n : Hid (g7 ∉ [c.bm, pw, c.bs]) := by show ¬ _; simp [q2, q3, q4]
 have Hgn : Hid (g ∉ [c.bm, pw, c.bs]) := by show ¬ _; simp [n2, n4, Ne.symm b1]
 have Hgsw : Hid (c.gs ∉ [pw] ∧ c.bm ∉ [pw] ∧ c.gs ∉ [c.bs] ∧ c.bm ∉ [c.bs] ∧ pw ∉ [c.bm] ∧ pw ∉ [c.bs] ∧ c.bs ∉ [c.bm, pw]) := by
  show _ ∧ _
  simp [Ne.symm b2, Ne.symm b3, n7, n9, b3, b5, Ne.symm b5, Ne.symm n9]
 have HS1 : Hid (∀ W, Keeps [c.bm, pw, c.bs] wa W → W.cell? ⟨g, 0, none⟩ = some (.pointer (some ⟨c.gs, 0, none⟩)) ∧ W.cell? ⟨g7, 5, none⟩ = some (.slice A ds.length cc) ∧ W.cell? ⟨p, 0, none⟩ = some (.pointer (some ⟨pw, 0, none⟩)) ∧ W.cell? ⟨g7, 3, none⟩ = some (.int .i64 seq) ∧ W.cell? ⟨g, 2, none⟩ = some (.map (some c.bs)) ∧ W.cell? ⟨g7, 1, none⟩ = some (.int .i64 ag) ∧ W.cell? ⟨g7, 2, none⟩ = some (.int .i64 sh)) := fun W hk => by
  have h1 := hk.blk (HkA.out.blk HB0.out (by simp)) Hgn.out
  have h2 := hk.blk HBx.out Hg7n.out
  have h3 := hk.blk (HkA.out.blk Hbp.out (by simp)) Hpn.out
  exact ⟨h1.cell 0, h2.cell 5, h3.cell 0, h2.cell 3, h1.cell 2, h2.cell 1, h2.cell 2⟩
 have HAdd : Hid (Calls Tryz.prog 91 #[.pointer (some ⟨c.gs, 0, none⟩), .slice A ds.length cc] wa.drew fun e w' => SaPost c.gs c.bm N st.DS ds wa.drew e w') :=
  smadd_any _ _ _ _ _ _ _ (HSM.out.keep (M := []) HkA.out.drew (by simp) (by simp)) ((HD.out.keep (M' := []) HkA.out.drew (by simp)).avoid (M' := [c.bm]) (by intro g hg; simp at hg; subst hg; exact .inl hbmX)) Hok.out (by omega) (by omega)
 have Hpw := Lib.hid hpw
 clear n1 n2 n3 n4 n5 n6 n7 n8 n9 n10 a1 a2 a3 a4 a5 b1 b2 b3 b4 b5 q1 q2 q3 q4 hpw hcgX
 refine wp_region_held_drew (S := (fun W => W.cell? ⟨g, 0, none⟩ = some (.pointer (some ⟨c.gs, 0, none⟩)) ∧ W.cell? ⟨g7, 5, none⟩ = some (.slice A ds.length cc) ∧ W.cell? ⟨p, 0, none⟩ = some (.pointer (some ⟨pw, 0, none⟩)) ∧ W.cell? ⟨g7, 3, none⟩ = some (.int .i64 seq) ∧ W.cell? ⟨g, 2, none⟩ = some (.map (some c.bs)) ∧ W.cell? ⟨g7, 1, none⟩ = some (.int .i64 ag) ∧ W.cell? ⟨g7, 2, none⟩ = some (.int .i64 sh))) (by kernel_rfl) (HS1.out _ (Keeps.refl _ _).drew) (fun hHeld => ?_)
 refine wpAnyH_take (i := 0) (oi := _) (v := ?v0a) rfl (by kernel_rfl) (by kernel_rfl) (by kernel_rfl) (fun _ _ _ h => h) (Or.inl ⟨by rfl, ?y0a⟩) (by assumption) ?r0a
 case y0a => (intro w hSw; (obtain ⟨hS0, hS1, hS2, hS3, hS4, hS5, hS6⟩ := hSw); go_simp <;> with_reducible rfl)
 try simp only [List.getElem_toArray, List.getElem_cons_succ, List.getElem_cons_zero, Act.put, List.setIfInBounds_toArray, List.set_cons_zero, List.set_cons_succ]
 refine wpAnyH_take (i := 1) (oi := _) (v := ?v1a) rfl (by kernel_rfl) (by kernel_rfl) (by kernel_rfl) (fun _ _ _ h => h) (Or.inl ⟨by rfl, ?y1a⟩) (by assumption) ?r1a
 case y1a => (intro w hSw; (obtain ⟨hS0, hS1, hS2, hS3, hS4, hS5, hS6⟩ := hSw); go_simp <;> with_reducible rfl)
 try simp only [List.getElem_toArray, List.getElem_cons_succ, List.getElem_cons_zero, Act.put, List.setIfInBounds_toArray, List.set_cons_zero, List.set_cons_succ]
 refine wpAnyH_take (i := 2) (oi := _) (v := ?v2a) rfl (by kernel_rfl) (by kernel_rfl) (by kernel_rfl) (fun _ _ _ h => h) (Or.inl ⟨by rfl, ?y2a⟩) (by assumption) ?r2a
 case y2a => (intro w hSw; (obtain ⟨hS0, hS1, hS2, hS3, hS4, hS5, hS6⟩ := hSw); go_simp <;> with_reducible rfl)
 try simp only [List.getElem_toArray, List.getElem_cons_succ, List.getElem_cons_zero, Act.put, List.setIfInBounds_toArray, List.set_cons_zero, List.set_cons_succ]
 refine wpAnyH_take (i := 3) (oi := _) (v := ?v3a) rfl (by kernel_rfl) (by kernel_rfl) (by kernel_rfl) (fun _ _ _ h => h) (Or.inl ⟨by rfl, ?y3a⟩) (by assumption) ?r3a
 case y3a => (intro w hSw; (obtain ⟨hS0, hS1, hS2, hS3, hS4, hS5, hS6⟩ := hSw); go_simp <;> with_reducible rfl)
 try simp only [List.getElem_toArray, List.getElem_cons_succ, List.getElem_cons_zero, Act.put, List.setIfInBounds_toArray, List.set_cons_zero, List.set_cons_succ]
 refine wpAnyH_take (i := 4) (oi := _) (v := ?v4a) rfl (by kernel_rfl) (by kernel_rfl) (by kernel_rfl) (fun _ _ _ h => h) (Or.inl ⟨by rfl, ?y4a⟩) (by assumption) ?r4a
 case y4a => (intro w hSw; (obtain ⟨hS0, hS1, hS2, hS3, hS4, hS5, hS6⟩ := hSw); go_simp <;> with_reducible rfl)
 try simp only [List.getElem_toArray, List.getElem_cons_succ, List.getElem_cons_zero, Act.put, List.setIfInBounds_toArray, List.set_cons_zero, List.set_cons_succ]
 refine wpAnyH_take (i := 5) (oi := _) (v := ?v5a) rfl (by kernel_rfl) (by kernel_rfl) (by kernel_rfl) (fun _ _ _ h => h) (Or.inl ⟨by rfl, ?y5a⟩) (by assumption) ?r5a
 case y5a => (intro w hSw; (obtain ⟨hS0, hS1, hS2, hS3, hS4, hS5, hS6⟩ := hSw); go_simp <;> with_reducible rfl)
 try simp only [List.getElem_toArray, List.getElem_cons_succ, List.getElem_cons_zero, Act.put, List.setIfInBounds_toArray, List.set_cons_zero, List.set_cons_succ]
 refine wpAnyH_ready (rs := [6]) (by kernel_rfl) (by simp) ?_
 refine AllReadyH.cons (o := _) rfl (fun K hK => ?_) AllReadyH.nil
 go_simp
 refine HAdd.out.mono ?_
 rintro e w2 ⟨rfl, hsm2, hk2⟩
 rw [if_pos hmay] at hsm2
 rw [hmay]
 have HSM2 := Lib.hid hsm2
 have Hk2 : Hid (Keeps [c.bm, pw, c.bs] wa w2) := (Keeps.refl [c.bm, pw, c.bs] wa).drew.trans hk2 (by simp)
 have Hk02 : Hid (Keeps [c.bm] w w2) := (HkA.out.drew.mono (M' := [c.bm]) (by simp)).trans hk2 (by simp)
 clear hsm2 hk2
 refine hK.out _ _ (HS1.out _ Hk2.out) (fun hHeld2 => ?_)
 clear hK K hHeld
 have hHeld := hHeld2
 clear hHeld2
 try simp only [List.getElem_toArray, List.getElem_cons_succ, List.getElem_cons_zero, Act.put, List.setIfInBounds_toArray, List.set_cons_zero, List.set_cons_succ]
 refine wpAnyH_take (i := 7) (oi := _) (v := ?v7a) rfl (by kernel_rfl) (by kernel_rfl) (by kernel_rfl) (fun _ _ _ h => h) (Or.inl ⟨by rfl, ?y7a⟩) (by assumption) ?r7a
 case y7a => (intro w hSw; (obtain ⟨hS0, hS1, hS2, hS3, hS4, hS5, hS6⟩ := hSw); go_simp <;> with_reducible rfl)
 try simp only [List.getElem_toArray, List.getElem_cons_succ, List.getElem_cons_zero, Act.put, List.setIfInBounds_toArray, List.set_cons_zero, List.set_cons_succ]
 refine wpAnyH_done (by kernel_rfl) ?_ _
 clear hHeld HAdd
 go_upto_region 8 with (fail)
 have HWA : Hid (Calls Tryz.prog 93 #[.pointer (some ⟨pw, 0, none⟩), .int .i64 seq] w2.drew fun e w' => WdPost pw (Win.addW s.f s.m seq) w2.drew e w') :=
  wnadd_any pw s.f s.m seq _ (Hwn.out.keep (M := [c.bm]) Hk02.out.drew Hgsw.out.2.2.2.2.1) hq hseen hfar hf
 refine wp_region_held_drew (S := (fun W => W.cell? ⟨g, 0, none⟩ = some (.pointer (some ⟨c.gs, 0, none⟩)) ∧ W.cell? ⟨g7, 5, none⟩ = some (.slice A ds.length cc) ∧ W.cell? ⟨p, 0, none⟩ = some (.pointer (some ⟨pw, 0, none⟩)) ∧ W.cell? ⟨g7, 3, none⟩ = some (.int .i64 seq) ∧ W.cell? ⟨g, 2, none⟩ = some (.map (some c.bs)) ∧ W.cell? ⟨g7, 1, none⟩ = some (.int .i64 ag) ∧ W.cell? ⟨g7, 2, none⟩ = some (.int .i64 sh))) (by kernel_rfl) (HS1.out _ Hk2.out.drew) (fun hHeld => ?_)
 refine wpAnyH_take (i := 0) (oi := _) (v := ?v0b) rfl (by kernel_rfl) (by kernel_rfl) (by kernel_rfl) (fun _ _ _ h => h) (Or.inl ⟨by rfl, ?y0b⟩) (by assumption) ?r0b
 case y0b => (intro w hSw; (obtain ⟨hS0, hS1, hS2, hS3, hS4, hS5, hS6⟩ := hSw); go_simp <;> with_reducible rfl)
 try simp only [List.getElem_toArray, List.getElem_cons_succ, List.getElem_cons_zero, Act.put, List.setIfInBounds_toArray, List.set_cons_zero, List.set_cons_succ]
 refine wpAnyH_take (i := 1) (oi := _) (v := ?v1b) rfl (by kernel_rfl) (by kernel_rfl) (by kernel_rfl) (fun _ _ _ h => h) (Or.inl ⟨by rfl, ?y1b⟩) (by assumption) ?r1b
 case y1b => (intro w hSw; (obtain ⟨hS0, hS1, hS2, hS3, hS4, hS5, hS6⟩ := hSw); go_simp <;> with_reducible rfl)
 try simp only [List.getElem_toArray, List.getElem_cons_succ, List.getElem_cons_zero, Act.put, List.setIfInBounds_toArray, List.set_cons_zero, List.set_cons_succ]
 refine wpAnyH_take (i := 2) (oi := _) (v := ?v2b) rfl (by kernel_rfl) (by kernel_rfl) (by kernel_rfl) (fun _ _ _ h => h) (Or.inl ⟨by rfl, ?y2b⟩) (by assumption) ?r2b
 case y2b => (intro w hSw; (obtain ⟨hS0, hS1, hS2, hS3, hS4, hS5, hS6⟩ := hSw); go_simp <;> with_reducible rfl)
 try simp only [List.getElem_toArray, List.getElem_cons_succ, List.getElem_cons_zero, Act.put, List.setIfInBounds_toArray, List.set_cons_zero, List.set_cons_succ]
 refine wpAnyH_take (i := 3) (oi := _) (v := ?v3b) rfl (by kernel_rfl) (by kernel_rfl) (by kernel_rfl) (fun _ _ _ h => h) (Or.inl ⟨by rfl, ?y3b⟩) (by assumption) ?r3b
 case y3b => (intro w hSw; (obtain ⟨hS0, hS1, hS2, hS3, hS4, hS5, hS6⟩ := hSw); go_simp <;> with_reducible rfl)
 try simp only [List.getElem_toArray, List.getElem_cons_succ, List.getElem_cons_zero, Act.put, List.setIfInBounds_toArray, List.set_cons_zero, List.set_cons_succ]
 refine wpAnyH_take (i := 4) (oi := _) (v := ?v4b) rfl (by kernel_rfl) (by kernel_rfl) (by kernel_rfl) (fun _ _ _ h => h) (Or.inl ⟨by rfl, ?y4b⟩) (by assumption) ?r4b
 case y4b => (intro w hSw; (obtain ⟨hS0, hS1, hS2, hS3, hS4, hS5, hS6⟩ := hSw); go_simp <;> with_reducible rfl)
 try simp only [List.getElem_toArray, List.getElem_cons_succ, List.getElem_cons_zero, Act.put, List.setIfInBounds_toArray, List.set_cons_zero, List.set_cons_succ]
 refine wpAnyH_take (i := 5) (oi := _) (v := ?v5b) rfl (by kernel_rfl) (by kernel_rfl) (by kernel_rfl) (fun _ _ _ h => h) (Or.inl ⟨by rfl, ?y5b⟩) (by assumption) ?r5b
 case y5b => (intro w hSw; (obtain ⟨hS0, hS1, hS2, hS3, hS4, hS5, hS6⟩ := hSw); go_simp <;> with_reducible rfl)
 try simp only [List.getElem_toArray, List.getElem_cons_succ, List.getElem_cons_zero, Act.put, List.setIfInBounds_toArray, List.set_cons_zero, List.set_cons_succ]
 refine wpAnyH_take (i := 6) (oi := _) (v := ?v6b) rfl (by kernel_rfl) (by kernel_rfl) (by kernel_rfl) (fun _ _ _ h => h) (Or.inl ⟨by rfl, ?y6b⟩) (by assumption) ?r6b
 case y6b => (intro w hSw; (obtain ⟨hS0, hS1, hS2, hS3, hS4, hS5, hS6⟩ := hSw); go_simp <;> with_reducible rfl)
 try simp only [List.getElem_toArray, List.getElem_cons_succ, List.getElem_cons_zero, Act.put, List.setIfInBounds_toArray, List.set_cons_zero, List.set_cons_succ]
 refine wpAnyH_ready (rs := [7]) (by kernel_rfl) (by simp) ?_
 refine AllReadyH.cons (o := _) rfl (fun K hK => ?_) AllReadyH.nil
 go_simp
 refine HWA.out.mono ?_
 rintro e w3 ⟨rfl, hwn3, hk3⟩
 have Hwn3 := Lib.hid hwn3
 have Hk3 : Hid (Keeps [c.bm, pw, c.bs] wa w3) := Hk2.out.drew.trans hk3 (by simp)
 have Hk03 : Hid (Keeps [c.bm, pw] w w3) := (Hk02.out.drew.mono (M' := [c.bm, pw]) (by simp)).trans hk3 (by simp)
 have HSM3 : Hid (SmAt w3 c.gs c.bm (N + ds.length) (addL st.DS ds)) := HSM2.out.keep (M := [pw]) ((Keeps.refl [pw] w2).drew.trans hk3 (by simp)) Hgsw.out.1 Hgsw.out.2.1
 clear hwn3 hk3
 refine hK.out _ _ (HS1.out _ Hk3.out) (fun hHeld2 => ?_)
 clear hK K hHeld
 have hHeld := hHeld2
 clear hHeld2
 try simp only [List.getElem_toArray, List.getElem_cons_succ, List.getElem_cons_zero, Act.put, List.setIfInBounds_toArray, List.set_cons_zero, List.set_cons_succ]
 refine wpAnyH_done (by kernel_rfl) ?_ _
 clear hHeld HWA HSM2 Hk2 Hk02
 go_upto_region 9 with (fail)
 obtain ⟨w4, hupd, hown4, hturn⟩ := (om_keep HM3.out Hk03.out.drew Hgsw.out.2.2.2.2.2.2).store lawP uMH (by unfold maxLen; omega) hpk.out (rfl : heldElem (.pointer (some ⟨p, 0, none⟩)) = some (.held (.pointer (some ⟨p, 0, none⟩)), []))
 have hk4 := turned_keeps hturn
 have Hk4 : Hid (Keeps [c.bm, pw, c.bs] wa w4) := Hk3.out.drew.trans hk4 (by simp)
 have Hk04 : Hid (Keeps [c.bm, pw, c.bs] w w4) := (Hk03.out.drew.mono (M' := [c.bm, pw, c.bs]) (by simp)).trans hk4 (by simp)
 have Hk34 : Hid (Keeps [c.bs] w3 w4) := (Keeps.refl [c.bs] w3).drew.trans hk4 (by simp)
 have hP : Hid (CntP g X F (countM st kl ⟨kind, ag, sh, seq, ep, ds, ser, fr, tag⟩) (N + ds.length + 1) w (.returned (.int .i64 1)) w4) := by
  refine HFin.out w4 [c.bm, pw, c.bs] Hk04.out (by intro x hx; simp at hx; rcases hx with rfl | rfl | rfl; exact .inl rfl; exact .inr (.inr hwF); exact .inr (.inl rfl)) ((HSM3.out.keep Hk34.out Hgsw.out.2.2.1 Hgsw.out.2.2.2.1).more (by omega)) (hown4.mono (by omega)) ?_
  exact ⟨pw, v, Hk04.out.blk Hbp.out Hpn.out, Hwn3.out.keep Hk34.out Hgsw.out.2.2.2.2.2.1, own_other2 Hown.out Hk04.out (fun g' hg' => by have := HvF.out g' hg'; simp; omega), hpF, hwF, Hpw.out, HvF0.out, hl8, Hbd.out⟩
 clear hown4 hturn hk4
 refine wp_region_held_drew (S := (fun W => W.cell? ⟨g, 0, none⟩ = some (.pointer (some ⟨c.gs, 0, none⟩)) ∧ W.cell? ⟨g7, 5, none⟩ = some (.slice A ds.length cc) ∧ W.cell? ⟨p, 0, none⟩ = some (.pointer (some ⟨pw, 0, none⟩)) ∧ W.cell? ⟨g7, 3, none⟩ = some (.int .i64 seq) ∧ W.cell? ⟨g, 2, none⟩ = some (.map (some c.bs)) ∧ W.cell? ⟨g7, 1, none⟩ = some (.int .i64 ag) ∧ W.cell? ⟨g7, 2, none⟩ = some (.int .i64 sh))) (by kernel_rfl) (HS1.out _ Hk3.out.drew) (fun hHeld => ?_)
 refine wpAnyH_take (i := 0) (oi := _) (v := ?v0c) rfl (by kernel_rfl) (by kernel_rfl) (by kernel_rfl) (fun _ _ _ h => h) (Or.inl ⟨by rfl, ?y0c⟩) (by assumption) ?r0c
 case y0c => (intro w hSw; (obtain ⟨hS0, hS1, hS2, hS3, hS4, hS5, hS6⟩ := hSw); go_simp <;> with_reducible rfl)
 try simp only [List.getElem_toArray, List.getElem_cons_succ, List.getElem_cons_zero, Act.put, List.setIfInBounds_toArray, List.set_cons_zero, List.set_cons_succ]
 refine wpAnyH_take (i := 1) (oi := _) (v := ?v1c) rfl (by kernel_rfl) (by kernel_rfl) (by kernel_rfl) (fun _ _ _ h => h) (Or.inl ⟨by rfl, ?y1c⟩) (by assumption) ?r1c
 case y1c => (intro w hSw; (obtain ⟨hS0, hS1, hS2, hS3, hS4, hS5, hS6⟩ := hSw); go_simp <;> with_reducible rfl)
 try simp only [List.getElem_toArray, List.getElem_cons_succ, List.getElem_cons_zero, Act.put, List.setIfInBounds_toArray, List.set_cons_zero, List.set_cons_succ]
 refine wpAnyH_take (i := 2) (oi := _) (v := ?v2c) rfl (by kernel_rfl) (by kernel_rfl) (by kernel_rfl) (fun _ _ _ h => h) (Or.inl ⟨by rfl, ?y2c⟩) (by assumption) ?r2c
 case y2c => (intro w hSw; (obtain ⟨hS0, hS1, hS2, hS3, hS4, hS5, hS6⟩ := hSw); go_simp <;> with_reducible rfl)
 try simp only [List.getElem_toArray, List.getElem_cons_succ, List.getElem_cons_zero, Act.put, List.setIfInBounds_toArray, List.set_cons_zero, List.set_cons_succ]
 refine wpAnyH_take (i := 3) (oi := _) (v := ?v3c) rfl (by kernel_rfl) (by kernel_rfl) (by kernel_rfl) (fun _ _ _ h => h) (Or.inl ⟨by rfl, ?y3c⟩) (by assumption) ?r3c
 case y3c => (intro w hSw; (obtain ⟨hS0, hS1, hS2, hS3, hS4, hS5, hS6⟩ := hSw); go_simp <;> with_reducible rfl)
 try simp only [List.getElem_toArray, List.getElem_cons_succ, List.getElem_cons_zero, Act.put, List.setIfInBounds_toArray, List.set_cons_zero, List.set_cons_succ]
 refine wpAnyH_take (i := 4) (oi := _) (v := ?v4c) rfl (by kernel_rfl) (by kernel_rfl) (by kernel_rfl) (fun _ _ _ h => h) (Or.inl ⟨by rfl, ?y4c⟩) (by assumption) ?r4c
 case y4c => (intro w hSw; (obtain ⟨hS0, hS1, hS2, hS3, hS4, hS5, hS6⟩ := hSw); go_simp <;> with_reducible rfl)
 try simp only [List.getElem_toArray, List.getElem_cons_succ, List.getElem_cons_zero, Act.put, List.setIfInBounds_toArray, List.set_cons_zero, List.set_cons_succ]
 refine wpAnyH_take (i := 5) (oi := _) (v := ?v5c) rfl (by kernel_rfl) (by kernel_rfl) (by kernel_rfl) (fun _ _ _ h => h) (Or.inl ⟨by rfl, ?y5c⟩) (by assumption) ?r5c
 case y5c => (intro w hSw; (obtain ⟨hS0, hS1, hS2, hS3, hS4, hS5, hS6⟩ := hSw); go_simp <;> with_reducible rfl)
 try simp only [List.getElem_toArray, List.getElem_cons_succ, List.getElem_cons_zero, Act.put, List.setIfInBounds_toArray, List.set_cons_zero, List.set_cons_succ]
 refine wpAnyH_take (i := 6) (oi := _) (v := ?v6c) rfl (by kernel_rfl) (by kernel_rfl) (by kernel_rfl) (fun _ _ _ h => h) (Or.inl ⟨by rfl, ?y6c⟩) (by assumption) ?r6c
 case y6c => (intro w hSw; (obtain ⟨hS0, hS1, hS2, hS3, hS4, hS5, hS6⟩ := hSw); go_simp <;> with_reducible rfl)
 try simp only [List.getElem_toArray, List.getElem_cons_succ, List.getElem_cons_zero, Act.put, List.setIfInBounds_toArray, List.set_cons_zero, List.set_cons_succ]
 refine wpAnyH_take (i := 7) (oi := _) (v := ?v7c) rfl (by kernel_rfl) (by kernel_rfl) (by kernel_rfl) (fun _ _ _ h => h) (Or.inl ⟨by rfl, ?y7c⟩) (by assumption) ?r7c
 case y7c => (intro w hSw; (obtain ⟨hS0, hS1, hS2, hS3, hS4, hS5, hS6⟩ := hSw); go_simp <;> with_reducible rfl)
 try simp only [List.getElem_toArray, List.getElem_cons_succ, List.getElem_cons_zero, Act.put, List.setIfInBounds_toArray, List.set_cons_zero, List.set_cons_succ]
 refine wpAnyH_take (i := 8) (oi := _) (v := ?v8c) rfl (by kernel_rfl) (by kernel_rfl) (by kernel_rfl) (fun _ _ _ h => h) (Or.inl ⟨by rfl, ?y8c⟩) (by assumption) ?r8c
 case y8c => (intro w hSw; (obtain ⟨hS0, hS1, hS2, hS3, hS4, hS5, hS6⟩ := hSw); go_simp <;> with_reducible rfl)
 try simp only [List.getElem_toArray, List.getElem_cons_succ, List.getElem_cons_zero, Act.put, List.setIfInBounds_toArray, List.set_cons_zero, List.set_cons_succ]
 refine wpAnyH_take (i := 9) (oi := _) (v := ?v9c) rfl (by kernel_rfl) (by kernel_rfl) (by kernel_rfl) (fun _ _ _ h => h) (Or.inl ⟨by rfl, ?y9c⟩) (by assumption) ?r9c
 case y9c => (intro w hSw; (obtain ⟨hS0, hS1, hS2, hS3, hS4, hS5, hS6⟩ := hSw); go_simp <;> with_reducible rfl)
 try simp only [List.getElem_toArray, List.getElem_cons_succ, List.getElem_cons_zero, Act.put, List.setIfInBounds_toArray, List.set_cons_zero, List.set_cons_succ]
 refine wpAnyH_take (i := 10) (oi := _) (v := ?v10c) rfl (by kernel_rfl) (by kernel_rfl) (by kernel_rfl) (fun _ _ _ h => h) (Or.inl ⟨by rfl, ?y10c⟩) (by assumption) ?r10c
 case y10c => (intro w hSw; (obtain ⟨hS0, hS1, hS2, hS3, hS4, hS5, hS6⟩ := hSw); go_simp <;> with_reducible rfl)
 try simp only [List.getElem_toArray, List.getElem_cons_succ, List.getElem_cons_zero, Act.put, List.setIfInBounds_toArray, List.set_cons_zero, List.set_cons_succ]
 refine wpAnyH_take (i := 11) (oi := _) (v := ?v11c) rfl (by kernel_rfl) (by kernel_rfl) (by kernel_rfl) (fun _ _ _ h => h) (Or.inl ⟨by rfl, ?y11c⟩) (by assumption) ?r11c
 case y11c => (intro w hSw; (obtain ⟨hS0, hS1, hS2, hS3, hS4, hS5, hS6⟩ := hSw); go_simp <;> with_reducible rfl)
 try simp only [List.getElem_toArray, List.getElem_cons_succ, List.getElem_cons_zero, Act.put, List.setIfInBounds_toArray, List.set_cons_zero, List.set_cons_succ]
 refine wpAnyH_ready (rs := [12]) (by kernel_rfl) (by simp) ?_
 refine AllReadyH.cons (o := _) rfl (fun K hK => ?_) AllReadyH.nil
 go_simp
 refine hK.out _ _ (HS1.out _ Hk4.out) (fun hHeld2 => ?_)
 clear hK K hHeld
 have hHeld := hHeld2
 clear hHeld2
 try simp only [List.getElem_toArray, List.getElem_cons_succ, List.getElem_cons_zero, Act.put, List.setIfInBounds_toArray, List.set_cons_zero, List.set_cons_succ]
 refine wpAnyH_done (by kernel_rfl) ?_ _
 clear hHeld hupd
 go_wp2
 go_ret
 exact hP.out
theorem McAt.more {w : World} {g : Nat} {X : List Nat} {st : McD} {N N' : Nat} (h : McAt w g X st N) (hN : N ≤ N') : McAt w g X st N' := by
 obtain ⟨c, DH, h⟩ := h
 exact ⟨c, DH, h.more hN⟩
def ApA (g : Nat) (X : List Nat) (r : Int × Int × McD) (N' : Nat) (w : World) (e : Ending) (w' : World) : Prop :=
 e = .returned (.tuple #[.int .i64 r.1, .int .u64 r.2.1]) ∧ ∃ X', McAt w' g X' r.2.2 N' ∧ (∀ x ∈ X', x < w'.heap.size) ∧ (∀ x ∈ X', x ∈ X ∨ w.heap.size ≤ x) ∧ Keeps X w w'
theorem mcapply_at (g : Nat) (X : List Nat) (st : McD) (N N' : Nat) (e : EntryD) (dv : Value) (mx : Int) (w : World) (h : McAt w g X st N) (hX : ∀ x ∈ X, x < w.heap.size) (hmay : mayS st.DS e.ds = 0) (hf : (st.get (pk e.ag e.sh)).f ≤ 4611686018427387000)
  (ha : I64 e.ag) (hs : I64 e.sh) (hq : I64 e.seq) (hp : I64 e.ep) (hd : Ds w X dv e.ds) (hok : ∀ d ∈ e.ds, DOk d) (hl : e.ds.length ≤ 1000000) (hsh : Short e) (hN : N ≤ 1000000000) (hN' : N + e.ds.length + 2 ≤ N') (hm : w.cell? ⟨0, 0, none⟩ = some (.int .i64 mx)) :
  Calls Tryz.prog 12 #[.pointer (some ⟨g, 0, none⟩), .agg (eCell (e, dv)).toArray] w fun r w' => ApA g X (applyM st (pk e.ag e.sh) e) N' w r w' := by
 obtain ⟨c, DH, h⟩ := h
 refine (mcapply_any g c X st N DH e dv mx w h (fun _ _ hsn hfr W p F hin hsh' hsome hnone _ _ hd' => mcount_ok g c X (stE st e) (N + 1) DH p F e dv W hin hsh' hsome hnone ha hs hq.2 hd' hok (by omega) (by omega) hmay hsn hfr hf) ha hs hq hp hd hsh (by omega) hX hm).mono ?_
 rintro r w' ⟨h1, X', h2, h3, h4⟩
 refine ⟨h1, X', h2.more hN', fun x hx => ?_, fun x hx => (h3 x hx).imp id (·.1), h4⟩
 rcases h3 x hx with h5 | h5
 ·exact Nat.lt_of_lt_of_le (hX x h5) h4.size
 ·exact h5.2
theorem apply_dup {st : McD} {kl : Lit} {e : EntryD} (hr : rightE e = 0) (hk : e.kind ≠ 2) (hs : (st.get kl).seen e.seq = true) (hb : (st.get kl).bad = []) : applyM st kl e = (2, 0, st) := by
 unfold applyM
 rw [if_pos hr, if_neg hk, if_pos hs, hb]
 rfl
theorem apply_read {st : McD} {kl : Lit} {e : EntryD} (hr : rightE e = 0) (hk : e.kind = 2) : applyM st kl e = (8, numAt .u64 st.DS (skey e.ser), st) := by
 unfold applyM
 rw [if_pos hr, if_pos hk]
theorem apply_wrong {st : McD} {kl : Lit} {e : EntryD} (hr : rightE e ≠ 0) : applyM st kl e = (0, 0, st) := by
 unfold applyM
 rw [if_neg hr]
def kA : ByteArray := { data := #[97, 61, 49] }
theorem kA_ok : NameOk kA := ⟨[97, 61, 49], by simp [nameL], rfl⟩
noncomputable def kS : McD := fenceS 1 0 kA 2 5 (pk 1 0) mc0
theorem kS_ok : FenceOk 1 1 2 (pk 1 0) kS := (fence_next (fence_start 1 (pk 1 0)) (by omega) kA_ok ⟨by omega, by omega⟩).1
theorem kS_seen : (kS.get (pk 1 0)).seen 1 = true := (fence_next (fence_start 1 (pk 1 0)) (by omega) kA_ok (n := 5) (p := 2) ⟨by omega, by omega⟩).2
theorem kS_sum : numAt .u64 kS.DS (skey kA) = 5 := by
 show numAt .u64 ((DataW.map [] : DataW Unit).put (skey kA) (.lit (.int .u64 (addZ (numAt .u64 (DataW.map [] : DataW Unit) (skey kA)) 5)))) (skey kA) = 5
 rw [numAt_same Maps.isMap_empty (skey_key _)]
 rfl
theorem kS_ep : numAt .i64 kS.DE (ekey (-1)) = 0 := by
 show numAt .i64 ((DataW.map [] : DataW Unit).put (ekey 1) (.lit (.int .i64 2))) (ekey (-1)) = 0
 rw [numAt_other (fun h => by unfold ekey at h; injection h with _ h; omega), numAt_empty]
theorem kS_f : (kS.get (pk 1 0)).f = 1 := by
 unfold kS fenceS
 rw [McD.get_set]
 show (Win.addW 0 0 (((0 : Nat) : Int) + 1)).1 = 1
 decide +kernel
end Go.Proofs.YtgdooockldgdlaaGreatDoor.Vi
end
section
namespace Go.Proofs.YtgdooockldgdlaaGreatDoor.Vi
open Go.RowKit Base Mem Tape Go.Shelf
theorem sort64 (blk off cap : Nat) (zs : List Int) (w : World) (hH : Go.Sort.Holds (Value.int .i64) w blk off zs.toArray) (hblk : blk < w.heap.size) (hsz : zs.length < 4611686018427387904) :
  Calls Tryz.prog 92 #[.slice (some ⟨blk, off, none⟩) zs.length cap] w fun e w' =>
   e = .returned (.tuple #[]) ∧ ∃ n os, w' = Go.Sort.grow (Go.Sort.putRow (Value.int .i64) (Go.Sort.ahead w n) blk off (zs.mergeSort fun x y => decide (x ≤ y)).toArray) os :=
 AnyM.slices_Sort_int Tryz.sortI64 blk off cap zs w hH hblk hsz
def SoP (v : Value) (l : List Int) (w : World) (e : Ending) (w' : World) : Prop := e = .returned (.tuple #[]) ∧ w'.ownsRow 0 2 1 v l.length ((l.mergeSort fun x y => decide (x ≤ y)).map (Value.int .i64)) ∧ Keeps v.ownBlock.toList w w'
theorem sortI_any (v : Value) (l : List Int) (w : World) (h : w.ownsRow 0 2 1 v l.length (l.map (Value.int .i64))) (h0 : 0 < l.length) (hl : l.length ≤ 1000) :
  Calls Tryz.prog 92 #[v] w fun e w' => SoP v l w e w' := by
 rcases h.2 with ⟨_, hn⟩ | ⟨g, cap, cur, rfl, hg0, hb, h1, h2, h3, h4⟩
 ·have : l = [] := by simpa using hn
  subst this
  simp at h0
 ·refine (sort64 g 0 cap l w (holds_of_blockI hb (by simpa using h4)) (Array.getElem?_eq_some_iff.1 hb).1 (by omega)).mono ?_
  rintro e w' ⟨rfl, n, os, rfl⟩
  exact ⟨rfl, ownsRow_sortedI (by simp) hg0 hb h1 h2 h3, (Keeps.refl _ _).grown (grownBy_sortedI _) (fun k hk => .inl (by simpa [Value.ownBlock] using hk.symm))⟩
end Go.Proofs.YtgdooockldgdlaaGreatDoor.Vi
end
