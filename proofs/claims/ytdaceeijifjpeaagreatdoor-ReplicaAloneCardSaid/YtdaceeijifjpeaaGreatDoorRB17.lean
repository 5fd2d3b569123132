/- Texts put together: RefK, RqL. -/
import Derived.Deep.DeepCutAuto
import Derived.ChangeOld
import Derived.Below
import Derived.Test.YtdaceeijifjpeaaGreatDoorRB16
import Derived.Test.YtdaceeijifjpeaaGreatDoorRA1
import Derived.Test.YtdaceeijifjpeaaGreatDoorRA4
import Derived.Test.YtdaceeijifjpeaaGreatDoorRA9
import Derived.Test.YtdaceeijifjpeaaGreatDoorRA10
import Derived.Test.YtdaceeijifjpeaaGreatDoorRA14
import Derived.Test.YtdaceeijifjpeaaGreatDoorRA15
set_option linter.unusedVariables false
set_option linter.unusedSimpArgs false
section
namespace Go.Proofs.YtdaceeijifjpeaaGreatDoor.Vi
open Go.RowKit Base Mem Go.Shelf
theorem dEq_iff (x y : DeltaD) : dEq x y = true ↔ x = y := by
 have := dsEq_iff [x] [y]
 unfold dsEq at this
 simpa [Lib.allEq] using this
theorem ds_len {a b : List DeltaD} (h : a.length ≠ b.length) : dsEq a b = false := by
 rw [Bool.eq_false_iff]
 intro e
 exact h (by rw [(dsEq_iff a b).1 e])
theorem ds_diff {a b : List DeltaD} {x : Nat} (ha : x < a.length) (hb : x < b.length) (h : dEq a[x] b[x] = false) : dsEq a b = false := by
 rw [Bool.eq_false_iff]
 intro e
 have := (dsEq_iff a b).1 e
 subst this
 rw [(dEq_iff _ _).2 rfl] at h
 cases h
theorem ds_next {a b : List DeltaD} {x : Nat} (ha : x < a.length) (hb : x < b.length) (h : dEq a[x] b[x] = true) (ht : a.take x = b.take x) : a.take (x + 1) = b.take (x + 1) := by
 rw [List.take_succ_eq_append_getElem ha, List.take_succ_eq_append_getElem hb, ht, (dEq_iff _ _).1 h]
set_option maxRecDepth 100000 in
theorem rsameDs_any (va vb : Value) (a b : List DeltaD) (w : World) (ha : Ds w [] va a) (hb : Ds w [] vb b) (hl : a.length ≤ 4611686018427387904) (hl2 : b.length ≤ 4611686018427387904) :
  Calls Tryz.prog 21 #[va, vb] w fun e w' => e = .returned (.bool (dsEq a b)) ∧ Below w.heap.size w w' := by
 have Ha := Lib.hid ha; have Hb := Lib.hid hb
 obtain ⟨Aa, ca, rfl, hca⟩ := ha.len
 obtain ⟨Ab, cb, rfl, hcb⟩ := hb.len
 clear ha hb
 by_cases hn : a.length = b.length
 ·have hni : ((a.length : Int) != (b.length : Int)) = false := by simp [hn]
  have Hn := Lib.hid hn
  have Hfin : Hid (∀ x, x = a.length → a.take x = b.take x → dsEq a b = true) := fun x hx ht => by
   subst hx
   rw [List.take_length, List.take_of_length_le (by omega)] at ht
   exact (dsEq_iff a b).2 ht
  clear hn
  go_enter Tryz.func21, Tryz.ntmps21
  go_wp2_with fail
  go_loopw [13] (fun i wr => ∃ (x q : Nat), i = .int .i64 x ∧ x ≤ a.length ∧ Hid (a.take x = b.take x) ∧ wr = w.drewN q) (fun i _ => a.length - (intOf i).toNat)
  case atStart => exact ⟨0, 0, rfl, by omega, (show a.take 0 = b.take 0 by simp), rfl⟩
  case round =>
   obtain ⟨x, q, rfl, hx, Ht, rfl⟩ := hrel
   by_cases hlt : x < a.length
   ·have hltb : x < b.length := by have := Hn.out; omega
    obtain ⟨ga, oa, _, e1, _, hga, _, h1⟩ := Rd.at_ dCell 2 (fun _ => rfl) Ha.out hlt
    obtain ⟨gb, ob, _, e2, _, hgb, _, h2⟩ := Rd.at_ dCell 2 (fun _ => rfl) Hb.out hltb
    obtain rfl : Aa = some ⟨ga, oa, none⟩ := by injection e1
    obtain rfl : Ab = some ⟨gb, ob, none⟩ := by injection e2
    clear e1 e2
    have c1 : w.cell? ⟨ga, oa + x * 2 + 0, none⟩ = some (.string a[x].ser) := h1 0 _ rfl
    have c2 : w.cell? ⟨ga, oa + x * 2 + 1, none⟩ = some (.int .u64 a[x].n) := h1 1 _ rfl
    have c3 : w.cell? ⟨gb, ob + x * 2 + 0, none⟩ = some (.string b[x].ser) := h2 0 _ rfl
    have c4 : w.cell? ⟨gb, ob + x * 2 + 1, none⟩ = some (.int .u64 b[x].n) := h2 1 _ rfl
    rw [Nat.add_zero] at c1 c3
    have hx1 : (x : Int) < (a.length : Int) := by omega
    have hx2 : (x : Int) < (b.length : Int) := by omega
    have Hd := Lib.hid (ds_diff hlt hltb)
    have Hx := Lib.hid (fun h => ds_next hlt hltb h Ht.out)
    have he := fun W => dEq_at.1 a[x] b[x] W
    simp only [dCell] at he
    clear h1 h2
    generalize a[x] = da at *
    generalize b[x] = db at *
    obtain ⟨sa, na⟩ := da
    obtain ⟨sb, nb⟩ := db
    simp only [] at c1 c2 c3 c4 he
    cases hd : dEq ⟨sa, na⟩ ⟨sb, nb⟩ with
    | true =>
     rw [hd] at he
     have hnx := Lib.hid (Hx.out hd)
     clear Hd Hx hd
     go_wp2_with fail
     go_quiet (fail)
     go_wp2
     go_roundw
     case rel => exact ⟨x + 1, _, by go_num, by omega, hnx, rfl⟩
     case measure => simp [intOf] <;> omega
    | false =>
     rw [hd] at he
     have hf := Lib.hid (Hd.out hd)
     clear Hd Hx hd
     go_wp2_with fail
     go_quiet (fail)
     go_wp2
     go_ret
     rw [hf.out]
     exact ⟨rfl, (((Keeps.refl [] w).drewN _).drewN _).below⟩
   ·obtain rfl : x = a.length := by omega
    have hf := Lib.hid (Hfin.out _ rfl Ht.out)
    go_wp2
    go_ret
    rw [hf.out]
    exact ⟨rfl, ((Keeps.refl [] w).drewN _).below⟩
 ·have hni : ((a.length : Int) != (b.length : Int)) = true := by rw [bne_iff_ne]; omega
  have hf := Lib.hid (ds_len hn)
  clear hn Ha Hb
  go_enter Tryz.func21, Tryz.ntmps21
  go_wp2
  go_ret
  rw [hf.out]
  exact ⟨rfl, Below.refl _ _⟩
end Go.Proofs.YtdaceeijifjpeaaGreatDoor.Vi
end
section
namespace Go.Proofs.YtdaceeijifjpeaaGreatDoor.Vi
open Go.RowKit Base Mem Go.Shelf Tape
open Lead (VoteD VoteAt promiseS wonS accS medS termS newVote)
open Px (upd upd_same upd_ne)
theorem stL_rd : ∀ (l : List EntryD) (i : Nat) (st : McD), RdOk i st → (∀ e ∈ l, EntryOk e) → RdOk (i + l.length) (stL st l)
 | [], _, _, h, _ => h
 | e :: l, i, st, h, hok => by
  have h1 : RdOk (i + 1) (applyM st (pk e.ag e.sh) e).2.2 := rd_apply h _ (fun d hd => by
   obtain ⟨_, _, _, _, h5⟩ := hok e (by simp)
   rcases h5 with h5 | h5
   ·rw [h5.2.2.2.2.2.2] at hd; cases hd
   ·exact (h5.2.2.2.2.2.2.2.2.2.2.2.2 d hd).1)
  have h2 := stL_rd l (i + 1) _ h1 (fun x hx => hok x (by simp [hx]))
  rw [List.length_cons, show i + (l.length + 1) = i + 1 + l.length by omega]
  exact h2
theorem stL_size {l : List EntryD} (hok : ∀ e ∈ l, EntryOk e) : Maps.size (stL mc00 l).DS ≤ 12 := by
 have h := stL_rd l 0 mc00 rd_start hok
 have := h.keys.size h.names
 omega
theorem tag_ok {e : EntryD} (h : EntryOk e) {k : Int} (hk : 0 ≤ k ∧ k < 40) : EntryOk { e with tag := k } := by
 obtain ⟨h1, h2, _, _, h5⟩ := h
 exact ⟨h1, h2, hk.1, hk.2, h5⟩
set_option maxRecDepth 100000 in
set_option maxHeartbeats 2000000 in
theorem alone_walk (Av : Option Addr) (c : Nat) (lx : List Int) (n0 : Int) (mx : Int) (w : World) (hN : Nums w Av c lx) (hm : w.cell? ⟨0, 0, none⟩ = some (.int .i64 mx)) :
  Calls Tryz.prog 5 #[.slice Av lx.length c, .int .i64 n0] w fun e w' => SamePost true w e w' := by
 have Hm := Lib.hid hm; have HN := Lib.hid hN
 have hw0 : 0 < w.heap.size := by
  have := World.block_lt_of_cell? w _ hm
  simpa using this
 clear hm hN
 go_enter Tryz.func5, Tryz.ntmps5
 go_wp2_with fail
 refine (dknew_any w).mono ?_
 rintro e w1 ⟨rfl, hd1, hb1⟩
 obtain ⟨b0, Hb0⟩ : ∃ b, Hid (b = w.heap.size) := ⟨_, rfl⟩
 obtain ⟨tg1, hs1, -, hbe1⟩ := (RSys.start (Below.refl w.heap.size w) (fun _ _ => 0) (fun _ => 0) (fun _ => 0) (fun _ => rpNew 0 1 [])).disk hb1 hd1
 rw [← Hb0.out] at hd1 hs1 hbe1 ⊢
 have HQ := Lib.hid (hs1.newz (i := 0) id hd1 (by intro g hg; simp at hg; subst hg; exact ⟨hbe1.1, fun j _ => hbe1.2 j⟩) 0 1 (by omega) (by omega) (by omega) (by omega) Hm.out)
 clear hd1 hb1 hs1 hbe1
 go_wp2_with fail
 refine HQ.out.mono ?_
 rintro e w2 ⟨ra, M2, tg2, rfl, hs2, -⟩
 have HS2 : Hid (Sys1 w w2 M2 tg2 ra b0 (rpNew 0 1 [])) := Sys1.of hs2 (.inl rfl) (upd_same _ _ _) (upd_same _ _ _) (upd_same _ _ _)
 clear hs2 HQ
 obtain ⟨A3, hA3, hL3, hst3⟩ := lead_one
 have HL3 := Lib.hid hL3; have Hst3 := Lib.hid hst3
 have HQ := Lib.hid (HS2.out.lead Hm.out hA3)
 clear hL3 hst3 hA3
 go_wp2_with fail
 refine HQ.out.mono ?_
 rintro e w3 ⟨v3, M3, tg3, rfl, hs3, -, -⟩
 obtain ⟨tg4, hs4, ht4, -⟩ := RSys.tape hs3 HN.out
 obtain ⟨w4, hw4⟩ : ∃ w4, w4 = w3.alloc (.cells #[.slice Av lx.length c, .int .i64 0] 43) := ⟨_, rfl⟩
 rw [← hw4] at hs4 ht4
 have HS4 : Hid (Sys1 w w4 ([w3.heap.size] ++ M3) tg4 ra b0 A3) := hs4
 have HT4 := Lib.hid ht4
 clear hs3 hs4 ht4 HQ HS2 HN
 go_upto_region 7 with (fail)
 try rw [← hw4]
 clear hw4
 generalize ([w3.heap.size] ++ M3) = M4 at *
 generalize w3.heap.size = bt at *
 obtain ⟨Wn, HWn⟩ : ∃ Wn, Hid (Wn = withinS n0 0 25) := ⟨_, rfl⟩
 have hwb : 0 ≤ Wn ∧ Wn ≤ 25 := by rw [HWn.out]; exact within_bd n0 0 25 (by omega)
 obtain ⟨hwb1, hwb2⟩ := hwb
 have HWi : Hid (∀ W, Calls Tryz.prog 11 #[.int .i64 n0, .int .i64 0, .int .i64 25] W fun e w' => e = .returned (.int .i64 Wn) ∧ W = w') := fun W => by rw [HWn.out]; exact within_any n0 0 25 W (by omega) (by omega) (by omega)
 go_wp2_with fail
 refine (HWi.out w4).mono ?_
 rintro e w5 ⟨rfl, rfl⟩
 go_wp2_with fail
 go_loopw [9] (fun i wr => ∃ (k : Nat) (l : List EntryD) (M : List Nat) (tg : Nat → Nat → Nat) (A : RpD) (kt : Nat), i = .int .i64 k ∧ (k : Int) ≤ Wn ∧ Hid (l.length = k) ∧ Hid (∀ e ∈ l, EntryOk e) ∧ Hid (Sys1 w wr M tg ra b0 A) ∧ Hid (TpS w wr M tg bt lx kt) ∧ Hid (Lds A 1 1 l (l.length :: List.replicate 7 0) l.length (k + 2)) ∧ Hid (A.st = stL mc00 l)) (fun i _ => (Wn - intOf i).toNat)
 case atStart => exact ⟨0, [], M4, tg4, A3, 0, rfl, by omega, rfl, (by show ∀ e ∈ [], _; simp), HS4, HT4, HL3, Hst3⟩
 case round =>
  obtain ⟨k, l, M, tg, A, kt, rfl, hkW, Hlk, Hok, HS, HT, HLd, Hst⟩ := hrel
  clear HS4 HT4 HL3 Hst3
  by_cases hlt : (k : Int) < Wn
  ·have HQ := Lib.hid (RSys.entry HS.out HT.out)
   go_wp2_with fail
   refine HQ.out.mono ?_
   rintro e w3 ⟨en, dv, kt3, rfl, hen, hds, hs3, ht3, hk3⟩
   have HEn : Hid (EntryOk { en with tag := (k : Int) }) := tag_ok hen (by omega)
   have HS3 : Hid (Sys1 w w3 M tg ra b0 A) := hs3
   have HT3 := Lib.hid ht3
   obtain ⟨Ad, nd, rfl, _⟩ := (hds [] (by simp)).len
   have HD3 := Lib.hid (hds M HS.out.lt)
   have heq : (eCell (en, .slice Ad en.ds.length nd)).toArray = #[.int .i64 en.kind, .int .i64 en.ag, .int .i64 en.sh, .int .i64 en.seq, .int .i64 en.ep, .slice Ad en.ds.length nd, .string en.ser, .int .i64 en.fr, .int .i64 en.tag] := rfl
   rw [heq]
   obtain ⟨w4, hw4⟩ : ∃ w4, w4 = w3.alloc (.cells #[.int .i64 en.kind, .int .i64 en.ag, .int .i64 en.sh, .int .i64 en.seq, .int .i64 en.ep, .slice Ad en.ds.length nd, .string en.ser, .int .i64 en.fr, .int .i64 k] 33) := ⟨_, rfl⟩
   have hk4 : Keeps [] w3 w4 := by rw [hw4]; exact (Keeps.refl _ _).alloc _
   have hBe : Blk w4 w3.heap.size 33 #[.int .i64 en.kind, .int .i64 en.ag, .int .i64 en.sh, .int .i64 en.seq, .int .i64 en.ep, .slice Ad en.ds.length nd, .string en.ser, .int .i64 en.fr, .int .i64 k] := by rw [hw4]; exact Blk.new w3 _ _
   have HS4 := Lib.hid (HS3.out.keep0 hk4)
   have HT4 := Lib.hid (HT3.out.keep0 hk4)
   have HOe : Hid (Out1 w4 M w3.heap.size [.int .i64 en.kind, .int .i64 en.ag, .int .i64 en.sh, .int .i64 en.seq, .int .i64 en.ep, .slice Ad en.ds.length nd, .string en.ser, .int .i64 en.fr, .int .i64 k]) := Out1.new HS3.out (Nat.le_refl _) hBe.lt (fun j u hu => by rw [hBe.cell]; simpa using hu)
   have HMs : Hid (MsgAt w4 M (askM { en with tag := (k : Int) }) (.slice Ad en.ds.length nd) (.slice none 0 0)) := ⟨HD3.out.keep hk4 (by simp), Ens.nil _ _⟩
   clear hen hds hs3 ht3 hk3 HQ HS HT HD3 hBe hk4 heq HS3 HT3
   go_upto_region 13 with (fail)
   try rw [← hw4]
   clear hw4
   generalize w3.heap.size = gE at *
   have e0 := HOe.out.cell 0 _ rfl; have e1 := HOe.out.cell 1 _ rfl; have e2 := HOe.out.cell 2 _ rfl; have e3 := HOe.out.cell 3 _ rfl; have e4 := HOe.out.cell 4 _ rfl; have e5 := HOe.out.cell 5 _ rfl; have e6 := HOe.out.cell 6 _ rfl; have e7 := HOe.out.cell 7 _ rfl; have e8 := HOe.out.cell 8 _ rfl
   have hok5 : ∀ a ∈ l ++ [askE { en with tag := (k : Int) } 3], EntryOk a := fun a ha => by
    rcases List.mem_append.1 ha with h1 | h1
    ·exact Hok.out a h1
    ·simp at h1; subst h1; exact ask_ok HEn.out (by omega)
   obtain ⟨A5, hA5, hL5, hst5⟩ := ask_one (e := { en with tag := (k : Int) }) (fr := 3) HLd.out (by omega) (by omega) (by rw [Hlk.out]; omega) hok5 (by omega) Hst.out
   have HOk5 := Lib.hid hok5; have HL5 := Lib.hid hL5; have Hst5 := Lib.hid hst5
   have HQ := Lib.hid (HS4.out.recv 3 (askM { en with tag := (k : Int) }) _ _ HMs.out (fit_ask HEn.out) Hm.out ((recv_ask HEn.out).trans hA5))
   clear hok5 hL5 hA5 hst5
   go_wp2_with fail
   refine (show Calls Tryz.prog 10 #[.pointer (some ⟨ra, 0, none⟩), .int .i64 3, .agg #[.int .i64 1, .int .i64 en.kind, .int .i64 en.ag, .int .i64 en.sh, .int .i64 en.seq, .int .i64 en.ep, .slice Ad en.ds.length nd, .string en.ser, .int .i64 en.fr, .int .i64 k, .int .i64 0, .int .i64 0, .int .u64 0, .int .i64 0, .int .i64 0, .slice none 0 0, .int .i64 0, .int .i64 0]] w4 _ from HQ.out).mono ?_
   rintro e w5 ⟨v5, M5, tg5, rfl, hs5, hg5, hr5⟩
   have HS5 : Hid (Sys1 w w5 M5 tg5 ra b0 A5) := hs5
   have HT5 := Lib.hid (HT4.out.goes HS4.out hg5)
   obtain ⟨gl, cl, dvl, lvl, rfl, hcl, hml, -⟩ := srow_one hr5
   have l0 : w5.cell? ⟨gl, 0, none⟩ = some (.int .i64 3) := hml.cell 0 _ rfl
   have l1 : w5.cell? ⟨gl, 1, none⟩ = some (.int .i64 2) := hml.cell 1 _ rfl
   have l2 : w5.cell? ⟨gl, 11, none⟩ = some (.int .i64 k) := hml.cell 11 _ rfl
   have hlen5 : (((l ++ [askE { en with tag := (k : Int) } 3]).length : Nat) : Int) = (k : Int) + 1 := by rw [List.length_append, Hlk.out]; rfl
   have HCm : Hid (Calls Tryz.prog 13 #[.pointer (some ⟨ra, 0, none⟩)] w5 fun e w' => e = .returned (.int .i64 ((k : Int) + 1)) ∧ w5 = w') := by
    have := HS5.out.commit w5 (Keeps.refl _ _)
    rw [HL5.out.com, hlen5] at this
    exact this
   have Hl9 : Hid ((l ++ [askE { en with tag := (k : Int) } 3]).length = k + 1) := by show _ = _; rw [List.length_append, Hlk.out]; rfl
   have HL9 : Hid (Lds A5 1 1 (l ++ [askE { en with tag := (k : Int) } 3]) ((l ++ [askE { en with tag := (k : Int) } 3]).length :: List.replicate 7 0) (l ++ [askE { en with tag := (k : Int) } 3]).length (k + 1 + 2)) := HL5.out
   clear hs5 hg5 hr5 hml HQ HS4 HT4 HOe HMs HLd Hst HL5 hlen5 e0 e1 e2 e3 e4 e5 e6 e7 e8
   go_wp2_with fail
   refine HCm.out.mono ?_
   rintro e w6 ⟨rfl, rfl⟩
   clear HCm l0 l1 l2
   go_wp2_with fail
   go_roundw
   case rel => exact ⟨k + 1, _, M5, tg5, A5, _, by go_num, by omega, Hl9, HOk5, HS5, HT5, HL9, Hst5⟩
   case measure => simp [intOf] <;> omega
  ·have hke : (k : Int) = Wn := by omega
   obtain ⟨g, X, N, Y, hmach, hmc, hdk, hX, hY⟩ := HS.out.parts
   have HMa := Lib.hid (hmach wr (Keeps.refl _ _))
   have hs6 : RSys (fun _ => False) w wr M (fun _ _ => 99) (fun _ => ra) (fun _ => b0) (fun _ => A) := RSys.clear HS.out
   have hmcs : McS wr M (fun _ _ => 99) g X A.st N := ⟨hmc, fun x hx => ⟨⟨(hX x hx).1, fun _ => rfl⟩, HS.out.lt x (hX x hx).1⟩⟩
   have HMc := Lib.hid hmcs; have HS6 := Lib.hid hs6; have HDk := Lib.hid hdk
   have HXY : Hid (∀ x ∈ X, x ∉ Y) := fun x hx hm => by have h1 := (hX x hx).2; have h2 := (hY x hm).2; omega
   have HYM : Hid (∀ y ∈ Y, y ∈ M) := fun y hy => (hY y hy).1
   have HdY : Hid (b0 ∈ Y) := by obtain ⟨_, _, _, h3, _⟩ := hdk; exact h3
   clear hmach hmc hdk hX hY hs6 hmcs HS HT
   go_wp2_with fail
   refine HMa.out.mono ?_
   rintro e w6 ⟨rfl, rfl⟩
   have HQ := Lib.hid (dkcrash_any wr HDk.out 0)
   go_wp2_with fail
   refine HQ.out.mono ?_
   rintro e w7 ⟨rfl, hd7, hk7⟩
   have hbes : ∀ x ∈ [b0], Bes M (fun _ _ => 99) x := fun x hx => by simp at hx; subst hx; exact ⟨HYM.out _ HdY.out, fun _ => rfl⟩
   have HS7 := Lib.hid (HS6.out.beside hbes hk7)
   have HMc7 : Hid (McS w7 M (fun _ _ => 99) g X A.st N) := ⟨HMc.out.mc.keep hk7 (fun x hx hm => by simp at hm; subst hm; exact HXY.out _ hx HdY.out), fun x hx => ⟨(HMc.out.bes x hx).1, Nat.lt_of_lt_of_le (HMc.out.bes x hx).2 hk7.size⟩⟩
   have hfull : A.b.take (A.k + crashK A.b A.k 0) = A.b := by
    rw [HLd.out.good.2]
    exact List.take_of_length_le (by omega)
   rw [hfull] at hd7
   have HQ2 := Lib.hid (HS7.out.newz (i := 0) id hd7 (fun y hy => ⟨HYM.out y hy, fun j hj => hj.elim⟩) 0 1 (by omega) (by omega) (by omega) (by omega) Hm.out)
   clear hbes hd7 hk7 hfull HQ HS6 HMc HDk
   go_wp2_with fail
   refine HQ2.out.mono ?_
   rintro e w8 ⟨rs, M8, tg8, rfl, hs8, hg8⟩
   have HS8 : Hid (Sys1 w w8 M8 tg8 rs b0 (rpNew 0 1 A.b)) := Sys1.of hs8 (.inl rfl) (upd_same _ _ _) (upd_same _ _ _) (upd_same _ _ _)
   have HMc8 := Lib.hid (HMc7.out.goesN hg8 HXY.out)
   obtain ⟨S9, out9, hz1, hz2, hz3, hlead9, hs91, hs92, hs93, hs94⟩ := again_one HLd.out (by rw [Hlk.out]; omega) Hok.out (by omega) Hst.out A.b rfl
   have HLe : Hid (Calls Tryz.prog 14 #[.pointer (some ⟨rs, 0, none⟩)] w8 fun e w' => e = .returned (.bool false) ∧ w8 = w') := by
    have := HS8.out.leads w8 (Keeps.refl _ _)
    rw [hz2] at this
    exact this
   have HCo : Hid (Calls Tryz.prog 13 #[.pointer (some ⟨rs, 0, none⟩)] w8 fun e w' => e = .returned (.int .i64 0) ∧ w8 = w') := by
    have := HS8.out.commit w8 (Keeps.refl _ _)
    rw [hz1] at this
    exact this
   have HQ := Lib.hid (HS8.out.lead Hm.out hlead9)
   have H91 := Lib.hid hs91; have H92 := Lib.hid hs92; have H93 := Lib.hid hs93
   clear hs8 hg8 HQ2 HS7 HMc7 hz1 hz2 hz3 hlead9 hs91 hs92 hs93 hs94
   go_wp2_with fail
   refine HLe.out.mono ?_
   rintro e w9 ⟨rfl, rfl⟩
   go_wp2_with fail
   refine HCo.out.mono ?_
   rintro e w9 ⟨rfl, rfl⟩
   clear HLe HCo
   go_wp2_with fail
   refine HQ.out.mono ?_
   rintro e w9 ⟨v9, M9, tg9, rfl, hs9, hg9, -⟩
   have HS9 : Hid (Sys1 w w9 M9 tg9 rs b0 S9) := hs9
   have HMc9 := Lib.hid (HMc8.out.goes hg9)
   clear hs9 hg9 HQ HS8 HMc8
   obtain ⟨g2, X2, N2, Y2, hmach, hmc2, -, -, -⟩ := HS9.out.parts
   rw [H93.out] at hmc2
   have HMa2 := Lib.hid (hmach w9 (Keeps.refl _ _))
   have hsz : Maps.size A.st.DS ≤ 12 := by rw [Hst.out]; exact stL_size Hok.out
   have HSu2 := Lib.hid (mcsums_any g2 X2 A.st N2 w9 hmc2 hsz)
   have HSu := Lib.hid (fun W (hk : Keeps [] w9 W) => mcsums_any g X A.st N W (HMc9.out.mc.keep hk (by simp)) hsz)
   have HLe : Hid (Calls Tryz.prog 14 #[.pointer (some ⟨rs, 0, none⟩)] w9 fun e w' => e = .returned (.bool true) ∧ w9 = w') := by
    have := HS9.out.leads w9 (Keeps.refl _ _)
    rw [H91.out] at this
    exact this
   have HCo : Hid (Calls Tryz.prog 13 #[.pointer (some ⟨rs, 0, none⟩)] w9 fun e w' => e = .returned (.int .i64 (k : Int)) ∧ w9 = w') := by
    have := HS9.out.commit w9 (Keeps.refl _ _)
    rw [H92.out, Hlk.out] at this
    exact this
   have HBl := Lib.hid HS9.out.bel
   have HCm := Lib.hid (HS9.out.cell0 Hm.out).1
   clear hmach hmc2 hsz HMc9 HS9 H91 H92 H93 HLd Hst Hok Hlk
   go_wp2_with fail
   refine HLe.out.mono ?_
   rintro e w10 ⟨rfl, rfl⟩
   go_wp2_with fail
   refine HCo.out.mono ?_
   rintro e w10 ⟨rfl, rfl⟩
   go_wp2_with fail
   refine HMa2.out.mono ?_
   rintro e w10 ⟨rfl, rfl⟩
   go_wp2_with fail
   refine HMa2.out.mono ?_
   rintro e w10 ⟨rfl, rfl⟩
   go_wp2_with fail
   refine HSu2.out.mono ?_
   rintro e w10 ⟨va, la, rfl, hia, hla, hda, hka⟩
   have HQ := Lib.hid (HSu.out w10 hka)
   have Hda := Lib.hid hda; have Hka := Lib.hid hka; have Hia := Lib.hid hia
   clear hda hka hia
   go_wp2_with fail
   refine HQ.out.mono ?_
   rintro e w11 ⟨vb, lb, rfl, hib, hlb, hdb, hkb⟩
   obtain rfl := isAll_one Hia.out hib
   have HDa := Lib.hid ((Hda.out [] (by simp)).keep hkb (by simp))
   have HDb := Lib.hid (hdb [] (by simp))
   have HKb := Lib.hid (Hka.out.trans hkb (by simp))
   have HQ2 := Lib.hid (rsameDs_any va vb la la w11 HDa.out HDb.out (by omega) (by omega))
   clear hib hdb hkb Hda Hka Hia HQ
   go_wp2_with fail
   refine HQ2.out.mono ?_
   rintro e w12 ⟨rfl, hb12⟩
   have hk12 := HKb.out.trans (Keeps.of_below (M := []) hb12) (by simp)
   have HKn := Lib.hid (known16_any mx w12 ((hk12.cell (p := ⟨0, 0, none⟩) (World.block_lt_of_cell? w9 _ HCm.out) (by simp)).trans HCm.out))
   have HB12 := Lib.hid (HBl.out.trans (hk12.belowB HBl.out.size (by simp)))
   have hself : dsEq la la = true := (dsEq_iff la la).2 rfl
   clear hb12 hk12 HQ2 HDa HDb HKb HSu HSu2 HMa2
   go_wp2_with fail
   refine HKn.out.mono ?_
   rintro e w13 ⟨rfl, hb13⟩
   have HB13 := Lib.hid (HB12.out.trans (hb13.mono HB12.out.size))
   clear hb13
   go_wp2_with fail
   go_ret
   exact ⟨rfl, HB13.out⟩
end Go.Proofs.YtdaceeijifjpeaaGreatDoor.Vi
end
