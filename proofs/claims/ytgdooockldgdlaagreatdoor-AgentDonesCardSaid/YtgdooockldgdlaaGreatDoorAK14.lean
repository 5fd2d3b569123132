/- Texts put together: AhJ, AgentDonesProof. -/
import Derived.Deep.DeepCutAuto
import Derived.Test.YtgdooockldgdlaaGreatDoorCards
import Derived.Test.YtgdooockldgdlaaGreatDoorTie
import Derived.ChangeOld
import Derived.Below
import Derived.Test.YtgdooockldgdlaaGreatDoorAK1
import Derived.Test.YtgdooockldgdlaaGreatDoorAK12
import Derived.Test.YtgdooockldgdlaaGreatDoorAK13
set_option linter.unusedVariables false
set_option linter.unusedSimpArgs false
section
namespace Go.Proofs.YtgdooockldgdlaaGreatDoor.Vi
open Go.RowKit Base Mem Go.Shelf Tape
open Draw
/-- Behind x answers. -/
structure DnRel (dn : Bool) (A : AgD) (x : Nat) : Prop where
 st : if dn = true then DnGone A else DnSt A ∧ DueIn A 48
 cn : A.cn ≤ 100 * x
 now_ : A.now = 48 * x
theorem DnRel.start : DnRel false dC.1 0 := by
 obtain ⟨h1, h2⟩ := d_start
 obtain ⟨_, _, _, h3⟩ := d_ing
 refine ⟨?_, by omega, ?_⟩
 ·rw [if_neg (by simp)]; exact ⟨h1, h2⟩
 ·have : dC.1.now = 0 := by decide +kernel
  rw [this]; rfl
theorem DnRel.room {dn : Bool} {A : AgD} {x : Nat} (h : DnRel dn A x) (hx : x ≤ 20) : A.cn + 40000 ≤ 1099511627776 ∧ A.now + 1024 ≤ 1099511627776 := by
 have h1 := h.cn
 have h2 := h.now_
 omega
theorem tag_i64 {w : World} {M : List Nat} {tg : Nat → Nat} {a d : Nat} {A : AgD} (h : AgAt w M tg a d A) {t : Int} {o : Option (Int × Int)} (hl : look A.asked t = some o) : 0 ≤ t ∧ I64 t := by
 have hep1 : A.bk.ep ≤ 1073741824 := by obtain ⟨_, C, _, hv⟩ := h; exact hv.bk.1.2.1
 obtain ⟨p1, p2, p3, p4, p5, p6, p7, p8, p9, p10, p11⟩ := h.1
 obtain ⟨q1, q2, _⟩ := p10 _ (look_mem hl)
 have q1' : A.bk.ep * 4294967296 < t := q1
 have q2' : t ≤ A.tag := q2
 exact ⟨by omega, ⟨by omega, by omega⟩⟩
def ansC (t c : Int) : List Value := [.int .i64 2, .int .i64 0, .int .i64 0, .int .i64 0, .int .i64 0, .int .i64 0, .slice none 0 0, .string ⟨#[]⟩, .int .i64 0, .int .i64 0, .int .i64 t, .int .i64 c, .int .u64 0, .int .i64 0, .int .i64 0, .slice none 0 0, .int .i64 0, .int .i64 0]
theorem ans_at (t c : Int) (W : World) : MsgAt W [] (ansM t c) (.slice none 0 0) (.slice none 0 0) := ⟨Ds.nil _ _, Ens.nil _ _⟩
theorem ans_short (t c : Int) : MShort (ansM t c) := ⟨⟨by show (0 : Nat) < _; omega, by simp [ansM], by simp [ansM]⟩, by simp [ansM], by simp [ansM]⟩
section
variable {w w' : World} {M : List Nat} {tg : Nat → Nat} {a d : Nat} {A : AgD}
theorem ans_any (h : AgAt w M tg a d A) (hM : ∀ g ∈ M, g < w.heap.size) (hc : A.cn + 1 ≤ 1099511627776) (fr t c : Int) (ht : I64 t) (mx : Int) (hmx : w.cell? ⟨0, 0, none⟩ = some (.int .i64 mx)) :
  Calls Tryz.prog 24 #[.pointer (some ⟨a, 0, none⟩), .int .i64 fr, .agg (ansC t c).toArray] w fun e w' => RcPost M tg a d A.node (agRecv A fr (ansM t c)) w e w' :=
 agrecv_any h hM hc fr (ansM t c) (.slice none 0 0) (.slice none 0 0) mx (ans_at t c w) (ans_short t c) ht hmx
end
theorem j_facts (j : Nat) (h : j + 1 ≤ maxLen) : (0 : Int) ≤ j ∧ (j : Int) < ((j + 1 : Nat) : Int) ∧ (j : Int) < (j : Int) + 1 ∧ (j : Int) ≤ 9223372036854775806 ∧ Hid (IntKind.i64.wrap (j : Int) = j) := by
 unfold maxLen at h
 refine ⟨by omega, by omega, by omega, by omega, ?_⟩
 show _ = _
 rw [IntKind.wrap_i64]; omega
theorem ans_kn {w W : World} {M : List Nat} {tg : Nat → Nat} {a d : Nat} {A : AgD} (h : KnSt w W M tg a d A) (hc : A.cn + 1 ≤ 1099511627776) (hn : A.node = 2) (fr t c : Int) (ht : I64 t) (mx : Int) (hm : w.cell? ⟨0, 0, none⟩ = some (.int .i64 mx)) {o : Option (Int × Int)} {c' : Int} {B : AgD} (hR : agRecv A fr (ansM t c) = (o, c', B)) :
  Calls Tryz.prog 24 #[.pointer (some ⟨a, 0, none⟩), .int .i64 fr, .agg (ansC t c).toArray] W fun e V => e = .returned (.tuple #[idV 2 o, .int .i64 c']) ∧ ∃ M' tg', KnSt w V M' tg' a d B ∧ Ext W M tg V M' tg' ∧ Keeps (sel M tg (List.range 30)) W V := by
 refine (ans_any h.ag h.lt hc fr t c ht mx (h.cell0 hm).1).mono ?_
 rintro e V ⟨h1, M', tg', h2, h3, h4⟩
 rw [hR] at h1 h2
 rw [hn] at h1
 exact ⟨h1, M', tg', h.step h3 h4 h2, h3, h4⟩
set_option maxRecDepth 100000 in
set_option maxHeartbeats 8000000 in
theorem dones_walk (Av : Option Addr) (c : Nat) (lx : List Int) (mx : Int) (w : World) (hN : Nums w Av c lx) (hm : w.cell? ⟨0, 0, none⟩ = some (.int .i64 mx)) :
  Calls Tryz.prog 5 #[.slice Av lx.length c] w fun e w' => SamePost true w e w' := by
 have Hm := Lib.hid hm; have HN := Lib.hid hN
 have hw0 : 0 < w.heap.size := by
  have := World.block_lt_of_cell? w _ hm
  simpa using this
 obtain ⟨i1, i2, i3, i4⟩ := d_ing
 clear hm hN i4
 go_enter Tryz.func5, Tryz.ntmps5
 go_wp2_with fail
 refine (dknew_any w).mono ?_
 rintro e w1 ⟨rfl, hd1, hb1⟩
 obtain ⟨d, Hd⟩ : ∃ d, Hid (d = w.heap.size) := ⟨_, rfl⟩
 rw [← Hd.out] at hd1 ⊢
 have hnw := Lib.hid (agnew_any hd1 2 2 mx (by have := Hd.out; simp; omega) ((hb1.cell (p := ⟨0, 0, none⟩) hw0).trans Hm.out))
 have Hb1 := Lib.hid hb1
 clear hd1 hb1
 go_wp2_with fail
 refine hnw.out.mono ?_
 intro e w2 hp
 rw [dA_eq] at hp
 obtain ⟨a, M2, tg2, rfl, hs2⟩ := kn_new (b := []) (k := 0) Hb1.out (by simp [Hd.out]) hp
 have HS2 := Lib.hid hs2
 have hin := Lib.hid (aging_yes hs2.ag hs2.lt kD ⟨by decide, by decide⟩ (by decide) mx (hs2.cell0 Hm.out).1 i1)
 clear hp hs2 hnw Hb1 i1
 go_wp2_with fail
 refine (show Calls Tryz.prog 18 #[.pointer (some ⟨a, 0, none⟩), .string ⟨#[97, 61, 49]⟩, .int .u64 5] w2 _ from hin.out).mono ?_
 rintro e w5 ⟨rfl, M5, tg5, h1, h2, h3⟩
 have HS5 := Lib.hid (HS2.out.step h2 h3 h1)
 have hcu := Lib.hid (agcutall_any HS5.out.ag HS5.out.lt)
 clear h1 h2 h3 hin HS2
 go_wp2_with fail
 refine hcu.out.mono ?_
 rintro e w6 ⟨v6, rfl, hrow, M6, tg6, h1, h2, h3, hfar⟩
 have HS6 : Hid (KnSt w w6 M6 tg6 a d dC.1) := HS5.out.step h2 h3 h1
 have HR6 : Hid (DnRel false dC.1 0) := DnRel.start
 obtain ⟨Ac, cc, rfl, _⟩ := own_slice2 hrow
 have hl1 : ((agCutAll (agIng dA kD).2).2.length : Int) = 1 := by
  have : (agCutAll (agIng dA kD).2).2.length = 1 := i3
  omega
 clear h1 h2 h3 hcu HS5 hrow hfar i3
 generalize (agCutAll (agIng dA kD).2).2.length = ln at *
 generalize dC.1 = A6 at *
 go_wp2_with fail
 clear i2
 go_loopw [4, 5] (fun dv iv wr => ∃ (x : Nat) (dn : Bool) (A : AgD) (M : List Nat) (tg : Nat → Nat), dv = .bool dn ∧ iv = .int .i64 x ∧ x ≤ 20 ∧ x ≤ lx.length ∧ Hid (KnSt w wr M tg a d A) ∧ Hid (DnRel dn A x)) (fun _ iv _ => 20 - (intOf iv).toNat)
 case atStart => exact ⟨0, false, A6, M6, tg6, rfl, rfl, by omega, by omega, HS6, HR6⟩
 case round =>
  obtain ⟨x, dn, A, M, tg, rfl, rfl, hx, hxl, HS, HR⟩ := hrel
  clear HS6 HR6 hl1
  by_cases hlt : x < lx.length ∧ x < 20
  ·obtain ⟨hlt1, hlt2⟩ := hlt
   have hx1 : (x : Int) < (lx.length : Int) := by omega
   have hx2 : (x : Int) < 20 := by omega
   obtain ⟨hr1, hr2⟩ := HR.out.room hx
   obtain ⟨hNl, hNc, hNr⟩ := HN.out
   obtain ⟨gn, on, rfl, hgn, hcn⟩ := hNr (by omega)
   have hcx := hcn x lx[x] (List.getElem?_eq_getElem hlt1)
   generalize lx[x] = cx at *
   have Hcx : Hid (∀ W, Below w.heap.size w W → W.cell? ⟨gn, on + x, none⟩ = some (.int .i64 cx)) := fun W hb => (hb.cell (p := ⟨gn, on + x, none⟩) hgn).trans hcx
   have htk := Lib.hid (agtick_any HS.out.ag HS.out.lt 48 hr1 hr2)
   have hon : on + x = on + x := rfl
   clear hr1 hr2 hcn hNr hcx hgn hon
   go_wp2_with fail
   refine htk.out.mono ?_
   rintro e w3 ⟨v, M3, tg3, rfl, hts⟩
   have HS3 := Lib.hid (HS.out.step hts.x hts.k hts.ag)
   have hwi := Lib.hid (fun W => within_any cx 0 6 W (by omega) (by omega) (by omega))
   have hcb := within_bd cx 0 6 (by omega)
   obtain ⟨hcb0, hcb6⟩ := hcb
   have p0 := Hcx.out w3 HS3.out.bel
   clear htk HS
   generalize withinS cx 0 6 = cw at *
   cases dn with
   | true =>
    have hst := HR.out.st
    rw [if_pos rfl] at hst
    obtain ⟨t1, t2, t3, t4⟩ := gone_tick hst
    have HR3 : Hid (DnRel true (agTick A 48).1 (x + 1)) := ⟨by rw [if_pos rfl]; exact t2, by have := HR.out.cn; omega, by have := HR.out.now_; rw [t3]; omega⟩
    rw [t1] at hts
    obtain ⟨A3, c3, rfl⟩ := tk_none hts
    have hlk : look (agTick A 48).1.asked (ansM 4294967297 1).tag = none := by rw [t2.asked]; rfl
    have hrc := Lib.hid (ans_any HS3.out.ag HS3.out.lt (by have := HR3.out.cn; omega) 0 4294967297 1 ⟨by decide, by decide⟩ mx (HS3.out.cell0 Hm.out).1)
    rw [recv_none hlk] at hrc
    clear hts hst t1 t2 t3 t4 hlk HR
    generalize (agTick A 48).1 = A4 at *
    go_wp2_with fail
    refine (hwi.out w3).mono ?_
    rintro e w4 ⟨rfl, rfl⟩
    go_wp2_with fail
    refine (show Calls Tryz.prog 24 #[.pointer (some ⟨a, 0, none⟩), .int .i64 0, .agg #[.int .i64 2, .int .i64 0, .int .i64 0, .int .i64 0, .int .i64 0, .int .i64 0, .slice none 0 0, .string ⟨#[]⟩, .int .i64 0, .int .i64 0, .int .i64 4294967297, .int .i64 1, .int .u64 0, .int .i64 0, .int .i64 0, .slice none 0 0, .int .i64 0, .int .i64 0]] w3 _ from hrc.out).mono ?_
    rintro e w5 ⟨he, M5, tg5, h1, h2, h3⟩
    have he2 : e = .returned (.tuple #[.agg #[.int .i64 0, .int .i64 0, .int .i64 0], .int .i64 0]) := he
    subst he2
    have HS5 := Lib.hid ((HS3.out.step h2 h3 h1).keep0 ((Keeps.refl [] w5).alloc (.cells #[.int .i64 0, .int .i64 0, .int .i64 0] 30)))
    clear he h1 h2 h3 hrc HS3
    go_wp2_with fail
    go_roundw
    case rel => exact ⟨x + 1, true, _, M5, tg5, rfl, by go_num, by omega, by omega, HS5, HR3⟩
    case measure => simp [intOf] <;> omega
   | false =>
    have hst := HR.out.st
    rw [if_neg (by simp)] at hst
    obtain ⟨t1, t2, t3, t4, t5, t6⟩ := dn_tick hst.1 hst.2
    obtain ⟨s, hsi, hmax, g, cap, rfl, hcap, hgM, hgt, q0, q10⟩ := tk_last hts t3
    have hso := t2 s hsi
    obtain ⟨htg0, htgi⟩ := tag_i64 HS3.out.ag hso.1
    have hlen0 : 0 < (agTick A 48).2.length := by
     rcases Nat.eq_zero_or_pos (agTick A 48).2.length with h | h
     ·exact absurd (List.length_eq_zero_iff.1 h) t3
     ·exact h
    obtain ⟨j, hj⟩ : ∃ j, (agTick A 48).2.length = j + 1 := ⟨(agTick A 48).2.length - 1, by omega⟩
    rw [hj] at q0 q10 hcap hmax ⊢
    rw [Nat.add_sub_cancel] at q0 q10
    have HR3 : Hid (DnSt (agTick A 48).1 ∧ DueIn (agTick A 48).1 48 ∧ (agTick A 48).1.cn ≤ 100 * x + 96 ∧ (agTick A 48).1.now = 48 * (x + 1 : Nat)) := ⟨t1, t4, by have := HR.out.cn; omega, by have := HR.out.now_; rw [t5]; omega⟩
    have Hso := Lib.hid hso
    clear hts hst t1 t2 t3 t4 t5 t6 hlen0 hsi hso hj HR
    generalize (agTick A 48).1 = A4 at *
    obtain ⟨dst, ⟨kd, en, mt, mc, mn, mtm, mh, ml, mcm, mln⟩⟩ := s
    simp only [] at q0 q10 htg0 htgi
    generalize hen : en.tag = etg at *
    obtain ⟨hj0, hj1, hj2, hj3, Hw⟩ := j_facts j hmax
    clear hmax
    go_wp2_with fail
    refine (hwi.out w3).mono ?_
    rintro e w4 ⟨rfl, rfl⟩
    clear hwi
    -- the rest is printed by gen_ahj.py
    go_upto_region 17 with (refine wpList_store_blk rfl 59 (.tmp 10) (.tmp 72) rfl w3.heap.size 0 59 #[.int .i64 0, .int .i64 0, .int .i64 0, .int .i64 0, .int .i64 0, .int .i64 0, .slice none 0 0, .string ⟨#[]⟩, .int .i64 0, .int .i64 0, .int .i64 0, .int .i64 0, .int .u64 0, .int .i64 0, .int .i64 0, .slice none 0 0, .int .i64 0, .int .i64 0] #[.int .i64 2, .int .i64 0, .int .i64 0, .int .i64 0, .int .i64 0, .int .i64 0, .slice none 0 0, .string ⟨#[]⟩, .int .i64 0, .int .i64 0, .int .i64 etg, .int .i64 (1 + cw), .int .u64 0, .int .i64 0, .int .i64 0, .slice none 0 0, .int .i64 0, .int .i64 0] #[.int .i64 2, .int .i64 0, .int .i64 0, .int .i64 0, .int .i64 0, .int .i64 0, .slice none 0 0, .string ⟨#[]⟩, .int .i64 0, .int .i64 0, .int .i64 etg, .int .i64 (1 + cw), .int .u64 0, .int .i64 0, .int .i64 0, .slice none 0 0, .int .i64 0, .int .i64 0] rfl rfl (Blk.new _ _ _) (by show 0 + 18 ≤ 18; omega) rfl (by kernel_rfl) rfl ?_; intro w4 hk4 hB4; have HK4 : Hid (Keeps [] w3 w4) := ((Keeps.refl _ _).alloc _).trans hk4 (by intro x hx; simp at hx; right; omega); have HB4 := Lib.hid hB4; clear hk4 hB4)
    obtain ⟨gM, HgM⟩ : ∃ gM, Hid (gM = w3.heap.size) := ⟨_, rfl⟩
    rw [← HgM.out] at HB4 ⊢
    have HS4 := Lib.hid (HS3.out.keep0 HK4.out)
    have HnM : Hid (gM ∉ M3) := fun h => by have := HS3.out.lt _ h; have := HgM.out; omega
    have HgL : Hid (g < w4.heap.size) := Nat.lt_of_lt_of_le (HS3.out.lt g hgM) HK4.out.size
    have Hgt := Lib.hid (And.intro hgM hgt)
    have HS17 : Hid (∀ W, Keeps [] w4 W → W.cell? ⟨g, j * 19, none⟩ = some (.int .i64 dst) ∧ W.rangeAt gM 0 (#[.int .i64 2, .int .i64 0, .int .i64 0, .int .i64 0, .int .i64 0, .int .i64 0, .slice none 0 0, .string ⟨#[]⟩, .int .i64 0, .int .i64 0, .int .i64 etg, .int .i64 (1 + cw), .int .u64 0, .int .i64 0, .int .i64 0, .slice none 0 0, .int .i64 0, .int .i64 0]).toList) := fun W hk => ⟨((HK4.out.trans hk (by simp)).cell (p := ⟨g, j * 19, none⟩) (HS3.out.lt g hgM) (by simp)).trans q0, blk_range (hk.blk HB4.out (by simp))⟩
    obtain ⟨B5, hR⟩ : ∃ B5, agRecv A4 dst (ansM etg (1 + cw)) = (some (0, 1), 1 + cw, B5) ∧ Hid (look B5.asked etg = none ∧ B5.now = A4.now ∧ B5.cn ≤ A4.cn + 1 ∧ (if 1 + cw ≤ 3 then DnGone B5 else DnSt B5 ∧ DueIn B5 48)) := by
     obtain ⟨h1, h2, h3, h4, h5, h6⟩ := dn_recv HR3.out.1 HR3.out.2.1 Hso.out (by show 0 ≤ en.tag; rw [hen]; exact htg0) (c := 1 + cw) (by omega)
     simp only [hen] at h1 h2 h3 h4 h5 h6
     exact ⟨_, Prod.ext h1 (Prod.ext h2 rfl), h3, h4, h5, h6⟩
    obtain ⟨hR, HB5⟩ := hR
    have Hans : Hid (∀ W M tg, KnSt w W M tg a d A4 → Calls Tryz.prog 24 #[.pointer (some ⟨a, 0, none⟩), .int .i64 dst, .agg (ansC etg (1 + cw)).toArray] W fun e V => e = .returned (.tuple #[.agg #[.int .i64 2, .int .i64 0, .int .i64 1], .int .i64 (1 + cw)]) ∧ ∃ M' tg', KnSt w V M' tg' a d B5 ∧ Ext W M tg V M' tg' ∧ Keeps (sel M tg (List.range 30)) W V) := fun W M tg h => ans_kn h (by have := HR3.out.2.2.1; omega) HR3.out.1.node dst etg (1 + cw) htgi mx Hm.out hR
    have Hagn : Hid (∀ W M tg, KnSt w W M tg a d B5 → Calls Tryz.prog 24 #[.pointer (some ⟨a, 0, none⟩), .int .i64 0, .agg (ansC etg (1 + cw)).toArray] W fun e V => e = .returned (.tuple #[.agg #[.int .i64 0, .int .i64 0, .int .i64 0], .int .i64 0]) ∧ ∃ M' tg', KnSt w V M' tg' a d B5 ∧ Ext W M tg V M' tg' ∧ Keeps (sel M tg (List.range 30)) W V) := fun W M tg h => ans_kn h (by have := HR3.out.2.2.1; have := HB5.out.2.2.1; omega) (by have h9 := HB5.out.2.2.2; split at h9; exact h9.node; exact h9.1.node) 0 etg (1 + cw) htgi mx Hm.out (recv_none HB5.out.1)
    have HRf : Hid (A4.now = 48 * (x + 1 : Nat) ∧ A4.cn ≤ 100 * x + 96) := ⟨HR3.out.2.2.2, HR3.out.2.2.1⟩
    clear HS3 HK4 q0 q10 hgM hgt HR3 Hso hen hR htg0 htgi
    go_frame
    go_cut [11, 12] (fun v11 v12 W => ∃ (g11 : Nat) (M : List Nat) (tg : Nat → Nat), v11 = .pointer (some ⟨g11, 0, none⟩) ∧ v12 = .int .i64 (1 + cw) ∧ Hid (KnSt w W M tg a d B5) ∧ Hid (Blk W g11 30 #[.int .i64 2, .int .i64 0, .int .i64 1]) ∧ Hid (Blk W gM 59 #[.int .i64 2, .int .i64 0, .int .i64 0, .int .i64 0, .int .i64 0, .int .i64 0, .slice none 0 0, .string ⟨#[]⟩, .int .i64 0, .int .i64 0, .int .i64 etg, .int .i64 (1 + cw), .int .u64 0, .int .i64 0, .int .i64 0, .slice none 0 0, .int .i64 0, .int .i64 0]) ∧ Hid (gM ∉ M ∧ g11 ∈ M ∧ tg g11 = 99))
    case first =>
     have hwj2 := Hw.out
     refine wp_region_held_drew (S := (fun W => W.cell? ⟨g, j * 19, none⟩ = some (.int .i64 dst) ∧ W.rangeAt gM 0 (#[.int .i64 2, .int .i64 0, .int .i64 0, .int .i64 0, .int .i64 0, .int .i64 0, .slice none 0 0, .string ⟨#[]⟩, .int .i64 0, .int .i64 0, .int .i64 etg, .int .i64 (1 + cw), .int .u64 0, .int .i64 0, .int .i64 0, .slice none 0 0, .int .i64 0, .int .i64 0]).toList)) (by kernel_rfl) (HS17.out _ (Keeps.refl _ _).drew) (fun hHeld => ?_)
     refine wpAnyH_take (i := 0) (oi := _) (v := ?v0u1) rfl (by kernel_rfl) (by kernel_rfl) (by kernel_rfl) (fun _ _ _ h => h) (Or.inl ⟨by rfl, ?y0u1⟩) (by assumption) ?r0u1
     case y0u1 => (intro w hSw; (obtain ⟨hS0, hS1⟩ := hSw); go_simp <;> with_reducible rfl)
     try simp only [List.getElem_toArray, List.getElem_cons_succ, List.getElem_cons_zero, Act.put, List.setIfInBounds_toArray, List.set_cons_zero, List.set_cons_succ]
     refine wpAnyH_take (i := 1) (oi := _) (v := ?v1u2) rfl (by kernel_rfl) (by kernel_rfl) (by kernel_rfl) (fun _ _ _ h => h) (Or.inl ⟨by rfl, ?y1u2⟩) (by assumption) ?r1u2
     case y1u2 => (intro w hSw; (obtain ⟨hS0, hS1⟩ := hSw); go_simp <;> with_reducible rfl)
     try simp only [List.getElem_toArray, List.getElem_cons_succ, List.getElem_cons_zero, Act.put, List.setIfInBounds_toArray, List.set_cons_zero, List.set_cons_succ]
     refine wpAnyH_take (i := 2) (oi := _) (v := ?v2u3) rfl (by kernel_rfl) (by kernel_rfl) (by kernel_rfl) (fun _ _ _ h => h) (Or.inl ⟨by rfl, ?y2u3⟩) (by assumption) ?r2u3
     case y2u3 => (intro w hSw; (obtain ⟨hS0, hS1⟩ := hSw); go_simp <;> with_reducible rfl)
     try simp only [List.getElem_toArray, List.getElem_cons_succ, List.getElem_cons_zero, Act.put, List.setIfInBounds_toArray, List.set_cons_zero, List.set_cons_succ]
     refine wpAnyH_take (i := 3) (oi := _) (v := ?v3u4) rfl (by kernel_rfl) (by kernel_rfl) (by kernel_rfl) (fun _ _ _ h => h) (Or.inl ⟨by rfl, ?y3u4⟩) (by assumption) ?r3u4
     case y3u4 => (intro w hSw; (obtain ⟨hS0, hS1⟩ := hSw); go_simp <;> with_reducible rfl)
     try simp only [List.getElem_toArray, List.getElem_cons_succ, List.getElem_cons_zero, Act.put, List.setIfInBounds_toArray, List.set_cons_zero, List.set_cons_succ]
     refine wpAnyH_take (i := 4) (oi := _) (v := ?v4u5) rfl (by kernel_rfl) (by kernel_rfl) (by kernel_rfl) (fun _ _ _ h => h) (Or.inl ⟨by rfl, ?y4u5⟩) (by assumption) ?r4u5
     case y4u5 => (intro w hSw; (obtain ⟨hS0, hS1⟩ := hSw); go_simp <;> with_reducible rfl)
     try simp only [List.getElem_toArray, List.getElem_cons_succ, List.getElem_cons_zero, Act.put, List.setIfInBounds_toArray, List.set_cons_zero, List.set_cons_succ]
     refine wpAnyH_take (i := 5) (oi := _) (v := ?v5u6) rfl (by kernel_rfl) (by kernel_rfl) (by kernel_rfl) (fun _ _ _ h => h) (Or.inl ⟨by rfl, ?y5u6⟩) (by assumption) ?r5u6
     case y5u6 => (intro w hSw; (obtain ⟨hS0, hS1⟩ := hSw); go_simp <;> with_reducible rfl)
     try simp only [List.getElem_toArray, List.getElem_cons_succ, List.getElem_cons_zero, Act.put, List.setIfInBounds_toArray, List.set_cons_zero, List.set_cons_succ]
     refine wpAnyH_take (i := 6) (oi := _) (v := ?v6u7) rfl (by kernel_rfl) (by kernel_rfl) (by kernel_rfl) (fun _ _ _ h => h) (Or.inl ⟨by rfl, ?y6u7⟩) (by assumption) ?r6u7
     case y6u7 => (intro w hSw; (obtain ⟨hS0, hS1⟩ := hSw); go_simp <;> with_reducible rfl)
     try simp only [List.getElem_toArray, List.getElem_cons_succ, List.getElem_cons_zero, Act.put, List.setIfInBounds_toArray, List.set_cons_zero, List.set_cons_succ]
     refine wpAnyH_take (i := 7) (oi := _) (v := ?v7u8) rfl (by kernel_rfl) (by kernel_rfl) (by kernel_rfl) (fun _ _ _ h => h) (Or.inl ⟨by rfl, ?y7u8⟩) (by assumption) ?r7u8
     case y7u8 => (intro w hSw; (obtain ⟨hS0, hS1⟩ := hSw); go_simp <;> with_reducible rfl)
     try simp only [List.getElem_toArray, List.getElem_cons_succ, List.getElem_cons_zero, Act.put, List.setIfInBounds_toArray, List.set_cons_zero, List.set_cons_succ]
     refine wpAnyH_take (i := 8) (oi := _) (v := .agg #[.int .i64 2, .int .i64 0, .int .i64 0, .int .i64 0, .int .i64 0, .int .i64 0, .slice none 0 0, .string ⟨#[]⟩, .int .i64 0, .int .i64 0, .int .i64 etg, .int .i64 (1 + cw), .int .u64 0, .int .i64 0, .int .i64 0, .slice none 0 0, .int .i64 0, .int .i64 0]) rfl (by kernel_rfl) (by kernel_rfl) (by kernel_rfl) (fun _ _ _ h => h) (yieldsIf_load_mid (by rfl) _ _ rfl _ _ rfl (#[.int .i64 2, .int .i64 0, .int .i64 0, .int .i64 0, .int .i64 0, .int .i64 0, .slice none 0 0, .string ⟨#[]⟩, .int .i64 0, .int .i64 0, .int .i64 etg, .int .i64 (1 + cw), .int .u64 0, .int .i64 0, .int .i64 0, .slice none 0 0, .int .i64 0, .int .i64 0]).toList _ (fun w hSw => hSw.2) Tryz.underlying59 rfl (by kernel_rfl)) (by assumption) ?_
     try simp only [List.getElem_toArray, List.getElem_cons_succ, List.getElem_cons_zero, Act.put, List.setIfInBounds_toArray, List.set_cons_zero, List.set_cons_succ]
     clear hwj2
     refine wpAnyH_ready (rs := [9, 13]) (by kernel_rfl) (by simp) ?_
     refine AllReadyH.cons (o := _) rfl (fun K hK => ?ua) (AllReadyH.cons (o := _) rfl (fun K hK => ?ub) AllReadyH.nil)
     case' ua =>
      go_simp
      refine (show Calls Tryz.prog 24 #[.pointer (some ⟨a, 0, none⟩), .int .i64 dst, .agg #[.int .i64 2, .int .i64 0, .int .i64 0, .int .i64 0, .int .i64 0, .int .i64 0, .slice none 0 0, .string ⟨#[]⟩, .int .i64 0, .int .i64 0, .int .i64 etg, .int .i64 (1 + cw), .int .u64 0, .int .i64 0, .int .i64 0, .slice none 0 0, .int .i64 0, .int .i64 0]] _ _ from (Hans.out _ M3 tg3 (HS4.out.keep0 (Keeps.refl _ _).drew))).mono ?_
      rintro e w5 ⟨rfl, M5, tg5, hs5, hx5, hk5⟩
      have HS5c : Hid (∀ W, Keeps [] w5 W → W.cell? ⟨g, j * 19, none⟩ = some (.int .i64 dst) ∧ W.rangeAt gM 0 (#[.int .i64 2, .int .i64 0, .int .i64 0, .int .i64 0, .int .i64 0, .int .i64 0, .slice none 0 0, .string ⟨#[]⟩, .int .i64 0, .int .i64 0, .int .i64 etg, .int .i64 (1 + cw), .int .u64 0, .int .i64 0, .int .i64 0, .slice none 0 0, .int .i64 0, .int .i64 0]).toList) := fun W hk => by
       have h1 : w5.cell? ⟨g, j * 19, none⟩ = some (.int .i64 dst) ∧ w5.rangeAt gM 0 (#[.int .i64 2, .int .i64 0, .int .i64 0, .int .i64 0, .int .i64 0, .int .i64 0, .slice none 0 0, .string ⟨#[]⟩, .int .i64 0, .int .i64 0, .int .i64 etg, .int .i64 (1 + cw), .int .u64 0, .int .i64 0, .int .i64 0, .slice none 0 0, .int .i64 0, .int .i64 0]).toList := ⟨(hk5.cell (p := ⟨g, j * 19, none⟩) HgL.out (fun hm => by have := (mem_sel.1 hm).2; rw [Hgt.out.2] at this; simp at this)).trans (HS17.out _ (Keeps.refl _ _).drew).1, blk_range (hk5.blk (show Blk w4.drew gM _ _ from HB4.out) (fun hm => HnM.out (mem_sel.1 hm).1))⟩
       exact ⟨(hk.cell (p := ⟨g, j * 19, none⟩) (Nat.lt_of_lt_of_le HgL.out hk5.size) (by simp)).trans h1.1, blk_range (hk.blk (hk5.blk (show Blk w4.drew gM _ _ from HB4.out) (fun hm => HnM.out (mem_sel.1 hm).1)) (by simp))⟩
      have HB5M : Hid (Blk w5 gM 59 #[.int .i64 2, .int .i64 0, .int .i64 0, .int .i64 0, .int .i64 0, .int .i64 0, .slice none 0 0, .string ⟨#[]⟩, .int .i64 0, .int .i64 0, .int .i64 etg, .int .i64 (1 + cw), .int .u64 0, .int .i64 0, .int .i64 0, .slice none 0 0, .int .i64 0, .int .i64 0]) := hk5.blk (show Blk w4.drew gM _ _ from HB4.out) (fun hm => HnM.out (mem_sel.1 hm).1)
      have HnM5 : Hid (gM ∉ M5) := fun hm => by
       rcases hx5.new _ hm with h1 | h1
       ·exact HnM.out h1
       ·have h2 : gM < w4.heap.size := HB4.out.lt
        have h3 : w4.heap.size ≤ gM := h1
        omega
      have HS5 := Lib.hid hs5
      clear hx5 hk5 hs5
      refine hK.out _ _ (HS5c.out _ (Keeps.refl _ _)) (fun hHeld2 => ?_)
      clear hK K hHeld
      have hHeld := hHeld2
      clear hHeld2
      try simp only [List.getElem_toArray, List.getElem_cons_succ, List.getElem_cons_zero, Act.put, List.setIfInBounds_toArray, List.set_cons_zero, List.set_cons_succ]
      refine wpAnyH_take (i := 10) (oi := _) (v := ?v10u9) rfl (by kernel_rfl) (by kernel_rfl) (by kernel_rfl) (fun _ _ _ h => h) (Or.inl ⟨by rfl, ?y10u9⟩) (by assumption) ?r10u9
      case y10u9 => (intro w hSw; (obtain ⟨hS0, hS1⟩ := hSw); go_simp <;> with_reducible rfl)
      try simp only [List.getElem_toArray, List.getElem_cons_succ, List.getElem_cons_zero, Act.put, List.setIfInBounds_toArray, List.set_cons_zero, List.set_cons_succ]
      refine wpAnyH_take (i := 11) (oi := _) (v := ?v11u10) rfl (by kernel_rfl) (by kernel_rfl) (by kernel_rfl) (fun _ _ _ h => h) (Or.inl ⟨by rfl, ?y11u10⟩) (by assumption) ?r11u10
      case y11u10 => (intro w hSw; (obtain ⟨hS0, hS1⟩ := hSw); go_simp <;> with_reducible rfl)
      try simp only [List.getElem_toArray, List.getElem_cons_succ, List.getElem_cons_zero, Act.put, List.setIfInBounds_toArray, List.set_cons_zero, List.set_cons_succ]
      refine wpAnyH_take (i := 12) (oi := _) (v := ?v12u11) rfl (by kernel_rfl) (by kernel_rfl) (by kernel_rfl) (fun _ _ _ h => h) (Or.inl ⟨by rfl, ?y12u11⟩) (by assumption) ?r12u11
      case y12u11 => (intro w hSw; (obtain ⟨hS0, hS1⟩ := hSw); go_simp <;> with_reducible rfl)
      try simp only [List.getElem_toArray, List.getElem_cons_succ, List.getElem_cons_zero, Act.put, List.setIfInBounds_toArray, List.set_cons_zero, List.set_cons_succ]
      refine wpAnyH_ready (rs := [13]) (by kernel_rfl) (by simp) ?_
      refine AllReadyH.cons (o := _) rfl (fun K hK => ?_) AllReadyH.nil
      go_simp
      refine hK.out _ _ (HS5c.out _ ((Keeps.refl [] w5).alloc _)) (fun hHeld2 => ?_)
      clear hK K hHeld
      have hHeld := hHeld2
      clear hHeld2
      try simp only [List.getElem_toArray, List.getElem_cons_succ, List.getElem_cons_zero, Act.put, List.setIfInBounds_toArray, List.set_cons_zero, List.set_cons_succ]
      refine wpAnyH_ready (rs := [14]) (by kernel_rfl) (by simp) ?_
      refine AllReadyH.cons (o := _) rfl (fun K hK => ?_) AllReadyH.nil
      try simp only [List.getElem_toArray, List.getElem_cons_succ, List.getElem_cons_zero, Act.put, List.setIfInBounds_toArray, List.set_cons_zero, List.set_cons_succ]
      rw [if_pos (by rfl)]
      refine wp_store_blk 30 (.tmp 11) (.tmp 84) rfl w5.heap.size 0 30 #[.int .i64 0, .int .i64 0, .int .i64 0] #[.int .i64 2, .int .i64 0, .int .i64 1] #[.int .i64 2, .int .i64 0, .int .i64 1] rfl rfl (Blk.new w5 _ _) (by show 0 + 3 ≤ 3; omega) rfl (by kernel_rfl) rfl ?_
      intro w6 hk6 hB6
      have hkc : Keeps [] w5 w6 := ((Keeps.refl [] w5).alloc _).trans hk6 (by intro q hq; simp at hq; right; omega)
      have HK6 := Lib.hid hkc; have HB6 := Lib.hid hB6
      clear hk6 hB6 hkc
      refine hK.out _ _ (HS5c.out _ HK6.out) (fun hHeld2 => ?_)
      clear hK K hHeld
      have hHeld := hHeld2
      clear hHeld2
      try simp only [List.getElem_toArray, List.getElem_cons_succ, List.getElem_cons_zero, Act.put, List.setIfInBounds_toArray, List.set_cons_zero, List.set_cons_succ]
      refine wpAnyH_take (i := 15) (oi := _) (v := ?v15u12) rfl (by kernel_rfl) (by kernel_rfl) (by kernel_rfl) (fun _ _ _ h => h) (Or.inl ⟨by rfl, ?y15u12⟩) (by assumption) ?r15u12
      case y15u12 => (intro w hSw; (obtain ⟨hS0, hS1⟩ := hSw); go_simp <;> with_reducible rfl)
      try simp only [List.getElem_toArray, List.getElem_cons_succ, List.getElem_cons_zero, Act.put, List.setIfInBounds_toArray, List.set_cons_zero, List.set_cons_succ]
      refine wpAnyH_done (by kernel_rfl) ?_ _
      clear hHeld
      go_wp2_with fail
      go_meet
      have h9 := HS5.out.more HK6.out [w5.heap.size] (fun g hg => by simp at hg; subst hg; exact ⟨Nat.le_refl _, HB6.out.lt⟩)
      exact ⟨w5.heap.size, _, _, rfl, rfl, h9, HB6.out, HK6.out.blk HB5M.out (by simp), fun hm => by
       rcases List.mem_append.1 hm with h1 | h1
       ·simp at h1; have := HB5M.out.lt; omega
       ·exact HnM5.out h1, by simp, by simp⟩
     case' ub =>
      go_simp
      refine hK.out _ _ (HS17.out _ ((Keeps.refl [] w4).drew.alloc _)) (fun hHeld2 => ?_)
      clear hK K hHeld
      have hHeld := hHeld2
      clear hHeld2
      try simp only [List.getElem_toArray, List.getElem_cons_succ, List.getElem_cons_zero, Act.put, List.setIfInBounds_toArray, List.set_cons_zero, List.set_cons_succ]
      have hsa := (HS4.out.keep0 (Keeps.refl _ _).drew).more ((Keeps.refl [] w4.drew).alloc (.cells #[.int .i64 0, .int .i64 0, .int .i64 0] 30)) [w4.heap.size] (fun g hg => by simp at hg; subst hg; exact ⟨Nat.le_refl _, by rw [World.size_alloc]; exact Nat.lt_succ_self _⟩)
      have HSa := Lib.hid hsa
      have HBa := Lib.hid (Blk.new w4.drew 30 #[.int .i64 0, .int .i64 0, .int .i64 0])
      have HBM : Hid (Blk (w4.drew.alloc (.cells #[.int .i64 0, .int .i64 0, .int .i64 0] 30)) gM 59 #[.int .i64 2, .int .i64 0, .int .i64 0, .int .i64 0, .int .i64 0, .int .i64 0, .slice none 0 0, .string ⟨#[]⟩, .int .i64 0, .int .i64 0, .int .i64 etg, .int .i64 (1 + cw), .int .u64 0, .int .i64 0, .int .i64 0, .slice none 0 0, .int .i64 0, .int .i64 0]) := ((Keeps.refl [] w4.drew).alloc _).blk (show Blk w4.drew gM _ _ from HB4.out) (by simp)
      have HnMa : Hid (gM ∉ [w4.heap.size] ++ M3) := fun hm => by
       rcases List.mem_append.1 hm with h1 | h1
       ·simp at h1; have := HB4.out.lt; omega
       ·exact HnM.out h1
      have Hca : Hid ((w4.drew.alloc (.cells #[.int .i64 0, .int .i64 0, .int .i64 0] 30)).cell? ⟨g, j * 19, none⟩ = some (.int .i64 dst)) := (HS17.out _ ((Keeps.refl [] w4).drew.alloc _)).1
      have HgMa : Hid (g ∈ [w4.heap.size] ++ M3 ∧ (fun x => if x ∈ [w4.heap.size] then 99 else tg3 x) g = 99) := ⟨by simp [Hgt.out.1], by show (if g ∈ [w4.heap.size] then 99 else tg3 g) = 99; split; rfl; exact Hgt.out.2⟩
      have HgLa : Hid (g < (w4.drew.alloc (.cells #[.int .i64 0, .int .i64 0, .int .i64 0] 30)).heap.size) := Nat.lt_of_lt_of_le HgL.out ((Keeps.refl [] w4).drew.alloc _).size
      clear hsa
      refine wpAnyH_ready (rs := [9]) (by kernel_rfl) (by simp) ?_
      refine AllReadyH.cons (o := _) rfl (fun K hK => ?_) AllReadyH.nil
      go_simp
      refine (show Calls Tryz.prog 24 #[.pointer (some ⟨a, 0, none⟩), .int .i64 dst, .agg #[.int .i64 2, .int .i64 0, .int .i64 0, .int .i64 0, .int .i64 0, .int .i64 0, .slice none 0 0, .string ⟨#[]⟩, .int .i64 0, .int .i64 0, .int .i64 etg, .int .i64 (1 + cw), .int .u64 0, .int .i64 0, .int .i64 0, .slice none 0 0, .int .i64 0, .int .i64 0]] _ _ from (Hans.out _ _ _ HSa.out)).mono ?_
      rintro e w5 ⟨rfl, M5, tg5, hs5, hx5, hk5⟩
      have h11 : w4.heap.size ∈ M5 ∧ tg5 w4.heap.size = 99 := ⟨hx5.sub _ (by simp), (hx5.tag _ (hx5.old _ (by simp))).trans (by simp)⟩
      have hB11 := hk5.blk (show Blk (w4.drew.alloc (.cells #[.int .i64 0, .int .i64 0, .int .i64 0] 30)) w4.heap.size _ _ from HBa.out) (fun hm => by have := (mem_sel.1 hm).2; simp at this)
      have HB11 := Lib.hid hB11; have H11 := Lib.hid h11
      have HB5M : Hid (Blk w5 gM 59 #[.int .i64 2, .int .i64 0, .int .i64 0, .int .i64 0, .int .i64 0, .int .i64 0, .slice none 0 0, .string ⟨#[]⟩, .int .i64 0, .int .i64 0, .int .i64 etg, .int .i64 (1 + cw), .int .u64 0, .int .i64 0, .int .i64 0, .slice none 0 0, .int .i64 0, .int .i64 0]) := hk5.blk HBM.out (fun hm => HnMa.out (mem_sel.1 hm).1)
      have HnM5 : Hid (gM ∉ M5) := fun hm => by
       rcases hx5.new _ hm with h1 | h1
       ·exact HnMa.out h1
       ·have := HBM.out.lt; omega
      have HC5 : Hid (w5.cell? ⟨g, j * 19, none⟩ = some (.int .i64 dst)) := (hk5.cell (p := ⟨g, j * 19, none⟩) HgLa.out (fun hm => by have h8 : (fun x => if x ∈ [w4.heap.size] then 99 else tg3 x) g ∈ List.range 30 := (mem_sel.1 hm).2; rw [HgMa.out.2] at h8; simp at h8)).trans Hca.out
      have HgL5 : Hid (g < w5.heap.size) := Nat.lt_of_lt_of_le HgLa.out hk5.size
      have HS5 := Lib.hid hs5
      have HnC : Hid (gM ≠ w4.heap.size) := fun h => HnMa.out (by simp [h])
      have HgC : Hid (g ≠ w4.heap.size) := fun h => by have := HgL.out; omega
      clear hx5 hk5 hs5 hB11 h11
      refine hK.out _ _ ⟨HC5.out, blk_range HB5M.out⟩ (fun hHeld2 => ?_)
      clear hK K hHeld
      have hHeld := hHeld2
      clear hHeld2
      try simp only [List.getElem_toArray, List.getElem_cons_succ, List.getElem_cons_zero, Act.put, List.setIfInBounds_toArray, List.set_cons_zero, List.set_cons_succ]
      refine wpAnyH_take (i := 10) (oi := _) (v := ?v10u13) rfl (by kernel_rfl) (by kernel_rfl) (by kernel_rfl) (fun _ _ _ h => h) (Or.inl ⟨by rfl, ?y10u13⟩) (by assumption) ?r10u13
      case y10u13 => (intro w hSw; (obtain ⟨hS0, hS1⟩ := hSw); go_simp <;> with_reducible rfl)
      try simp only [List.getElem_toArray, List.getElem_cons_succ, List.getElem_cons_zero, Act.put, List.setIfInBounds_toArray, List.set_cons_zero, List.set_cons_succ]
      refine wpAnyH_take (i := 11) (oi := _) (v := ?v11u14) rfl (by kernel_rfl) (by kernel_rfl) (by kernel_rfl) (fun _ _ _ h => h) (Or.inl ⟨by rfl, ?y11u14⟩) (by assumption) ?r11u14
      case y11u14 => (intro w hSw; (obtain ⟨hS0, hS1⟩ := hSw); go_simp <;> with_reducible rfl)
      try simp only [List.getElem_toArray, List.getElem_cons_succ, List.getElem_cons_zero, Act.put, List.setIfInBounds_toArray, List.set_cons_zero, List.set_cons_succ]
      refine wpAnyH_take (i := 12) (oi := _) (v := ?v12u15) rfl (by kernel_rfl) (by kernel_rfl) (by kernel_rfl) (fun _ _ _ h => h) (Or.inl ⟨by rfl, ?y12u15⟩) (by assumption) ?r12u15
      case y12u15 => (intro w hSw; (obtain ⟨hS0, hS1⟩ := hSw); go_simp <;> with_reducible rfl)
      try simp only [List.getElem_toArray, List.getElem_cons_succ, List.getElem_cons_zero, Act.put, List.setIfInBounds_toArray, List.set_cons_zero, List.set_cons_succ]
      refine wpAnyH_ready (rs := [14]) (by kernel_rfl) (by simp) ?_
      refine AllReadyH.cons (o := _) rfl (fun K hK => ?_) AllReadyH.nil
      try simp only [List.getElem_toArray, List.getElem_cons_succ, List.getElem_cons_zero, Act.put, List.setIfInBounds_toArray, List.set_cons_zero, List.set_cons_succ]
      rw [if_pos (by rfl)]
      refine wp_store_blk 30 (.tmp 11) (.tmp 84) rfl w4.heap.size 0 30 #[.int .i64 0, .int .i64 0, .int .i64 0] #[.int .i64 2, .int .i64 0, .int .i64 1] #[.int .i64 2, .int .i64 0, .int .i64 1] rfl rfl HB11.out (by show 0 + 3 ≤ 3; omega) rfl (by kernel_rfl) rfl ?_
      intro w6 hk6 hB6
      have HK6 := Lib.hid hk6; have HB6 := Lib.hid hB6
      clear hk6 hB6
      refine hK.out _ _ ⟨(HK6.out.cell (p := ⟨g, j * 19, none⟩) HgL5.out (by simp; exact HgC.out)).trans HC5.out, blk_range (HK6.out.blk HB5M.out (by simp; exact HnC.out))⟩ (fun hHeld2 => ?_)
      clear hK K hHeld
      have hHeld := hHeld2
      clear hHeld2
      try simp only [List.getElem_toArray, List.getElem_cons_succ, List.getElem_cons_zero, Act.put, List.setIfInBounds_toArray, List.set_cons_zero, List.set_cons_succ]
      refine wpAnyH_take (i := 15) (oi := _) (v := ?v15u16) rfl (by kernel_rfl) (by kernel_rfl) (by kernel_rfl) (fun _ _ _ h => h) (Or.inl ⟨by rfl, ?y15u16⟩) (by assumption) ?r15u16
      case y15u16 => (intro w hSw; (obtain ⟨hS0, hS1⟩ := hSw); go_simp <;> with_reducible rfl)
      try simp only [List.getElem_toArray, List.getElem_cons_succ, List.getElem_cons_zero, Act.put, List.setIfInBounds_toArray, List.set_cons_zero, List.set_cons_succ]
      refine wpAnyH_done (by kernel_rfl) ?_ _
      clear hHeld
      go_wp2_with fail
      go_meet
      exact ⟨w4.heap.size, M5, tg5, rfl, rfl, HS5.out.beside (L := [w4.heap.size]) (by simp; exact H11.out) HK6.out, HB6.out, HK6.out.blk HB5M.out (by simp; exact HnC.out), HnM5.out, H11.out⟩
    case rest =>
    obtain ⟨g11, M5, tg5, rfl, rfl, HS5, HB11, HBm, HM5⟩ := hcut
    have hx20 : x + 1 ≤ 20 := hlt2
    clear HS4 HnM HgL Hgt HS17 Hans HB4
    go_wp2_with (refine wpList_load_mid rfl 59 (.tmp 10) rfl gM 0 rfl _ _ (blk_range HBm.out) Tryz.underlying59 rfl (by kernel_rfl) ?_)
    refine (show Calls Tryz.prog 24 #[.pointer (some ⟨a, 0, none⟩), .int .i64 0, .agg #[.int .i64 2, .int .i64 0, .int .i64 0, .int .i64 0, .int .i64 0, .int .i64 0, .slice none 0 0, .string ⟨#[]⟩, .int .i64 0, .int .i64 0, .int .i64 etg, .int .i64 (1 + cw), .int .u64 0, .int .i64 0, .int .i64 0, .slice none 0 0, .int .i64 0, .int .i64 0]] wc _ from Hagn.out wc M5 tg5 HS5.out).mono ?_
    rintro e w6 ⟨rfl, M6, tg6, hs6, hx6, hk6⟩
    have hB11 := hk6.blk HB11.out (fun hm => by have h8 := (mem_sel.1 hm).2; rw [HM5.out.2.2] at h8; simp at h8)
    have hka : Keeps [] w6 (w6.alloc (.cells #[.int .i64 0, .int .i64 0, .int .i64 0] 30)) := (Keeps.refl _ _).alloc _
    have HS7 := Lib.hid (hs6.keep0 hka)
    have HB7 := Lib.hid (hka.blk hB11 (by simp))
    clear hs6 hx6 hk6 hB11 hka HS5 HB11 HBm HM5 Hagn
    go_upto_region 19 with (fail)
    generalize w6.alloc (.cells #[.int .i64 0, .int .i64 0, .int .i64 0] 30) = w7 at *
    have r0 := HB7.out.cell 0; have r1 := HB7.out.cell 1; have r2 := HB7.out.cell 2
    simp only [List.getElem?_toArray, List.getElem?_cons_succ, List.getElem?_cons_zero] at r0 r1 r2
    have hqu := Lib.hid (agqueued_any HS7.out.ag HS7.out.lt)
    have Hcn : Hid (B5.cn ≤ 100 * (x + 1) ∧ B5.now = 48 * (x + 1 : Nat)) := ⟨by have := HRf.out.2; have := HB5.out.2.2.1; omega, HB5.out.2.1.trans HRf.out.1⟩
    by_cases hc3 : 1 + cw ≤ 3
    ·have hgone : DnGone B5 := by have h9 := HB5.out.2.2.2; rwa [if_pos hc3] at h9
     have HRn : Hid (DnRel true B5 (x + 1)) := ⟨by rw [if_pos rfl]; exact hgone, Hcn.out.1, Hcn.out.2⟩
     have hql := gone_queued hgone
     have Hql := Lib.hid hql
     clear hql hgone HB5 HRf Hcn
     go_wp2_with fail
     refine hqu.out.mono ?_
     rintro e w8 ⟨vq, rfl, hrow, hb⟩
     obtain ⟨Aq, cq, rfl, _⟩ := own_slice2 hrow
     rw [Hql.out]
     have HS8 := Lib.hid (HS7.out.keep0 (Keeps.of_below (M := []) hb))
     clear hrow hb hqu Hql HS7
     go_wp2_with fail
     go_roundw
     case rel => exact ⟨x + 1, true, B5, _, _, by go_num, by go_num, hx20, by omega, HS8, HRn⟩
     case measure => simp [intOf] <;> omega
    ·have hgo : DnSt B5 ∧ DueIn B5 48 := by have h9 := HB5.out.2.2.2; rwa [if_neg hc3] at h9
     have HRn : Hid (DnRel false B5 (x + 1)) := ⟨by rw [if_neg (by simp)]; exact hgo, Hcn.out.1, Hcn.out.2⟩
     have hql := dn_queued hgo.1
     have Hql := Lib.hid hql
     clear hql hgo HB5 HRf Hcn
     go_wp2_with fail
     refine hqu.out.mono ?_
     rintro e w8 ⟨vq, rfl, hrow, hb⟩
     obtain ⟨Aq, cq, rfl, _⟩ := own_slice2 hrow
     rw [Hql.out]
     have HS8 := Lib.hid (HS7.out.keep0 (Keeps.of_below (M := []) hb))
     clear hrow hb hqu Hql HS7
     go_wp2_with fail
     go_roundw
     case rel => exact ⟨x + 1, false, B5, _, _, by go_num, by go_num, hx20, by omega, HS8, HRn⟩
     case measure => simp [intOf] <;> omega
  ·have hkn := Lib.hid (known19_any mx wr (HS.out.cell0 Hm.out).1)
   have HB := Lib.hid HS.out.bel
   by_cases hl9 : x < lx.length
   case' pos =>
    have hn1 : (x : Int) < (lx.length : Int) := by omega
    have hn2 : ¬ (x : Int) < 20 := by omega
    clear HS HR HN
    go_wp2_with fail
   case' neg =>
    have hn1 : ¬ (x : Int) < (lx.length : Int) := by omega
    clear HS HR HN
    go_wp2_with fail
   all_goals
    refine hkn.out.mono ?_
    rintro e w3 ⟨rfl, hb3⟩
    have hP : Hid (SamePost true w (.returned (.bool true)) w3) := ⟨rfl, HB.out.trans ((Keeps.of_below (M := []) hb3).belowB HB.out.size (by simp))⟩
    go_wp2
    go_ret
    exact hP.out
end Go.Proofs.YtgdooockldgdlaaGreatDoor.Vi
end
section
namespace Go.Proofs.YtgdooockldgdlaaGreatDoor.agentDones
open Go.ChangeShapes Go.WideShapes Go.ChangeAt Go.RowKit
set_option linter.unusedVariables false
theorem own : ownKnob Tryz.prog.godebug = none := by kernel_rfl
theorem laidOut : laidOutB Tryz.prog = true := by kernel_rfl
/-- A slice of integers that came in. -/
def IsRow (k : IntKind) (w : World) (a : Option Addr) (len cap : Nat) (zs : List Int) : Prop :=
 (a = none ∧ len = 0 ∧ cap = 0 ∧ zs = []) ∨
 ∃ x, a = some x ∧ len ≤ cap ∧ cap ≤ maxLen ∧ zs.length = cap ∧ (∀ i, i < zs.length → w.cell? (x.add i) = some (.int k (zs.getD i 0))) ∧ ∀ n ∈ zs, (Lit.int k n).wf = true
theorem nums_of {w : World} {a : Option Addr} {len cap : Nat} {zs : List Int} (h : IsRow .i64 w a len cap zs) : (zs.take len).length = len ∧ Vi.Nums w a cap (zs.take len) := by
 obtain ⟨h1, h2, h3, _, h5⟩ := Mem.row_view h
 exact ⟨h1, by omega, h3, h5⟩
set_option maxRecDepth 100000 in
theorem contract (H : Type) (enc : TypeId × Value → H) (W : World) (base : Nat) (args : Array Value) (ds gs : List (DataW H)) (before : List MemPlace)
  (hval : ∀ (j : Nat) t v, Tryz.f5.params[j]? = some t → args[j]? = some v → Value.okWide Tryz.prog W .any base t v)
  (hW : DataW.Whole enc Tryz.prog Tryz.f5.params.toList Rows.agentDonesSpec.vars false W args.toList ds gs before) (hsh : W.ShapedOpen Tryz.prog) :
  Calls Tryz.prog 5 args W fun e W' => ∃ v, e = .returned v ∧ Rows.agentDonesSpec.post enc Tryz.prog Tryz.f5 false true false false W args v W' := by
 have hW' := hW
 obtain ⟨p, q, hA0, hV, rfl, hfz, hnd⟩ := hW
 have hA : DataW.TrodAll enc Tryz.prog W 0 (fun _ => true) true Tryz.f5.params.toList args.toList ds p := hA0
 rw [Tryz.params5] at hA hval
 obtain ⟨v0, vs0, d0, ds0, p0, q0, hargs, rfl, rfl, h0, r0⟩ := trodAll_cons hA
 obtain ⟨rfl, rfl, rfl⟩ := trodAll_nil r0
 obtain rfl : args = #[v0] := by cases args; simp_all
 obtain ⟨rfl, rfl⟩ := trodVars_none hV
 obtain ⟨a0, n0, c0, rfl⟩ := okWide_slice Tryz.underlying22 (hval 0 22 v0 rfl rfl)
 have k0 := h0
 have lt0 : ∀ x ∈ p0, x.block < W.heap.size := by obtain ⟨m, hm⟩ := k0; exact DataW.trod_lt m _ _ _ hm
 obtain ⟨z0, g0⟩ : ∃ zs, IsRow .i64 W a0 n0 c0 zs := by
  obtain ⟨fuel, hf⟩ := h0
  rcases open_ints Tryz.underlying22 Tryz.underlying3 (by kernel_rfl) hf with ⟨hcs, _⟩ | ⟨x, l, c, zs, hcs, _, hl, hm, hz, _, hcell, hwz⟩
  ·simp [Value.cells] at hcs
   obtain ⟨rfl, rfl, rfl⟩ := hcs
   exact ⟨[], .inl ⟨rfl, rfl, rfl, rfl⟩⟩
  ·simp [Value.cells] at hcs
   obtain ⟨rfl, rfl, rfl⟩ := hcs
   exact ⟨zs, .inr ⟨_, rfl, hl, hm, by simpa using hz, hcell, hwz⟩⟩
 obtain ⟨L0, N0⟩ := nums_of g0
 obtain ⟨mx, hm⟩ := CardW.max_cell hsh
 clear hA0
 have hwalk : Calls Tryz.prog 5 #[.slice a0 n0 c0] W fun e w' => Vi.SamePost true W e w' := by
  have := Vi.dones_walk a0 c0 (z0.take n0) mx W N0 hm
  rw [L0] at this
  exact this
 refine hwalk.mono fun e W' ⟨he, bel⟩ => ?_
 subst he
 exact ⟨_, rfl, _, _, _, [], _, [], hW', trodAll_mk1 (shut_bool Tryz.underlying4 _), (trodAll_cons_mk (Below.trod laidOut (by kernel_rfl) (of_decide_eq_true (by kernel_rfl)) k0 bel lt0) trodAll_mk0), rfl, bel.frame _, fun h => by cases h⟩
theorem reads (os : Os) {H : Type} (enc : TypeId × Value → H) : ∃ places, DataW.whole enc Tryz.prog ((CardW.laidWorld os).forCall (fun _ _ => 0) ⟨#[], #[.slice none 0 0], []⟩).memory Tryz.f5.params.toList Rows.agentDonesSpec.vars false (#[Value.slice none 0 0]).toList 8 = some ([.nil], [], places) :=
 ⟨[], by kernel_rfl⟩
set_option maxRecDepth 100000 in
theorem lifted (os : Os) (started : os.Started) (H : Type) (enc : TypeId × Value → H) (F : Stop.Interp) :
  ReturnsInHanded {} Tryz.checked os 5 .any ((OpenSpec.ofChange Rows.agentDonesSpec).preRow enc Tryz.prog Tryz.f5 Rows.agentDonesRow.domain false Rows.agentDonesRow.laid) (((OpenSpec.ofChange Rows.agentDonesSpec).at F).post enc Tryz.prog Tryz.f5 false true false false) := by
 obtain ⟨places, hx⟩ := reads os enc
 refine returnsInHanded_of_row (C := Tryz.checked) (s := (OpenSpec.ofChange Rows.agentDonesSpec)) own started (by kernel_rfl) Tryz.func5
  (witness_row_at (enc := enc) (C := Tryz.checked) false (CardW.laidWorld os) #[.slice none 0 0] rfl (by kernel_rfl) (by kernel_rfl) (by kernel_rfl)
   (OpenSpec.preRow_of_cond 8 hx (by kernel_rfl) (fun k hk => by cases hk) (by kernel_rfl) (CardW.laid_met os _))) ?_
 intro W base args ds gs before hval hW _ _ _ _ hsh _
 exact contract H enc W base args ds gs before hval hW hsh
theorem said : Rows.AgentDonesSaid :=
 OpenClaim.holds_of_cond 5 Tryz.f5 rfl rfl rfl rfl rfl rfl rfl ⟨rfl, rfl, rfl, rfl, rfl⟩ rfl rfl rfl rfl rfl (by kernel_rfl) Tryz.func5 (by kernel_rfl)
  (of_decide_eq_true (by kernel_rfl)) (by unfold Func.isWrapper; first | (rw [if_pos (by decide +kernel)]; kernel_rfl) | (rw [if_neg (by decide +kernel)]; exact ⟨rfl, rfl⟩))
  (fun os started H enc _ F => by rw [OpenClaim.pre_eq_preRow]; exact lifted os started H enc F)
theorem plain (f : FuncId) (fn : Func) (hf : Tryz.pinned.checked.prog.funcNamed "hopper/hopperlaw19.AgentDones" = some f) (hfn : Tryz.pinned.checked.prog.funcs[f]? = some fn) :
  false = Tryz.pinned.checked.prog.looks [] ∧ ∀ (j : Nat) t, fn.params[j]? = some t → Tryz.pinned.checked.prog.wantsStandIn t = false := by
 obtain rfl : f = 5 := Option.some.inj ((show Tryz.prog.funcNamed "hopper/hopperlaw19.AgentDones" = some 5 by kernel_rfl).symm.trans hf) |>.symm
 obtain rfl : fn = Tryz.f5 := (Option.some.inj (Tryz.func5.symm.trans hfn)).symm
 refine ⟨by kernel_rfl, fun j t ht => ?_⟩
 rw [Tryz.params5] at ht
 have hmem := Array.mem_of_getElem? ht
 simp at hmem
 subst hmem
 exact (show Tryz.prog.wantsStandIn 22 = false by kernel_rfl)
theorem proved : Rows.AgentDonesCardSaid :=
 Claim7.holds_tied_plain_at .later [] _ _ _ _ said (fun _ h => by cases h) (by kernel_rfl) (fun _ h => by cases h) agentDones_row_tie rfl ⟨rfl, rfl⟩ (by kernel_rfl) rfl plain (by kernel_rfl)
#print axioms proved
end Go.Proofs.YtgdooockldgdlaaGreatDoor.agentDones
end
