/- Texts put together: MrO. -/
import Derived.Deep.DeepCutAuto
import Derived.Test.YtinnifhnabncfaaGreatDoorMR5
set_option linter.unusedVariables false
set_option linter.unusedSimpArgs false
section
namespace Go.Proofs.YtinnifhnabncfaaGreatDoor.Vi
open Go.RowKit Base Mem Tape
theorem dsA {W W' : World} {X X' : List Nat} {v : Value} {l : List DeltaD} (h : Ds W X v l) (hx : ∀ x ∈ X', x ∈ X ∨ W.heap.size ≤ x) (hk : Keeps X W W') : Ds W' X' v l :=
 ((h.avoid (M' := X ++ X') (fun g hg => by rcases List.mem_append.1 hg with h1 | h1; exact .inl h1; exact hx g h1)).keep hk (fun g hg => .inl (List.mem_append_left _ hg))).avoid (fun g hg => .inl (List.mem_append_right _ hg))
theorem ensA {W W' : World} {X X' : List Nat} {v : Value} {l : List EntryD} (h : Ens W X v l) (hx : ∀ x ∈ X', x ∈ X ∨ W.heap.size ≤ x) (hk : Keeps X W W') : Ens W' X' v l :=
 ((h.avoid (M' := X ++ X') (fun g hg => by rcases List.mem_append.1 hg with h1 | h1; exact .inl h1; exact hx g h1)).keep hk (fun g hg => .inl (List.mem_append_left _ hg))).avoid (fun g hg => .inl (List.mem_append_right _ hg))
theorem dsEq_same (l : List DeltaD) : dsEq l l = true := (dsEq_iff l l).2 rfl
theorem read_same (st : McD) (kl : Lit) (s : ByteArray) : (applyM st kl ⟨2, 0, 0, 0, 0, [], s, 0, 0⟩).2.2 = st := by
 by_cases hr : rightE ⟨2, 0, 0, 0, 0, [], s, 0, 0⟩ = 0
 ·rw [apply_read hr rfl]
 ·rw [apply_wrong hr]
set_option maxRecDepth 100000 in
set_option maxHeartbeats 4000000 in
theorem reads_walk (A : Option Addr) (c : Nat) (l : List Int) (s : ByteArray) (mx : Int) (w : World) (hN : Nums w A c l) (hs : s.size < 4294967281) (hm : w.cell? ⟨0, 0, none⟩ = some (.int .i64 mx)) :
  Calls Tryz.prog 14 #[.slice A l.length c, .string s] w fun e w' => SamePost true w e w' := by
 have hw0 : 0 < w.heap.size := by
  have := World.block_lt_of_cell? w _ hm
  simpa using this
 have Hm : Hid (∀ W, Keeps [] w W → W.cell? ⟨0, 0, none⟩ = some (.int .i64 mx)) := fun W hk => (hk.cell (p := ⟨0, 0, none⟩) hw0 (by simp)).trans hm
 have HN := Lib.hid hN
 clear hN hm
 go_enter Tryz.func14, Tryz.ntmps14
 go_wp2_with fail
 refine (mcnew_any w).mono ?_
 rintro e w1 ⟨g, X0, rfl, hmc0, hx0, hb1⟩
 obtain ⟨X, hmc, hxx, hlt⟩ := mc0_core hmc0
 have HN1 : Hid (Nums w1 A c l) := by
  obtain ⟨h1, h2, h3⟩ := HN.out
  refine ⟨h1, h2, fun h => ?_⟩
  obtain ⟨g', off, e, hg, hx⟩ := h3 h
  exact ⟨g', off, e, Nat.lt_of_lt_of_le hg hb1.size, fun q x hq => (hb1.cell (p := ⟨g', off + q, none⟩) hg).trans (hx q x hq)⟩
 have HS1 : Hid (RnSt w w1 g X mc0 0 mx) := ⟨hmc, hlt, fun x hx => hx0 _ (hxx _ hx), Keeps.of_below (M := []) hb1, rd_start, Hm.out⟩
 clear hmc0 hx0 hmc hxx hlt hb1 HN
 go_wp2_with fail
 refine (entries_any A c l 50 w1 HN1.out (by omega)).mono ?_
 rintro e w2 ⟨v, es, rfl, hok, hlen, hat, hk2⟩
 have Hok := Lib.hid hok; have HLen := Lib.hid hlen
 have HE := Lib.hid (hat X HS1.out.lt)
 have HS2 := Lib.hid (HS1.out.keep hk2)
 obtain ⟨Ae, ce, rfl, _⟩ := HE.out.len
 clear hok hat hk2 HS1 HN1 hlen
 go_wp2_with fail
 go_loopw [20] (fun i wr => ∃ (x : Nat) (X : List Nat) (st : McD), i = .int .i64 x ∧ x ≤ es.length ∧ Hid (RnSt w wr g X st (3 * x) mx) ∧ Hid (Ens wr X (.slice Ae es.length ce) es)) (fun i _ => es.length - (intOf i).toNat)
 case atStart => exact ⟨0, X, mc0, rfl, by omega, HS2, HE⟩
 case round =>
  obtain ⟨x, X, st, rfl, hx, HS, HEn⟩ := hrel
  clear HS2 HE
  by_cases hlx : x < es.length
  ·have hx1 : (x : Int) < (es.length : Int) := by omega
   obtain ⟨ge, off, cap, dv, e1, hge, hgX, hds, hcell⟩ := ens_at HEn.out hlx
   obtain rfl : Ae = some ⟨ge, off, none⟩ := by injection e1
   clear e1
   have hoke := Hok.out es[x] (List.getElem_mem _)
   obtain ⟨j1, j2, j3, j4, j5, j6, j7⟩ := entry_i64 hoke
   have hsh := (entry_right hoke).2.1
   obtain ⟨Ad, cd, rfl, _⟩ := hds.len
   generalize hee : es[x] = e at *
   have HAp : Hid (∀ W X' st' i, RnSt w W g X' st' i mx → i ≤ 1000 → Ds W X' (.slice Ad e.ds.length cd) e.ds → Calls Tryz.prog 56 #[.pointer (some ⟨g, 0, none⟩), .agg (eCell (e, .slice Ad e.ds.length cd)).toArray] W fun r W' => RnA w W g X' (applyM st' (pk e.ag e.sh) e) (i + 1) mx r W') := fun W X' st' i h1 h2 h3 => h1.apply h2 e _ j1 j2 j3 j4 h3 j5 j6 j7 hsh
   have HDs := Lib.hid hds
   have F1 := Lib.hid (fun h => apply_sum (st := st) (kl := pk e.ag e.sh) (e := e) h)
   have F2 := Lib.hid (fun h => apply_n (st := st) (kl := pk e.ag e.sh) (e := e) h)
   have F3 := Lib.hid (apply_again HS.out.rd (pk e.ag e.sh) e)
   clear hds hoke j1 j2 j3 j4 j5 j6 j7 hsh hee
   have p0 := hcell 0 _ rfl; have p1 := hcell 1 _ rfl; have p2 := hcell 2 _ rfl; have p3 := hcell 3 _ rfl; have p4 := hcell 4 _ rfl; have p5 := hcell 5 _ rfl; have p6 := hcell 6 _ rfl; have p7 := hcell 7 _ rfl; have p8 := hcell 8 _ rfl
   rw [Nat.add_zero] at p0
   clear hcell
   have hx50 : 3 * x ≤ 900 := by have := HLen.out; omega
   obtain ⟨gE, HgE⟩ : ∃ gE, Hid (gE = wr.heap.size) := ⟨_, rfl⟩
   have HBE := Lib.hid (Blk.new wr 26 #[.int .i64 e.kind, .int .i64 e.ag, .int .i64 e.sh, .int .i64 e.seq, .int .i64 e.ep, .slice Ad e.ds.length cd, .string e.ser, .int .i64 e.fr, .int .i64 e.tag])
   have hka : Keeps [] wr (wr.alloc (.cells #[.int .i64 e.kind, .int .i64 e.ag, .int .i64 e.sh, .int .i64 e.seq, .int .i64 e.ep, .slice Ad e.ds.length cd, .string e.ser, .int .i64 e.fr, .int .i64 e.tag] 26)) := (Keeps.refl _ _).alloc _
   have HSa := Lib.hid (HS.out.keep hka)
   have HEa := Lib.hid (HEn.out.keep hka (by simp))
   have HDa := Lib.hid (HDs.out.keep hka (by simp))
   have HnE : Hid (gE ∉ X) := fun hm => absurd (HS.out.lt gE hm) (by rw [HgE.out]; exact Nat.lt_irrefl _)
   clear hka HS HEn HDs
   go_upto_region 7 with (fail)
   clear p0 p1 p2 p3 p4 p5 p6 p7 p8
   generalize wr.alloc (.cells #[.int .i64 e.kind, .int .i64 e.ag, .int .i64 e.sh, .int .i64 e.seq, .int .i64 e.ep, .slice Ad e.ds.length cd, .string e.ser, .int .i64 e.fr, .int .i64 e.tag] 26) = wa at *
   rw [← HgE.out] at HBE ⊢
   clear HgE
   go_wp2_with fail
   refine HSa.out.sums.mono ?_
   rintro r w3 ⟨v3, l3, rfl, ha3, hl3, hd3, hk3⟩
   have HD3 := Lib.hid (hd3 X HSa.out.lt)
   obtain ⟨A3, c3, rfl, _⟩ := HD3.out.len
   have Ha3 := Lib.hid ha3
   have HS3 := Lib.hid (HSa.out.keep hk3); have HE3 := Lib.hid (HEa.out.keep hk3 (by simp)); have HDs3 := Lib.hid (HDa.out.keep hk3 (by simp)); have HB3 := Lib.hid (hk3.blk HBE.out (by simp))
   clear ha3 hd3 hk3 HSa HEa HDa HBE
   have hb3 := HB3.out
   have c0 := hb3.cell 0; have c1 := hb3.cell 1; have c2 := hb3.cell 2; have c3' := hb3.cell 3; have c4 := hb3.cell 4; have c5 := hb3.cell 5; have c6 := hb3.cell 6; have c7 := hb3.cell 7; have c8 := hb3.cell 8
   simp only [List.getElem?_toArray, List.getElem?_cons_succ, List.getElem?_cons_zero] at c0 c1 c2 c3' c4 c5 c6 c7 c8
   clear hb3
   have HAp3 := Lib.hid (HAp.out w3 X st (3 * x) HS3.out (by omega) HDs3.out)
   simp only [eCell] at HAp3
   go_wp2_with fail
   refine HAp3.out.mono ?_
   rintro r w4 ⟨rfl, X4, hS4, hx4, hk4⟩
   have HS4 := Lib.hid hS4
   have HE4 := Lib.hid (ensA HE3.out hx4 hk4); have HDs4 := Lib.hid (dsA HDs3.out hx4 hk4); have HD4 := Lib.hid (dsA HD3.out hx4 hk4); have HB4 := Lib.hid (hk4.blk HB3.out HnE.out)
   have HnE4 : Hid (gE ∉ X4) := fun hm => by
    rcases hx4 gE hm with h | h
    ·exact HnE.out h
    ·exact absurd HB3.out.lt (Nat.not_lt.2 h)
   clear hS4 hx4 hk4 HS3 HE3 HDs3 HD3 HB3 HnE HAp3 c0 c1 c2 c3' c4 c5 c6 c7 c8
   generalize pk e.ag e.sh = kl at *
   generalize applyM st kl e = r1 at *
   obtain ⟨code, n, st1⟩ := r1
   simp only [] at F1 F2 F3 HS4
   have h12 := HS4.out.rd.keys.size HS4.out.rd.names
   go_wp2_with fail
   refine HS4.out.sums.mono ?_
   rintro r w5 ⟨v5, l5, rfl, ha5, hl5, hd5, hk5⟩
   have HD5 := Lib.hid (hd5 X4 HS4.out.lt)
   obtain ⟨A5, c5, rfl, _⟩ := HD5.out.len
   have Ha5 := Lib.hid ha5
   have HS5 := Lib.hid (HS4.out.keep hk5); have HE5 := Lib.hid (HE4.out.keep hk5 (by simp)); have HDs5 := Lib.hid (HDs4.out.keep hk5 (by simp)); have HB5 := Lib.hid (hk5.blk HB4.out (by simp)); have HD35 := Lib.hid (HD4.out.keep hk5 (by simp))
   clear ha5 hd5 hk5 HS4 HE4 HDs4 HB4 HD4
   go_upto_region 10 with (fail)
   go_cut [49] (fun b wx => b = .bool false ∧ Hid (Keeps [] w5 wx))
   case first =>
    by_cases hc1 : code = 1
    ·subst hc1
     have hn0 := F2.out (by decide)
     subst hn0
     go_wp2_with fail
     go_meet
     exact ⟨rfl, Keeps.refl _ _⟩
    ·have hci : (code != 1) = true := by simpa using hc1
     have hl : dsEq l3 l5 = true := by
      rw [isAll_one Ha3.out (by rw [← F1.out hc1]; exact Ha5.out)]
      exact dsEq_same _
     have HSm := Lib.hid (rsameDs_any _ _ l3 l5 w5 (HD35.out.avoid (M' := []) (by simp)) (HD5.out.avoid (M' := []) (by simp)) (by omega) (by omega))
     rw [hl] at HSm
     clear hl
     by_cases hc8 : code = 8
     ·subst hc8
      go_wp2_with fail
      refine HSm.out.mono ?_
      rintro r w6 ⟨rfl, hb6⟩
      have hk6 : Hid (Keeps [] w5 w6) := Keeps.of_below hb6
      clear hb6
      go_wp2_with fail
      go_meet
      exact ⟨rfl, hk6⟩
     ·have hn0 := F2.out hc8
      subst hn0
      have hci8 : (code != 8) = true := by simpa using hc8
      go_wp2_with fail
      refine HSm.out.mono ?_
      rintro r w6 ⟨rfl, hb6⟩
      have hk6 : Hid (Keeps [] w5 w6) := Keeps.of_below hb6
      clear hb6
      go_wp2_with fail
      go_meet
      exact ⟨rfl, hk6⟩
   case rest =>
    obtain ⟨rfl, hk6⟩ := hcut
    have HS6 := Lib.hid (HS5.out.keep hk6.out); have HE6 := Lib.hid (HE5.out.keep hk6.out (by simp)); have HDs6 := Lib.hid (HDs5.out.keep hk6.out (by simp)); have HB6 := Lib.hid (hk6.out.blk HB5.out (by simp)); have HD6 := Lib.hid (HD5.out.keep hk6.out (by simp))
    clear hk6 HS5 HE5 HDs5 HB5 HD5 HD35 F1 F2 Ha3
    have hb6 := HB6.out
    have c0 := hb6.cell 0; have c1 := hb6.cell 1; have c2 := hb6.cell 2; have c3' := hb6.cell 3; have c4 := hb6.cell 4; have c5' := hb6.cell 5; have c6 := hb6.cell 6; have c7 := hb6.cell 7; have c8 := hb6.cell 8
    simp only [List.getElem?_toArray, List.getElem?_cons_succ, List.getElem?_cons_zero] at c0 c1 c2 c3' c4 c5' c6 c7 c8
    clear hb6
    have HAp6 := Lib.hid (HAp.out wc X4 st1 (3 * x + 1) HS6.out (by omega) HDs6.out)
    simp only [eCell] at HAp6
    go_wp2_with fail
    refine HAp6.out.mono ?_
    rintro r w7 ⟨rfl, X7, hS7, hx7, hk7⟩
    have F4 := Lib.hid (apply_sum F3.out)
    have HS7 := Lib.hid hS7
    have HE7 := Lib.hid (ensA HE6.out hx7 hk7); have HD7 := Lib.hid (dsA HD6.out hx7 hk7)
    clear hS7 hx7 hk7 HS6 HE6 HDs6 HD6 HB6 HAp6 c0 c1 c2 c3' c4 c5' c6 c7 c8
    generalize applyM st1 kl e = r2 at *
    obtain ⟨code2, n2, st2⟩ := r2
    simp only [] at F3 F4 HS7
    have hc2 : (code2 == 1) = false := beq_eq_false_iff_ne.2 F3.out
    go_wp2_with fail
    refine HS7.out.sums.mono ?_
    rintro r w8 ⟨v8, l8, rfl, ha8, hl8, hd8, hk8⟩
    have HD8 := Lib.hid (hd8 X7 HS7.out.lt)
    obtain ⟨A8, c8', rfl, _⟩ := HD8.out.len
    have hl58 : dsEq l5 l8 = true := by
     rw [isAll_one Ha5.out (by rw [← F4.out]; exact ha8)]
     exact dsEq_same _
    have HS8 := Lib.hid (HS7.out.keep hk8); have HE8 := Lib.hid (HE7.out.keep hk8 (by simp)); have HD58 := Lib.hid (HD7.out.keep hk8 (by simp))
    have HSm8 := Lib.hid (rsameDs_any _ _ l5 l8 w8 (HD58.out.avoid (M' := []) (by simp)) (HD8.out.avoid (M' := []) (by simp)) (by omega) (by omega))
    rw [hl58] at HSm8
    clear ha8 hd8 hk8 HS7 HE7 HD7 HD8 hl58
    go_wp2_with fail
    refine HSm8.out.mono ?_
    rintro r w9 ⟨rfl, hb9⟩
    have hk9 : Keeps [] w8 w9 := Keeps.of_below hb9
    have HS9 := Lib.hid (HS8.out.keep hk9); have HE9 := Lib.hid (HE8.out.keep hk9 (by simp)); have HD9 := Lib.hid (HD58.out.keep hk9 (by simp))
    clear hb9 hk9 HS8 HE8 HD58 HSm8
    have i0 : I64 0 := ⟨by omega, by omega⟩
    have HRd := Lib.hid (HS9.out.apply (by omega) ⟨2, 0, 0, 0, 0, [], s, 0, 0⟩ (.slice none 0 0) i0 i0 i0 i0 (Ds.nil _ _) (by simp) (by simp) (by simp) ⟨hs, by simp, by simp⟩)
    have hrs := read_same st2 (pk 0 0) s
    generalize pk 0 0 = k0 at *
    generalize applyM st2 k0 ⟨2, 0, 0, 0, 0, [], s, 0, 0⟩ = r3 at *
    obtain ⟨code3, n3, st3⟩ := r3
    simp only [] at hrs
    subst hrs
    simp only [eCell] at HRd
    go_wp2_with fail
    refine HRd.out.mono ?_
    rintro r w10 ⟨rfl, X10, hS10, hx10, hk10⟩
    have HS10 := Lib.hid hS10
    have HE10 := Lib.hid (ensA HE9.out hx10 hk10); have HD10 := Lib.hid (dsA HD9.out hx10 hk10)
    clear hS10 hx10 hk10 HS9 HE9 HD9 HRd
    go_wp2_with fail
    refine HS10.out.sums.mono ?_
    rintro r w11 ⟨v11, l11, rfl, ha11, hl11, hd11, hk11⟩
    have HD11 := Lib.hid (hd11 X10 HS10.out.lt)
    obtain ⟨A11, c11, rfl, _⟩ := HD11.out.len
    have hl511 : dsEq l5 l11 = true := by
     rw [isAll_one Ha5.out (by rw [← F4.out]; exact ha11)]
     exact dsEq_same _
    have HS11 := Lib.hid (HS10.out.keep hk11); have HE11 := Lib.hid (HE10.out.keep hk11 (by simp)); have HD511 := Lib.hid (HD10.out.keep hk11 (by simp))
    have HSm11 := Lib.hid (rsameDs_any _ _ l5 l11 w11 (HD511.out.avoid (M' := []) (by simp)) (HD11.out.avoid (M' := []) (by simp)) (by omega) (by omega))
    rw [hl511] at HSm11
    clear ha11 hd11 hk11 HS10 HE10 HD10 HD11 hl511
    go_wp2_with fail
    refine HSm11.out.mono ?_
    rintro r w12 ⟨rfl, hb12⟩
    have hk12 : Keeps [] w11 w12 := Keeps.of_below hb12
    have HS12 : Hid (RnSt w w12 g X10 st3 (3 * (x + 1)) mx) := HS11.out.keep hk12
    have HE12 := Lib.hid (HE11.out.keep hk12 (by simp))
    clear hb12 hk12 HS11 HE11 HD511 HSm11
    go_wp2_with fail
    go_roundw
    case rel => exact ⟨x + 1, X10, st3, by go_num, by omega, HS12, HE12⟩
    case measure => simp [intOf] <;> omega
  ·obtain rfl : x = es.length := by omega
   have Hk := Lib.hid HS.out.kp
   clear HS HEn
   go_wp2_with fail
   refine (mknown_any mx wr (Hm.out wr Hk.out)).mono ?_
   rintro r w3 ⟨rfl, hk3⟩
   have hP : Hid (SamePost true w (.returned (.bool true)) w3) := ⟨rfl, (Hk.out.trans hk3 (by simp)).below⟩
   clear hk3
   go_wp2
   go_ret
   exact hP.out
end Go.Proofs.YtinnifhnabncfaaGreatDoor.Vi
end
